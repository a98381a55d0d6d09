/-
  Made short by a program of mine (wip/tools/mini.py).
-/
import Derived.Test.YtcdokckdlaegdaaGreatS20x1
import Derived.Lib.Builder
import Derived.Lib.UnsafeStr
import Derived.Lib.AppendZeros
import Derived.Maps.RangeRun
import Derived.Scope
import Derived.Laws.Externs
import Derived.KernelRfl
set_option linter.unusedVariables false
set_option linter.unusedSimpArgs false
set_option maxRecDepth 100000
set_option synthInstance.maxSize 5000
noncomputable section
namespace Go.Ab
section
variable {P:Program} {C:Ctx} {g:Nat->od} {β:Id->Option Pl} {s:AS} {a:Act} {w:World} {o:Oper}
theorem Jn:∀(c:aH) (f off:Nat) (v:aH),partOf c f=some (off,v)->(loc c (nq f)).eval=some (off,v):=by
 intro c f
 induction f generalizing c with
 |zero=>
  intro off v h
  cases c with
  |d t y=>
   cases t <;> simp only[partOf,reduceCtorEq]at h
   simp only[aE,eN]at h
   obtain⟨rfl,rfl⟩:=h
   rfl
  |pr b c=>
   simp only[partOf,aE,eN]at h
   obtain⟨rfl,rfl⟩:=h
   simp only[nq,loc]
   cases b <;> rfl
  |_=>simp only[partOf,reduceCtorEq]at h
 |succ f ih=>
  intro off v h
  cases c with
  |d t y=>
   cases t with
   |pair ta tb=>
    simp only[partOf]at h
    cases hp:partOf (.d tb y.2) f with
    |none=>rw[hp]at h;cases h
    |some r=>
     rw[hp]at h
     simp only[aE,eN]at h
     obtain⟨rfl,rfl⟩:=h
     simp only[nq,loc,av]
     exact⟨_,ih _ _ _ hp,rfl⟩
   |_=>simp only[partOf,reduceCtorEq]at h
  |pr b c=>
   simp only[partOf]at h
   cases hp:partOf c f with
   |none=>rw[hp]at h;cases h
   |some r=>
    rw[hp]at h
    simp only[aE,eN]at h
    obtain⟨rfl,rfl⟩:=h
    simp only[nq,loc,av]
    exact⟨_,ih _ _ _ hp,rfl⟩
  |_=>simp only[partOf,reduceCtorEq]at h
theorem Ht(a b:aH):(yL a b).agg=true:=by unfold yL;split <;> rfl
theorem D9{v x v':aH}{i:Nat}(h:(tY v (nq i) x).eval=some v'):v'.agg=true:=by
 have fin:∀ {o:Out aH} {f:aH->aH},(∀a,(f a).agg=true)->(o.bind λa=>Out.ok (f a)).eval=some v'->v'.agg=true:=by
  intro o f hf hh
  obtain⟨_,_,h2⟩:=av.1 hh
  obtain rfl:=aB.1 h2
  exact hf _
 cases i <;> simp only[nq]at h
 all_goals
  cases v with
  |d t y=>cases t <;> first | (simp only[tY,al]at h;done) | (simp only[tY]at h;exact fin (λ_=>Ht _ _) h)
  |pr b c=>simp only[tY]at h;exact fin (λ_=>Ht _ _) h
  |_=>simp only[tY,al]at h
theorem wz{E:Env}(Qi:∀x,VS E (s.ev x) (a.eval x)){fs:Array Field}{places:Array (Nat×Nat)}(wR:∀(i:Nat) (f:Field),fs[i]? =some f->places[i]? =some (f.offset,P.cellsOf f.type)):
  ∀(ps:List (Nat×Operand)) (v v':aH) (cells:Array Value),(oz P fs s ps v).eval=some v'->V E v cells.toList->v.agg=true->
   ∃cells',Instr.fill (places[·]?) cells (ps.map λ(i,x)=>(i,a.eval x))=some cells'/\V E v' cells'.toList/\v'.agg=true
 |[],v,v',cells,h,hV,ym=>by
  obtain rfl:=aB.1 h
  exact⟨cells,rfl,hV,ym⟩
 | (i,x)::ps,v,v',cells,h,hV,ym=>by
  simp only[oz]at h
  split at h
  ·rename_i f off ew hf hp
   obtain⟨h1,h2⟩:=aL.1 h
   obtain⟨v1,h3,h4⟩:=av.1 h2
   simp only[ak,beq_iff_eq]at h1
   obtain⟨⟨rfl,UY⟩,W7⟩:=h1
   obtain⟨I1,_⟩:=py W7
   obtain⟨cs,hVx,hO⟩:=(Qi x).iA I1
   have hcells:=hO.cells hVx.one
   have VR:=Jn _ _ _ _ hp
   obtain⟨u1,u2,u3⟩:=oA (nq i) v cells.toList f.offset ew (s.ev x) v1 cs (VO.of hV) VR hVx h3
   have Ub:v1.kq=false:=u3.qk hV.qk
   have rM:P.cellsOf f.type=cs.length:=by rw[(vW W7).2.1];exact hVx.size.symm
   obtain⟨cells',q1,q2,q3⟩:=wz Qi wR ps v1 v' (fo cells.toList f.offset cs).toArray h4 (by simpa using u2.to Ub) (D9 h3)
   refine⟨cells',?_,q2,q3⟩
   rw[cG,Ev (by rw[wR i f hf,rM]) hcells (by simpa using u1)]
   exact q1
  ·simp only[al]at h
theorem HZ{α γ:Type}(f:α->Sem γ)(r:α->γ):∀(l:List α),(∀x∈l,(f x).run P w= .ok (r x) w)->(l.mapM f).run P w= .ok (l.map r) w
 |[],_=>by simp
 |x::xs,h=>by
  rw[List.mapM_cons]
  simp only[Sem.run_bind,h x (by simp),Result.andThen_ok,HZ f r xs (λy hy=>h y (by simp[hy])),Sem.run_pure,cG]
theorem IH(h:Inv C g β s a w){T:TypeId}{parts:Array (Nat×Operand)}(ho:o.op= .build T parts){s':AS}(he:(vR P s o.dst T parts.toList).eval=some s'):iY P o a w (kL C s'):=by
 unfold vR at he
 split at he
 ·rename_i fs hT
  split at he
  ·rename_i z ZA
   obtain⟨h1,h2⟩:=aL.1 he
   obtain⟨v,h3,h4⟩:=av.1 h2
   obtain rfl:=aB.1 h4
   simp only[ak,fy]at h1
   obtain⟨⟨hz,ym⟩,VJ⟩:=h1
   obtain⟨i,zv,hi,Iw,hV,hO⟩:=qR hz (s.env w g β)
   let places:Array (Nat×Nat):=fs.map λf=>(f.offset,P.cellsOf f.type)
   have wR:∀(i:Nat) (f:Field),fs[i]? =some f->places[i]? =some (f.offset,P.cellsOf f.type):=by
    intro i f hf
    simp[places,hf]
   obtain⟨cells',q1,q2,q3⟩:=wz (a:=a) h.ev wR parts.toList z v zv.cells h3 hV ym
   have hm:(fs.mapM λf=>(do pure (f.offset,<-sizeOf f.type):Sem (Nat×Nat))).run P w= .ok places w:=by
    rw[Array.mapM_eq_mapM_toList]
    have:=HZ (P:=P) (w:=w) (λf=>(do pure (f.offset,<-sizeOf f.type):Sem (Nat×Nat))) (λf=>(f.offset,P.cellsOf f.type)) fs.toList (by
     intro f hf
     obtain⟨j,hj⟩:=dj.1 (VJ f hf)
     rw[Sem.run_bind,run_sizeOf hj,mS hj]
     rfl)
    rw[Sem.run_map,this]
    show Result.ok _ w=Result.ok _ w
    congr 1
    apply jW
    simp[places]
   refine h.value (x:= .agg cells') (VS.of q2 (by rw[q3];simp[jI])) (fS (f:=Instr.build T (parts.map λ(i,x)=>(i,a.eval x))) (by simp only[execOp,ho]) ?_)
   have q1':Instr.fill (places[·]?) zv.cells (parts.map λ(i,x)=>(i,a.eval x)).toList=some cells':=by rw[z8];exact q1
   simp only[Instr.build,Sem.run_bind,zeroValue,typeInfo,run_program,hi,Result.andThen_ok,Sem.run_pure,Iw,run_underlying hT,hm,q1']
  ·simp only[al]at he
 ·rename_i n e hT
  split at he
  ·rename_i t ht
   obtain⟨h1,h2⟩:=aL.1 he
   obtain⟨r,h3,h4⟩:=av.1 h2
   obtain rfl:=aB.1 h4
   simp only[ak,beq_iff_eq]at h1
   obtain⟨rM,hz⟩:=h1
   obtain⟨g1,i1,e1,t1,f1⟩:=kc r.2 h
   obtain⟨i,zv,hi,Iw,hV,hO⟩:=qR hz ((s.cm r.2).env w g1 β)
   simp only[V,eY]at hV
   obtain⟨cells',q1,q2⟩:=tW (a:=a) rfl h.da e1 h.ev parts.toList _ r zv.cells h3 f1 hV.2
   have T9:r.1.length=n:=by
    have:∀(ps:List (Nat×Operand)) (l:List t.den) (r:List t.den×List Id),(ld t s ps l).eval=some r->r.1.length=l.length:=by
     intro ps
     induction ps with
     |nil=>intro l r hh;obtain rfl:=aB.1 hh;rfl
     |cons p ps ih=>
      intro l r hh
      obtain⟨i,x⟩:=p
      simp only[ld]at hh
      obtain⟨_,h2⟩:=aL.1 hh
      obtain⟨y,h3,h4⟩:=av.1 h2
      obtain⟨r',h5,h6⟩:=av.1 h4
      obtain rfl:=aB.1 h6
      have:=ih _ _ h5
      simpa using this
    rw[this _ _ _ h3]
    simp
   refine .inl ⟨.agg cells',w,fS (f:=Instr.build T (parts.map λ(i,x)=>(i,a.eval x))) (by simp only[execOp,ho]) ?_,g1,β,i1.put o.dst ⟨cells'.toList,?_,by simp[jI,aH.agg,Ty.agg]⟩⟩
   ·have q1':Instr.fill (λi=>some (i*t.size,t.size)) zv.cells (parts.map λ(i,x)=>(i,a.eval x)).toList=some cells':=by rw[z8];exact q1
    cases VH:P.info? e with
    |none=>
     exfalso
     unfold Il E4 at ht
     simp only[depth]at ht
     have:P.underlying e=none:=by simp[Program.underlying,VH]
     rw[this]at ht
     cases ht
    |some ie=>
     have Xq:=run_sizeOf VH w
     rw[<-mS VH,rM]at Xq
     simp only[Instr.build,Sem.run_bind,zeroValue,typeInfo,run_program,hi,Result.andThen_ok,Sem.run_pure,Iw,run_underlying hT,Xq,q1']
   ·simp only[V,eY]
    exact⟨T9,q2⟩
  ·simp only[al]at he
 ·simp only[al]at he
theorem Ak{T X ty e:TypeId}{i:TypeInfo}(hT:P.underlying T=some (.slice e))(hX:P.underlying X=some .string\/∃e',P.underlying X=some (.slice e'))(hi:P.info? e=some i)
  {b sLen sCap:Nat} {cur:Array Value} (hg:w.heap[b]? =some (.cells cur e (0,0))) {x:Value} {n:Nat} {news:List Value} (h1:∀u∈news,u.oneCell'=true)
  (hlen:(Builtin.lenOf x).run P w= .ok n w) (hf:(Builtin.firstCells i.size n x).run P w= .ok news.toArray w) (xo:sLen+n<=sCap) (FC:sLen*i.size+news.length<=cur.size):
  (Builtin.append_ #[T,X] ty #[.slice (some ⟨b,0,none⟩) sLen sCap,x]).run P w= .ok (.slice (some ⟨b,0,none⟩) (sLen+n) sCap) (w.setRow b (fo cur.toList (sLen*i.size) news).toArray):=by
 have vF:=run_storeCells_at P b (sLen*i.size) e news 0 cur w hg (by simpa using FC) h1
 simp only[dE]at vF
 rcases hX with hX | ⟨e',hX⟩ <;> simp[Builtin.append_,run_underlying hT,run_underlying hX,sizeOf,typeInfo,hi,hlen,xo,hf,Addr.add_lit,vF,fo]
theorem vy{T X ty e:TypeId}{i:TypeInfo}(hT:P.underlying T=some (.slice e))(hX:P.underlying X=some .string\/∃e',P.underlying X=some (.slice e'))(hi:P.info? e=some i)
  {x:Value} (hlen:(Builtin.lenOf x).run P w= .ok 0 w) (hf:(Builtin.firstCells i.size 0 x).run P w= .ok #[] w):
  (Builtin.append_ #[T,X] ty #[.slice none 0 0,x]).run P w= .ok (.slice none 0 0) w:=by
 rcases hX with hX | ⟨e',hX⟩ <;> simp[Builtin.append_,run_underlying hT,run_underlying hX,sizeOf,typeInfo,hi,hlen,hf]
theorem Aj{T X ty e:TypeId}{i:TypeInfo}{zv:Value}(hT:P.underlying T=some (.slice e))(hX:P.underlying X=some .string\/∃e',P.underlying X=some (.slice e'))(hi:P.info? e=some i)(Iw:i.zero=some zv)
  {ad:Option Addr} {sLen sCap:Nat} {ez:List Value} (ho:(Builtin.firstCells i.size sLen (.slice ad sLen sCap)).run P w.drew= .ok ez.toArray w.drew) {x:Value} {n:Nat} {news:List Value}
  (hlen:(Builtin.lenOf x).run P w= .ok n w) (hf:(Builtin.firstCells i.size n x).run P w.drew= .ok news.toArray w.drew) (xo:sCap < sLen+n)
  (W4:((sLen+n:Nat):Int)<=9223372036854775807) (FC:(sLen+n)*i.bytes<=140737488355328):
  (Builtin.append_ #[T,X] ty #[.slice ad sLen sCap,x]).run P w= .ok (.slice (some ⟨w.heap.size,0,none⟩) (sLen+n) (grownCap w (sLen+n) sCap e))
   (w.drew.alloc (.cells (ez.toArray++news.toArray++Builtin.zeroCells zv.cells (grownCap w (sLen+n) sCap e - (sLen+n))) e)):=by
 have hn:¬(sLen+n<=sCap):=by omega
 have h63':¬(9223372036854775807 < ((sLen:Int)+(n:Int))):=by omega
 have hfit':=growslice_fits (bytes:=i.bytes) xo FC
 have h48':¬(281474976710656 < Builtin.nextslicecap (sLen+n) sCap*i.bytes):=by omega
 rcases hX with hX | ⟨e',hX⟩
 all_goals
  simp[Builtin.append_,run_underlying hT,run_underlying hX,sizeOf,typeInfo,zeroValue,hi,Iw,hlen,hn,h63',h48',Question.forced,hf,ho,newRow,grownCap]
  congr 2
  apply jW
  simp[bR]
end
end Go.Ab
namespace Go.Ab
section
variable {P:Program} {C:Ctx} {g:Nat->od} {β:Id->Option Pl} {s:AS} {a:Act} {w:World} {o:Oper}
theorem NZ(h:Inv C g β s a w){v:aH}{y:Value}(hv:VS (s.env w g β) v y){t:Ty}{m:List t.den}(he:(s.Jo (.slice t) v).eval=some m):
  ∃ad cap vs,y= .slice ad m.length cap/\(0 < m.length->ad.isSome=true)/\(∀j u,vs[j]? =some u->∃bb off,ad=some ⟨bb,off,none⟩/\w.cell? ⟨bb,off+j,none⟩=some u)/\cg (eY (s.env w g β) t) vs m:=by
 have hp:(s.kQ (.slice t) v).eval=some m:=he
 cases v <;> first | (simp only[AS.kQ,al]at hp;done) | skip
 case eV=>
  simp only[AS.kQ,aB]at hp
  subst hp
  exact⟨none,0,[],l5 hv,by simp,λj u hj=>by simp at hj,rfl⟩
 case d t' x=>
  simp only[AS.kQ]at hp
  have hp:=lF.1 hp
  have ha:(aH.d t' x).agg=false:=Er hp
  have hV:=hv.single rfl ha
  simp only[V]at hV
  have hv:VS (s.env w g β) (.d (.slice t) m) y:=VS.of (cs:=[y]) (by simp only[V];exact uN hp hV) rfl
  obtain⟨ad,cap,vs,hy,_,hs,hr,hc⟩:=qq hv
  exact⟨ad,cap,vs,hy,hs,λj u hj=>let⟨bb,off,e,hh⟩:=hr j u hj;⟨bb,off,e,hh.1⟩,hc⟩
 case dh id ver p c i len=>
  simp only[AS.kQ]at hp
  obtain⟨⟨n,t',l⟩,h1,h2⟩:=av.1 hp
  obtain⟨h3,h4⟩:=cW.1 h2
  obtain⟨SY,Yn⟩:=Li (E:=s.env w g β) (lF.1 h4)
  rw[SY]
  simp only[decide_eq_true_eq]at h3
  obtain⟨hc,hlen⟩:=h3
  suffices hg:∃ad cap vs,y= .slice ad (cut l i len).length cap/\(0 < (cut l i len).length->ad.isSome=true)/\(∀j u,vs[j]? =some u->∃bb off,ad=some ⟨bb,off,none⟩/\w.cell? ⟨bb,off+j,none⟩=some u)/\cg (eY (s.env w g β) t') vs (cut l i len) by
   obtain⟨ad,cap,vs,e1,e2,e3,e4⟩:=hg
   exact⟨ad,cap,vs,e1,e2,e3,Yn _ e4⟩
  obtain⟨fr,c0,eP,my⟩:=Ai rfl h.da h1
  obtain⟨ad,cap,hy,hle,oZ,hb,jt⟩:=pf hv
  have jt:=jt ⟨fr,c0,eP⟩
  have OP:(cut l i len).length=len:=uO hlen
  rcases my with⟨hp,hl,_⟩ | ⟨pl,cur,e,hp,hh,rM,fI,hbound⟩
  ·rw[hp]at jt
   simp only at jt
   obtain⟨rfl,rfl,rfl⟩:=jt
   have:cut l i 0=[]:=by simp[cut]
   refine⟨none,0,[],by rw[OP];exact hy,by rw[OP];omega,λ_ _ hh=>by simp at hh,?_⟩
   rw[this];rfl
  ·rw[hp]at jt
   simp only at jt
   have hmul:(i+len)*t'.size<=l.length*t'.size:=eR _ hlen
   rw[gN]at hmul
   refine⟨ad,cap,_,by rw[OP];exact hy,by rw[OP];exact oZ,?_,xB fI i len⟩
   rw[CY _ _ _ _ _ hmul]
   intro j v hj
   rw[fv]at hj
   split at hj
   ·rename_i RN
    rw[kB,hc]at hj
    have VT:0 < len:=by
     rcases mO len with h0 | h0
     ·subst h0;simp at RN
     ·exact h0
    refine⟨pl.b,c,jt.1 (.inl VT),?_⟩
    have hh':w.heap[pl.b]? =some (.cells cur e (0,0)):=hh
    rw[cell_of_row w pl.b (c+j) cur e (0,0) hh']
    simpa using hj
   ·cases hj
theorem AO(h:Inv C g β s a w){t:Ty}{X:TypeId}{x:aH}{y:Value}(hx:VS (s.env w g β) x y){m:List t.den}(he:(we P s t X x).eval=some m):
  (P.underlying X=some .string\/∃e',P.underlying X=some (.slice e'))/\∃news:List Value,cg (eY (s.env w g β) t) news m/\(Builtin.lenOf y).run P w= .ok m.length w/\
   ∀w',w'.heap=w.heap->(Builtin.firstCells t.size m.length y).run P w'= .ok news.toArray w':=by
 have sl:∀(x:aH),VS (s.env w g β) x y->(match P.underlying X with
   |some (.slice _)=>s.Jo (.slice t) x
   |_=> .fail).eval=some m->(P.underlying X=some .string\/∃e',P.underlying X=some (.slice e'))/\∃news:List Value,cg (eY (s.env w g β) t) news m/\(Builtin.lenOf y).run P w= .ok m.length w/\
   ∀w',w'.heap=w.heap->(Builtin.firstCells t.size m.length y).run P w'= .ok news.toArray w':=by
  intro x hx he
  split at he
  ·rename_i e' hX
   refine⟨.inr ⟨e',hX⟩,?_⟩
   obtain⟨ad,cap,vs,rfl,oZ,my,fI⟩:=NZ h hx he
   have hlen:=cg.length (λ_ _ hx=>eY.size hx) fI
   refine⟨vs,fI,rfl,λw' hw'=> ?_⟩
   cases ad with
   |none=>
    have Qk:m.length=0:=by
     rcases mO m.length with h0 | h0
     ·exact h0
     ·have:=oZ h0;simp at this
    have:vs=[]:=df (by rw[hlen,Qk,mP])
    subst this
    rfl
   |some ad=>
    refine run_firstCells_some (P:=P) w' t.size _ ad _ _ vs hlen (λj v hj=> ?_)
    obtain⟨bb,off,e1,hh⟩:=my j v hj
    simp only[aE]at e1
    subst e1
    rw[Addr.add_lit]
    simpa[World.cell?,hw']using hh
  ·simp only[al]at he
 unfold we at he
 split at he
 ·rename_i st
  split at he
  ·rename_i hX
   refine⟨.inl hX,?_⟩
   obtain⟨e,hm⟩:=lq (lF.1 he)
   have e':Ty.int .u8=t:=by simpa using e
   subst e'
   simp only at hm
   subst hm
   have hy:=wC hx
   subst hy
   have hlen:(cr st).length=st.size:=by simp only[cr,b8,eg];rfl
   refine⟨(cr st).map (Value.int .u8),re _,by rw[hlen];rfl,λw' _=> ?_⟩
   rw[hlen]
   simp only[Builtin.firstCells,Sem.run_pure]
   congr 1
   apply jW
   rw[ByteArray.extract_zero_size]
   simp[cr]
  ·simp only[al]at he
 ·exact sl _ hx he
theorem s5(z:Array Value)(n:Nat):(Builtin.zeroCells z n).size=n*z.size:=by simp[Builtin.zeroCells]
theorem Lj(h:Inv C g β s a w){c:Call}{x y:Operand}{T X:TypeId}(ho:o.op= .call c)(hc:c.callee= .builtin .copy)(ha:c.args.toList=[x,y])(ht:c.argTypes.toList=[T,X]){s':AS}
  (he:(BZ P s o.dst T X (s.ev x) (s.ev y)).eval=some s'):iY P o a w (kL C s'):=by
 obtain⟨cal,args,tys⟩:=c
 simp only at hc ha ht
 have ha':args= #[x,y]:=by apply jW;simpa using ha
 have ht':tys= #[T,X]:=by apply jW;simpa using ht
 subst hc ha' ht'
 have hx:=h.ev x
 have hy:=h.ev y
 have fin:∀z w',(Builtin.copy_ #[T,X] 0 #[a.eval x,a.eval y]).run P w= .ok z w'->(∃g' β',Inv C g' β' s' (a.put o.dst z) w')->iY P o a w (kL C s'):=by
  intro z w' h1 h2
  refine .inl ⟨z,w',tD ho (f:=Builtin.copy_ #[T,X] 0 #[a.eval x,a.eval y]) (λty cs xs Iv=> ?_) h1,h2⟩
  subst Iv
  have e1:Builtin.copy_ #[T,X] 0 #[a.eval x,a.eval y]=Builtin.copy_ #[T,X] ty #[a.eval x,a.eval y]:=rfl
  rw[e1]
  simp[builtin]
 unfold BZ at he
 split at he
 ·rename_i e t b id ver len xe Iv
  obtain⟨hT,hz,i,zv,hi,Lw,Po,Iw,Ly⟩:=tJ xe
  obtain⟨m,hm,he⟩:=av.1 he
  obtain⟨hX,news,fI,hlen,Qj⟩:=AO h hy hm
  have Pt:=fI.length (λ_ _ hx=>eY.size hx)
  have h1news:∀u∈news,u.oneCell'=true:=cg.all (λ_ _ hx=>hx.one) fI
  rw[<-Lw]at Qj
  split at he
  ·rename_i ve n t' l nc
   obtain⟨h1,yB⟩:=aL.1 he
   simp only[ak,beq_iff_eq]at h1
   obtain⟨R1,Yk⟩:=h1
   subst R1 Yk
   obtain⟨l',hl',Dw⟩:=av.1 yB
   obtain⟨et,hl'⟩:=lq (lF.1 hl')
   have et':t'=t:=by simpa using et
   subst et'
   simp only at hl'
   subst hl'
   obtain⟨SY,SV⟩:=cW.1 Dw
   have SY:m.length<=len:=by simpa using SY
   obtain rfl:=aB.1 SV
   have eP:=gC nc
   rw[Iv]at hx
   obtain⟨ad,cap,Mu,Nf,oZ,Ci,jt⟩:=pf hx
   have jt:=jt ⟨false,_,eP⟩
   obtain⟨pl,cur,e0,hp,hh,hg,hk,hV⟩:=(h.da id ve false _ eP).box rfl
   have hp:β id=some pl:=hp
   have hh:w.heap[pl.b]? =some (.cells cur e0 (0,0)):=hh
   have hg:g pl.b= .own (.id id) 0:=hg
   have hcur':(match β id with
    |some pl=>(0 < len\/0=0->ad=some ⟨pl.b,0,none⟩)/\(([.arr]:List xy)=[]->0=0->cap=pl.cap)
    |none=>ad=none/\len=0/\cap=0):=jt
   rw[hp]at hcur'
   simp only at hcur'
   have Lr:=hcur'.1 (.inr trivial)
   subst Lr
   have hV:V (s.env w g β) (.d (.arr len t') l) (cur.toList.take cur.size):=hV
   rw[<-eg,cz]at hV
   simp only[V,eY]at hV
   obtain⟨Mq,hVc⟩:=hV
   have Mo:=hVc.length (λ_ _ hx=>eY.size hx)
   have FC:news.length<=cur.size:=by
    rw[Pt]
    have:cur.size=l.length*t'.size:=by simpa using Mo
    rw[this,Mq]
    exact eR _ SY
   have vF:=run_storeCells_at P pl.b 0 e0 news 0 cur w hh (by simpa using FC) h1news
   have oY:(Builtin.copy_ #[T,X] 0 #[a.eval x,a.eval y]).run P w= .ok (goInt m.length) (w.setRow pl.b (fo cur.toList 0 news).toArray):=by
    have VY:Nat.min m.length len=m.length:=jH SY
    rw[Mu]
    simp only[dE,bl]at vF
    simp[Builtin.copy_,run_underlying hT,hlen,sizeOf,typeInfo,hi,VY,Qj w rfl,vF,fo]
   have I6:=Trans.setRow w hg (fo cur.toList 0 news).toArray
   have hle:dZ (s.env w g β) ((s.bM id (.obj ve false (.d (.arr len t') (m++l.drop m.length)))).env (w.setRow pl.b (fo cur.toList 0 news).toArray) g β):=dZ.bM eP (aC _) I6 (λ_ _=>rfl) (λ_=>rfl)
   have i1:=h.step (fi _ _ _) I6 hle (lO.bM (Mp:=ou eP λk v1 l e=>by cases e) h.da (by rw[eP];simp) hle (λ_ _=>rfl) (λi ver fr c pl2 hi DN It=>⟨setRow_other w pl.b pl2.b _ (h.apart hg hi DN It),rfl⟩) (zq.obj ⟨pl,_,e0,hp,setRow_heap w pl.b cur _ e0 (0,0) hh,hg,trivial,by
    show V _ (.d (.arr len t') (m++l.drop m.length)) ((fo cur.toList 0 news).toArray.toList.take (fo cur.toList 0 news).toArray.size)
    rw[<-eg,cz]
    simp only[V,eY]
    refine⟨by rw[ae,iy];omega,?_⟩
    have e2:fo cur.toList 0 news=news++cur.toList.drop (m.length*t'.size):=by
     simp[fo,Pt]
    have q:cg (eY (s.env w g β) t') (fo cur.toList 0 news) (m++l.drop m.length):=by
     rw[e2]
     exact cg.append fI (cg.drop (λ_ _ hx=>eY.size hx) m.length hVc)
    exact q.mono λ_ _ hx=>hx.mono hle.mem⟩))
   exact fin _ _ oY ⟨g,β,i1.put o.dst ⟨[.int .i64 (m.length:Int)],by simp only[V,eY],rfl⟩⟩
  ·exact(al.1 he).elim
 ·exact(al.1 he).elim
theorem GD(h:Inv C g β s a w){c:Call}{x y:Operand}{T X:TypeId}(ho:o.op= .call c)(hc:c.callee= .builtin .append)(ha:c.args.toList=[x,y])(ht:c.argTypes.toList=[T,X]){s':AS}
  {nl dt:Bool} (he:(sa P s nl dt o.dst T X (s.ev x) (s.ev y)).eval=some s'):iY P o a w (kL C s'):=by
 obtain⟨cal,args,tys⟩:=c
 simp only at hc ha ht
 have ha':args= #[x,y]:=by apply jW;simpa using ha
 have ht':tys= #[T,X]:=by apply jW;simpa using ht
 subst hc ha' ht'
 have hx:=h.ev x
 have hy:=h.ev y
 have fin:∀z w',(Builtin.append_ #[T,X] 0 #[a.eval x,a.eval y]).run P w= .ok z w'->(∃g' β',Inv C g' β' s' (a.put o.dst z) w')->iY P o a w (kL C s'):=by
  intro z w' h1 h2
  refine .inl ⟨z,w',tD ho (f:=Builtin.append_ #[T,X] 0 #[a.eval x,a.eval y]) (λty cs xs Iv=> ?_) h1,h2⟩
  subst Iv
  have e1:Builtin.append_ #[T,X] 0 #[a.eval x,a.eval y]=Builtin.append_ #[T,X] ty #[a.eval x,a.eval y]:=rfl
  rw[e1]
  simp[builtin]
 unfold sa at he
 split at he
 ·rename_i e t b q xe hd
  obtain⟨hT,hz,i,zv,hi,Lw,Po,Iw,Ly⟩:=oW xe
  obtain⟨m,hm,he⟩:=av.1 he
  obtain⟨hX,news,fI,hlen,Qj⟩:=AO h hy hm
  have Pt:=fI.length (λ_ _ hx=>eY.size hx)
  have h1news:∀u∈news,u.oneCell'=true:=cg.all (λ_ _ hx=>hx.one) fI
  rw[<-Lw]at Qj
  have S6:zv.cells.size=t.size:=by have:=(Ly (s.env w g β)).size;simpa using this
  have Ws:∀n,(Builtin.zeroCells zv.cells n).size=n*t.size:=λn=>by rw[s5,S6]
  have grow:∀(ad:Option Addr) (sLen sCap:Nat) (ez:List Value) (l0:List t.den),a.eval x= .slice ad sLen sCap->ez.length=sLen*t.size->l0.length=sLen->cg (eY (s.env w g β) t) ez l0->
    (Builtin.firstCells i.size sLen (.slice ad sLen sCap)).run P w.drew= .ok ez.toArray w.drew->sCap < sLen+m.length->fk (sLen+m.length) b=true->
    ∃(cur:Array Value) (cap:Nat),(Builtin.append_ #[T,X] 0 #[a.eval x,a.eval y]).run P w= .ok (.slice (some ⟨w.heap.size,0,none⟩) (sLen+m.length) cap) (w.drew.alloc (.cells cur e))/\
     cur.size=cap*t.size/\sLen+m.length<=cap/\cap<=maxLen/\cur.toList.take ((sLen+m.length)*t.size)=ez++news:=by
   intro ad sLen sCap ez l0 Mu DL T5 TK UY xo Iu
   simp only[fk,decide_eq_true_eq]at Iu
   have hr:=Aj (P:=P) (w:=w) (ty:=0) hT hX hi Iw UY hlen (Qj w.drew rfl) xo (by omega) (by rw[Po];exact Iu.1)
   rw[Mu]
   refine⟨_,_,hr,?_,grownCap_ge _ _ _ _,grownCap_le_maxLen _ _ _ _ (by unfold maxLen;omega),?_⟩
   ·have Zq:=grownCap_ge w (sLen+m.length) sCap e
    simp only[Array.size_append,jZ,Ws,DL,Pt,<-gN]
    congr 1
    omega
   ·have Pq:(ez++news).length=(sLen+m.length)*t.size:=by rw[ae,DL,Pt,gN]
    simp only[di]
    rw[<-Pq]
    exact List.take_left
  split at he
  ·rename_i YJ
   rw[YJ]at hx
   have Mu:=l5 hx
   cases dt with
   |true=>
    simp only at he
    obtain⟨Iu,he⟩:=cW.1 he
    obtain rfl:=aB.1 he
    simp only[ak,decide_eq_true_eq]at Iu
    obtain⟨Iu,Qk⟩:=Iu
    obtain⟨cur,cap,hr,q1,q2,q3,q4⟩:=grow none 0 0 [] [] Mu (by simp) rfl rfl rfl (by omega) (by simpa using Iu)
    simp only[bl,bu]at hr q2 q4
    have Vw:cg (eY (s.env w.drew g β) t) news m:=fI.mono λ_ _ hx=>hx.mono (dZ.same (s:=s) (β:=β) (Trans.drew w g)).mem
    refine fin _ _ hr ⟨oQ g w.heap.size .free,β,(h.drew.wK (.cells cur e)).put o.dst ⟨[.slice (some ⟨w.heap.size,0,none⟩) m.length cap],?_,rfl⟩⟩
    simp only[V,eY]
    refine⟨λh0=>(by cases h0),λm' hm'=> ?_⟩
    obtain rfl:m=m':=cM hm'
    refine⟨_,cap,cur.toList.take (m.length*t.size),rfl,q2,λ_=>rfl,λj v hj=>⟨_,_,rfl,?_,?_⟩,?_⟩
    ·show(w.drew.alloc (.cells cur e)).cell? ⟨w.drew.heap.size,0+j,none⟩=some v
     rw[World.cell?_alloc_new,bl]
     rw[fv]at hj
     split at hj
     ·simpa using hj
     ·cases hj
    ·show rq (oQ g w.heap.size .free) w.heap.size (0+j)
     unfold rq;rw[ji];trivial
    ·rw[q4]
     exact Vw.mono λ_ _ hx=>hx.mono (Trans.mem (E:=s.env w.drew g β) (E':=s.env (w.drew.alloc (.cells cur e)) (oQ g w.drew.heap.size .free) β) (Trans.alloc w.drew g (.cells cur e) .free))
   |false=>
   simp only at he
   obtain⟨hq,he⟩:=aL.1 he
   obtain⟨Iu,he⟩:=cW.1 he
   obtain rfl:=aB.1 he
   by_cases Qk:m.length=0
   ·have V1:m=[]:=df Qk
    subst V1
    have RS:news=[]:=df (by rw[Pt];simp)
    subst RS
    obtain⟨β',i1,e1,v1⟩:=h.NM hq (e:=e) hz
    refine fin (.slice none 0 0) w ?_ ⟨g,β',?_⟩
    ·rw[Mu]
     exact vy (P:=P) hT hX hi hlen (Qj w rfl)
    ·exact i1.put o.dst v1
   ·obtain⟨cur,cap,hr,q1,q2,q3,q4⟩:=grow none 0 0 [] [] Mu (by simp) rfl rfl rfl (by omega) (by simpa using Iu)
    simp only[bl,bu]at hr q2 q4
    obtain⟨g2,β2,i2,v2⟩:=(h.drew).FV hq (e:=e) (l:=m) (cur:=cur) (cap:=cap) hz (by rw[q4];exact fI.mono λ_ _ hx=>hx.mono (dZ.same (s:=s) (β:=β) (Trans.drew w g)).mem) q1 q2 q3
    refine fin _ _ hr ⟨g2,β2,?_⟩
    exact i2.put o.dst v2
  ·rename_i id ver len Iv
   rw[Iv]at hx
   obtain⟨ad,cap,Mu,Nf,oZ,Ci,jt⟩:=pf hx
   split at he
   ·rename_i v fr e' t' l nc
    obtain⟨h1,yB⟩:=aL.1 he
    clear he
    simp only[ak,beq_iff_eq]at h1
    obtain⟨R1,X8⟩:=h1
    subst R1 X8
    obtain⟨l',hl',Dw⟩:=av.1 yB
    obtain⟨et,hl'⟩:=lq (lF.1 hl')
    have et':t'=t:=by simpa using et
    subst et'
    simp only at hl'
    subst hl'
    obtain⟨Ps,TP⟩:=cW.1 Dw
    have Ps:len<=l.length:=by simpa using Ps
    obtain⟨UX,SV⟩:=cW.1 TP
    obtain⟨Iu,W6⟩:=cW.1 SV
    obtain rfl:=aB.1 W6
    clear yB Dw TP SV W6
    have eP:=gC nc
    have jt:=jt ⟨fr,_,eP⟩
    obtain⟨_,hO⟩:=h.da id v fr _ eP
    have hO':(match β id with
     |none=>l=[]
     |some pl=>∃cur k,w.heap[pl.b]? =some (.cells cur e (0,0))/\cur.size=pl.cap*t'.size/\l.length<=pl.cap/\pl.cap<=maxLen/\g pl.b= .own (.id id) k/\
       k<=l.length*t'.size/\(fr=false->k=0)/\cg (eY (s.env w g β) t') (cur.toList.take (l.length*t'.size)) l):=hO
    have hcur':(match β id with
     |some pl=>(0 < len\/0=0->ad=some ⟨pl.b,0,none⟩)/\(([]:List xy)=[]->0=0->cap=pl.cap)
     |none=>ad=none/\len=0/\cap=0):=jt
    have RH:fr=false\/len=l.length:=by
     simp only[j9,dI,decide_eq_true_eq]at UX
     exact UX
    have lh:s.dx id≠none:=by rw[eP];simp
    have fresh:∀(cur:Array Value) (cp:Nat) (g0:Nat->od),Trans w (w.drew.alloc (.cells cur e)) g (oQ g0 w.heap.size (.own (.id (id)) 0))->
      (∀i ver fr c pl,i≠id->s.dx i=some (.obj ver fr c)->β i=some pl->g0 pl.b=g pl.b)->cur.size=cp*t'.size->len+m.length<=cp->cp<=maxLen->
      cg (eY (s.env w g β) t') (cur.toList.take ((len+m.length)*t'.size)) (l.take len++m)->len<=l.length->
      ∃g' β',Inv C g' β' ((s.bM id (.obj (v+1) fr (.vec e t' (l.take len++m)))).put o.dst (.dh id (v+1) [] 0 0 (len+m.length))) (a.put o.dst (.slice (some ⟨w.heap.size,0,none⟩) (len+m.length) cp)) (w.drew.alloc (.cells cur e)):=by
     intro cur cp g0 ht VB q1 q2 q3 q4 q5
     have Mq:(l.take len++m).length=len+m.length:=by simp;omega
     have hle:dZ (s.env w g β) ((s.bM id (.obj (v+1) fr (.vec e t' (l.take len++m)))).env (w.drew.alloc (.cells cur e)) (oQ g0 w.heap.size (.own (.id id) 0)) (xh β id (some ⟨w.heap.size,cp⟩))):=
      dZ.bM eP (by omega) ht (λi hi=>sW _ _ _ hi) (λhh=>by omega)
     have i1:=h.step (fi _ _ _) ht hle (lO.bM (Mp:=ou eP λk v1 l e=>by cases e) h.da lh hle (λi hi=>sW _ _ _ hi) (λi ver fr' c' pl hi DN It=>by
       have mw:pl.b < w.heap.size:=((h.da i ver fr' c' DN).label (pl:=pl) It).1
       exact⟨q9 w.drew _ mw,by rw[jc _ _ _ (by omega)];exact VB i ver fr' c' pl hi DN It⟩) (by
      refine⟨hz,?_⟩
      show(match xh β id (some ⟨w.heap.size,cp⟩) id with
       |none=>(l.take len++m)=[]
       |some pl=>_)
      rw[mE]
      refine⟨cur,0,sC w.drew _,q1,by rw[Mq];exact q2,q3,ji _ _ _,bm _,λ_=>rfl,?_⟩
      rw[Mq]
      exact q4.mono λ_ _ hx=>hx.mono hle.mem))
     refine⟨_,_,i1.put o.dst ⟨_,?_,rfl⟩⟩
     simp only[V]
     have nR:=gI s id (.obj (v+1) fr (.vec e t' (l.take len++m))) lh
     refine⟨_,_,rfl,q2,λ_=>rfl,⟨by show(s.bM id _).dx id≠none;rw[nR];simp,λv' fr' c' hh=> ?_⟩,λ_=> ?_⟩
     ·have hh':(s.bM id (.obj (v+1) fr (.vec e t' (l.take len++m)))).dx id=some (.obj v' fr' c'):=hh
      rw[nR]at hh'
      simp only[aE,gU.obj.injEq]at hh'
      omega
     ·show(match xh β id (some ⟨w.heap.size,cp⟩) id with
       |some pl=>_
       |none=>_)
      rw[mE]
      exact⟨λ_=>rfl,λ_ _=>rfl⟩
    cases hp:β id with
    |none=>
     rw[hp]at hO' hcur'
     simp only at hO' hcur'
     obtain⟨rfl,rfl,rfl⟩:=hcur'
     subst hO'
     by_cases Qk:m.length=0
     ·have V1:m=[]:=df Qk
      subst V1
      have RS:news=[]:=df (by rw[Pt];simp)
      subst RS
      have ht:=Trans.refl w g
      have hle:dZ (s.env w g β) ((s.bM id (.obj (v+1) fr (.vec e t' []))).env w g β):=dZ.bM eP (by omega) ht (λ_ _=>rfl) (λ_=>rfl)
      have i1:=h.step (fi _ _ _) ht hle (lO.bM (Mp:=ou eP λk v1 l e=>by cases e) h.da lh hle (λ_ _=>rfl) (λ_ _ _ _ _ _ _ _=>⟨rfl,rfl⟩) (by
       refine⟨hz,?_⟩
       show(match β id with
        |none=>([]:List t'.den)=[]
        |some pl=>_)
       rw[hp]))
      refine fin (.slice none 0 0) w ?_ ⟨g,β,i1.put o.dst ⟨_,?_,rfl⟩⟩
      ·rw[Mu]
       exact vy (P:=P) hT hX hi hlen (Qj w rfl)
      ·simp only[V]
       have nR:=gI s id (.obj (v+1) fr (.vec e t' [])) lh
       refine⟨_,_,rfl,aC _,λhh=>by simp at hh,⟨by show(s.bM id _).dx id≠none;rw[nR];simp,λv' fr' c' hh=> ?_⟩,λ_=> ?_⟩
       ·have hh':(s.bM id (.obj (v+1) fr (.vec e t' []))).dx id=some (.obj v' fr' c'):=hh
        rw[nR]at hh'
        simp only[aE,gU.obj.injEq]at hh'
        omega
       ·show(match β id with
         |some pl=>_
         |none=>_)
        rw[hp]
        exact⟨rfl,by simp,rfl⟩
     ·obtain⟨cur,cp,hr,q1,q2,q3,q4⟩:=grow none 0 0 [] [] Mu (by simp) rfl rfl rfl (by omega) Iu
      refine fin _ _ hr (fresh cur cp g (Trans.trans (Trans.drew w g) (Trans.alloc w.drew g _ _)) (λ_ _ _ _ _ _ _ _=>rfl) q1 q2 q3 ?_ (by simp))
      rw[q4]
      simpa using fI
    |some pl=>
     rw[hp]at hO' hcur'
     simp only at hO' hcur'
     obtain⟨Lr,zL⟩:=hcur'
     have Lr:=Lr (.inr trivial)
     have zL:=zL trivial trivial
     subst Lr zL
     obtain⟨cur,k,p1,p2,p3,p4,p5,p6,p7,p8⟩:=hO'
     have hk:k<=len*t'.size:=by
      rcases RH with hf | hf
      ·rw[p7 hf];exact bm _
      ·rw[hf];exact p6
     have hmul:len*t'.size<=l.length*t'.size:=eR _ Ps
     have Xj:l.length*t'.size<=cur.size:=by rw[p2];exact eR _ p3
     have Pz:=cg.take (λ_ _ hx=>eY.size hx) len p8
     rw[mm,jH hmul]at Pz
     have DL:(cur.toList.take (len*t'.size)).length=len*t'.size:=by simp;omega
     by_cases xo:len+m.length<=pl.cap
     ·have YB:(len+m.length)*t'.size<=cur.size:=by rw[p2];exact eR _ xo
      have FC:len*i.size+news.length<=cur.size:=by rw[Lw,Pt,<-gN];exact YB
      have hr:=Ak (P:=P) (w:=w) (ty:=0) hT hX hi p1 h1news hlen (Qj w rfl) xo FC
      rw[Lw]at hr FC
      have ht:Trans w (w.setRow pl.b (fo cur.toList (len*t'.size) news).toArray) g g:=by
       refine⟨by simp,by simp,by simp,by simp,λb' hb=> ?_⟩
       by_cases FB:b'=pl.b
       ·subst FB
        rw[p5]
        refine⟨.inr ⟨id,k,rfl,aC _⟩,λoff u Pv hu=> ?_⟩
        rw[cell_of_row w pl.b off cur e (0,0) p1]at hu
        rw[cell_setRow_same w pl.b off cur _ e (0,0) p1]
        simp only[fo,bR,List.getElem?_toArray]
        rw[kk (by rw[DL];omega),fv,if_pos (by omega)]
        simpa using hu
       ·rw[setRow_other w pl.b b' _ FB]
        cases Ck:g b' with
        |free=>exact⟨rfl,rfl⟩
        |own o' k=>cases o' with
         |iR=>exact⟨rfl,rfl⟩
         |id i'=>exact⟨.inr ⟨i',k,rfl,aC _⟩,λoff v _ hv=>by rw[cell_setRow_other w pl.b _ _ FB];exact hv⟩
      have hle:dZ (s.env w g β) ((s.bM id (.obj (v+1) fr (.vec e t' (l.take len++m)))).env (w.setRow pl.b (fo cur.toList (len*t'.size) news).toArray) g β):=
       dZ.bM eP (by omega) ht (λ_ _=>rfl) (λ_=>rfl)
      have Mq:(l.take len++m).length=len+m.length:=by simp;omega
      have We:(fo cur.toList (len*t'.size) news).length=cur.toList.length:=lv (by simpa using FC)
      have i1:=h.step (fi _ _ _) ht hle (lO.bM (Mp:=ou eP λk v1 l e=>by cases e) h.da lh hle (λ_ _=>rfl) (λi ver fr c pl2 hi DN It=>⟨setRow_other w pl.b pl2.b _ (h.apart p5 hi DN It),rfl⟩) (by
       refine⟨hz,?_⟩
       show(match β id with
        |none=>(l.take len++m)=[]
        |some pl=>_)
       rw[hp]
       refine⟨_,k,setRow_heap w pl.b cur _ e (0,0) p1,by rw[jZ,We];simpa using p2,by rw[Mq];exact xo,p4,p5,?_,p7,?_⟩
       ·rw[Mq,gN];omega
       ·rw[Mq,show(fo cur.toList (len*t'.size) news).toArray.toList=fo cur.toList (len*t'.size) news from rfl]
        have e1:(fo cur.toList (len*t'.size) news).take ((len+m.length)*t'.size)=cur.toList.take (len*t'.size)++news:=by
         unfold fo
         have Pq:(cur.toList.take (len*t'.size)++news).length=(len+m.length)*t'.size:=by rw[ae,DL,Pt,gN]
         rw[<-Pq]
         exact List.take_left
        rw[e1]
        exact(cg.append Pz fI).mono λ_ _ hx=>hx.mono hle.mem))
      rw[<-Mu]at hr
      refine fin _ _ hr ⟨g,β,i1.put o.dst ⟨_,?_,rfl⟩⟩
      simp only[V]
      have nR:=gI s id (.obj (v+1) fr (.vec e t' (l.take len++m))) lh
      refine⟨_,_,rfl,xo,λ_=>rfl,⟨by show(s.bM id _).dx id≠none;rw[nR];simp,λv' fr' c' hh=> ?_⟩,λ_=> ?_⟩
      ·have hh':(s.bM id (.obj (v+1) fr (.vec e t' (l.take len++m)))).dx id=some (.obj v' fr' c'):=hh
       rw[nR]at hh'
       simp only[aE,gU.obj.injEq]at hh'
       omega
      ·show(match β id with
        |some pl=>_
        |none=>_)
       rw[hp]
       exact⟨λ_=>rfl,λ_ _=>rfl⟩
     ·have UY:(Builtin.firstCells i.size len (.slice (some ⟨pl.b,0,none⟩) len pl.cap)).run P w.drew= .ok (cur.toList.take (len*t'.size)).toArray w.drew:=by
       refine run_firstCells_some (P:=P) w.drew i.size _ _ _ _ _ (by rw[DL,Lw]) (λj u hj=> ?_)
       rw[Addr.add_lit,bl]
       show w.cell? ⟨pl.b,j,none⟩=some u
       rw[cell_of_row w pl.b j cur e (0,0) p1]
       rw[fv]at hj
       split at hj
       ·simpa using hj
       ·cases hj
      obtain⟨cur2,cp,hr,q1,q2,q3,q4⟩:=grow (some ⟨pl.b,0,none⟩) len pl.cap (cur.toList.take (len*t'.size)) (l.take len) Mu DL (by simp;omega) Pz UY (by omega) Iu
      have mw:pl.b < w.heap.size:=(fu.1 p1).1
      have Kd:Trans w w.drew g (oQ g pl.b .free):=by
       refine⟨rfl,rfl,⟨rfl,Nat.le_succ _⟩,aC _,λb' hb=> ?_⟩
       by_cases FB:b'=pl.b
       ·subst FB
        rw[p5,ji]
        exact⟨.inl rfl,λ_ _ _ hh=>hh⟩
       ·rw[jc _ _ _ FB]
        exact(Trans.drew w g).K6 b' hb
      refine fin _ _ hr (fresh cur2 cp (oQ g pl.b .free) (Trans.trans Kd (Trans.alloc w.drew _ _ _)) (λi ver fr c pl2 hi DN It=>jc _ _ _ (h.apart p5 hi DN It)) q1 q2 q3 ?_ Ps)
      rw[q4]
      exact cg.append Pz fI
   ·simp only[al]at he
  ·simp only[al]at he
 ·simp only[al]at he
end
end Go.Ab
namespace Go.Ab
abbrev Is:=Id->Nat->Option (Id×Nat)
structure vk(ρ:Is)(E E':Env):Prop where
 mem:qZ E E'
 ref:∀id ver r,ρ id ver=some r->E.w9 id ver->E'.w9 r.1 r.2/\(E'.cur r.1 r.2->E.cur id ver/\E'.β r.1=E.β id)
theorem KB(ρ:Is)(a:aH):(a.mg ρ).agg=a.agg:=by
 cases a with
 |ptr id v p n=>simp only[aH.mg];cases ρ id v <;> rfl
 |dh id v p c i l=>simp only[aH.mg];cases ρ id v <;> rfl
 |kO id v=>simp only[aH.mg];cases ρ id v <;> rfl
 |_=>rfl
mutual
theorem Gu{ρ:Is}{E E':Env}(h:vk ρ E E'):∀ {a:aH} {cs:List Value},V E a cs->V E' (a.mg ρ) cs
 | .undef,_,hv=>by simp only[V]at hv
 | .gone,_,hv=>by simpa only[aH.mg,V]using hv
 | .eV,_,hv=>by simpa only[aH.mg,V]using hv
 | .o6,_,hv=>by simpa only[aH.mg,V]using hv
 | .rP,_,hv=>by simpa only[aH.mg,V]using hv
 | .uw,_,hv=>by simpa only[aH.mg,V]using hv
 | .sb l,_,hv=>by
  simp only[aH.mg,V]at hv ⊢
  obtain⟨b,cap,arr,e,h1,h2,h3,h4,h5⟩:=hv
  obtain⟨h6,h7⟩:=h.mem.fz b _ h3 h4
  exact⟨b,cap,arr,e,h1,h2,h6,h7,h5⟩
 | .d t x,_,hv=>by simp only[aH.mg,V]at hv ⊢;exact hv.mono h.mem
 | .pr a b,_,hv=>by
  simp only[aH.mg,V]at hv ⊢
  obtain⟨ca,cb,e,ha,hb⟩:=hv
  exact⟨ca,cb,e,Gu h ha,Gu h hb⟩
 | .ptr id ver p n,_,hv=>by
  have h1:=hv.one
  simp only[aH.mg]
  cases hr:ρ id ver with
  |none=>
   simp only[V]at hv ⊢
   obtain⟨a,e,_⟩:=hv
   exact⟨_,e,h1 _ (by simp[e])⟩
  |some r=>
   simp only[V]at hv ⊢
   obtain⟨a,e,hb,hc⟩:=hv
   obtain⟨b1,b2⟩:=h.ref id ver r hr hb
   refine⟨a,e,b1,λc=> ?_⟩
   obtain⟨c1,e1⟩:=b2 c
   rw[e1];exact hc c1
 | .gE t x,_,hv=>by
  simp only[aH.mg,V]at hv ⊢
  obtain⟨b,off,vs,e,hr,hx⟩:=hv
  exact⟨b,off,vs,e,hr.mono h.mem,hx.mono h.mem⟩
 | .dh id ver p c i len,_,hv=>by
  have h1:=hv.one
  simp only[aH.mg]
  cases hr:ρ id ver with
  |none=>
   simp only[V]at hv ⊢
   obtain⟨a,cap,e,_⟩:=hv
   exact⟨_,e,h1 _ (by simp[e])⟩
  |some r=>
   simp only[V]at hv ⊢
   obtain⟨a,cap,e,hl,hs,hb,hc⟩:=hv
   obtain⟨b1,b2⟩:=h.ref id ver r hr hb
   refine⟨a,cap,e,hl,hs,b1,λc=> ?_⟩
   obtain⟨c1,e1⟩:=b2 c
   rw[e1];exact hc c1
 | .fn f c,_,hv=>by
  simp only[aH.mg,V]at hv ⊢
  obtain⟨vs,e,hc⟩:=hv
  exact⟨vs,e,Iz h hc⟩
 | .cons _ _,_,hv=>by simp only[V]at hv
 | .nil,_,hv=>by simp only[V]at hv
 | .vec ..,_,hv=>by simp only[V]at hv
 | .bx ..,_,hv=>by simp only[V]at hv
 | .kO id ver,_,hv=>by
  have h1:=hv.one
  simp only[aH.mg]
  cases hr:ρ id ver with
  |none=>
   simp only[V]at hv ⊢
   obtain⟨b,e,_⟩:=hv
   exact⟨_,e,h1 _ (by simp[e])⟩
  |some r=>
   simp only[V]at hv ⊢
   obtain⟨b,e,hb,hc⟩:=hv
   obtain⟨b1,b2⟩:=h.ref id ver r hr hb
   refine⟨b,e,b1,λc=> ?_⟩
   obtain⟨c1,e1⟩:=b2 c
   rw[e1];exact hc c1
 | .mp ..,_,hv | .qd ..,_,hv=>by simp only[V]at hv
theorem Iz{ρ:Is}{E E':Env}(h:vk ρ E E'):∀ {a:aH} {vs:List Value},VC E a vs->VC E' (a.mg ρ) vs
 | .nil,_,hv=>by simpa only[aH.mg,VC]using hv
 | .cons a b,_,hv=>by
  simp only[aH.mg,VC]at hv ⊢
  obtain⟨v,vs',cs,e,ha,ho,hb⟩:=hv
  exact⟨v,vs',cs,e,Gu h ha,by rw[KB];exact ho,Iz h hb⟩
 | .undef,_,hv=>by simp only[VC]at hv
 | .gone,_,hv=>by simp only[VC]at hv
 | .eV,_,hv=>by simp only[VC]at hv
 | .o6,_,hv=>by simp only[VC]at hv
 | .rP,_,hv=>by simp only[VC]at hv
 | .uw,_,hv=>by simp only[VC]at hv
 | .sb _,_,hv=>by simp only[VC]at hv
 | .d t x,_,hv=>by simp only[VC]at hv
 | .pr a b,_,hv=>by simp only[VC]at hv
 | .ptr ..,_,hv=>by simp only[VC]at hv
 | .gE ..,_,hv=>by simp only[VC]at hv
 | .dh ..,_,hv=>by simp only[VC]at hv
 | .fn ..,_,hv=>by simp only[VC]at hv
 | .vec ..,_,hv=>by simp only[VC]at hv
 | .bx ..,_,hv=>by simp only[VC]at hv
 | .kO ..,_,hv=>by simp only[VC]at hv
 | .mp ..,_,hv | .qd ..,_,hv=>by simp only[VC]at hv
end
theorem BN{ρ:Is}{E E':Env}(h:vk ρ E E'){a:aH}{v:Value}(hv:VS E a v):VS E' (a.mg ρ) v:=by
 by_cases hc:a.iA=true
 ·obtain⟨cs,h1,h2⟩:=hv.iA hc
  exact VS.of (Gu h h1) (by rw[KB];exact h2)
 ·cases a <;> first | (exact absurd rfl hc) | skip
  ·trivial
  ·obtain⟨vs,e,Wl⟩:=hv
   have:=Iz h Wl
   simp only[aH.mg]at this ⊢
   exact⟨vs,e,this⟩
  ·exact hv
  ·obtain⟨cs,h1,_⟩:=hv
   simp only[V]at h1
  ·obtain⟨cs,h1,_⟩:=hv
   simp only[V]at h1
  ·obtain⟨cs,h1,_⟩:=hv
   simp only[V]at h1
  ·obtain⟨cs,h1,_⟩:=hv
   simp only[V]at h1
theorem LY(ρ:Is)(c:aH):(c.mg ρ).strip=c.strip.mg ρ:=by
 cases c <;> first
  |rfl
  | (rename_i id ver p n;simp only[aH.strip,aH.mg];cases ρ id ver <;> rfl)
  | (rename_i id ver p c i len;simp only[aH.strip,aH.mg];cases ρ id ver <;> rfl)
  | (rename_i i v;simp only[aH.strip,aH.mg];cases ρ i v <;> rfl)
theorem zf(ρ:Is):∀c:aH,(c.mg ρ).size=c.size
 | .pr a b=>by simp only[aH.mg,aH.size,zf ρ a,zf ρ b]
 | .ptr id ver p n=>by simp only[aH.mg];cases ρ id ver <;> rfl
 | .dh id ver p c i len=>by simp only[aH.mg];cases ρ id ver <;> rfl
 | .kO id ver=>by simp only[aH.mg];cases ρ id ver <;> rfl
 | .undef | .gone | .eV | .o6 | .rP | .uw | .d _ _ | .gE _ _ | .fn _ _ | .cons _ _ | .nil | .vec .. | .sb _ | .bx .. | .mp .. | .qd .. =>rfl
theorem MK(ρ:Is){c:aH}(n:Nat):(c.mg ρ).rJ n=c.rJ n:=by
 cases c with
 |bx e z c=>cases z with
  |zero=>rfl
  |succ z=>exact zf ρ c
 |_=>first | rfl | (simp only[aH.mg];split <;> rfl)
theorem K7(ρ:Is){c:aH}{pl:Pl}{n:Nat}{e:TypeId}(h:c.vQ pl n e):(c.mg ρ).vQ pl n e:=by
  cases c <;> first
    | (rename_i e' z c;cases z with
       |zero=>exact h
       |succ z=>exact⟨h.1,h.2.1,h.2.2.1,by rw[zf];exact h.2.2.2⟩)
    |exact h
    |trivial
    | (rename_i id ver p n;simp only[aH.mg];cases ρ id ver <;> trivial)
    | (rename_i id ver p c i len;simp only[aH.mg];cases ρ id ver <;> trivial)
    | (rename_i i v;simp only[aH.mg];cases ρ i v <;> trivial)
theorem ub{ρ:Is}{E E':Env}(h:vk ρ E E'){id id':Id}{fr:Bool}{c:aH}(ho:rI E id fr c)(hβ:E'.β id'=E.β id)
  (hb:∀pl,E.β id=some pl->E'.w.heap[pl.b]? =E.w.heap[pl.b]? /\(∀k,E.g pl.b= .own (.id id) k->E'.g pl.b= .own (.id id') k)/\(E.g pl.b= .free->E'.g pl.b= .free)):rI E' id' fr (c.mg ρ):=by
 by_cases hn:c.kq=false
 ·obtain⟨pl,cur,e,h1,h2,h3,h5,h4⟩:=ho.box hn
  obtain⟨b1,b2,b3⟩:=hb pl h1
  have h6:=Gu h h4
  refine zq.obj ⟨pl,cur,e,by rw[hβ,h1],by rw[b1,h2],?_,K7 ρ h5,by rw[LY,MK];exact h6⟩
  cases fr with
  |true=>exact b3 h3
  |false=>exact b2 0 h3
 ·cases c <;> first
   | (exact absurd rfl hn)
   |skip
  rotate_left
  rotate_left
  ·obtain⟨pl,mb,since,seen,c0,h1,h2,h3,_⟩:=ho
   obtain⟨b1,b2,_⟩:=hb pl h1
   exact⟨pl,mb,since,seen,c0,by rw[hβ,h1],by rw[b1,h2],b2 0 h3,λvr Mt=>by cases Mt⟩
  rotate_left
  ·obtain⟨pl,es,clock,h1,h2,h3,h4⟩:=ho
   obtain⟨b1,b2,_⟩:=hb pl h1
   exact⟨pl,es,clock,by rw[hβ,h1],by rw[b1,h2],b2 0 h3,⟨h4.1.1.mono h.mem,h4.1.2⟩,h4.2⟩
  rename_i e t l
  obtain⟨hz,ho⟩:=ho
  refine⟨hz,?_⟩
  rw[hβ]
  cases hp:E.β id with
  |none=>rw[hp]at ho;exact ho
  |some pl=>
   rw[hp]at ho
   simp only at ho ⊢
   obtain⟨b1,b2,_⟩:=hb pl hp
   obtain⟨cur,k,h1,h2,h3,h4,h5,h6,h7,h8⟩:=ho
   exact⟨cur,k,by rw[b1,h1],h2,h3,h4,b2 k h5,h6,h7,h8.mono λc x hx=>hx.mono h.mem⟩
def yl(E:Env):List aH->List Value->Prop
 |[],[]=>True
 |a::as,v::vs=>VS E a v/\yl E as vs
 |_,_=>False
def aZ.st(G:aZ):AS:= {dU:=[],ez:=G.ez,news:=[G.news]}
def oL(ez:List gU):AS:= {dU:=[],ez,news:=[]}
def vH(E:Env)(G:aZ)(v:Value)(w':World):Prop:=
 ∃g' β',VS (G.st.env w' g' β') G.val v/\lO (G.st.env w' g' β')/\Trans E.w w' E.g g'/\dZ E (G.st.env w' g' β')
def qv(P:Program)(f:FuncId)(en:Entry):Prop:=
 ∀w g β args ez mZ x,yl ((oL ez).env w g β) args mZ->lO ((oL ez).env w g β)->en.run args ez=some x->
  ((callFunc f mZ.toArray).run P w= .ok (.enter f mZ.toArray) w/\
   Calls P f mZ.toArray w λe w'=>∃v,e= .returned v/\vH ((oL ez).env w g β) (en.out args ez x) v w')\/
  (∃v w',(callFunc f mZ.toArray).run P w= .ok (.value v) w'/\vH ((oL ez).env w g β) (en.out args ez x) v w')
def Sound(P:Program)(Γ:fD):Prop:=∀f vs en,Γ f vs=some en->qv P f en
theorem yl.mono{E E':Env}(h:dZ E E'):∀ {as:List aH} {vs:List Value},yl E as vs->yl E' as vs
 |[],[],_=>trivial
 |_::_,_::_,⟨h1,h2⟩=>⟨h1.mono h,yl.mono h h2⟩
theorem yl.mg{ρ:Is}{E E':Env}(h:vk ρ E E'):∀ {as:List aH} {vs:List Value},yl E as vs->yl E' (as.map (aH.mg ρ)) vs
 |[],[],_=>trivial
 |_::_,_::_,⟨h1,h2⟩=>⟨BN h h1,yl.mg h h2⟩
theorem yl.append{E:Env}:∀ {as:List aH} {vs:List Value} {bs:List aH} {us:List Value},yl E as vs->yl E bs us->yl E (as++bs) (vs++us)
 |[],[],_,_,_,h=>h
 |_::_,_::_,_,_,⟨h1,h2⟩,h=>⟨h1,yl.append h2 h⟩
theorem MB{E:Env}:∀ {c:aH} {vs:List Value},VC E c vs->yl E c.list vs
 | .cons a b,vs,h=>by
  simp only[VC]at h
  obtain⟨v,vs',cs,rfl,ha,ho,hb⟩:=h
  exact⟨VS.of ha ho,MB hb⟩
 | .nil,vs,h=>by
  simp only[VC]at h
  subst h
  trivial
 | .undef,_,hv=>by simp only[VC]at hv
 | .gone,_,hv=>by simp only[VC]at hv
 | .eV,_,hv=>by simp only[VC]at hv
 | .o6,_,hv=>by simp only[VC]at hv
 | .rP,_,hv=>by simp only[VC]at hv
 | .uw,_,hv=>by simp only[VC]at hv
 | .sb _,_,hv=>by simp only[VC]at hv
 | .d t x,_,hv=>by simp only[VC]at hv
 | .pr a b,_,hv=>by simp only[VC]at hv
 | .ptr ..,_,hv=>by simp only[VC]at hv
 | .gE ..,_,hv=>by simp only[VC]at hv
 | .dh ..,_,hv=>by simp only[VC]at hv
 | .fn ..,_,hv=>by simp only[VC]at hv
 | .vec ..,_,hv=>by simp only[VC]at hv
 | .bx ..,_,hv=>by simp only[VC]at hv
 | .kO ..,_,hv=>by simp only[VC]at hv
 | .mp ..,_,hv | .qd ..,_,hv=>by simp only[VC]at hv
theorem Inv.W1{C:Ctx}{g:Nat->od}{β:Id->Option Pl}{s:AS}{a:Act}{w:World}(h:Inv C g β s a w):∀l:List Operand,yl (s.env w g β) (l.map s.ev) (l.map a.eval)
 |[]=>trivial
 |x::l=>⟨h.ev x,h.W1 l⟩
theorem BY{E E':Env}{s:AS}(hs:E.s=s.dx)(ho:lO E)(he:dZ E E'):∀(ps:List (Option Ty)) (vs:List aH) (ys:List Value) (r:List aH×List Id),yl E vs ys->(s.conv ps vs).eval=some r->Tb E E' r.2->yl E' r.1 ys
 |[],[],ys,r,hv,h,_=>by
  simp only[AS.conv,aB]at h
  subst h
  cases ys with
  |nil=>trivial
  |cons _ _=>exact hv.elim
 |some t::ps,v::vs,y::ys,r,⟨hv,Cn⟩,h,hf=>by
  simp only[AS.conv]at h
  obtain⟨x,h1,h2⟩:=av.1 h
  obtain⟨r',h3,h4⟩:=av.1 h2
  obtain rfl:=aB.1 h4
  obtain⟨cs,hV,hO⟩:=hv.iA (tx h1)
  refine⟨VS.of (cs:=cs) ?_ ?_,BY hs ho he ps vs ys r' Cn h3 λid eZ=>hf id (cf.2 (.inr eZ))⟩
  ·simp only[V]
   exact rG hs ho he v t x cs hV h1 λid eZ=>hf id (cf.2 (.inl eZ))
  ·show jI t.agg cs y
   rw[<-Dm h1];exact hO
 |none::ps,v::vs,y::ys,r,⟨hv,Cn⟩,h,hf=>by
  simp only[AS.conv]at h
  obtain⟨r',h3,h4⟩:=av.1 h
  obtain rfl:=aB.1 h4
  exact⟨hv.mono he,BY hs ho he ps vs ys r' Cn h3 hf⟩
 |[],_::_,_,_,_,h,_=>by simp only[AS.conv,al]at h
 |some _::_,[],_,_,_,h,_=>by simp only[AS.conv,al]at h
 |none::_,[],_,_,_,h,_=>by simp only[AS.conv,al]at h
end Go.Ab
namespace Go.Ab
theorem pA{id:Id}:∀ {ids:List Id} {k:Nat},idxOf id ids=some k->ids[k]? =some id
 |[],_,h=>by simp[idxOf]at h
 |x::xs,k,h=>by
  simp only[idxOf]at h
  split at h
  ·rename_i e
   simp only[aE]at h
   subst h e
   rfl
  ·simp only[iG]at h
   obtain⟨j,hj,rfl⟩:=h
   simpa using pA hj
theorem tj{id:Id}:∀ {ids:List Id} {k:Nat},ids.Nodup->ids[k]? =some id->idxOf id ids=some k
 |[],_,_,h=>by simp at h
 |x::xs,0,hn,h=>by
  simp only[iT,aE]at h
  simp[idxOf,h]
 |x::xs,k+1,hn,h=>by
  simp only[mi]at h
  obtain⟨h1,h2⟩:=fR.1 hn
  have lh:x≠id:=λe=>h1 (e▸eQ h)
  simp[idxOf,lh,tj h2 h]
theorem tX(s0:AS)(all:List Id)(t:Nat):∀(ids:List Id) (es:List gU) (s:AS),(AS.lj s0 all t s ids es).dU=s.dU
 |[],_,_=>by simp[AS.lj]
 |_::_,[],_=>by simp[AS.lj]
 |id::ids,e::es,s=>by rw[AS.lj,tX s0 all t ids es,fi]
theorem De(s:AS)(ids:List Id)(t:Nat)(es:List gU):(s.made ids t es).dU=s.dU:=by cases es <;> rfl
theorem vV(s0:AS)(all:List Id)(t:Nat):∀(ids:List Id) (es:List gU) (s:AS),ids.Nodup->es.length=ids.length->(∀id∈ids,s.dx id≠none)->
  (∀id,id ∉ ids->(AS.lj s0 all t s ids es).dx id=s.dx id)/\
  ∀(k:Nat) (id:Id) (e:gU),ids[k]? =some id->es[k]? =some e->(AS.lj s0 all t s ids es).dx id=some (s0.pv all t (s0.tA id) e)
 |[],es,s,_,_,_=>⟨λ_ _=>by simp[AS.lj],λk id e h=>by simp at h⟩
 |_::_,[],s,_,hl,_=>by simp at hl
 |i::ids,e::es,s,hn,hl,hp=>by
  obtain⟨h1,h2⟩:=fR.1 hn
  have hp':∀id∈ids,(s.bM i (s0.pv all t (s0.tA i) e)).dx id≠none:=λid eZ=>by
   rw[dV s i id _ (λe=>h1 (e▸eZ))]
   exact hp id (bj _ eZ)
  obtain⟨r1,r2⟩:=vV s0 all t ids es (s.bM i (s0.pv all t (s0.tA i) e)) h2 (by simpa using hl) hp'
  rw[AS.lj]
  refine⟨λid eZ=> ?_,λk id e' hk he=> ?_⟩
  ·simp only[cH,not_or]at eZ
   rw[r1 id eZ.2,dV s i id _ eZ.1]
  ·cases k with
   |zero=>
    simp only[iT,aE]at hk he
    subst hk he
    rw[r1 i h1,gI s i _ (hp i (bq ..))]
   |succ k=>
    simp only[mi]at hk he
    exact r2 k id e' hk he
theorem GS(s:AS)(ids:List Id)(t:Nat)(es:List gU)(hv:es=[]\/s.gd t=true):
  (∀id,(es=[]\/∀j,id≠ .new t j)->(s.made ids t es).dx id=s.dx id)/\(es≠ []->∀j,(s.made ids t es).dx (.new t j)=(es[j]?).map (s.pv ids t 0)):=by
 cases es with
 |nil=>exact⟨λ_ _=>rfl,λh=>absurd rfl h⟩
 |cons e es=>
  have hv:s.gd t=true:=by
   rcases hv with h | h
   ·cases h
   ·exact h
  refine⟨λid h=> ?_,λ_ j=> ?_⟩
  ·rcases h with h | h
   ·cases h
   ·exact kM _ h
  ·rw[AS.made,sm (lH hv).2,jY]
def nS(ids:List Id):od->od
 | .free=> .free
 | .own .iR n=> .own .iR n
 | .own (.id i) n=>match idxOf i ids with | some k=> .own (.id (.ew k)) n | none=> .own .iR n
def wY(β:Id->Option Pl)(ids:List Id):Id->Option Pl
 | .ew k=>(ids[k]?).bind β
 | .new _ _=>none
def nw(g:Nat->od)(size:Nat)(ids:List Id)(t:Nat)(b:Nat):od->od
 | .free=> .free
 | .own .iR n=>if b < size then g b else .own .iR n
 | .own (.id i) n=> .own (.id (Qs ids t i)) n
def rr(β β':Id->Option Pl)(ids:List Id)(t:Nat)(some?:Bool)(id:Id):Option Pl:=
 match idxOf id ids with
 |some k=>β' (.ew k)
 |none=>match id with
  | .new i j=>if i=t/\some?=true then β' (.new 0 j) else β (.new i j)
  |id=>β id
theorem Nv{ids:List Id}{l:od}{off:Nat}(h:rq (λ_=>l) 0 off):rq (λ_=>nS ids l) 0 off:=by
 cases l with
 |free=>trivial
 |own o k=>cases o with
  |iR=>exact h
  |id i=>simp only[nS];cases idxOf i ids <;> exact h
section
variable {P:Program} {C:Ctx} {g:Nat->od} {β:Id->Option Pl} {s:AS} {a:Act} {w:World} {o:Oper}
theorem Qt(ids:List Id):
  vk (s.rY ids) (s.env w g β) ((oL (ids.map (s.nP ids))).env w (λb=>nS ids (g b)) (wY β ids)):=by
 refine⟨⟨λb off v ⟨h1,h2⟩=>⟨h1,?_⟩,λb ob h1 h2=>⟨by show nS ids (g b)= .free;have h1:g b= .free:=h1;rw[h1];rfl,h2⟩⟩,λid ver r hr _=> ?_⟩
 ·exact Nv (l:=g b) h2
 ·unfold AS.rY at hr
  split at hr
  ·rename_i k v fr c hk ho
   split at hr
   ·rename_i Uk
    simp only[aE]at hr
    subst hr Uk
    have eZ:=pA hk
    have eP:=gC ho
    refine⟨⟨?_,λ_ _ _ _=>bm _⟩,λ_=>⟨⟨fr,c,eP⟩,?_⟩⟩
    ·show(ids.map (s.nP ids))[k]? ≠none
     simp[eZ]
    ·show(ids[k]?).bind β=β id
     rw[eZ];rfl
   ·cases hr
  ·cases hr
theorem PC(ids:List Id)(hn:ids.Nodup)(h:lO (s.env w g β)):lO ((oL (ids.map (s.nP ids))).env w (λb=>nS ids (g b)) (wY β ids)):=by
 intro id ver fr c eZ
 have eZ:(oL (ids.map (s.nP ids))).dx id=some (.obj ver fr c):=eZ
 cases id with
 |new i j=>simp[oL,AS.dx]at eZ
 |ew k=>
  simp only[oL,AS.dx,jY,iG]at eZ
  obtain⟨id1,hk,he⟩:=eZ
  unfold AS.nP at he
  split at he
  ·rename_i v fr1 c1 eP
   simp only[gU.obj.injEq]at he
   obtain⟨rfl,rfl,rfl⟩:=he
   refine ub (Qt ids) (h id1 v fr1 c1 eP) (by show(ids[k]?).bind β=β id1;rw[hk];rfl) λpl hp=>⟨rfl,λn hg=> ?_,λhg=> ?_⟩
   ·have hg:g pl.b= .own (.id id1) n:=hg
    show nS ids (g pl.b)=_
    rw[hg]
    simp[nS,tj hn hk]
   ·have hg:g pl.b= .free:=hg
    show nS ids (g pl.b)=_
    rw[hg];rfl
  ·cases he
theorem BS(h:Inv C g β s a w){ids:List Id}(hn:ids.Nodup)(hp:∀id∈ids,∃r,s.obj id=some r)(DL:∀id∈ids,s.Cx id=true){G:aZ}{t:Nat}(hl:G.ez.length=ids.length)(hv:G.news=[]\/s.gd t=true){v:Value}{w':World}
  (ha:vH ((oL (ids.map (s.nP ids))).env w (λb=>nS ids (g b)) (wY β ids)) G v w'):
  ∃g' β',Inv C g' β' (AS.lj s ids t (s.made ids t G.news) ids G.ez) a w'/\VS ((AS.lj s ids t (s.made ids t G.news) ids G.ez).env w' g' β') (G.val.mg (s.qN ids t)) v:=by
 obtain⟨g1,β1,sI,Qo,I6,hle⟩:=ha
 have I6:Trans w w' (λb=>nS ids (g b)) g1:=I6
 obtain⟨m1,m2⟩:=GS s ids t G.news hv
 have V6:∀id∈ids,s.dx id≠none:=λid eZ=>by
  obtain⟨⟨v,fr,c⟩,hr⟩:=hp id eZ
  rw[gC hr];simp
 have uV:∀id,s.dx id≠none->G.news=[]\/∀j,id≠ .new t j:=λid eZ=>by
  rcases hv with hv | hv
  ·exact .inl hv
  ·exact .inr λj e=>eZ (by rw[e];exact(lH hv).1 j)
 obtain⟨n1,n2⟩:=vV s ids t ids G.ez (s.made ids t G.news) hn hl (λid eZ=>by rw[m1 id (uV id (V6 id eZ))];exact V6 id eZ)
 have Ul:∀j,G.news≠ []->Id.new t j ∉ ids:=λj lh eZ=>by
  rcases hv with hv | hv
  ·exact lh hv
  ·exact V6 _ eZ ((lH hv).1 j)
 generalize DN:AS.lj s ids t (s.made ids t G.news) ids G.ez=s2 at*
 have hgO:∀(k:Nat) (id:Id),ids[k]? =some id->∃e,G.ez[k]? =some e/\s2.dx id=some (s.pv ids t (s.tA id) e):=λk id hk=>by
  have mw:k < G.ez.length:=by rw[hl];exact(fE.1 hk).1
  exact⟨_,dB mw,n2 k id _ hk (dB mw)⟩
 have hgN:G.news≠ []->∀j,s2.dx (.new t j)=(G.news[j]?).map (s.pv ids t 0):=λlh j=>by
  rw[n1 _ (Ul j lh),m2 lh j]
 have hgS:∀id,id ∉ ids->(G.news=[]\/∀j,id≠ .new t j)->s2.dx id=s.dx id:=λid h1 h2=>by
  rw[n1 id h1,m1 id h2]
 have hverOf:∀id∈ids,∃fr c,s.dx id=some (.obj (s.tA id) fr c):=λid eZ=>by
  obtain⟨⟨v,fr,c⟩,hr⟩:=hp id eZ
  refine⟨fr,c,?_⟩
  rw[gC hr]
  simp[AS.tA,hr]
 have Vz:∀b n,b < w.heap.size->g1 b= .own .iR n->(g b= .own .iR n\/∃i,g b= .own (.id i) n/\idxOf i ids=none):=λb n hb hg=>by
  have h1:=I6.K6 b hb
  cases Ck:g b with
  |free=>simp only[Ck,nS]at h1;rw[h1.1]at hg;cases hg
  |own o k=>cases o with
   |iR=>simp only[Ck,nS]at h1;rw[h1.1]at hg;left;exact hg
   |id i=>
    cases hi:idxOf i ids with
    |none=>
     simp only[Ck,nS,hi]at h1
     rw[h1.1]at hg
     simp only[od.own.injEq,true_and]at hg
     subst hg
     exact .inr ⟨i,rfl,hi⟩
    |some k'=>
     simp only[Ck,nS,hi]at h1
     rcases h1.1 with h2 | ⟨_,_,h2,_⟩ <;> (rw[h2]at hg;cases hg)
 let g2:Nat->od:=λb=>nw g w.heap.size ids t b (g1 b)
 let β2:Id->Option Pl:=rr β β1 ids t (!G.news.isEmpty)
 have hβO:∀k id,ids[k]? =some id->β2 id=β1 (.ew k):=λk id hk=>by
  show rr _ _ _ _ _ id=_
  simp[rr,tj hn hk]
 have hβN:G.news≠ []->∀j,β2 (.new t j)=β1 (.new 0 j):=λlh j=>by
  show rr _ _ _ _ _ _=_
  have:idxOf (.new t j) ids=none:=by
   cases hi:idxOf (.new t j) ids with
   |none=>rfl
   |some k=>exact absurd (eQ (pA hi)) (Ul j lh)
  have hne':G.news.isEmpty=false:=by cases hh:G.news with
   |nil=>exact absurd hh lh
   |cons _ _=>rfl
  simp[rr,this,hne']
 have hβS:∀id,id ∉ ids->(G.news=[]\/∀j,id≠ .new t j)->β2 id=β id:=λid h1 h2=>by
  show rr _ _ _ _ _ _=_
  have:idxOf id ids=none:=by
   cases hi:idxOf id ids with
   |none=>rfl
   |some k=>exact absurd (eQ (pA hi)) h1
  cases id with
  |ew k=>simp[rr,this]
  |new i j=>
   have:¬(i=t/\(!G.news.isEmpty)=true):=by
    rintro⟨rfl,h3⟩
    rcases h2 with h2 | h2
    ·rw[h2]at h3;cases h3
    ·exact h2 j rfl
   simp only[rr, *,if_false]
 have Ug:Trans w w' g g2:=by
  refine⟨I6.os,I6.tape,I6.output,I6.size,λb hb=> ?_⟩
  have h1:=I6.K6 b hb
  show match g b with | .free=>nw g w.heap.size ids t b (g1 b)= .free/\_ | .own .iR k=>nw g w.heap.size ids t b (g1 b)= .own .iR k/\_ | .own (.id _) k=>(nw g w.heap.size ids t b (g1 b)= .free\/∃i k',nw g w.heap.size ids t b (g1 b)= .own (.id i) k'/\k<=k')/\_
  cases Ck:g b with
  |free=>simp only[Ck,nS]at h1 ⊢;rw[h1.1];exact⟨rfl,h1.2⟩
  |own o k=>cases o with
   |iR=>simp only[Ck,nS]at h1 ⊢;rw[h1.1];simp only[nw,hb,if_true,Ck];exact⟨trivial,h1.2⟩
   |id i=>
    cases hi:idxOf i ids with
    |none=>
     simp only[Ck,nS,hi]at h1 ⊢
     rw[h1.1]
     simp only[nw,hb,if_true,Ck]
     exact⟨.inr ⟨i,k,rfl,aC _⟩,λoff v _ hv=>by simpa only[World.cell?,h1.2]using hv⟩
    |some k'=>
     simp only[Ck,nS,hi]at h1 ⊢
     refine⟨?_,h1.2⟩
     rcases h1.1 with h2 | ⟨i',k'',h2,h3⟩
     ·rw[h2];exact .inl rfl
     ·rw[h2];exact .inr ⟨_,k'',rfl,h3⟩
 have tM:qZ (G.st.env w' g1 β1) (s2.env w' g2 β2):=by
  refine⟨λb off v ⟨h1,h2⟩=> ?_,λb ob h1 h2=>⟨by show nw g w.heap.size ids t b (g1 b)= .free;have h1:g1 b= .free:=h1;rw[h1];rfl,h2⟩⟩
  refine⟨h1,?_⟩
  have h2:rq g1 b off:=h2
  show rq g2 b off
  unfold rq at h2 ⊢
  show match nw g w.heap.size ids t b (g1 b) with | .free=>True | .own _ k=>off < k
  cases Ck:g1 b with
  |free=>simp[nw]
  |own o k=>
   rw[Ck]at h2
   cases o with
   |iR=>
    simp only[nw]
    by_cases hb:b < w.heap.size
    ·rw[if_pos hb]
     rcases Vz b k hb Ck with h3 | ⟨i,h3,_⟩ <;> (rw[h3];exact h2)
    ·rw[if_neg hb];exact h2
   |id i=>exact h2
 have hentOut:∀(base:Nat) (e:gU) (ver:Nat) (fr:Bool) (c:aH),s.pv ids t base e= .obj ver fr c->∃v0 c0,e= .obj v0 fr c0/\ver=base+v0/\c=c0.mg (s.qN ids t):=λbase e ver fr c he=>by
  cases e with
  |dead=>cases he
  |obj v0 fr0 c0=>
   simp only[AS.pv,gU.obj.injEq]at he
   obtain⟨rfl,rfl,rfl⟩:=he
   exact⟨v0,c0,rfl,rfl,rfl⟩
 have FE:vk (s.qN ids t) (G.st.env w' g1 β1) (s2.env w' g2 β2):=by
  refine⟨tM,λid ver r hr hb=> ?_⟩
  cases id with
  |ew k=>
   obtain⟨yn,Dv⟩:=hb
   have yn:G.ez[k]? ≠none:=yn
   have hk:k < ids.length:=by
    rcases p9 k ids.length with h' | h'
    ·exact h'
    ·exact absurd (ij (by omega)) yn
   have eZ:ids[k]? =some ids[k]:=dB hk
   simp only[AS.qN,eZ,aE]at hr
   subst hr
   obtain⟨e,yB,Dw⟩:=hgO k _ eZ
   refine⟨⟨by show s2.dx _≠none;rw[Dw];simp,λv fr c hh=> ?_⟩,λ⟨fr,c,hh⟩=>⟨?_,hβO k _ eZ⟩⟩
   ·have hh:s2.dx ids[k]=some (.obj v fr c):=hh
    rw[Dw,aE]at hh
    obtain⟨v0,c0,rfl,rfl,_⟩:=hentOut _ _ _ _ _ hh
    have:=Dv v0 fr c0 yB
    omega
   ·have hh:s2.dx ids[k]=some (.obj (s.tA ids[k]+ver) fr c):=hh
    rw[Dw,aE]at hh
    obtain⟨v0,c0,rfl,Qq,_⟩:=hentOut _ _ _ _ _ hh
    obtain rfl:ver=v0:=by omega
    exact⟨fr,c0,yB⟩
  |new i j=>
   simp only[AS.qN,aE]at hr
   subst hr
   obtain⟨yn,Dv⟩:=hb
   have yn:([G.news].getD i [])[j]? ≠none:=yn
   have Dv:∀v fr c,([G.news].getD i [])[j]? =some (.obj v fr c)->ver<=v:=Dv
   cases i with
   |succ i=>simp at yn
   |zero=>
    simp only[mh]at yn Dv
    have lh:G.news≠ []:=λe=>by rw[e]at yn;simp at yn
    obtain⟨e,he⟩:=Option.ne_none_iff_exists'.1 yn
    have Dw:=hgN lh j
    rw[he,jd]at Dw
    refine⟨⟨by show s2.dx (.new t j)≠none;rw[Dw];simp,λv fr c hh=> ?_⟩,λ⟨fr,c,hh⟩=>⟨?_,hβN lh j⟩⟩
    ·have hh:s2.dx (.new t j)=some (.obj v fr c):=hh
     rw[Dw,aE]at hh
     obtain⟨v0,c0,rfl,rfl,_⟩:=hentOut _ _ _ _ _ hh
     have:=Dv v0 fr c0 he
     simp only
     omega
    ·have hh:s2.dx (.new t j)=some (.obj ver fr c):=hh
     rw[Dw,aE]at hh
     obtain⟨v0,c0,rfl,Qq,_⟩:=hentOut _ _ _ _ _ hh
     obtain rfl:ver=v0:=by omega
     exact⟨fr,c0,he⟩
 have T7:dZ (s.env w g β) (s2.env w' g2 β2):=by
  refine⟨Trans.mem Ug,λid ver hb=> ?_,λid ver hb hc=> ?_⟩
  ·obtain⟨yn,Dv⟩:=hb
   have yn:s.dx id≠none:=yn
   have Dv:∀v fr c,s.dx id=some (.obj v fr c)->ver<=v:=Dv
   by_cases eZ:id∈ids
   ·obtain⟨k,hk⟩:=lK.1 eZ
    obtain⟨e,yB,Dw⟩:=hgO k id hk
    obtain⟨fr1,c1,zM⟩:=hverOf id eZ
    refine⟨by show s2.dx _≠none;rw[Dw];simp,λv fr c hh=> ?_⟩
    have hh:s2.dx id=some (.obj v fr c):=hh
    rw[Dw,aE]at hh
    obtain⟨v0,c0,rfl,rfl,_⟩:=hentOut _ _ _ _ _ hh
    have:=Dv _ _ _ zM
    omega
   ·have:=hgS id eZ (uV id yn)
    exact⟨by show s2.dx _≠none;rw[this];exact yn,λv fr c hh=>Dv v fr c (this.symm.trans hh)⟩
  ·obtain⟨yn,Dv⟩:=hb
   have yn:s.dx id≠none:=yn
   have Dv:∀v fr c,s.dx id=some (.obj v fr c)->ver<=v:=Dv
   obtain⟨fr,c,hh⟩:=hc
   have hh:s2.dx id=some (.obj ver fr c):=hh
   by_cases eZ:id∈ids
   ·obtain⟨k,hk⟩:=lK.1 eZ
    obtain⟨e,yB,Dw⟩:=hgO k id hk
    obtain⟨fr1,c1,zM⟩:=hverOf id eZ
    rw[Dw,aE]at hh
    obtain⟨v0,c0,rfl,Qq,_⟩:=hentOut _ _ _ _ _ hh
    have Uk:=Dv _ _ _ zM
    obtain rfl:v0=0:=by omega
    have hver':ver=s.tA id:=by omega
    refine⟨⟨fr1,c1,by rw[hver'];exact zM⟩,?_⟩
    show β2 id=β id
    rw[hβO k id hk]
    have RK:s.nP ids id= .obj 0 fr1 (c1.mg (s.rY ids)):=by simp[AS.nP,zM]
    have h0:((oL (ids.map (s.nP ids))).env w (λb=>nS ids (g b)) (wY β ids)).w9 (.ew k) 0:=by
     refine⟨?_,λ_ _ _ _=>bm _⟩
     show(ids.map (s.nP ids))[k]? ≠none
     simp[hk]
    have:=(hle.cur (.ew k) 0 h0 ⟨fr,c0,yB⟩).2
    have this:β1 (.ew k)=(ids[k]?).bind β:=this
    rw[this,hk];rfl
   ·have:=hgS id eZ (uV id yn)
    exact⟨⟨fr,c,this.symm.trans hh⟩,hβS id eZ (uV id yn)⟩
 have Ud:lO (s2.env w' g2 β2):=by
  intro id ver fr c hh
  have hh:s2.dx id=some (.obj ver fr c):=hh
  by_cases eZ:id∈ids
  ·obtain⟨k,hk⟩:=lK.1 eZ
   obtain⟨e,yB,Dw⟩:=hgO k id hk
   rw[Dw,aE]at hh
   obtain⟨v0,c0,rfl,_,rfl⟩:=hentOut _ _ _ _ _ hh
   refine ub FE (Qo (.ew k) v0 fr c0 yB) (hβO k id hk) λpl _=>⟨rfl,λn hg=> ?_,λhg=> ?_⟩
   ·have hg:g1 pl.b= .own (.id (.ew k)) n:=hg
    show nw g w.heap.size ids t pl.b (g1 pl.b)=_
    rw[hg]
    simp[nw,Qs,aX,hk]
   ·have hg:g1 pl.b= .free:=hg
    show nw g w.heap.size ids t pl.b (g1 pl.b)=_
    rw[hg];rfl
  ·by_cases lh:G.news≠ []/\∃j,id= .new t j
   ·obtain⟨lh,j,rfl⟩:=lh
    rw[hgN lh j,iG]at hh
    obtain⟨e,he,hh⟩:=hh
    obtain⟨v0,c0,rfl,_,rfl⟩:=hentOut _ _ _ _ _ hh
    refine ub FE (Qo (.new 0 j) v0 fr c0 (by show([G.news].getD 0 [])[j]? =_;simpa using he)) (hβN lh j) λpl _=>⟨rfl,λn hg=> ?_,λhg=> ?_⟩
    ·have hg:g1 pl.b= .own (.id (.new 0 j)) n:=hg
     show nw g w.heap.size ids t pl.b (g1 pl.b)=_
     rw[hg]
     rfl
    ·have hg:g1 pl.b= .free:=hg
     show nw g w.heap.size ids t pl.b (g1 pl.b)=_
     rw[hg];rfl
   ·have Xl:G.news=[]\/∀j,id≠ .new t j:=by
     by_cases hh:G.news=[]
     ·exact .inl hh
     ·exact .inr λj e=>lh ⟨hh,j,e⟩
    rw[hgS id eZ Xl]at hh
    have same:∀id,id ∉ ids->∀ver fr c,s.dx id=some (.obj ver fr c)->∀pl,β id=some pl->w'.heap[pl.b]? =w.heap[pl.b]? /\nw g w.heap.size ids t pl.b (g1 pl.b)=g pl.b:=by
     intro id eZ ver fr c hh pl wR
     obtain⟨hb,T6⟩:=(h.da id ver fr c hh).label (pl:=pl) wR
     have hb:pl.b < w.heap.size:=hb
     have h1:=I6.K6 pl.b hb
     have TZ:idxOf id ids=none:=by
      cases hi:idxOf id ids with
      |none=>rfl
      |some k=>exact absurd (eQ (pA hi)) eZ
     rcases T6 with⟨k,hk⟩ | ⟨_,hk⟩
     ·have hk:g pl.b= .own (.id id) k:=hk
      simp only[hk,nS,TZ]at h1
      rw[h1.1]
      simp only[nw,hb,if_true]
      exact⟨h1.2,trivial⟩
     ·have hk:g pl.b= .free:=hk
      simp only[hk,nS]at h1
      rw[h1.1,hk]
      exact⟨h1.2,rfl⟩
    have ho:=h.da id ver fr c hh
    refine ho.mono T7 (hβS id eZ Xl) (λpl wR=>same id eZ ver fr c hh pl wR) λq2 vq k2 v2 l2 Bj _=> ?_
    have Bj:s.dx q2=some (.obj vq true (.mp k2 v2 l2)):=Bj
    have Ql:q2 ∉ ids:=λhm=>by
     have:=DL q2 hm
     have e:s.obj q2=some (vq,true,.mp k2 v2 l2):=by simp[AS.obj,Bj]
     unfold AS.Cx at this
     rw[e]at this
     cases this
    refine⟨⟨k2,v2,l2,?_⟩,λpl wR=>same q2 Ql vq true _ Bj pl wR⟩
    show s2.dx q2=_
    rw[hgS q2 Ql (uV q2 (by rw[Bj];simp))]
    exact Bj
 have Kf:s2.dU=s.dU:=by rw[<-DN,tX,De]
 exact⟨g2,β2,h.step Kf Ug T7 Ud,BN FE sI⟩
end
end Go.Ab
namespace Go.Ab
theorem rz(s:AS):∀(n:Nat) (todo acc:List Id),acc.Nodup->(s.reach n todo acc).Nodup
 | 0,_,acc,h=>by simpa[AS.reach]using h
 |_+1,[],acc,h=>by simpa[AS.reach]using h
 |n+1,id::todo,acc,h=>by
  rw[AS.reach]
  split
  ·exact rz s n todo acc h
  ·rename_i hc
   refine rz s n _ _ ?_
   rw[List.nodup_append]
   refine⟨h,by simp,λx hx y hy e=> ?_⟩
   simp only[aR]at hy
   subst hy e
   exact hc (by simpa using hx)
theorem He(s:AS)(vs:List aH):(s.Kp vs).Nodup:=rz s _ _ _ (by simp)
section
variable {P:Program} {C:Ctx} {g:Nat->od} {β:Id->Option Pl} {s:AS} {a:Act} {w:World} {o:Oper}
theorem IU(h:Inv C g β s a w){f:FuncId}{en:Entry}(hd:qv P f en){ids:List Id}(hn:ids.Nodup){vs:List aH}{ys:List Value}(hv:yl (s.env w g β) vs ys)
  (hr:(execOp a.eval o).run P w=(callFunc f ys.toArray).run P w) {s':AS} (he:(s.enter en o.dst ids vs).eval=some s'):iY P o a w (kL C s'):=by
 unfold AS.enter at he
 obtain⟨zK,he⟩:=aL.1 he
 obtain⟨x,hx,he⟩:=B5.1 he
 obtain⟨x0,Um,he⟩:=av.1 he
 rw[en.Oq _ _ Um]at he
 have hp:∀id∈ids,∃r,s.obj id=some r:=λid eZ=>by
  have:=fy.1 zK id eZ
  rw[ak]at this
  exact dj.1 this.1
 have DL:∀id∈ids,s.Cx id=true:=λid eZ=>by
  have:=fy.1 zK id eZ
  rw[ak]at this
  exact this.2
 have X7:=hd w (λb=>nS ids (g b)) (wY β ids) (vs.map (aH.mg (s.rY ids))) (ids.map (s.nP ids)) ys x (yl.mg (Qt ids) hv) (PC ids hn h.da) hx
 have key:∀v w',vH ((oL (ids.map (s.nP ids))).env w (λb=>nS ids (g b)) (wY β ids)) (en.out (vs.map (aH.mg (s.rY ids))) (ids.map (s.nP ids)) x) v w'->kL C s' (a.put o.dst v) w':=by
  intro v w' ha
  unfold AS.back at he
  cases TO:o.dst with
  |some t=>
   rw[TO]at he
   obtain⟨hg,he⟩:=aL.1 he
   obtain rfl:=aB.1 he
   simp only[ak,beq_iff_eq,j9]at hg
   obtain⟨hl,hg⟩:=hg
   have Wn:(en.out (vs.map (aH.mg (s.rY ids))) (ids.map (s.nP ids)) x).news=[]\/s.gd t=true:=by
    rcases hg with hg | hg
    ·exact .inl (by simpa using hg)
    ·exact .inr hg
   obtain⟨g2,β2,h1,h2⟩:=BS h hn hp DL hl Wn ha
   exact⟨g2,β2,h1.put (some t) h2⟩
  |none=>
   rw[TO]at he
   obtain⟨hg,he⟩:=aL.1 he
   obtain rfl:=aB.1 he
   simp only[ak,beq_iff_eq]at hg
   obtain⟨hl,hg⟩:=hg
   have uV:(en.out (vs.map (aH.mg (s.rY ids))) (ids.map (s.nP ids)) x).news=[]:=by simpa using hg
   obtain⟨g2,β2,h1,_⟩:=BS (t:=0) h hn hp DL hl (.inl uV) ha
   rw[uV]at h1
   exact⟨g2,β2,h1⟩
 rcases X7 with⟨RF,hc⟩ | ⟨v,w',YI,ha⟩
 ·exact .inr (.inr ⟨f,ys.toArray,w,hr.trans RF,hc.mono λe w' ⟨v,he,ha⟩=>⟨v,he,key v w' ha⟩⟩)
 ·exact .inl ⟨v,w',hr.trans YI,key v w' ha⟩
theorem Lc(h:Inv C g β s a w){c:Call}{F:Operand}{f:FuncId}{caps:aH}{en:Entry}(ho:o.op= .call c)(hc:c.callee= .value F)(hF:s.ev F= .fn f caps)(hd:qv P f en){s':AS}
  (he:(s.call en o.dst (c.args.toList.map s.ev++caps.list)).eval=some s'):iY P o a w (kL C s'):=by
 obtain⟨cal,args,tys⟩:=c
 simp only at hc he
 subst hc
 obtain⟨vs,hy,Wl⟩:=M5 (hF▸h.ev F)
 have Na:=(h.W1 args.toList).append (MB Wl)
 have hr:(execOp a.eval o).run P w=(callFunc f (args.toList.map a.eval++vs).toArray).run P w:=by
  have e1:execOp a.eval o=(do let d <-resolve a.eval {callee:= .value F,args,argTypes:=tys} o.type;invoke d.target d.args):=by simp only[execOp,ho]
  rw[e1]
  simp only[resolve,hy,Deferred.ofValue,Sem.run_bind,Sem.run_pure,Result.andThen_ok,invoke]
  congr 2
  simp
 unfold AS.call at he
 obtain⟨r,h1,h2⟩:=av.1 he
 obtain⟨g',i1,e1,_,f1⟩:=kc r.2 h
 exact IU i1 hd (He _ _) (BY rfl h.da e1 _ _ _ r Na h1 f1) hr h2
end
end Go.Ab
namespace Go.Ab
section
variable {P:Program} {C:Ctx} {g:Nat->od} {β:Id->Option Pl} {s:AS} {a:Act} {w:World} {o:Oper}
theorem mR{b:Builtin}{args:Array Operand}{ts:Array TypeId}{F:TypeId->Array Value->Sem Value}{x:Value}{w':World}{s':AS}(ho:o.op= .call {callee:= .builtin b,args,argTypes:=ts})
  (hb:∀ty cs xs,builtin b ts ty cs xs=(do pure (.value (<-F ty xs)))) (hf:∀ty,(F ty (args.map a.eval)).run P w= .ok x w') (h2:∃g' β',Inv C g' β' s' (a.put o.dst x) w'):iY P o a w (kL C s'):=by
 refine .inl ⟨x,w',?_,h2⟩
 simp only[execOp,ho,resolve,Sem.run_bind,Sem.run_pure,Result.andThen_ok,invoke]
 rw[hb,Sem.run_bind,hf]
 rfl
theorem IP(h:Inv C g β s a w){src dst:TypeId}{x:Operand}(ho:o.op= .convert src dst x){id:Id}{ver:Nat}(hx:s.ev x= .ptr id ver [] 0){v:aH}(he:(Et P s src dst id ver).eval=some v):iY P o a w (kL C (s.put o.dst v)):=by
 have hv:=h.ev x
 rw[hx]at hv
 obtain⟨ad,hy,hb,hc⟩:=qM hv
 have fin:v= .ptr id ver [] 0->(convert src dst (a.eval x)).run P w= .ok (a.eval x) w->iY P o a w (kL C (s.put o.dst v)):=by
  intro h1 h2
  subst h1
  exact h.value hv (fS (f:=convert src dst (a.eval x)) (by simp only[execOp,ho]) h2)
 unfold Et at he
 split at he
 ·rename_i v0 fr e c nc
  have eP:=gC nc
  obtain⟨pl',cur,e',hp',hh,hg,hk,hV⟩:=(h.da id v0 fr _ eP).box rfl
  have hk:e'=e:=hk
  subst hk
  have hV:V (s.env w g β) c (cur.toList.take cur.size):=hV
  rw[<-eg,cz]at hV
  have hh:w.heap[pl'.b]? =some (.cells cur e' (0,0)):=hh
  have rM:=hV.size
  have rM:cur.toList.length=c.size:=rM
  have I4:w.shape? pl'.b=some (e',c.size):=by simp only[World.shape?,hh];rw[<-rM];simp
  have hp':β id=some pl':=hp'
  split at he
  ·rename_i t hS hD
   obtain⟨h1,h2⟩:=aL.1 he
   have h2:=aB.1 h2
   simp only[ak,beq_iff_eq,dI,beq_eq_false_iff_ne]at h1
   obtain⟨⟨rfl,h3⟩,h4⟩:=h1
   obtain⟨pl,hp,rfl⟩:=hc ⟨fr,_,eP⟩
   have hp:β id=some pl:=hp
   rw[hp']at hp
   obtain rfl:pl'=pl:=by simpa using hp
   refine fin h2.symm ?_
   rw[hy]
   cases hi:P.info? t with
   |none=>exact absurd (by simp[Program.cellsOf,hi]) h3
   |some j=>
    have hj:j.size≠0:=by rw[<-mS hi]at*;exact h3
    exact Go.Lib.run_to_unsafe w _ hS hD hi hj I4 (by show 0 < c.size;omega)
  ·rename_i u hS hD
   obtain⟨h1,h2⟩:=aL.1 he
   have h2:=aB.1 h2
   simp only[ak,beq_iff_eq,dI,beq_eq_false_iff_ne]at h1
   obtain⟨⟨rfl,h3⟩,h4⟩:=h1
   obtain⟨pl,hp,rfl⟩:=hc ⟨fr,_,eP⟩
   have hp:β id=some pl:=hp
   rw[hp']at hp
   obtain rfl:pl'=pl:=by simpa using hp
   refine fin h2.symm ?_
   rw[hy]
   cases hi:P.info? u with
   |none=>exact absurd (by simp[Program.cellsOf,hi]) h3
   |some j=>exact Go.Lib.run_from_unsafe w _ hS hD hi I4 h4
  ·simp only[al]at he
 ·simp only[al]at he
theorem M0(h:Inv C g β s a w){T U:TypeId}{op:BinOp}{x y:Operand}(ho:o.op= .binOp op T x y U){i j:Id}{v1 v2:Nat}(hx:s.ev x= .ptr i v1 [] 0)(hy:s.ev y= .ptr j v2 [] 0){v:aH}(he:(SP P s T op i v1 j v2).eval=some v):
  iY P o a w (kL C (s.put o.dst v)):=by
 unfold SP at he
 split at he
 ·rename_i v' fr c nc
  obtain⟨h1,h2⟩:=aL.1 he
  simp only[ak,beq_iff_eq,decide_eq_true_eq]at h1
  obtain⟨⟨⟨rfl,rfl⟩,rfl⟩,Px⟩:=h1
  have eP:=gC nc
  have Co:=h.ev x
  have Qr:=h.ev y
  rw[hx]at Co
  rw[hy]at Qr
  obtain⟨ad,TE,_,hc⟩:=qM Co
  obtain⟨ad',TF,_,hc'⟩:=qM Qr
  obtain⟨pl,hp,rfl⟩:=hc ⟨fr,c,eP⟩
  obtain⟨pl',hp',rfl⟩:=hc' ⟨fr,c,eP⟩
  rw[hp]at hp'
  obtain rfl:pl=pl':=by simpa using hp'
  have hT:∃t j,P.underlying T=some (.pointer t)/\P.info? t=some j:=by
   unfold Uz at Px
   split at Px
   ·rename_i t ht
    obtain⟨j,hj⟩:=dj.1 Px
    exact⟨t,j,ht,hj⟩
   ·cases Px
  obtain⟨t,j,hT,hj⟩:=hT
  have hq:(Op.equal T (.pointer (some ⟨pl.b,0,none⟩)) (.pointer (some ⟨pl.b,0,none⟩))).run P w= .ok true w:=
   jy λd=>by simp[Op.equalIn,run_underlying hT,sizeOf,typeInfo,hj,run_sameAddr_same]
  have Yb:(eqGuard op T x y (a.eval x) (a.eval y)).run P w= .ok () w:=by rw[TE,TF];exact nm (by simp) rfl
  have fin:∀z,(binOp op T (a.eval x) (a.eval y)).run P w= .ok z w->VS (s.env w g β) v z->iY P o a w (kL C (s.put o.dst v)):=by
   intro z h1 h3
   refine h.value h3 ?_
   simp[execOp,ho,h1,Yb]
  split at h2
  ·obtain rfl:=aB.1 h2
   refine fin (.bool true) ?_ (r9 true)
   rw[TE,TF]
   simp[binOp,hq]
  ·obtain rfl:=aB.1 h2
   refine fin (.bool false) ?_ (r9 false)
   rw[TE,TF]
   simp[binOp,hq]
  ·simp only[al]at h2
 ·simp only[al]at he
theorem Qc{c:Call}{b:Builtin}{x:Operand}(hc:c.callee= .builtin b)(ha:c.args.toList=[x]):c= {callee:= .builtin b,args:= #[x],argTypes:=c.argTypes}:=by
 obtain⟨cal,args,tys⟩:=c
 simp only at hc ha
 have ha':args= #[x]:=by apply jW;simpa using ha
 subst hc ha'
 rfl
theorem JU{c:Call}{b:Builtin}{x y:Operand}(hc:c.callee= .builtin b)(ha:c.args.toList=[x,y]):c= {callee:= .builtin b,args:= #[x,y],argTypes:=c.argTypes}:=by
 obtain⟨cal,args,tys⟩:=c
 simp only at hc ha
 have ha':args= #[x,y]:=by apply jW;simpa using ha
 subst hc ha'
 rfl
theorem WU{ts:Array TypeId}{T:TypeId}(h:ts.toList=[T]):ts= #[T]:=by apply jW;simpa using h
theorem SE{ts:Array TypeId}{T U:TypeId}(h:ts.toList=[T,U]):ts= #[T,U]:=by apply jW;simpa using h
theorem MP(h:Inv C g β s a w){c:Call}{x:Operand}{T e:TypeId}(ho:o.op= .call c)(hc:c.callee= .builtin .cap)(ha:c.args.toList=[x])(ht:c.argTypes.toList=[T])(hx:s.ev x= .eV)(hT:P.underlying T=some (.slice e)):
  iY P o a w (kL C (s.put o.dst (.d (.int .i64) (0:Int)))):=by
 rw[Qc hc ha,WU ht]at ho
 have hv:=h.ev x
 rw[hx]at hv
 have hy:=l5 hv
 refine mR ho (F:=λty xs=>Builtin.cap_ #[T] ty xs) (λty cs xs=>rfl) (x:= .int .i64 0) (w':=w) (λty=> ?_) ⟨g,β,h.put o.dst (mQ _ _)⟩
 simp[Builtin.cap_,run_underlying hT,hy,goInt]
theorem H8(h:Inv C g β s a w){c:Call}{x:Operand}{id:Id}{ver len:Nat}(ho:o.op= .call c)(hc:c.callee= .builtin .unsafeSliceData)(ha:c.args.toList=[x])(hx:s.ev x= .dh id ver [] 0 0 len)(hl:0 < len):
  iY P o a w (kL C (s.put o.dst (.ptr id ver [.idx 0] 0))):=by
 rw[Qc hc ha]at ho
 have hv:=h.ev x
 rw[hx]at hv
 obtain⟨ad,cap,hy,zL,hs,hb,jt⟩:=pf hv
 obtain⟨ad,rfl⟩:=dj.1 (hs hl)
 refine mR ho (F:=λty xs=>Builtin.unsafeSliceData_ c.argTypes ty xs) (λty cs xs=>rfl) (x:= .pointer (some ad)) (w':=w) (λty=> ?_) ⟨g,β,h.put o.dst ?_⟩
 ·rw[show(#[x].map a.eval)= #[a.eval x] by simp,hy]
  exact Go.Lib.run_unsafeSliceData_row w _ _ _ _ _ (by omega)
 ·refine⟨[.pointer (some ad)],?_,rfl⟩
  simp only[V]
  refine⟨ad,rfl,hb,λhc=> ?_⟩
  have h1:=jt hc
  cases hp:(s.env w g β).β id with
  |none=>rw[hp]at h1;simp only at h1;cases h1.1
  |some pl=>
   rw[hp]at h1
   simp only at h1
   exact⟨pl,rfl,by simpa using h1.1 (.inl hl)⟩
theorem Hs(h:Inv C g β s a w){c:Call}{mx:Bool}(ho:o.op= .call c)(hc:c.callee= .builtin (if mx then .max else .min)){v:aH}(he:(LL mx (c.args.toList.map s.ev)).eval=some v):iY P o a w (kL C (s.put o.dst v)):=by
 unfold LL at he
 split at he
 ·rename_i k x k' y Kg
  obtain⟨h1,h2⟩:=aL.1 he
  obtain rfl:=aB.1 h2
  have h1:k=k':=by simpa using h1
  subst h1
  have Ph:∃p q,c.args.toList=[p,q]/\s.ev p= .d (.int k) x/\s.ev q= .d (.int k) y:=by
   match hh:c.args.toList,Kg with
   |[p,q],Kg=>simp only[cG,jg,iu]at Kg;exact⟨p,q,rfl,Kg.1,Kg.2.1⟩
   |[],Kg=>simp at Kg
   |[_],Kg=>simp at Kg
   |_::_::_::_,Kg=>simp at Kg
  obtain⟨p,q,ha,hp,hq⟩:=Ph
  rw[JU hc ha]at ho
  have U5:=h.ev p
  have Xs:=h.ev q
  rw[hp]at U5
  rw[hq]at Xs
  have ep:=tP U5
  have eq:=tP Xs
  cases mx with
  |true=>
   refine mR ho (F:=λty xs=>Builtin.max_ c.argTypes ty xs) (λty cs xs=>rfl) (x:= .int k (if x < y then y else x)) (w':=w) (λty=> ?_) ⟨g,β,h.put o.dst (mQ _ _)⟩
   rw[show(#[p,q].map a.eval)= #[a.eval p,a.eval q] by simp,ep,eq]
   simp[Builtin.max_,Builtin.max2]
  |false=>
   refine mR ho (F:=λty xs=>Builtin.min_ c.argTypes ty xs) (λty cs xs=>rfl) (x:= .int k (if y < x then y else x)) (w':=w) (λty=> ?_) ⟨g,β,h.put o.dst (mQ _ _)⟩
   rw[show(#[p,q].map a.eval)= #[a.eval p,a.eval q] by simp,ep,eq]
   simp[Builtin.min_,Builtin.min2]
 ·simp only[al]at he
theorem Du(z:Array Value)(n:Nat):Builtin.zeroCells z n=madeCells z (n*z.size):=rfl
theorem Lq(h:Inv C g β s a w){c:Call}{x y:Operand}{T X:TypeId}{k:IntKind}{n:Int}(ho:o.op= .call c)(hc:c.callee= .builtin .append)(ha:c.args.toList=[x,y])(ht:c.argTypes.toList=[T,X])(hx:s.ev x= .eV)(hy:s.ev y= .d (.int k) n){s':AS}
  (he:(G1 P s o.dst T X n).eval=some s'):iY P o a w (kL C s'):=by
 rw[JU hc ha,SE ht]at ho
 have Co:=h.ev x
 have Qr:=h.ev y
 rw[hx]at Co
 rw[hy]at Qr
 have ex:=l5 Co
 have ey:=tP Qr
 unfold G1 at he
 split at he
 ·rename_i e t b q kn xe hd hX
  obtain⟨hT,hz,i,zv,hi,Lw,Po,Iw,Ly⟩:=tJ xe
  obtain⟨hq,h2⟩:=aL.1 he
  obtain⟨h3,h4⟩:=cW.1 h2
  obtain rfl:=aB.1 h4
  simp only[ak,decide_eq_true_eq,fk]at h3
  obtain⟨h5,h7,h8⟩:=h3
  obtain⟨m,rfl⟩:=kR (nY h5)
  simp only[aa]at h7 h8 ⊢
  have S6:zv.cells.size=t.size:=by have:=(Ly (s.env w g β)).size;simpa using this
  have hr:=λty=>Go.Lib.run_append_nil_zeros (P:=P) w T X ty e i zv k kn hT hX hi Iw m (by omega) (by rw[Lw];exact hz) (by omega) (by rw[Po];omega)
  obtain⟨cap,zL⟩:∃cap,grownCap w m 0 e=cap:=⟨_,rfl⟩
  have c1:m<=cap:=by rw[<-zL];exact grownCap_ge _ _ _ _
  have c2:cap<=maxLen:=by rw[<-zL];exact grownCap_le_maxLen _ _ _ _ (by unfold maxLen;omega)
  rw[zL]at hr
  obtain⟨cur,jt⟩:∃cur,Builtin.zeroCells zv.cells m++Builtin.zeroCells zv.cells (cap - m)=cur:=⟨_,rfl⟩
  rw[jt]at hr
  have s1:cur.size=cap*t.size:=by
   rw[<-jt,Array.size_append,s5,s5,S6,<-gN]
   congr 1
   omega
  have zK:=qo (Ly (s.env w.drew g β)) m
  have s2:cur.toList.take (m*t.size)=(madeCells zv.cells (m*t.size)).toList:=by
   rw[<-jt,di,Du,S6]
   have hl:(madeCells zv.cells (m*t.size)).toList.length=m*t.size:=by simp[size_madeCells]
   rw[kJ (by omega),cn (by omega)]
  obtain⟨g2,β2,i2,Dx⟩:=(h.drew).FV hq (e:=e) (l:=List.replicate m t.zero) (cur:=cur) (cap:=cap) hz (by rw[eo,s2];exact zK) s1 (by rw[eo];exact c1) c2
  rw[eo]at Dx
  refine mR ho (F:=λty xs=>Builtin.append_ #[T,X] ty xs) (λty cs xs=>rfl) (λty=> ?_) ⟨g2,β2,i2.put o.dst Dx⟩
  rw[show(#[x,y].map a.eval)= #[a.eval x,a.eval y] by simp,ex,ey]
  exact hr ty
 ·simp only[al]at he
theorem EV:∀(xs:List Int) (a:Addr) (acc:ByteArray),(∀j x,xs[j]? =some x->w.cell? (a.add j)=some (.int .u8 x))->
  (loadBytes a acc xs.length).run P w= .ok ⟨acc.data++(xs.map λn=>UInt8.ofNat n.toNat).toArray⟩ w
 |[],a,acc,_=>by simp[loadBytes]
 |x::l,a,acc,h=>by
  have h0:w.cell? a=some (.int .u8 x):=by
   have:=h 0 x rfl
   simpa[Addr.add]using this
  have ih:=EV l (a.add 1) (acc.push x.toNat.toUInt8) (λj y hy=>by
   have:=h (j+1) y (by simpa using hy)
   have e:(a.add 1).add j=a.add (j+1):=by
    unfold Addr.add
    by_cases hj:j=0
    ·subst hj;simp
    ·simp[hj];omega
   rw[e];exact this)
  simp only[aN,loadBytes,Sem.run_bind,run_load,h0,Result.andThen]
  rw[ih]
  congr 1
  apply ByteArray.ext
  simp[ByteArray.push]
theorem Mg(h:Inv C g β s a w){c:Call}{x y:Operand}{T U:TypeId}{id:Id}{ver:Nat}{n:Int}(ho:o.op= .call c)(hc:c.callee= .builtin .unsafeString)(ha:c.args.toList=[x,y])(ht:c.argTypes.toList=[T,U])
  (hx:s.ev x= .ptr id ver [.idx 0] 0) (hy:s.ev y= .d (.int .i64) n) {s':AS} (he:(Ih P s o.dst T id ver n).eval=some s'):iY P o a w (kL C s'):=by
 rw[JU hc ha,SE ht]at ho
 have Co:=h.ev x
 rw[hx]at Co
 obtain⟨ad,TE,_,X4⟩:=qM Co
 have Qr:=h.ev y
 rw[hy]at Qr
 have TF:=tP Qr
 unfold Ih at he
 split at he
 ·rename_i v e l u nc hT
  obtain⟨h1,h2⟩:=aL.1 he
  obtain⟨h3,h4⟩:=cW.1 h2
  obtain rfl:=aB.1 h4
  simp only[ak,beq_iff_eq]at h1
  obtain⟨⟨rfl,rfl⟩,RD⟩:=h1
  simp only[decide_eq_true_eq]at h3
  obtain⟨h5,h6⟩:=h3
  obtain⟨n,rfl⟩:=kR (nY h5)
  have h6:n<=(l:List Int).length:=by omega
  have eP:=gC nc
  obtain⟨pl,hp,rfl⟩:=X4 ⟨false,_,eP⟩
  have hp:β id=some pl:=hp
  have hO:rI (s.env w g β) id false (.vec u (.int .u8) l):=h.da id v false _ eP
  obtain⟨hz,hO⟩:=hO
  have hO:(match β id with
   |none=>l=[]
   |some pl=>∃cur k,w.heap[pl.b]? =some (.cells cur u (0,0))/\cur.size=pl.cap*(Ty.int .u8).size/\(l:List Int).length<=pl.cap/\pl.cap<=maxLen/\g pl.b= .own (.id id) k/\
     k<=(l:List Int).length*(Ty.int .u8).size/\(false=false->k=0)/\cg (eY (s.env w g β) (.int .u8)) (cur.toList.take ((l:List Int).length*(Ty.int .u8).size)) l):=hO
  rw[hp]at hO
  obtain⟨cur,k,q1,q2,q3,q4,q5,q6,q7,q8⟩:=hO
  have hk:=q7 rfl
  subst hk
  have Nj:(Ty.int .u8).size=1:=rfl
  rw[Nj,kb]at q2 q8
  have Cn:=ra q8
  have I4:w.shape? pl.b=some (u,cur.size):=by simp only[World.shape?,q1]
  have yA:∀j z,((l:List Int).take n)[j]? =some z->w.cell? ((⟨pl.b,0,none⟩:Addr).add j)=some (.int .u8 z):=λj z hj=>by
   rw[fv]at hj
   split at hj
   ·rename_i Zt
    have RN:j < (l:List Int).length:=by omega
    rw[Addr.add_lit,bl]
    simp only[World.cell?,q1]
    have:(cur.toList.take (l:List Int).length)[j]? =some (.int .u8 z):=by rw[Cn,jY,hj];rfl
    rw[fv,if_pos RN]at this
    simpa using this
   ·cases hj
  have hlen:((l:List Int).take n).length=n:=by rw[fO];omega
  have Pr:=EV (P:=P) (w:=w) ((l:List Int).take n) ⟨pl.b,0,none⟩ .empty yA
  rw[hlen]at Pr
  have T8:=Go.Lib.liesAt_bytes (P:=P) (e:=u) (by simpa using RD) (cur.size / P.cellsOf u) n (by
   rw[show P.cellsOf u=1 by simpa using RD,Nat.div_one];omega)
  have TW:∃w',w.freeze ⟨pl.b,0,none⟩ n=w'/\w'.os=w.os/\w'.tape=w.tape/\(w'.output=w.output/\w.drawn<=w'.drawn)/\w'.heap.size=w.heap.size/\∀b',b'≠pl.b->w'.heap[b']? =w.heap[b']? :=by
   refine⟨_,rfl,?_⟩
   unfold World.freeze
   rw[if_neg (by omega)]
   refine⟨rfl,rfl,⟨rfl,aC _⟩,by simp,λb' hb'=> ?_⟩
   simp only[lJ]
   rw[if_neg (λe=>hb' e.symm)]
  obtain⟨w',hw',f1,f2,f3,f4,f5⟩:=TW
  have i1:=h.kill eP q5 f1 f2 f3 f4 f5
  have W4:¬(9223372036854775807:Int) < (n:Int):=by unfold maxLen at q4;omega
  have V2:¬(n:Int) < 0:=by omega
  have RR:n≠0:=by omega
  have VW:IntKind.i64.max=9223372036854775807:=rfl
  refine mR ho (F:=λty xs=>Builtin.unsafeString_ #[T,U] ty xs) (λty cs xs=>rfl) (x:= .string (kC ((l:List Int).take n))) (w':=w') (λty=> ?_) ⟨_,β,i1.put o.dst ⟨[.string (kC ((l:List Int).take n))],by simp only[V,eY];rfl,rfl⟩⟩
  rw[show(#[x,y].map a.eval)= #[a.eval x,a.eval y] by simp,TE,TF]
  have RE:Builtin.unsafeString_ #[T,U] ty #[.pointer (some ⟨pl.b,0,none⟩),.int .i64 n]=
    (do
     let n <-Go.asInt (.int .i64 n)
     if n < 0 then runtimePanic (.error "unsafe.String: len out of range")
     if n > IntKind.i64.max then unsupported (.unsafePointer "String: a length above the largest int")
     if n=0 then pure (.string .empty)
     else if <-variablesAt ⟨pl.b,0,none⟩ (<-elemOf T) n.toNat then do
      let s <-loadBytes ⟨pl.b,0,none⟩ .empty n.toNat
      freeze ⟨pl.b,0,none⟩ n.toNat
      pure (.string s)
     else unsupported (.unsafePointer "String: not so many bytes at ptr")):=rfl
  rw[RE]
  simp[Go.asInt,asIntOf,VW,W4,V2,RR,variablesAt,I4,elemOf,run_underlying hT,T8,Pr,hw',kC]
 ·simp only[al]at he
end
end Go.Ab
namespace Go.Ab
section
variable {P:Program} {C:Ctx} {g:Nat->od} {β:Id->Option Pl} {s:AS} {a:Act} {w:World} {o:Oper}
theorem Hp(h:Inv C g β s a w){c:Call}{T T2:TypeId}{m k:Operand}(fa:o.op= .call c)(hc:c.callee= .builtin .delete)(ha:c.args.toList=[m,k])(ht:c.argTypes.toList=[T,T2]){s':AS}(he:(u5 P s T (s.ev m) (s.ev k)).eval=some s'):iY P o a w (kL C (s'.put o.dst .nil)):=by
 have fa:o.op= .call {callee:= .builtin .delete,args:= #[m,k],argTypes:= #[T,T2]}:=by rw[fa,JU hc ha,SE ht]
 unfold u5 at he
 split at he
 ·rename_i K V' kt vt id ver hm hx
  obtain⟨l,h1,he⟩:=av.1 he
  obtain⟨kx,h2,he⟩:=av.1 he
  obtain⟨R0,he⟩:=aL.1 he
  obtain rfl:=aB.1 he
  obtain⟨hT,hK,_⟩:=tp hm
  have Co:=h.ev m
  rw[hx]at Co
  obtain⟨fr,pl,es,clock,g1,g2,g3,g4,g5,g6,g7,gn⟩:=sw h h1 Co
  obtain⟨l0,g6,gp⟩:=g6
  have xn:=sF depth K kt hK
  have hk:=va (h.ev k) h2
  have Nd:=nN (P:=P) (w:=w) es.isEmpty depth K kt hK 10000 (by decide) _ _ hk
  obtain⟨r,hf,hr⟩:=xJ (P:=P) (w:=w) hK hk g6
  have fin:∀(es':Array MapEntry) (clock':Nat),(∀ty,(Builtin.delete_ #[T,T2] ty (#[m,k].map a.eval)).run P w= .ok (.tuple #[]) {w with heap:=w.heap.setIfInBounds pl.b (.map es' clock')})->Alike (uG (s.env w g β) kt vt) es'.toList (mz kt kx l0)->nJ es'.toList clock'->
    iY P o a w (kL C ((s.bM id (.obj ver false (.mp kt vt (mz kt kx l)))).put o.dst .nil)):=λes' clock' oY Ph TH=>
   mR (F:=λty xs=>Builtin.delete_ #[T,T2] ty xs) fa (λ_ _ _=>rfl) oY ⟨g,β,(h.Oi g1 g2 g4 g5 ⟨_,Ph,CI xn gn gp⟩ (wg xn gn) TH R0).put o.dst rfl⟩
  cases r with
  |none=>
   simp only at hr
   refine fin es clock (λty=> ?_) (by simp only[mz,hr];exact g6) g7
   simp[Builtin.delete_,run_underlying hT,g3,Go.MapKept.run_getObj_map g4,Nd,hf,Go.MapKept.run_setObj_map _ g4]
  |some u=>
   obtain⟨j,u⟩:=u
   obtain⟨e,m1,m2,rfl⟩:=hr
   refine fin (es.eraseIdxIfInBounds j) clock (λty=> ?_) ?_ (by rw[Array.toList_eraseIdxIfInBounds];exact g7.erase j)
   ·simp[Builtin.delete_,run_underlying hT,g3,Go.MapKept.run_getObj_map g4,Nd,hf,Go.MapKept.run_setObj_map _ g4]
   ·simp only[mz,m1,Array.toList_eraseIdxIfInBounds]
    exact g6.erase j
 ·simp only[al]at he
theorem GC{Γ:fD}(hΓ:Sound P Γ){da:List Nat}(h:Inv C g β s a w){s':AS}(he:(oV P Γ da o s).eval=some s'):iY P o a w (kL C s'):=by
 unfold oV at he
 split at he
 ·rename_i x fa
  obtain rfl:=aB.1 he
  exact EJ h (.inl fa)
 ·rename_i x fa
  obtain rfl:=aB.1 he
  exact EJ h (.inr fa)
 ·rename_i c x y fa
  obtain⟨v,h1,h2⟩:=av.1 he
  obtain rfl:=aB.1 h2
  exact LW h fa h1
 ·rename_i T fa
  split at he
  ·rename_i z q hz hq
   obtain⟨h1,h2⟩:=aL.1 he
   obtain rfl:=aB.1 h2
   simp only[ak]at h1
   exact IB h fa h1.1 h1.2
  ·exact(al.1 he).elim
 ·rename_i T x fa
  exact ML h fa he
 ·rename_i T parts fa
  exact IH h fa he
 ·rename_i T n parts fa
  exact Bf h fa he
 ·rename_i T x fa
  obtain⟨v,h1,h2⟩:=av.1 he
  obtain rfl:=aB.1 h2
  exact LH h fa h1
 ·rename_i T x v fa
  obtain⟨v,h1,h2⟩:=av.1 he
  obtain rfl:=aB.1 h2
  exact JC h fa h1
 ·rename_i x fa
  exact D0 h fa he
 ·rename_i op T x y U fa
  split at he
  ·rename_i i v1 j v2 hx hy
   obtain⟨v,h1,h2⟩:=av.1 he
   obtain rfl:=aB.1 h2
   exact M0 h fa hx hy h1
  ·obtain⟨v,h1,h2⟩:=av.1 he
   obtain rfl:=aB.1 h2
   exact IF h fa h1
 ·rename_i op T x fa
  obtain⟨v,h1,h2⟩:=av.1 he
  obtain rfl:=aB.1 h2
  exact Mh h fa h1
 ·rename_i T U x fa
  split at he
  ·rename_i id ver len hTU hx
   exact IN h fa hx he
  ·rename_i id ver hx
   obtain⟨v,h1,h2⟩:=av.1 he
   obtain rfl:=aB.1 h2
   exact IP h fa hx h1
  ·obtain⟨v,h1,h2⟩:=av.1 he
   obtain rfl:=aB.1 h2
   exact Fl h fa h1
 ·rename_i T x fa
  exact JG h fa he
 ·rename_i f first caps fa
  obtain⟨h1,h2⟩:=aL.1 he
  obtain rfl:=aB.1 h2
  simp only[ak]at h1
  exact DS h fa h1.1 h1.2
 ·rename_i T l c fa
  obtain⟨n,h1,h2⟩:=av.1 he
  obtain⟨m,h3,h4⟩:=av.1 h2
  exact CG h fa h1 h3 h4
 ·rename_i T x lo hi fa
  obtain⟨v,h1,h2⟩:=av.1 he
  obtain rfl:=aB.1 h2
  exact Jx h fa h1
 ·rename_i T x f fa
  obtain⟨v,h1,h2⟩:=av.1 he
  obtain rfl:=aB.1 h2
  exact B8 h fa h1
 ·rename_i T x f fa
  obtain⟨v,h1,h2⟩:=av.1 he
  obtain rfl:=aB.1 h2
  exact IX h fa h1
 ·rename_i T x i fa
  obtain⟨n,h0,he⟩:=av.1 he
  obtain⟨v,h1,h2⟩:=av.1 he
  obtain rfl:=aB.1 h2
  exact Cs h fa h0 h1
 ·rename_i T x i fa
  obtain⟨n,h0,he⟩:=av.1 he
  obtain⟨v,h1,h2⟩:=av.1 he
  obtain rfl:=aB.1 h2
  exact I9 h fa h0 h1
 ·rename_i x i fa
  obtain⟨v,h1,h2⟩:=av.1 he
  obtain rfl:=aB.1 h2
  exact Ft h fa h1
 ·rename_i T fa
  exact FQ h fa he
 ·rename_i T x i ok fa
  obtain⟨v,h1,h2⟩:=av.1 he
  obtain rfl:=aB.1 h2
  exact Hk h fa h1
 ·rename_i T m k x fa
  obtain⟨s1,h1,h2⟩:=av.1 he
  obtain rfl:=aB.1 h2
  exact Hr h fa h1
 ·rename_i c fa
  split at he
  ·rename_i hc
   split at he
   ·rename_i m k T T2 ha ht
    obtain⟨s1,h1,h2⟩:=av.1 he
    obtain rfl:=aB.1 h2
    exact Hp h fa hc ha ht h1
   ·exact(al.1 he).elim
  ·rename_i hc
   split at he
   ·rename_i x y T X ha ht
    exact Lj h fa hc ha ht he
   ·exact(al.1 he).elim
  ·rename_i hc
   split at he
   ·rename_i x T ha ht
    obtain⟨v,h1,h2⟩:=av.1 he
    obtain rfl:=aB.1 h2
    exact Nx h fa hc ha ht h1
   ·exact(al.1 he).elim
  ·rename_i hc
   split at he
   ·rename_i x y T X ha ht
    split at he
    ·rename_i k n hx hy
     exact Lq h fa hc ha ht hx hy he
    ·exact GD h fa hc ha ht he
   ·exact(al.1 he).elim
  ·rename_i hc
   split at he
   ·rename_i x T ha ht
    split at he
    ·rename_i e hx hT
     obtain rfl:=aB.1 he
     exact MP h fa hc ha ht hx hT
    ·exact(al.1 he).elim
   ·exact(al.1 he).elim
  ·rename_i hc
   obtain⟨v,h1,h2⟩:=av.1 he
   obtain rfl:=aB.1 h2
   exact Hs (mx:=true) h fa hc h1
  ·rename_i hc
   obtain⟨v,h1,h2⟩:=av.1 he
   obtain rfl:=aB.1 h2
   exact Hs (mx:=false) h fa hc h1
  ·rename_i hc
   split at he
   ·rename_i x ha
    split at he
    ·rename_i id ver len hx
     obtain⟨h1,h2⟩:=cW.1 he
     obtain rfl:=aB.1 h2
     exact H8 h fa hc ha hx (by simpa using h1)
    ·exact(al.1 he).elim
   ·exact(al.1 he).elim
  ·rename_i hc
   split at he
   ·rename_i x y T U ha ht
    split at he
    ·rename_i id ver n hx hy
     exact Mg h fa hc ha ht hx hy he
    ·exact(al.1 he).elim
   ·exact(al.1 he).elim
  ·rename_i F hc
   split at he
   ·rename_i f caps hF
    split at he
    ·rename_i en RF
     exact Lc h fa hc hF (hΓ f _ en RF) he
    ·exact(al.1 he).elim
   ·exact(al.1 he).elim
  ·exact(al.1 he).elim
 ·exact(al.1 he).elim
end
end Go.Ab
namespace Go.Ab
def oU(P:Program)(ops:Array Oper)(o:Oper)(a:Act)(w:World)(K:Act->World->Prop):Prop:=
 if Region.wanted o (yielded ops a.tmps) then iY P o a w K else K (a.put o.dst undef) w
theorem oU.mono{P:Program}{ops:Array Oper}{o:Oper}{a:Act}{w:World}{K K':Act->World->Prop}(h:oU P ops o a w K)(hk:∀a w,K a w->K' a w):oU P ops o a w K':=by
 unfold oU at*
 split
 ·rename_i hw;rw[if_pos hw]at h;exact h.mono hk
 ·rename_i hw;rw[if_neg hw]at h;exact hk _ _ h
theorem iY.some{P:Program}{o:Oper}{a:Act}{w:World}{K:Act->World->Prop}(h:iY P o a w K):∃a' w',K a' w':=by
 rcases h with⟨x,w',_,h⟩ | ⟨w',_,h⟩ | ⟨f,args,w',_,h⟩
 ·exact⟨_,_,h⟩
 ·exact⟨_,_,h⟩
 ·obtain⟨e,w'',_,⟨x,_,hx⟩,_⟩:=h []
  exact⟨_,_,hx⟩
theorem oU.some{P:Program}{ops:Array Oper}{o:Oper}{a:Act}{w:World}{K:Act->World->Prop}(h:oU P ops o a w K):∃a' w',K a' w':=by
 unfold oU at h
 split at h
 ·exact h.some
 ·exact⟨_,_,h⟩
theorem oU.wpList{P:Program}{ops:Array Oper}{o:Oper}{a:Act}{w:World}{Q:Exit->Act->World->Prop}{l:List Oper}(h:oU P ops o a w (wpList P ops Q l)):Go.wpList P ops Q (o::l) a w:=by
 unfold oU at h
 unfold Go.wpList
 split
 ·rename_i hw;rw[if_pos hw]at h;exact .inl h.wp
 ·rename_i hw;rw[if_neg hw]at h;exact h
theorem oU.wpOp{P:Program}{ops:Array Oper}{o:Oper}{i:Nat}{a:Act}{w:World}{Q:Exit->Act->World->Prop}{K:Act->World->Prop}(ho:ops[i]? =Option.some o)(h:oU P ops o a w K):Go.wpOp P ops Q i K a w:=by
 unfold oU at h
 unfold Go.wpOp
 simp only[ho]
 split
 ·rename_i hw;rw[if_pos hw]at h;exact .inl h.wp
 ·rename_i hw;rw[if_neg hw]at h;exact h
theorem N2{s:AS}{q:Nat}{v:aH}(h:s.slot q=v)(hq:q < s.dU.length):s.put (some q) v=s:=by
 have hv:s.dU[q]=v:=by simpa[AS.slot,aX,hq]using h
 simp only[AS.put]
 rw[<-hv,gr]
theorem KJ{s:AS}{q:Nat}{t:Ty}{x:t.den}(h:s.slot q= .d t x):q < s.dU.length:=by
 rcases p9 q s.dU.length with h' | h'
 ·exact h'
 ·simp[AS.slot,aX,ij h']at h
def xd(P:Program)(Γ:fD)(da:List Nat)(ops:Array Oper)(o:Oper)(s:AS):Option AS:=
 match o.guard with
 |none=>(oV P Γ da o s).eval
 |some (j,want)=>match(ops[j]?).bind (·.dst) with
  |some q=>match s.slot q with
   | .d .bool b=>if b=want then(oV P Γ da o s).eval else some (s.put o.dst .nil)
   | .nil=>some (s.put o.dst .nil)
   |_=>none
  |none=>none
theorem G0{R:Type}{P:Program}{Γ:fD}{da:List Nat}{ops:Array Oper}{o:Oper}{s:AS}{k:AS->Option R}{r:R}(h:Rv P Γ da ops o s k=some r):∃s',xd P Γ da ops o s=some s'/\k s'=some r:=by
 unfold Rv at h
 unfold xd
 split at h
 ·rename_i hg
  simp only[hg]
  exact mB.1 h
 ·rename_i j want hg
  simp only[hg]
  split at h
  ·rename_i q hq
   simp only[hq]
   split at h
   ·rename_i b hb
    have e:=N2 hb (KJ hb)
    simp only[hb]
    cases want <;> cases b <;> simp only[aJ]at h <;> rw[e]at h
    ·obtain⟨s',h1,h2⟩:=mB.1 h
     exact⟨s',by simpa using h1,h2⟩
    ·exact⟨_,by simp,h⟩
    ·exact⟨_,by simp,h⟩
    ·obtain⟨s',h1,h2⟩:=mB.1 h
     exact⟨s',by simpa using h1,h2⟩
   ·rename_i hb
    simp only[hb]
    exact⟨_,rfl,h⟩
   ·cases h
  ·cases h
section
variable {P:Program} {C:Ctx} {g:Nat->od} {β:Id->Option Pl} {s:AS} {a:Act} {w:World} {o:Oper}
theorem JN(h:Inv C g β s a w){ops:Array Oper}{j q:Nat}{b:Bool}(hq:(ops[j]?).bind (·.dst)=some q)(hb:s.slot q= .d .bool b):yielded ops a.tmps j=some b:=by
 have hv:=h.dU q
 rw[hb]at hv
 have hv:=Bp hv
 have hl:=KJ hb
 rw[<-h.size]at hl
 unfold yielded
 rw[hq,Option.bind_some]
 have:a.tmps[q]? =some (.bool b):=by
  rw[lQ hl]
  simpa[Array.getD,hl]using hv
 rw[this]
theorem Ir(h:Inv C g β s a w){ops:Array Oper}{j q:Nat}(hq:(ops[j]?).bind (·.dst)=some q)(hb:s.slot q= .nil):yielded ops a.tmps j=none:=by
 have hv:=h.dU q
 rw[hb]at hv
 have hv:a.tmps.getD q undef= .tuple #[]:=hv
 unfold yielded
 rw[hq,Option.bind_some]
 split
 ·rename_i b hb
  rw[fF,hb]at hv
  cases hv
 ·rfl
theorem Ey{Γ:fD}(hΓ:Sound P Γ){da:List Nat}{ops:Array Oper}(h:kL C s a w){s':AS}(he:xd P Γ da ops o s=some s'):oU P ops o a w (kL C s'):=by
 obtain⟨g,β,h⟩:=h
 unfold xd at he
 unfold oU
 split at he
 ·rename_i hg
  have:Region.wanted o (yielded ops a.tmps)=true:=by simp[Region.wanted,hg]
  rw[if_pos this]
  exact GC hΓ h he
 ·rename_i j want hg
  split at he
  ·rename_i q hq
   split at he
   ·rename_i b hb
    have hy:=JN h hq hb
    have hw:Region.wanted o (yielded ops a.tmps)=(b==want):=by simp[Region.wanted,hg,hy]
    rw[hw]
    by_cases e:b=want
    ·rw[if_pos e]at he
     rw[if_pos (by simp[e])]
     exact GC hΓ h he
    ·rw[if_neg e]at he
     rw[if_neg (by simp[e])]
     simp only[aE]at he
     subst he
     exact⟨g,β,h.put o.dst rfl⟩
   ·rename_i hb
    have hy:=Ir h hq hb
    have hw:Region.wanted o (yielded ops a.tmps)=false:=by simp[Region.wanted,hg,hy]
    rw[hw,if_neg (by simp)]
    simp only[aE]at he
    subst he
    exact⟨g,β,h.put o.dst rfl⟩
   ·cases he
  ·cases he
theorem Ks{R:Type}{x y:Option R}{r:R}(h:nd x y=some r):x=some r/\y=some r:=by
 unfold nd at h
 split at h
 ·rename_i e;exact⟨h,e▸h⟩
 ·cases h
theorem Jk(h:Inv C g β s a w){x y:Operand}{n:Nat}(hn:CU s x y=some n){T:TypeId}(hT:uj.isSl P T=true):∃b,(0 < n->b=false)/\(Op.equal T (a.eval x) (a.eval y)).run P w= .ok b w/\
  pC (a.eval x)=false/\a.eval x≠ .nilIface/\∀op,binOp op T (a.eval x) (a.eval y)=(match op with | .eql=>do pure (.bool (<-Op.equal T (a.eval x) (a.eval y))) | .neq=>do pure (.bool (!(<-Op.equal T (a.eval x) (a.eval y)))) | _=>binOp op T (a.eval x) (a.eval y)):=by
 have hx:=h.ev x
 have hy:=h.ev y
 unfold uj.isSl at hT
 split at hT <;> try (cases hT;done)
 rename_i e hU
 unfold CU at hn
 split at hn
 ·rename_i t l h1 h2
  rw[h1]at hx;rw[h2]at hy
  obtain⟨ad,cap,vs,hv,_,hs,_⟩:=qq hx
  have Dx:=l5 hy
  rw[hv,Dx]
  refine⟨ad.isNone,λhp=> ?_,?_,rfl,by simp,λop=>by cases op <;> rfl⟩
  ·obtain rfl:=cM hn
   obtain⟨ad',rfl⟩:=dj.1 (hs hp)
   rfl
  ·cases ad with
   |none=>exact jy λd=>by simp[Op.equalIn,run_underlying hU]
   |some ad=>exact jy λd=>by simp[Op.equalIn,run_underlying hU]
 ·rename_i t l h1 h2
  rw[h1]at hx;rw[h2]at hy
  obtain⟨ad,cap,vs,hv,_,hs,_⟩:=qq hy
  have Dx:=l5 hx
  rw[hv,Dx]
  refine⟨ad.isNone,λhp=> ?_,?_,rfl,by simp,λop=>by cases op <;> rfl⟩
  ·obtain rfl:=cM hn
   obtain⟨ad',rfl⟩:=dj.1 (hs hp)
   rfl
  ·exact jy λd=>by simp[Op.equalIn,run_underlying hU]
 ·rename_i id ver pp c i len h1 h2
  rw[h1]at hx;rw[h2]at hy
  obtain⟨ad,cap,hv,_,hs,_⟩:=pf hx
  have Dx:=l5 hy
  rw[hv,Dx]
  refine⟨ad.isNone,λhp=> ?_,?_,rfl,by simp,λop=>by cases op <;> rfl⟩
  ·obtain rfl:=cM hn
   obtain⟨ad',rfl⟩:=dj.1 (hs hp)
   rfl
  ·cases ad with
   |none=>exact jy λd=>by simp[Op.equalIn,run_underlying hU]
   |some ad=>exact jy λd=>by simp[Op.equalIn,run_underlying hU]
 ·rename_i id ver pp c i len h1 h2
  rw[h1]at hx;rw[h2]at hy
  obtain⟨ad,cap,hv,_,hs,_⟩:=pf hy
  have Dx:=l5 hx
  rw[hv,Dx]
  refine⟨ad.isNone,λhp=> ?_,?_,rfl,by simp,λop=>by cases op <;> rfl⟩
  ·obtain rfl:=cM hn
   obtain⟨ad',rfl⟩:=dj.1 (hs hp)
   rfl
  ·exact jy λd=>by simp[Op.equalIn,run_underlying hU]
 ·cases hn
theorem yO(h:Inv C g β s a w){x y:Operand}{n:Nat}{T U:TypeId}(hn:CU s x y=some n)(hT:uj.isSl P T=true):
  (o.op= .binOp .eql T x y U->∃b,(0 < n->b=false)/\iY P o a w (kL C (s.put o.dst (.d .bool b))))/\(o.op= .binOp .neq T x y U->∃b,(0 < n->b=true)/\iY P o a w (kL C (s.put o.dst (.d .bool b)))):=by
 obtain⟨b,h1,h2,h3,h4,h5⟩:=Jk (w:=w) h hn hT
 have hg:∀op,(eqGuard op T x y (a.eval x) (a.eval y)).run P w= .ok () w:=λop=>nm h4 h3
 refine⟨λho=>⟨b,h1,h.value (r9 b) ?_⟩,λho=>⟨!b,λhp=>by rw[h1 hp];rfl,h.value (r9 (!b)) ?_⟩⟩
 ·have h6:(binOp .eql T (a.eval x) (a.eval y)).run P w= .ok (.bool b) w:=by rw[h5 .eql];simp[h2]
  simp[execOp,ho,hg,h6]
 ·have h6:(binOp .neq T (a.eval x) (a.eval y)).run P w= .ok (.bool (!b)) w:=by rw[h5 .neq];simp[h2]
  simp[execOp,ho,hg,h6]
theorem y9{R:Type}{c:Bool}{x y:Option R}{r:R}(h:aJ c x y=some r):(c=true/\x=some r)\/(c=false/\y=some r):=by
 cases c
 ·exact .inr ⟨rfl,h⟩
 ·exact .inl ⟨rfl,h⟩
theorem MU{R:Type}{n:Nat}{k:Nat->Option R}{r:R}(h:Vn n k=some r):0 < n/\∀j,j < n->k j=some r:=by
 unfold Vn at h
 split at h
 ·rename_i hx
  obtain rfl:=cM h
  exact hx.choose_spec
 ·cases h
theorem Eb{s:AS}{id:Id}{e:gU}{q:Nat}(hq:s.gd q=true)(lh:s.dx id≠none):(s.bM id e).gd q=true:=by
 cases id with
 |ew k=>exact hq
 |new i j=>
  by_cases hi:i=q
  ·subst hi;exact absurd ((lH hq).1 j) lh
  ·unfold AS.gd AS.bM
   simp only[iD hi]
   exact hq
theorem Alike.len{α β:Type}{R:α->β->Prop}:∀ {xs:List α} {ys:List β},Alike R xs ys->xs.length=ys.length
 |[],[],_=>rfl
 |_::_,_::_,⟨_,h⟩=>by simp[h.len]
 |[],_::_,h=>h.elim
 |_::_,[],h=>h.elim
theorem Jq{α:Type}:∀ {xs ys:List α} {i j:Nat} {x:α},xs.Perm ys->xs[i]? =some x->ys[j]? =some x->(xs.eraseIdx i).Perm (ys.eraseIdx j):=by
 have key:∀ {xs:List α} {i:Nat} {x:α},xs[i]? =some x->xs.Perm (x::xs.eraseIdx i):=by
  intro xs
  induction xs with
  |nil=>intro i x h;simp at h
  |cons y xs ih=>
   intro i x h
   cases i with
   |zero=>simp at h;subst h;exact jz _
   |succ i=>
    have h:xs[i]? =some x:=by simpa using h
    exact((ih h).cons y).trans (List.Perm.swap x y _)
 intro xs ys i j x hp hi hj
 exact((key hi).symm.trans (hp.trans (key hj))).cons_inv
theorem Jt(h:Inv C g β s a w){T:TypeId}{m:Operand}(fa:o.op= .range T m){s':AS}(he:(Js P s o.dst T (s.ev m)).eval=some s'):iY P o a w (kL C s'):=by
 unfold Js at he
 split at he
 ·rename_i K V' kt vt id ver q hm hx hd
  obtain⟨l,h1,he⟩:=av.1 he
  obtain⟨hq,he⟩:=aL.1 he
  obtain rfl:=aB.1 he
  rw[ak]at hq
  obtain⟨hT,_,_⟩:=tp hm
  have Co:=h.ev m
  rw[hx]at Co
  obtain⟨fr,pl,es,clock,g1,g2,g3,g4,g5,g6,g7,gn⟩:=sw h h1 Co
  obtain rfl:=wH g1 hq.1
  have lh:s.dx id≠none:=by rw[g1];simp
  have U3:=Trans.refl w g
  have I2:dZ (s.env w g β) ((s.bM id (.obj ver true (.mp kt vt l))).env w g β):=dZ.bM g1 (aC _) U3 (λ_ _=>rfl) (λ_=>rfl)
  have i0:Inv C g β (s.bM id (.obj ver true (.mp kt vt l))) a w:=
   h.step (fi _ _ _) U3 I2 (lO.bM h.da lh I2 (λ_ _=>rfl) (λ_ _ _ _ _ _ _ _=>⟨rfl,rfl⟩) ⟨pl,es,clock,g2,g4,g5,⟨g6.mono I2.mem,gn⟩,g7⟩ (By g1))
  have eP:=gI s id (.obj ver true (.mp kt vt l)) lh
  have hq':=Eb (e:= .obj ver true (.mp kt vt l)) hq.2 lh
  generalize Ms:s.bM id (.obj ver true (.mp kt vt l))=s0 at i0 eP hq' I2
  have uV:∀j,id≠ .new q j:=λj e=>by rw[e,(lH hq').1 j]at eP;cases eP
  have mw:pl.b < w.heap.size:=(fu.1 g4).1
  have ht:=Trans.alloc w g (.mapIter (some pl.b) clock #[] clock) (.own (.id (.new q 0)) 0)
  obtain⟨h3,h4⟩:=i0.BU hq' (c:= .qd id (ver+1) kt vt l none) (p:=some ⟨w.heap.size,0⟩) ht (λb hb=>⟨q9 w _ hb,jc _ _ _ (by omega)⟩) (λhE=>
   ⟨⟨w.heap.size,0⟩,pl.b,clock,#[],clock,mE _ _ _,sC w _,ji _ _ _,λvr Mt=>by
    obtain rfl:ver=vr:=by omega
    have hb:(s0.env w g β).w9 id ver:=⟨by show s0.dx id≠none;rw[eP];simp,λv2 fr2 c2 h2=>by
     have h2:s0.dx id=some (.obj v2 fr2 c2):=h2
     rw[eP]at h2
     simp only[aE,gU.obj.injEq]at h2
     omega⟩
    refine⟨hE.w9 _ _ hb,λ_=>⟨⟨kt,vt,l,?_⟩,pl,es,clock,?_,rfl,?_,?_,λx hx=>g7.2 x hx,⟨aC _,aC _⟩,g7.1,?_,λx hx=>by cases hx⟩⟩
    ·show(s0.born q _).dx id=_
     rw[kM _ uV];exact eP
    ·show xh β (.new q 0) _ id=_
     rw[sW _ _ _ (uV 0)];exact g2
    ·exact(q9 w _ mw).trans g4
    ·show oQ g w.heap.size _ pl.b=_
     rw[jc _ _ _ (by omega)];exact g5
    ·have:es.toList.filter (λe=> !(#[]:Array Nat).contains e.born)=es.toList:=kY.2 λx _=>by simp
     rw[this]
     exact(g6.mono I2.mem).mono hE.mem⟩)
  refine .inl ⟨.pointer (some ⟨w.heap.size,0,none⟩),w.alloc (.mapIter (some pl.b) clock #[] clock),?_,_,_,h3.put o.dst (v:= .ptr (.new q 0) 0 [] 0) ⟨[.pointer (some ⟨w.heap.size,0,none⟩)],?_,rfl⟩⟩
  ·refine fS (f:=Instr.range T (a.eval m)) (by simp only[execOp,fa]) ?_
   rw[g3]
   exact run_range_map w T K V' pl.b es clock hT g4
  ·simp only[V]
   exact⟨_,rfl,qb hq' _ _ _ _,λ_=>⟨_,mE _ _ _,rfl⟩⟩
 ·simp only[al]at he
theorem Cw(h:Inv C g β s a w){x:Operand}{t:KS}(ht:s.Ns (s.ev x)=some t):
  s.dx t.i=some (.obj t.v t.fr (.qd t.q (t.vr+1) t.kt t.vt t.rest t.cur))/\(∃k v l,s.dx t.q=some (.obj t.vr true (.mp k v l)))/\
  ∃pl plq since seen c0 es clock,a.eval x= .pointer (some ⟨pl.b,0,none⟩)/\β t.i=some pl/\w.heap[pl.b]? =some (.mapIter (some plq.b) since seen c0)/\g pl.b= .own (.id t.i) 0/\
   β t.q=some plq/\w.heap[plq.b]? =some (.map es clock)/\g plq.b= .own (.id t.q) 0/\(∀x∈es.toList,x.born < since)/\(since<=c0/\since<=clock)/\(es.toList.map (·.born)).Nodup/\
   Fb (s.env w g β) t.kt t.vt (es.toList.filter λe=> !seen.contains e.born) t.rest/\
   ∀x,t.cur=some x->∃(e:MapEntry) (seen':Array Nat),e∈es.toList/\seen=seen'.push e.born/\c0=clock/\uG (s.env w g β) t.kt t.vt e x:=by
 have Co:=h.ev x
 generalize s.ev x=y at ht Co
 unfold AS.Ns at ht
 split at ht
 ·rename_i i ver
  split at ht
  ·rename_i v fr q vr kt vt rest cur nc
   split at ht
   ·rename_i hv hl
    obtain rfl:=cM ht
    have hv:v=ver:=by simpa using hv
    subst hv
    have eP:=gC nc
    unfold AS.Hj at hl
    split at hl
    ·rename_i v2 k2 t2 l2 V5
     have hl:v2=vr:=by simpa using hl
     subst hl
     have hq:=gC V5
     refine⟨eP,⟨_,_,_,hq⟩,?_⟩
     obtain⟨pl,mb,since,seen,c0,h1,h2,h3,h4⟩:=h.da i v fr _ eP
     obtain⟨h5,h6⟩:=h4 v2 rfl
     obtain⟨_,plq,es,clock,k1,k2,k3,k4,k5,k6,k7,k8,k9⟩:=h6 ⟨_,_,hq⟩
     subst k2
     obtain⟨ad,m1,m2,m3⟩:=qM Co
     obtain⟨pl',m4,rfl⟩:=m3 ⟨_,_,eP⟩
     have h1:β i=some pl:=h1
     have m4:β i=some pl':=m4
     rw[h1]at m4
     obtain rfl:pl=pl':=by simpa using m4
     exact⟨pl,plq,since,seen,c0,es,clock,m1,h1,h2,h3,k1,k3,k4,k5,k6,k7,k8,k9⟩
    ·cases hl
   ·cases ht
  ·cases ht
 ·cases ht
theorem uG.Y6{E:Env}{kt vt:Ty}{e:MapEntry}{x:kt.den×vt.den}(h:uG E kt vt e x):VS E (.cons (.d kt x.1) (.cons (.d vt x.2) .nil)) (.tuple #[e.key,e.val]):=by
 obtain⟨⟨c1,a1,b1⟩,c2,a2,b2⟩:=h
 refine⟨[e.key,e.val],rfl,?_⟩
 simp only[VC]
 exact⟨_,_,c1,rfl,by simpa only[V]using a1,b1,_,_,c2,rfl,by simpa only[V]using a2,b2,rfl⟩
theorem uG.Y7{E:Env}{kt vt:Ty}{e:MapEntry}{x:kt.den×vt.den}(h:uG E kt vt e x):VS E (.cons (.d .bool true) (.cons (.d kt x.1) (.cons (.d vt x.2) .nil))) (.tuple #[.bool true,e.key,e.val]):=by
 obtain⟨⟨c1,a1,b1⟩,c2,a2,b2⟩:=h
 refine⟨[.bool true,e.key,e.val],rfl,?_⟩
 simp only[VC]
 exact⟨_,_,[.bool true],rfl,by simp only[V,eY],rfl,_,_,c1,rfl,by simpa only[V]using a1,b1,_,_,c2,rfl,by simpa only[V]using a2,b2,rfl⟩
theorem IW(h:Inv C g β s a w){x:Operand}(fa:o.op= .entry x){v:aH}(he:(IV s (s.ev x)).eval=some v):iY P o a w (kL C (s.put o.dst v)):=by
 unfold IV at he
 split at he
 ·rename_i i v0 fr q vr kt vt rest c ht
  obtain rfl:=aB.1 he
  obtain⟨_,_,pl,plq,since,seen,c0,es,clock,m1,m2,m3,_,m5,m6,m7,_,_,m10,_,m12⟩:=Cw h ht
  obtain⟨e,seen',n1,rfl,rfl,n4⟩:=m12 c rfl
  refine h.value n4.Y6 (fS (f:=Instr.entry (a.eval x)) (by simp only[execOp,fa]) ?_)
  rw[m1]
  exact run_entry_at w pl.b plq.b since seen' es _ e m3 m6 n1 m10
 ·simp only[al]at he
theorem heap_drew{w w1:World}(hw:w1=w\/w1=w.drew):w1.heap=w.heap/\w1.os=w.os/\w1.tape=w.tape/\(w1.output=w.output/\w.drawn<=w1.drawn):=by
 rcases hw with rfl | rfl
 ·exact⟨rfl,rfl,rfl,rfl,aC _⟩
 ·exact⟨rfl,rfl,rfl,rfl,Nat.le_succ _⟩
theorem Inv.UC(h:Inv C g β s a w){i q:Id}{v vr:Nat}{fr:Bool}{kt vt:Ty}{rest:List (kt.den×vt.den)}{cur:Option (kt.den×vt.den)}(eP:s.dx i=some (.obj v fr (.qd q (vr+1) kt vt rest cur)))
  {k2 v2:Ty} {l2:List (k2.den×v2.den)} (hq:s.dx q=some (.obj vr true (.mp k2 v2 l2))) {pl plq:Pl} {m0:Option Nat} {since0 c00:Nat} {seen0:Array Nat} (hp:β i=some pl) (hb:w.heap[pl.b]? =some (.mapIter m0 since0 seen0 c00)) (hg:g pl.b= .own (.id i) 0)
  {w1:World} (hw:w1=w\/w1=w.drew) {es:Array MapEntry} {clock since c0:Nat} {seen:Array Nat} (Yw:β q=some plq) (RB:w.heap[plq.b]? =some (.map es clock)) (Yc:g plq.b= .own (.id q) 0)
  (h1:∀x∈es.toList,x.born < since) (h2:since<=c0/\since<=clock) (h3:(es.toList.map (·.born)).Nodup) {rest':List (kt.den×vt.den)} {cur':Option (kt.den×vt.den)} (h4:Fb (s.env w g β) kt vt (es.toList.filter λe=> !seen.contains e.born) rest')
  (h5:∀x,cur'=some x->∃(e:MapEntry) (seen':Array Nat),e∈es.toList/\seen=seen'.push e.born/\c0=clock/\uG (s.env w g β) kt vt e x):
  Inv C g β (s.bM i (.obj v fr (.qd q (vr+1) kt vt rest' cur'))) a (Go.ChangeMaps.setBlock w1 pl.b (.mapIter (some plq.b) since seen c0))/\
   qZ (s.env w g β) ((s.bM i (.obj v fr (.qd q (vr+1) kt vt rest' cur'))).env (Go.ChangeMaps.setBlock w1 pl.b (.mapIter (some plq.b) since seen c0)) g β):=by
 obtain⟨d1,d2,d3,d4⟩:=heap_drew hw
 have mw:pl.b < w.heap.size:=(fu.1 hb).1
 have Ke:(Go.ChangeMaps.setBlock w1 pl.b (.mapIter (some plq.b) since seen c0)).heap=w.heap.setIfInBounds pl.b (.mapIter (some plq.b) since seen c0):=by
  show w1.heap.setIfInBounds _ _=_
  rw[d1]
 have S0:(Go.ChangeMaps.setBlock w1 pl.b (.mapIter (some plq.b) since seen c0)).os=w.os/\(Go.ChangeMaps.setBlock w1 pl.b (.mapIter (some plq.b) since seen c0)).tape=w.tape/\((Go.ChangeMaps.setBlock w1 pl.b (.mapIter (some plq.b) since seen c0)).output=w.output/\w.drawn<=(Go.ChangeMaps.setBlock w1 pl.b (.mapIter (some plq.b) since seen c0)).drawn):=⟨d2,d3,d4⟩
 generalize Go.ChangeMaps.setBlock w1 pl.b (.mapIter (some plq.b) since seen c0)=w' at Ke S0
 have hother:∀b',b'≠pl.b->w'.heap[b']? =w.heap[b']? :=λb' lh=>by
  rw[Ke,iL,if_neg (λe=>lh e.symm)]
 have nR:w'.heap[pl.b]? =some (.mapIter (some plq.b) since seen c0):=by
  rw[Ke,iL,if_pos rfl,if_pos mw]
 have ht:Trans w w' g g:=by
  refine⟨S0.1,S0.2.1,S0.2.2,by rw[Ke];simp,λb' _=> ?_⟩
  by_cases he:b'=pl.b
  ·subst he
   rw[hg]
   exact⟨.inr ⟨i,0,rfl,aC _⟩,λ_ _ hh=>by omega⟩
  ·rw[hother b' he]
   cases Ck:g b' with
   |free=>exact⟨rfl,rfl⟩
   |own o' k=>cases o' with
    |iR=>exact⟨rfl,rfl⟩
    |id i'=>exact⟨.inr ⟨i',k,rfl,aC _⟩,λoff v _ hv=>by simpa only[World.cell?,hother b' he]using hv⟩
 have hle:dZ (s.env w g β) ((s.bM i (.obj v fr (.qd q (vr+1) kt vt rest' cur'))).env w' g β):=dZ.bM eP (aC _) ht (λ_ _=>rfl) (λ_=>rfl)
 have Ue:q≠i:=λe=>by rw[e,eP]at hq;cases hq
 have Yv:plq.b≠pl.b:=λe=>by rw[e,hb]at RB;cases RB
 refine⟨h.step (fi _ _ _) ht hle (lO.bM h.da (by rw[eP];simp) hle (λ_ _=>rfl) (λi' ver' fr' c' pl2 hi DN It=>⟨hother _ (h.apart hg hi DN It),rfl⟩) ?_ (ou eP λ_ _ _ e=>by cases e)),hle.mem⟩
 refine⟨pl,plq.b,since,seen,c0,hp,nR,hg,λvr' Mt=> ?_⟩
 obtain rfl:vr=vr':=by omega
 have OL:(s.env w g β).w9 q vr:=⟨by show s.dx q≠none;rw[hq];simp,λv3 fr3 c3 h3=>by
  have h3:s.dx q=some (.obj v3 fr3 c3):=h3
  rw[hq]at h3
  simp only[aE,gU.obj.injEq]at h3
  omega⟩
 refine⟨hle.w9 _ _ OL,λ_=>⟨⟨k2,v2,l2,?_⟩,plq,es,clock,Yw,rfl,(hother _ Yv).trans RB,Yc,h1,h2,h3,h4.mono hle.mem,λx hx=> ?_⟩⟩
 ·show(s.bM i _).dx q=_
  rw[dV s i q _ Ue];exact hq
 ·obtain⟨e,se,a1,a2,a3,a4⟩:=h5 x hx
  exact⟨e,se,a1,a2,a3,a4.mono hle.mem⟩
theorem Inv.Qu(h:Inv C g β s a w){i q:Id}{v ver ver':Nat}{fr:Bool}{kt vt:Ty}{rest rest':List (kt.den×vt.den)}{cur cur':Option (kt.den×vt.den)}(eP:s.dx i=some (.obj v fr (.qd q ver kt vt rest cur)))
  (hk:ver'=0\/(ver'=ver/\rest'=rest/\cur'=none)):Inv C g β (s.bM i (.obj v fr (.qd q ver' kt vt rest' cur'))) a w:=by
 have ht:=Trans.refl w g
 have hle:dZ (s.env w g β) ((s.bM i (.obj v fr (.qd q ver' kt vt rest' cur'))).env w g β):=dZ.bM eP (aC _) ht (λ_ _=>rfl) (λ_=>rfl)
 refine h.step (fi _ _ _) ht hle (lO.bM h.da (by rw[eP];simp) hle (λ_ _=>rfl) (λ_ _ _ _ _ _ _ _=>⟨rfl,rfl⟩) ?_ (ou eP λ_ _ _ e=>by cases e))
 obtain⟨pl,mb,since,seen,c0,h1,h2,h3,h4⟩:=h.da i v fr _ eP
 refine⟨pl,mb,since,seen,c0,h1,h2,h3,λvr Mt=> ?_⟩
 rcases hk with hk | ⟨rfl,rfl,rfl⟩
 ·omega
 ·obtain⟨h5,h6⟩:=h4 vr Mt
  refine⟨hle.w9 _ _ h5,λhc=> ?_⟩
  obtain⟨c1,_⟩:=hle.cur _ _ h5 hc
  obtain⟨⟨k,v1,l,hq⟩,plq,es,clock,k1,k2,k3,k4,k5,k6,k7,k8,_⟩:=h6 c1
  have Ue:q≠i:=λe=>by
   have hq:s.dx q=_:=hq
   rw[e,eP]at hq;cases hq
  exact⟨⟨k,v1,l,by show(s.bM i _).dx q=_;rw[dV s i q _ Ue];exact hq⟩,plq,es,clock,k1,k2,k3,k4,k5,k6,k7,k8.mono hle.mem,λx hx=>by cases hx⟩
theorem Ju{s:AS}{q i:Id}{e:gU}(h:s.C0 q=false)(hi:s.dx i=some e):e.Nt q=false:=by
 unfold AS.C0 at h
 rw[Bool.or_eq_false_iff]at h
 cases i with
 |ew k=>simpa using jr.1 h.1 _ (eQ hi)
 |new a b=>
  have hi:(s.news.getD a [])[b]? =some e:=hi
  by_cases ha:a < s.news.length
  ·have h2:(s.news.getD a []).any (gU.Nt q)=false:=by simpa using jr.1 h.2 (s.news.getD a []) (by simp[aX,dB ha])
   simpa using jr.1 h2 _ (eQ hi)
  ·simp[aX,ij (Nat.le_of_not_lt ha)]at hi
theorem Inv.unlock(h:Inv C g β s a w){q:Id}{vr:Nat}{k v:Ty}{l:List (k.den×v.den)}(eP:s.dx q=some (.obj vr true (.mp k v l)))(hr:s.C0 q=false):Inv C g β (s.bM q (.obj vr false (.mp k v l))) a w:=by
 have ht:=Trans.refl w g
 have hle:dZ (s.env w g β) ((s.bM q (.obj vr false (.mp k v l))).env w g β):=dZ.bM eP (aC _) ht (λ_ _=>rfl) (λ_=>rfl)
 refine h.step (fi _ _ _) ht hle λi ver fr c hi=> ?_
 have hi:(s.bM q (.obj vr false (.mp k v l))).dx i=some (.obj ver fr c):=hi
 by_cases Xd:i=q
 ·subst Xd
  rw[gI s i _ (by rw[eP];simp)]at hi
  simp only[aE,gU.obj.injEq]at hi
  obtain⟨rfl,rfl,rfl⟩:=hi
  obtain⟨pl,es,clock,h1,h2,h3,h4,h5⟩:=h.da i vr true _ eP
  exact⟨pl,es,clock,h1,h2,h3,⟨h4.1.mono hle.mem,h4.2⟩,h5⟩
 ·rw[dV s q i _ Xd]at hi
  refine(h.da i ver fr c hi).QE hle rfl (λ_ _=>⟨rfl,rfl⟩) λq2 v2 k2 v3 l2 hc Bj _=>⟨⟨k2,v3,l2,?_⟩,λ_ _=>⟨rfl,rfl⟩⟩
  obtain⟨kt,vt,rest,cu,rfl⟩:=hc
  have hn:=Ju hr hi
  have lh:q2≠q:=λe=>by simp[gU.Nt,e]at hn
  show(s.bM q _).dx q2=_
  rw[dV s q q2 _ lh];exact Bj
theorem Jd{es:List MapEntry}{seen:Array Nat}(hn:(es.map (·.born)).Nodup){j:Nat}{e:MapEntry}(hj:(es.filter λe=> !seen.contains e.born)[j]? =some e):
  es.filter (λx=> !(seen.push e.born).contains x.born)=(es.filter λe=> !seen.contains e.born).eraseIdx j:=by
 have h1:es.filter (λx=> !(seen.push e.born).contains x.born)=(es.filter λe=> !seen.contains e.born).filter λx=>x.born !=e.born:=by
  rw[List.filter_filter]
  refine List.filter_congr λx _=> ?_
  rw[contains_push]
  cases seen.contains x.born <;> cases hb:x.born==e.born <;> simp[bne,hb]
 rw[h1]
 have Ql:((es.filter λe=> !seen.contains e.born).map (·.born)).Nodup:=hn.sublist (List.filter_sublist.map _)
 generalize es.filter (λe=> !seen.contains e.born)=L at hj Ql
 induction L generalizing j with
 |nil=>simp at hj
 |cons x L ih=>
  rw[cG,fR]at Ql
  cases j with
  |zero=>
   simp only[iT,aE]at hj
   subst hj
   have:L.filter (λy=>y.born !=x.born)=L:=kY.2 λy hy=>by
    have:y.born≠x.born:=λe=>Ql.1 (e▸eb.2 ⟨y,hy,rfl⟩)
    simpa using this
   simp[this]
  |succ j=>
   have hj:L[j]? =some e:=by simpa using hj
   have hx:(x.born !=e.born)=true:=by
    have:x.born≠e.born:=λh=>Ql.1 (h▸eb.2 ⟨e,eQ hj,rfl⟩)
    simpa using this
   rw[ix,hx,List.eraseIdx_cons_succ]
   simp only[if_true]
   rw[ih hj Ql.2]
theorem LO(h:Inv C g β s a w){x:Operand}(fa:o.op= .next x false){t:KS}(ht:s.Ns (s.ev x)=some t){R:Type}{k:AS->Option R}{r:R}(he:NL s o.dst t k=some r):
  iY P o a w λa' w'=>∃s',kL C s' a' w'/\k s'=some r:=by
 obtain⟨hi,⟨k2,v2,l2,hq⟩,pl,plq,since,seen,c0,es,clock,m1,m2,m3,m4,m5,m6,m7,m8,m9,m10,m11,_⟩:=Cw h ht
 have hex:∀ {y:Value} {w':World},(Instr.next (a.eval x) false o.type).run P w= .ok y w'->(execOp a.eval o).run P w= .ok (.value y) w':=λhr=>
  fS (f:=Instr.next (a.eval x) false o.type) (by simp only[execOp,fa]) hr
 have DL:(leftOf es seen).toList=es.toList.filter λe=> !seen.contains e.born:=by unfold leftOf;rw[Array.toList_filter]
 obtain⟨l',m11,Nk⟩:=m11
 have hlen:=m11.len
 rw[Nk.length_eq]at hlen
 rw[<-DL,eg]at hlen
 unfold NL at he
 rcases run_next_at (P:=P) w o.type pl.b plq.b since c0 seen es clock m3 m6 m8 m9.1 with⟨h0,oY⟩ | ⟨e,SW,w1,hw,oY⟩
 ·rcases y9 he with⟨hc,_⟩ | ⟨_,he⟩
  ·have:0 < t.rest.length:=by simpa using hc
   omega
  ·unfold AS.PV at he
   have i1:=h.Qu (rest':=[]) (cur':=none) hi (.inl rfl)
   have Ue:t.q≠t.i:=λe=>by rw[e,hi]at hq;simp at hq
   have S3:(s.bM t.i (.obj t.v t.fr (.qd t.q 0 t.kt t.vt [] none))).dx t.q=some (.obj t.vr true (.mp k2 v2 l2)):=by rw[dV s t.i t.q _ Ue];exact hq
   generalize s.bM t.i (.obj t.v t.fr (.qd t.q 0 t.kt t.vt [] none))=s1 at he i1 S3
   cases hr:s1.C0 t.q with
   |true=>rw[hr]at he;cases he
   |false=>
    rw[hr]at he
    simp only at he
    have U4:s1.unlock t.q=s1.bM t.q (.obj t.vr false (.mp k2 v2 l2)):=by simp only[AS.unlock,AS.obj,S3]
    rw[U4]at he
    rw[<-m1]at oY
    refine .inl ⟨_,w,hex oY,_,⟨g,β,(i1.unlock S3 hr).put o.dst (v:= .cons (.d .bool false) .nil) ⟨[.bool false],rfl,?_⟩⟩,he⟩
    simp only[VC]
    exact⟨_,_,[.bool false],rfl,by simp only[V,eY],rfl,rfl⟩
 ·rcases y9 he with⟨hc,he⟩ | ⟨hc,_⟩
  ·obtain⟨_,hd⟩:=MU he
   rw[DL]at SW
   obtain⟨i,Pm⟩:=List.getElem?_of_mem SW
   obtain⟨y,Xu,U6⟩:=m11.get Pm
   obtain⟨j,hj⟩:=List.getElem?_of_mem (Nk.mem_iff.1 (eQ Xu))
   have RN:j < t.rest.length:=(fE.1 hj).1
   have hy:FX t.kt t.vt t.rest j=y:=by simp[FX,aX,hj]
   have zK:e∈es.toList:=(jG.1 SW).1
   have i1:=h.UC (rest':=t.rest.eraseIdx j) (cur':=some (FX t.kt t.vt t.rest j)) (since:=since) (c0:=clock) (seen:=seen.push e.born) hi hq m2 m3 m4 hw m5 m6 m7 m8 ⟨m9.2,m9.2⟩ m10 ?_ ?_
   rotate_left
   ·rw[Jd m10 Pm];exact⟨_,m11.erase i,Jq Nk Xu hj⟩
   ·intro z hz
    obtain rfl:=cM hz
    exact⟨e,seen,zK,rfl,rfl,by rw[hy];exact U6⟩
   rw[<-m1]at oY
   have hVS:=(hy▸U6:uG (s.env w g β) t.kt t.vt e (FX t.kt t.vt t.rest j))
   refine .inl ⟨_,_,hex oY,_,⟨g,β,i1.1.put o.dst (v:= .cons (.d .bool true) (.cons (.d t.kt (FX t.kt t.vt t.rest j).1) (.cons (.d t.vt (FX t.kt t.vt t.rest j).2) .nil))) ?_⟩,hd j RN⟩
   exact uG.Y7 (hVS.mono i1.2)
  ·have hc:¬0 < t.rest.length:=by simpa using hc
   have:0 < (leftOf es seen).toList.length:=List.length_pos_of_mem SW
   rw[eg]at this
   omega
theorem Lp{Γ:fD}(hΓ:Sound P Γ){da:List Nat}{ops:Array Oper}{R:Type}{k:AS->Option R}{r:R}(h:kL C s a w)(he:Pf P Γ da ops o s k=some r):
  oU P ops o a w λa' w'=>∃s',kL C s' a' w'/\k s'=some r:=by
 have plain:Rv P Γ da ops o s k=some r->oU P ops o a w λa' w'=>∃s',kL C s' a' w'/\k s'=some r:=λhe=>by
  obtain⟨s1,h1,h2⟩:=G0 he
  exact(Ey hΓ h h1).mono λa' w' hs=>⟨s1,hs,h2⟩
 have stepK:∀(hg:o.guard=none),(iY P o a w λa' w'=>∃s',kL C s' a' w'/\k s'=some r)->oU P ops o a w λa' w'=>∃s',kL C s' a' w'/\k s'=some r:=λhg hr=>by
  unfold oU
  have:Region.wanted o (yielded ops a.tmps)=true:=by simp[Region.wanted,hg]
  rw[if_pos this]
  exact hr
 have step:∀(hg:o.guard=none) (b:Bool),iY P o a w (kL C (s.put o.dst (.d .bool b)))->k (s.put o.dst (.d .bool b))=some r->oU P ops o a w λa' w'=>∃s',kL C s' a' w'/\k s'=some r:=λhg b hr hk=>by
  unfold oU
  have:Region.wanted o (yielded ops a.tmps)=true:=by simp[Region.wanted,hg]
  rw[if_pos this]
  exact hr.mono λa' w' hs=>⟨_,hs,hk⟩
 unfold Pf at he
 split at he
 ·rename_i T x y U hg ho
  split at he
  ·rename_i n hn hT
   obtain⟨g,β,hi⟩:=h
   obtain⟨b,hb,hr⟩:=(yO (o:=o) (U:=U) hi hn hT).1 ho
   refine step hg b hr ?_
   rcases y9 he with⟨hc,hk⟩ | ⟨_,hk⟩
   ·rw[hb (by simpa using hc)];exact hk
   ·obtain⟨k1,k2⟩:=Ks hk
    cases b
    ·exact k2
    ·exact k1
  ·exact plain he
 ·rename_i T x y U hg ho
  split at he
  ·rename_i n hn hT
   obtain⟨g,β,hi⟩:=h
   obtain⟨b,hb,hr⟩:=(yO (o:=o) (U:=U) hi hn hT).2 ho
   refine step hg b hr ?_
   rcases y9 he with⟨hc,hk⟩ | ⟨_,hk⟩
   ·rw[hb (by simpa using hc)];exact hk
   ·obtain⟨k1,k2⟩:=Ks hk
    cases b
    ·exact k2
    ·exact k1
  ·exact plain he
 ·rename_i T m hg ho
  obtain⟨s1,h1,h2⟩:=mB.1 he
  obtain⟨g,β,hi⟩:=h
  exact stepK hg ((Jt hi ho h1).mono λ_ _ hs=>⟨_,hs,h2⟩)
 ·rename_i x hg ho
  obtain⟨s1,h1,h2⟩:=mB.1 he
  obtain⟨v,h3,h4⟩:=av.1 h1
  obtain rfl:=aB.1 h4
  obtain⟨g,β,hi⟩:=h
  exact stepK hg ((IW hi ho h3).mono λ_ _ hs=>⟨_,hs,h2⟩)
 ·rename_i x hg ho
  split at he
  ·rename_i t ht
   obtain⟨g,β,hi⟩:=h
   exact stepK hg (LO hi ho ht he)
  ·cases he
 ·exact plain he
theorem AE{Γ:fD}(hΓ:Sound P Γ){da:List Nat}{ops:Array Oper}{R:Type}{Q:Exit->Act->World->Prop}:∀(l:List Oper) {s:AS} {a:Act} {w:World} {k:AS->Option R} {r:R},kL C s a w->Pg P Γ da ops l s k=some r->
  (∀s' a' w',kL C s' a' w'->k s'=some r->Q .normal a' w')->wpList P ops Q l a w
 |[],s,a,w,k,r,h,he,hk=>hk s a w h he
 |o::l,s,a,w,k,r,h,he,hk=>by
  have he:Pf P Γ da ops o s (λs'=>s'.seen λs'=>Pg P Γ da ops l s' k)=some r:=he
  simp only[AS.y8]at he
  exact((Lp hΓ h he).mono λa' w' ⟨s',hs,h2⟩=>AE hΓ l hs h2 hk).wpList
end
end Go.Ab
namespace Go.Ab
theorem AS.M1{s t:AS}(h1:s.dU=t.dU)(h2:s.news.length=t.news.length)(h3:∀id,s.dx id=t.dx id):s=t:=by
 obtain⟨a,b,c⟩:=s
 obtain⟨a',b',c'⟩:=t
 simp only at h1 h2
 subst h1
 have hb:b=b':=List.ext_getElem? λk=>h3 (.ew k)
 subst hb
 have hc:c=c':=by
  apply List.ext_getElem h2
  intro i h h'
  apply List.ext_getElem?
  intro j
  have:=h3 (.new i j)
  simpa[AS.dx,aX,h,h']using this
 rw[hc]
def gU.H6:gU->gU->Prop
 | .obj v _ c,.obj v' _ c'=>v=v'/\c=c'
 | .dead,.dead=>True
 |_,_=>False
def sS:Option gU->Option gU->Prop
 |some a,some b=>a.H6 b
 |none,none=>True
 |_,_=>False
def gU.J7:gU->gU
 | .obj v _ c=> .obj v true c
 | .dead=> .dead
theorem gU.On(a:gU):a.H6 a:=by cases a <;> simp[gU.H6]
theorem Mb(a:Option gU):sS a a:=by cases a <;> simp[sS,gU.On]
theorem Ma(a:Option gU):sS (a.map gU.J7) a:=by
 cases a with
 |none=>trivial
 |some x=>cases x <;> simp[sS,gU.H6,gU.J7]
theorem gU.Pb(a:gU):a.J7.J7=a.J7:=by cases a <;> rfl
structure mH(f:vI)(s t:AS):Prop where
 dU:∀i∈f.dU,t.slot i=s.slot i
 ws:∀id∈f.ws,t.dx id=s.dx id
 rs:∀id∈f.rs,sS (t.dx id) (s.dx id)
 gd:∀q,f.dst=some q->t.gd q=s.gd q
structure SI where
 v:aH
 up:Id->Option gU
 fz:List Id
structure App(d:Option Tmp)(E:SI)(s s':AS):Prop where
 dU:s'.dU=(s.put d E.v).dU
 len:s'.news.length=s.news.length
 dx:∀id,s'.dx id=match E.up id with | some e=>some e | none=>if id∈E.fz then(s.dx id).map gU.J7 else s.dx id
theorem App.Re{d:Option Tmp}{E:SI}{s s1 s2:AS}(h1:App d E s s1)(h2:App d E s s2):s1=s2:=
 AS.M1 (by rw[h1.dU,h2.dU]) (by rw[h1.len,h2.len]) λid=>by rw[h1.dx,h2.dx]
structure Fe(f:vI)(s:AS)(E:SI):Prop where
 up:∀id e,E.up id=some e->(id∈f.ws/\s.dx id≠none)\/∃q j,f.dst=some q/\id= .new q j
 fz:∀id∈E.fz,id∈f.rs
theorem xS(s:AS)(id:Id)(e:gU):(s.bM id e).news.length=s.news.length:=by cases id <;> simp[AS.bM]
theorem DK(s:AS)(id i:Id):(s.freeze id).dx i=if i=id then(s.dx i).map gU.J7 else s.dx i:=by
 unfold AS.freeze
 cases hs:s.dx id with
 |none=>
  by_cases hi:i=id
  ·subst hi;simp[hs]
  ·simp[hi]
 |some e=>
  cases e with
  |dead=>
   by_cases hi:i=id
   ·subst hi;simp[hs,gU.J7]
   ·simp[hi]
  |obj v fr c=>
   simp only
   by_cases hi:i=id
   ·subst hi
    rw[gI s i _ (by rw[hs];simp)]
    simp[hs,gU.J7]
   ·rw[dV s id i _ hi];simp[hi]
theorem iO(i:Id):∀(ids:List Id) (s:AS),(s.cm ids).dx i=if i∈ids then(s.dx i).map gU.J7 else s.dx i
 |[],s=>by simp[AS.cm]
 |id::ids,s=>by
  rw[AS.cm,iO i ids,DK]
  by_cases h1:i=id
  ·subst h1
   by_cases h2:i∈ids
   ·simp[h2,Option.map_map,Function.comp_def,gU.Pb]
   ·simp[h2]
  ·simp[h1]
theorem Je(s:AS)(id:Id):(s.freeze id).news.length=s.news.length:=by
 unfold AS.freeze
 split
 ·exact xS _ _ _
 ·rfl
theorem o4:∀(ids:List Id) (s:AS),(s.cm ids).news.length=s.news.length
 |[],_=>rfl
 |id::ids,s=>by rw[AS.cm,o4 ids,Je]
theorem sX{s:AS}{q:Nat}:s.gd q=true↔q < s.news.length/\∀j,s.dx (.new q j)=none:=by
 refine⟨λh=>⟨(lH h).2,(lH h).1⟩,λ⟨h1,h2⟩=> ?_⟩
 unfold AS.gd
 rw[dB h1]
 have h0:=h2 0
 simp only[AS.dx,aX,dB h1,gj]at h0
 cases hh:s.news[q]with
 |nil=>rfl
 |cons x xs=>rw[hh]at h0;simp at h0
theorem App.zH(d:Option Tmp)(v:aH)(ids:List Id)(s:AS):App d ⟨v,λ_=>none,ids⟩ s ((s.cm ids).put d v):=by
 refine⟨?_,?_,λid=> ?_⟩
 ·cases d <;> simp[AS.put,nh]
 ·cases d <;> simp[AS.put,o4]
 ·rw[wN,iO]
theorem App.wU(d:Option Tmp)(v:aH)(s:AS):App d ⟨v,λ_=>none,[]⟩ s (s.put d v):=App.zH d v [] s
def zw(q:Nat)(es:List gU):Id->Option gU
 | .new i j=>if i=q then es[j]? else none
 | .ew _=>none
theorem MY(s:AS){q:Nat}(hq:q < s.news.length)(es:List gU)(id:Id):(s.born q es).dx id=match id with | .new i j=>if i=q then es[j]? else s.dx (.new i j) | .ew k=>s.dx (.ew k):=by
 cases id with
 |ew k=>rfl
 |new i j=>
  simp only
  by_cases h:i=q
  ·subst h;rw[if_pos rfl];exact sm hq _ j
  ·rw[if_neg h];exact kM _ λj' e=>by simp only[Id.new.injEq]at e;exact h e.1
theorem App.JZ{s:AS}{q:Nat}(hv:s.gd q=true)(v:aH)(ids:List Id)(es:List gU):App (some q) ⟨v,zw q es,ids⟩ s (((s.cm ids).born q es).put (some q) v):=by
 obtain⟨h1,h2⟩:=sX.1 hv
 refine⟨?_,?_,λid=> ?_⟩
 ·simp[AS.put,nh]
 ·simp[AS.put,AS.born,o4]
 ·rw[wN,MY _ (by rw[o4];exact h1)]
  cases id with
  |ew k=>simp only[zw];exact iO _ _ _
  |new i j=>
   simp only[zw]
   by_cases h:i=q
   ·subst h
    rw[if_pos rfl]
    cases he:es[j]? with
    |none=>simp[h2]
    |some e=>simp
   ·rw[if_neg h]
    simp only[if_neg h]
    exact iO _ _ _
theorem App.Oj{s:AS}{id:Id}{e0:gU}(hs:s.dx id=some e0)(d:Option Tmp)(v:aH)(e:gU):App d ⟨v,λi=>if i=id then some e else none,[]⟩ s ((s.bM id e).put d v):=by
 refine⟨?_,?_,λi=> ?_⟩
 ·cases d <;> simp[AS.put]
 ·cases d <;> simp[AS.put,xS]
 ·rw[wN]
  by_cases hi:i=id
  ·subst hi
   rw[gI s i _ (by rw[hs];simp)]
   simp
  ·rw[dV s id i _ hi];simp[hi]
section
variable {P:Program} {Γ:fD} {da:List Nat} {ops:Array Oper} {o:Oper} {s t:AS}
def yo(P:Program)(Γ:fD)(da:List Nat)(ops:Array Oper)(o:Oper)(s s':AS):Prop:=
 ∃E,App o.dst E s s'/\Fe (jM Γ ops s o) s E/\∀t,mH (jM Γ ops s o) s t->∃t',(oV P Γ da o t).eval=some t'/\App o.dst E t t'
theorem AL{xs:Array Operand}{i:Nat}(h:Operand.tmp i∈xs.toList):i∈BH xs:=by
 unfold BH
 exact List.mem_filterMap.2 ⟨_,h,rfl⟩
theorem mH.ev(h:mH (jM Γ ops s o) s t){x:Operand}(hx:x∈o.op.operands.toList):t.ev x=s.ev x:=by
 cases x with
 |tmp i=>exact h.dU i (cf.2 (.inl (AL hx)))
 |_=>rfl
theorem HM(v:Value):(ofConst v).ids=[]:=by unfold ofConst;split <;> rfl
theorem FW{o:Oper}{x:Op}(h:o.op=x)(hx:EI x=false):EI o.op=false:=by rw[h];exact hx
theorem xN(hn:EI o.op=false){x:Operand}(hx:x∈o.op.operands.toList){id:Id}(eZ:id∈(s.ev x).ids):id∈(jM Γ ops s o).rs:=by
 refine cf.2 (.inl ?_)
 unfold HO
 rw[hn]
 cases x with
 |tmp i=>exact List.mem_flatMap.2 ⟨i,AL hx,eZ⟩
 |const v=>simp[AS.ev,HM]at eZ
 |global _=>simp[AS.ev,aH.ids]at eZ
 |func f=>simp[AS.ev,aH.ids]at eZ
theorem mH.H6(h:mH (jM Γ ops s o) s t)(hn:EI o.op=false){x:Operand}(hx:x∈o.op.operands.toList){id:Id}(eZ:id∈(s.ev x).ids):sS (t.dx id) (s.dx id):=
 h.rs id (xN hn hx eZ)
theorem ze{id:Id}(h:sS (t.dx id) (s.dx id)):(t.obj id=none/\s.obj id=none)\/∃v f f' c,t.obj id=some (v,f,c)/\s.obj id=some (v,f',c):=by
 unfold AS.obj
 revert h
 cases t.dx id with
 |none=>cases s.dx id with
  |none=>intro _;simp
  |some b=>intro h;exact h.elim
 |some a=>cases s.dx id with
  |none=>intro h;exact h.elim
  |some b=>cases a <;> cases b <;> intro h <;> first
    |exact h.elim
    | (left;exact⟨rfl,rfl⟩)
    | (obtain⟨rfl,rfl⟩:=h;right;exact⟨_,_,_,_,rfl,rfl⟩)
theorem Ah{id:Id}(h:sS (t.dx id) (s.dx id))(ver:Nat)(p:List xy):t.row id ver p=s.row id ver p:=by
 unfold AS.row
 rcases ze h with⟨h1,h2⟩ | ⟨v,f,f',c,h1,h2⟩ <;> rw[h1,h2]
theorem nV:∀(v:aH) (ty:Ty),(∀id∈v.ids,sS (t.dx id) (s.dx id))->t.kQ ty v=s.kQ ty v
 | .dh id ver p c i len,ty,h=>by
  cases ty <;> first
   |rfl
   | (simp only[AS.kQ];rw[Ah (h id (by simp[aH.ids]))])
 | .pr a b,ty,h=>by
  cases ty <;> first
   |rfl
   | (simp only[AS.kQ];rw[nV a _ λid eZ=>h id (by simp[aH.ids,eZ]),nV b _ λid eZ=>h id (by simp[aH.ids,eZ])])
 | .undef,ty,_ | .gone,ty,_ | .eV,ty,_ | .o6,ty,_ | .rP,ty,_ | .uw,ty,_ | .d _ _,ty,_ | .ptr ..,ty,_ | .gE ..,ty,_ | .fn ..,ty,_ | .cons ..,ty,_ | .nil,ty,_ | .vec ..,ty,_ | .bx ..,ty,_ | .kO ..,ty,_ | .mp ..,ty,_ | .qd ..,ty,_ | .sb _,ty,_=>by
  cases ty <;> simp only[AS.kQ]
theorem qP:∀(v:aH),∀id∈v.shared,id∈v.ids
 | .dh ..,id,h=>by simpa[aH.shared,aH.ids]using h
 | .pr a b,id,h=>by
  simp only[aH.shared,cf,aH.ids]at h ⊢
  rcases h with h | h
  ·exact .inl (qP a id h)
  ·exact .inr (qP b id h)
 | .undef,_,h | .gone,_,h | .eV,_,h | .o6,_,h | .rP,_,h | .uw,_,h | .d _ _,_,h | .ptr ..,_,h | .gE ..,_,h | .fn ..,_,h | .cons ..,_,h | .nil,_,h | .vec ..,_,h | .bx ..,_,h | .kO ..,_,h | .mp ..,_,h | .qd ..,_,h | .sb _,_,h=>by
  simp[aH.shared]at h
theorem Hi{T:TypeId}{x:aH}(h:∀id∈x.ids,sS (t.dx id) (s.dx id)):yJ P t T x=yJ P s T x:=by
 unfold yJ
 split
 ·rename_i id ver p n
  rcases ze (h id (by simp[aH.ids])) with⟨h1,h2⟩ | ⟨v,f,f',c,h1,h2⟩ <;> rw[h1,h2]
 ·rfl
 ·rfl
theorem Fj{n:Nat}{lo hi:Option Operand}(hl:∀x,lo=some x->t.ev x=s.ev x)(hh:∀x,hi=some x->t.ev x=s.ev x):bounds t n lo hi=bounds s n lo hi:=by
 unfold bounds
 cases lo <;> cases hi <;> simp only[] <;> first
  |rfl
  | (rw[hl _ rfl,hh _ rfl])
  |rw[hl _ rfl]
  |rw[hh _ rfl]
theorem F5{T:TypeId}{x:aH}{lo hi:Option Operand}(h:∀id∈x.ids,sS (t.dx id) (s.dx id))(hl:∀x,lo=some x->t.ev x=s.ev x)(hh:∀x,hi=some x->t.ev x=s.ev x):
  yd P t T x lo hi=yd P s T x lo hi:=by
 have hb:∀n,bounds t n lo hi=bounds s n lo hi:=λn=>Fj hl hh
 unfold yd
 split <;> first
  |rfl
  | (rw[Ah (h _ (by simp[aH.ids]))];simp only[hb];done)
  | (simp only[hb];done)
theorem zP{T:TypeId}{x:aH}{i:Int}(h:∀id∈x.ids,sS (t.dx id) (s.dx id)):pB P t T x i=pB P s T x i:=by
 unfold pB
 split <;> first
  |rfl
  |rw[Ah (h _ (by simp[aH.ids]))]
theorem GN{obj:Bool}{src dst:TypeId}{x:aH}(h:∀id∈x.ids,sS (t.dx id) (s.dx id)):Es P t obj src dst x=Es P s obj src dst x:=by
 unfold Es
 split
 ·rfl
 ·unfold MS
  split <;> first
   |rfl
   | (simp only[AS.Jo,nV _ _ h])
theorem Lm{T:TypeId}{op:BinOp}{i:Id}{v:Nat}{j:Id}{w:Nat}(h:sS (t.dx i) (s.dx i)):SP P t T op i v j w=SP P s T op i v j w:=by
 unfold SP
 rcases ze h with⟨h1,h2⟩ | ⟨v,f,f',c,h1,h2⟩ <;> rw[h1,h2]
theorem GP{src dst:TypeId}{id:Id}{ver:Nat}(h:sS (t.dx id) (s.dx id)):Et P t src dst id ver=Et P s src dst id ver:=by
 unfold Et
 rcases ze h with⟨h1,h2⟩ | ⟨v,f,f',c,h1,h2⟩
 ·rw[h1,h2]
 ·rw[h1,h2]
  cases c <;> first
   |rfl
   | (rename_i e z c;cases z <;> rfl)
theorem sQ{ty:Ty}:∀(ps:List (Nat×Operand)) (l:List ty.den),(∀x∈ps,t.ev x.2=s.ev x.2/\∀id∈(s.ev x.2).ids,sS (t.dx id) (s.dx id))->ld ty t ps l=ld ty s ps l
 |[],_,_=>rfl
 | (i,x)::ps,l,h=>by
  obtain⟨h1,h2⟩:=h (i,x) (bq ..)
  simp only[ld]
  simp only at h1 h2
  rw[h1,nV _ _ h2]
  congr 2
  funext y
  rw[sQ ps _ λz hz=>h z (bj _ hz)]
theorem rQ{ty:Ty}:∀(ps:List (Nat×Operand)) (l:List ty.den) (r:List ty.den×List Id),(ld ty s ps l).eval=some r->∀id∈r.2,∃x∈ps,id∈(s.ev x.2).ids
 |[],l,r,h,id,eZ=>by
  obtain rfl:=aB.1 h
  cases eZ
 | (i,x)::ps,l,r,h,id,eZ=>by
  simp only[ld]at h
  obtain⟨h1,h2⟩:=aL.1 h
  obtain⟨y,h3,h4⟩:=av.1 h2
  obtain⟨r',h5,h6⟩:=av.1 h4
  obtain rfl:=aB.1 h6
  rcases cf.1 eZ with eZ | eZ
  ·exact⟨(i,x),bq ..,qP _ _ eZ⟩
  ·obtain⟨z,hz,Bk⟩:=rQ ps _ r' h5 id eZ
   exact⟨z,bj _ hz,Bk⟩
theorem vB{fs:Array Field}:∀(ps:List (Nat×Operand)) (v:aH),(∀x∈ps,t.ev x.2=s.ev x.2)->oz P fs t ps v=oz P fs s ps v
 |[],_,_=>rfl
 | (i,x)::ps,v,h=>by
  have h1:=h (i,x) (bq ..)
  simp only at h1
  simp only[oz,h1]
  have ih:∀v,oz P fs t ps v=oz P fs s ps v:=λv=>vB ps v λz hz=>h z (bj _ hz)
  simp only[ih]
theorem yw:∀(l:List Operand),(∀x∈l,t.ev x=s.ev x)->po t l=po s l
 |[],_=>rfl
 |x::l,h=>by
  simp only[po]
  rw[h x (bq ..),yw l λy hy=>h y (bj _ hy)]
theorem AN{ty:Ty}{X:TypeId}{x:aH}(h:∀id∈x.ids,sS (t.dx id) (s.dx id)):we P t ty X x=we P s ty X x:=by
 unfold we
 split
 ·rfl
 ·simp only[AS.Jo,nV _ _ h]
theorem mX{v:aH}(h:∀t,mH (jM Γ ops s o) s t->(oV P Γ da o t).eval=some (t.put o.dst v)):yo P Γ da ops o s (s.put o.dst v):=
 ⟨⟨v,λ_=>none,[]⟩,App.wU _ _ _,⟨λ_ _ h=>by simp at h,λ_ h=>by simp at h⟩,λt ht=>⟨_,h t ht,App.wU _ _ _⟩⟩
theorem ov{F:AS->Out aH}(ho:∀t,oV P Γ da o t=(F t).bind λv=> .ok (t.put o.dst v))(hF:∀t,mH (jM Γ ops s o) s t->F t=F s){s':AS}(he:(oV P Γ da o s).eval=some s'):yo P Γ da ops o s s':=by
 rw[ho]at he
 obtain⟨v,h1,h2⟩:=av.1 he
 obtain rfl:=aB.1 h2
 refine mX λt ht=> ?_
 rw[ho,hF t ht,av]
 exact⟨v,h1,rfl⟩
theorem Bz{v:aH}{ids:List Id}(hi:∀id∈ids,id∈(jM Γ ops s o).rs)(h:∀t,mH (jM Γ ops s o) s t->(oV P Γ da o t).eval=some ((t.cm ids).put o.dst v)):yo P Γ da ops o s ((s.cm ids).put o.dst v):=
 ⟨⟨v,λ_=>none,ids⟩,App.zH _ _ _ _,⟨λ_ _ h=>by simp at h,hi⟩,λt ht=>⟨_,h t ht,App.zH _ _ _ _⟩⟩
theorem sJ{v:aH}{ids:List Id}{q:Nat}{es:List gU}(hd:o.dst=some q)(hv:s.gd q=true)(hi:∀id∈ids,id∈(jM Γ ops s o).rs)
  (h:∀t,mH (jM Γ ops s o) s t->t.gd q=true->(oV P Γ da o t).eval=some (((t.cm ids).born q es).put o.dst v)):yo P Γ da ops o s (((s.cm ids).born q es).put o.dst v):=by
 refine⟨⟨v,zw q es,ids⟩,by rw[hd];exact App.JZ hv _ _ _,⟨λid e h=> .inr ?_,hi⟩,λt ht=> ?_⟩
 ·cases id with
  |ew _=>simp[zw]at h
  |new i j=>
   simp only[zw]at h
   split at h
   ·rename_i hq;exact⟨q,j,hd,by rw[hq]⟩
   ·cases h
 ·have hv':t.gd q=true:=by rw[ht.gd q hd];exact hv
  exact⟨_,h t ht hv',by rw[hd];exact App.JZ hv' _ _ _⟩
theorem uX{v:aH}{id:Id}{e0 e:gU}(hs:s.dx id=some e0)(hw:id∈(jM Γ ops s o).ws)(h:∀t,mH (jM Γ ops s o) s t->t.dx id=s.dx id->(oV P Γ da o t).eval=some ((t.bM id e).put o.dst v)):
  yo P Γ da ops o s ((s.bM id e).put o.dst v):=by
 refine⟨⟨v,λi=>if i=id then some e else none,[]⟩,App.Oj hs _ _ _,⟨λi e' h=> .inl ?_,λ_ h=>by simp at h⟩,λt ht=> ?_⟩
 ·simp only at h
  split at h
  ·rename_i hi;subst hi;exact⟨hw,by rw[hs];simp⟩
  ·cases h
 ·have:=ht.ws id hw
  exact⟨_,h t ht this,App.Oj (this.trans hs) _ _ _⟩
end
end Go.Ab
namespace Go.Ab
section
variable {P:Program} {Γ:fD} {da:List Nat} {ops:Array Oper} {o:Oper} {s t:AS}
theorem F8{T:TypeId}{x v:aH}{s':AS}(h:(wB P s T x v).eval=some s'):
  ∃id e0 e,x.ids=[id]/\s.dx id=some e0/\s'=s.bM id e/\∀t:AS,t.dx id=s.dx id->(wB P t T x v).eval=some (t.bM id e):=by
 unfold wB at h
 split at h
 ·rename_i id ver p n
  cases nc:s.obj id with
  |none=>rw[nc]at h;simp only[al]at h
  |some r=>
   obtain⟨ve,fr,c⟩:=r
   rw[nc]at h
   obtain⟨h1,h2⟩:=aL.1 h
   obtain⟨r,h3,h4⟩:=av.1 h2
   obtain⟨h5,h6⟩:=aL.1 h4
   obtain⟨h7,h8⟩:=cW.1 h6
   obtain⟨c',h9,Rx⟩:=av.1 h8
   obtain rfl:=aB.1 Rx
   refine⟨id,_,_,rfl,gC nc,rfl,λt ht=> ?_⟩
   have hob':t.obj id=some (ve,fr,c):=by simp only[AS.obj,ht];exact nc
   unfold wB
   simp only[hob']
   exact aL.2 ⟨h1,av.2 ⟨r,h3,aL.2 ⟨h5,cW.2 ⟨h7,av.2 ⟨c',h9,aB.2 rfl⟩⟩⟩⟩⟩
 ·simp only[al]at h
theorem IQ{c:Call}{x y:Operand}{T X:TypeId}(fa:o.op= .call c)(hc:c.callee= .builtin .copy)(ha:c.args.toList=[x,y])(ht:c.argTypes.toList=[T,X]){s':AS}
  (he:(BZ P s o.dst T X (s.ev x) (s.ev y)).eval=some s'):yo P Γ da ops o s s':=by
 have EB:∀t:AS,oV P Γ da o t=BZ P t o.dst T X (t.ev x) (t.ev y):=λt=>by
  unfold oV
  rw[fa]
  simp only[hc,ha,ht]
 have tM:∀z,z=x\/z=y->z∈o.op.operands.toList:=λz hz=>by
  rw[fa]
  simp only[Op.operands,Call.operands,hc,bu,di,ha]
  simpa using hz
 have hx:∀t,mH (jM Γ ops s o) s t->t.ev x=s.ev x:=λt h=>h.ev (tM x (.inl rfl))
 have hy:∀t,mH (jM Γ ops s o) s t->t.ev y=s.ev y:=λt h=>h.ev (tM y (.inr rfl))
 have hm:∀t,mH (jM Γ ops s o) s t->∀ty,we P t ty X (s.ev y)=we P s ty X (s.ev y):=λt h ty=>AN λid eZ=>h.H6 (FW fa rfl) (tM y (.inr rfl)) eZ
 unfold BZ at he
 split at he
 ·rename_i e t b id ver len xe Iv
  obtain⟨m,h1,he⟩:=av.1 he
  split at he
  ·rename_i ve n t' l nc
   obtain⟨h2,yB⟩:=aL.1 he
   obtain⟨l',h3,Dw⟩:=av.1 yB
   obtain⟨h4,SV⟩:=cW.1 Dw
   obtain rfl:=aB.1 SV
   have hw:id∈(jM Γ ops s o).ws:=by
    show id∈writes Γ s o
    unfold writes
    rw[fa]
    simp only[hc,ha,Iv]
    simp[aH.ids]
   refine uX (gC nc) hw λt ht Lx=> ?_
   rw[EB t,hx t ht,hy t ht]
   have hob':t.obj id=some (ve,false,.d (.arr n t') l):=by simp only[AS.obj,Lx];exact nc
   unfold BZ
   simp only[xe,Iv]
   refine av.2 ⟨m,by rw[hm t ht];exact h1,?_⟩
   simp only[hob']
   exact aL.2 ⟨h2,av.2 ⟨l',h3,cW.2 ⟨h4,aB.2 rfl⟩⟩⟩
  ·exact(al.1 he).elim
 ·exact(al.1 he).elim
theorem Fh{c:Call}{x y:Operand}{T X:TypeId}(fa:o.op= .call c)(hc:c.callee= .builtin .append)(ha:c.args.toList=[x,y])(ht:c.argTypes.toList=[T,X])(lh:∀k n,s.ev x= .eV->s.ev y= .d (.int k) n->False){s':AS}
  (he:(sa P s (LA da o.dst) (PE da o.dst) o.dst T X (s.ev x) (s.ev y)).eval=some s'):yo P Γ da ops o s s':=by
 have EB:∀t:AS,t.ev x=s.ev x->t.ev y=s.ev y->oV P Γ da o t=sa P t (LA da o.dst) (PE da o.dst) o.dst T X (t.ev x) (t.ev y):=λt e1 e2=>by
  unfold oV
  rw[fa]
  simp only[hc,ha,ht]
  split
  ·rename_i k n hx hy
   rw[e1]at hx
   rw[e2]at hy
   exact(lh k n hx hy).elim
  ·rfl
 have tM:∀z,z=x\/z=y->z∈o.op.operands.toList:=λz hz=>by
  rw[fa]
  simp only[Op.operands,Call.operands,hc,bu,di,ha]
  simpa using hz
 have hx:∀t,mH (jM Γ ops s o) s t->t.ev x=s.ev x:=λt h=>h.ev (tM x (.inl rfl))
 have hy:∀t,mH (jM Γ ops s o) s t->t.ev y=s.ev y:=λt h=>h.ev (tM y (.inr rfl))
 have hm:∀t,mH (jM Γ ops s o) s t->∀ty,we P t ty X (s.ev y)=we P s ty X (s.ev y):=λt h ty=>AN λid eZ=>h.H6 (FW fa rfl) (tM y (.inr rfl)) eZ
 unfold sa at he
 split at he
 ·rename_i e ty b q xe hd
  obtain⟨m,h1,h2⟩:=av.1 he
  split at h2
  ·rename_i Uc
   cases SU:PE da o.dst with
   |true=>
    rw[SU]at h2
    simp only at h2
    obtain⟨h5,h6⟩:=cW.1 h2
    obtain rfl:=aB.1 h6
    refine mX λt ht=> ?_
    rw[EB t (hx t ht) (hy t ht),hx t ht,hy t ht]
    unfold sa
    simp only[hd]at SU xe ⊢
    simp only[xe,Uc,SU]
    refine av.2 ⟨m,by rw[hm t ht];exact h1,?_⟩
    exact cW.2 ⟨h5,aB.2 rfl⟩
   |false=>
   rw[SU]at h2
   simp only at h2
   obtain⟨h3,h4⟩:=aL.1 h2
   obtain⟨h5,h6⟩:=cW.1 h4
   obtain rfl:=aB.1 h6
   refine sJ (ids:=[]) hd h3 (λ_ h=>by cases h) λt ht hv=> ?_
   rw[EB t (hx t ht) (hy t ht),hx t ht,hy t ht]
   unfold sa
   simp only[hd]at SU xe ⊢
   simp only[xe,Uc,SU]
   refine av.2 ⟨m,by rw[hm t ht];exact h1,?_⟩
   exact aL.2 ⟨hv,cW.2 ⟨h5,aB.2 rfl⟩⟩
  ·rename_i id ver len Uc
   split at h2
   ·rename_i v fr e' t' l nc
    obtain⟨h3,h4⟩:=aL.1 h2
    obtain⟨l',h5,h6⟩:=av.1 h4
    obtain⟨h7,h8⟩:=cW.1 h6
    obtain⟨h9,Rx⟩:=cW.1 h8
    obtain⟨Tx,Tz⟩:=cW.1 Rx
    obtain rfl:=aB.1 Tz
    have hw:id∈(jM Γ ops s o).ws:=by
     show id∈writes Γ s o
     unfold writes
     rw[fa]
     simp only[hc,ha,Uc]
     simp[aH.ids]
    refine uX (gC nc) hw λt ht Lx=> ?_
    rw[EB t (hx t ht) (hy t ht),hx t ht,hy t ht]
    have hob':t.obj id=some (v,fr,.vec e' t' l):=by simp only[AS.obj,Lx];exact nc
    unfold sa
    simp only[hd]at xe ⊢
    simp only[xe,Uc]
    refine av.2 ⟨m,by rw[hm t ht];exact h1,?_⟩
    simp only[hob']
    exact aL.2 ⟨h3,av.2 ⟨l',h5,cW.2 ⟨h7,cW.2 ⟨h9,cW.2 ⟨Tx,aB.2 rfl⟩⟩⟩⟩⟩
   ·simp only[al]at h2
  ·simp only[al]at h2
 ·simp only[al]at he
theorem Ag:∀(n:Nat) (todo acc:List Id),∀id∈acc,id∈s.reach n todo acc
 | 0,_,_,id,h=>h
 |_+1,[],_,id,h=>h
 |n+1,x::todo,acc,id,h=>by
  rw[AS.reach]
  split
  ·exact Ag n todo acc id h
  ·exact Ag n _ _ id (cf.2 (.inl h))
theorem ru:∀(n:Nat) (todo acc:List Id),(∀id∈s.reach n todo acc,((t.dx id).getD .dead).ids=((s.dx id).getD .dead).ids)->t.reach n todo acc=s.reach n todo acc
 | 0,_,_,_=>rfl
 |_+1,[],_,_=>rfl
 |n+1,x::todo,acc,h=>by
  rw[AS.reach]at h
  rw[AS.reach,AS.reach]
  split
  ·rename_i hc
   rw[if_pos hc]at h
   exact ru n todo acc h
  ·rename_i hc
   rw[if_neg hc]at h
   have hx:=h x (Ag n _ _ x (cf.2 (.inr (aR.2 rfl))))
   rw[hx]
   exact ru n _ _ h
theorem PB(e:Option gU):((e.map gU.J7).getD .dead).ids=(e.getD .dead).ids:=by
 cases e with
 |none=>rfl
 |some x=>cases x <;> rfl
theorem Bn(ids:List Id)(n:Nat)(todo acc:List Id):(s.cm ids).reach n todo acc=s.reach n todo acc:=by
 refine ru n todo acc λid _=> ?_
 rw[iO]
 split
 ·exact PB _
 ·rfl
theorem xC:∀(ps:List (Option Ty)) (vs:List aH),(∀v∈vs,∀id∈v.ids,sS (t.dx id) (s.dx id))->t.conv ps vs=s.conv ps vs
 |[],[],_=>rfl
 |[],_::_,_=>rfl
 |some _::_,[],_=>rfl
 |none::_,[],_=>rfl
 |some ty::ps,v::vs,h=>by
  simp only[AS.conv]
  rw[nV v ty (h v (bq ..)),xC ps vs λx hx=>h x (bj _ hx)]
 |none::ps,v::vs,h=>by
  simp only[AS.conv]
  rw[xC ps vs λx hx=>h x (bj _ hx)]
theorem xD:∀(ps:List (Option Ty)) (vs:List aH) (r:List aH×List Id),(s.conv ps vs).eval=some r->r.1.flatMap aH.ids=qV ps vs/\∀id∈r.2,∃v∈vs,id∈v.ids
 |[],[],r,h=>by
  simp only[AS.conv,aB]at h
  subst h
  exact⟨rfl,λ_ h=>by cases h⟩
 |some ty::ps,v::vs,r,h=>by
  simp only[AS.conv]at h
  obtain⟨x,h1,h2⟩:=av.1 h
  obtain⟨r',h3,h4⟩:=av.1 h2
  obtain rfl:=aB.1 h4
  obtain⟨i1,i2⟩:=xD ps vs r' h3
  refine⟨by simp[qV,i1,aH.ids],λid eZ=> ?_⟩
  rcases cf.1 eZ with eZ | eZ
  ·exact⟨v,bq ..,qP v id eZ⟩
  ·obtain⟨u,hu,Gn⟩:=i2 id eZ
   exact⟨u,bj _ hu,Gn⟩
 |none::ps,v::vs,r,h=>by
  simp only[AS.conv]at h
  obtain⟨r',h3,h4⟩:=av.1 h
  obtain rfl:=aB.1 h4
  obtain⟨i1,i2⟩:=xD ps vs r' h3
  refine⟨by simp[qV,i1],λid eZ=> ?_⟩
  obtain⟨u,hu,Gn⟩:=i2 id eZ
  exact⟨u,bj _ hu,Gn⟩
 |[],_::_,_,h=>by simp only[AS.conv,al]at h
 |some _::_,[],_,h=>by simp only[AS.conv,al]at h
 |none::_,[],_,h=>by simp only[AS.conv,al]at h
theorem Hf:∀(c:aH),∀v∈c.list,∀id∈v.ids,id∈c.ids
 | .cons a b,v,hv,id,eZ=>by
  simp only[aH.list,cH]at hv
  simp only[aH.ids,cf]
  rcases hv with rfl | hv
  ·exact .inl eZ
  ·exact .inr (Hf b v hv id eZ)
 | .sb _,_,h,_,_ | .undef,_,h,_,_ | .gone,_,h,_,_ | .eV,_,h,_,_ | .o6,_,h,_,_ | .rP,_,h,_,_ | .uw,_,h,_,_ | .d _ _,_,h,_,_ | .ptr ..,_,h,_,_ | .gE ..,_,h,_,_
 | .fn ..,_,h,_,_ | .pr ..,_,h,_,_ | .nil,_,h,_,_ | .vec ..,_,h,_,_ | .bx ..,_,h,_,_ | .kO ..,_,h,_,_ | .mp ..,_,h,_,_ | .qd ..,_,h,_,_ | .dh ..,_,h,_,_=>by simp[aH.list]at h
theorem A2{ids:List Id}(h:∀id∈ids,t.dx id=s.dx id):t.rY ids=s.rY ids:=by
 funext id ver
 unfold AS.rY
 cases hi:idxOf id ids with
 |none=>rfl
 |some k=>
  have:t.obj id=s.obj id:=by simp only[AS.obj,h id (eQ (pA hi))]
  rw[this]
theorem Bb{id:Id}(h:t.dx id=s.dx id):t.tA id=s.tA id:=by simp only[AS.tA,AS.obj,h]
theorem yW{ids:List Id}(h:∀id∈ids,t.dx id=s.dx id)(q:Nat):t.qN ids q=s.qN ids q:=by
 funext id ver
 cases id with
 |new i j=>rfl
 |ew k=>
  simp only[AS.qN]
  cases hk:ids[k]? with
  |none=>rfl
  |some id=>simp only[Bb (h id (eQ hk))]
theorem yx{ids:List Id}(h:∀id∈ids,t.dx id=s.dx id)(q b:Nat):t.pv ids q b=s.pv ids q b:=by
 funext e
 cases e <;> simp only[AS.pv,yW h]
theorem GR{ids:List Id}(h:∀id∈ids,t.dx id=s.dx id){id:Id}(eZ:id∈ids):t.nP ids id=s.nP ids id:=by
 unfold AS.nP
 rw[h id eZ,A2 h]
def nv(s:AS)(ids:List Id)(d:Option Tmp)(G:aZ):AS:=
 (AS.lj s ids (d.getD 0) (s.made ids (d.getD 0) G.news) ids G.ez).put d (G.val.mg (s.qN ids (d.getD 0)))
theorem El{ids:List Id}{d:Option Tmp}{G:aZ}{s':AS}:(s.back ids d G).eval=some s'↔(G.ez.length=ids.length/\(G.news=[]\/∃q,d=some q/\s.gd q=true))/\s'=nv s ids d G:=by
 unfold AS.back
 cases d with
 |none=>
  rw[aL,aB]
  simp only[ak,beq_iff_eq,List.isEmpty_iff,nv,AS.put,Option.getD_none]
  constructor
  ·rintro⟨⟨h1,h2⟩,rfl⟩
   rw[h2];exact⟨⟨h1,.inl rfl⟩,rfl⟩
  ·rintro⟨⟨h1,h2⟩,rfl⟩
   rcases h2 with h2 | ⟨q,hq,_⟩
   ·rw[h2];exact⟨⟨h1,rfl⟩,rfl⟩
   ·cases hq
 |some q=>
  rw[aL,aB]
  simp only[ak,beq_iff_eq,j9,List.isEmpty_iff,nv,gj]
  constructor
  ·rintro⟨⟨h1,h2⟩,rfl⟩
   exact⟨⟨h1,h2.imp id λh=>⟨q,rfl,h⟩⟩,rfl⟩
  ·rintro⟨⟨h1,h2⟩,rfl⟩
   refine⟨⟨h1,h2.imp id λ⟨q',hq,h⟩=> ?_⟩,rfl⟩
   obtain rfl:q=q':=by simpa using hq
   exact h
theorem AI(s0:AS)(all:List Id)(q:Nat):∀(ids:List Id) (es:List gU) (s:AS),(AS.lj s0 all q s ids es).news.length=s.news.length
 |[],_,_=>by simp[AS.lj]
 |_::_,[],_=>by simp[AS.lj]
 |id::ids,e::es,s=>by rw[AS.lj,AI s0 all q ids es,xS]
theorem Nw(s:AS)(ids:List Id)(q:Nat)(es:List gU):(s.made ids q es).news.length=s.news.length:=by
 cases es <;> simp[AS.made,AS.born]
def w8(ids:List Id)(d:Option Tmp)(G:aZ)(id:Id):Prop:=id∈ids\/(G.news≠ []/\∃q j,d=some q/\id= .new q j)
theorem BR{ids:List Id}{d:Option Tmp}{G:aZ}(hn:ids.Nodup)(hp:∀id∈ids,s.dx id≠none)(hl:G.ez.length=ids.length)(hv:G.news=[]\/∃q,d=some q/\s.gd q=true):
  (∀id,¬w8 ids d G id->(nv s ids d G).dx id=s.dx id)/\
  (∀(k:Nat) (id:Id) (e:gU),ids[k]? =some id->G.ez[k]? =some e->(nv s ids d G).dx id=some (s.pv ids (d.getD 0) (s.tA id) e))/\
  (∀q j,G.news≠ []->d=some q->(nv s ids d G).dx (.new q j)=(G.news[j]?).map (s.pv ids q 0))/\
  (∀q j,G.news≠ []->d=some q->s.dx (.new q j)=none):=by
 have hv':G.news=[]\/s.gd (d.getD 0)=true:=by
  rcases hv with h | ⟨q,rfl,h⟩
  ·exact .inl h
  ·exact .inr h
 obtain⟨m1,m2⟩:=GS s ids (d.getD 0) G.news hv'
 have Qm:∀q j,G.news≠ []->d=some q->s.dx (.new q j)=none:=λq j h1 h2=>by
  rcases hv' with h | h
  ·exact absurd h h1
  ·subst h2;exact(sX.1 h).2 j
 have uV:∀id,s.dx id≠none->G.news=[]\/∀j,id≠ .new (d.getD 0) j:=λid eZ=>by
  rcases hv with h | ⟨q,rfl,h⟩
  ·exact .inl h
  ·exact .inr λj e=>eZ (by rw[e];exact(sX.1 h).2 j)
 obtain⟨n1,n2⟩:=vV s ids (d.getD 0) ids G.ez (s.made ids (d.getD 0) G.news) hn hl (λid eZ=>by rw[m1 id (uV id (hp id eZ))];exact hp id eZ)
 refine⟨λid eZ=> ?_,λk id e h1 h2=> ?_,λq j h1 h2=> ?_,Qm⟩
 ·unfold w8 at eZ
  simp only[not_or]at eZ
  rw[nv,wN,n1 id eZ.1]
  refine m1 id ?_
  by_cases lh:G.news=[]
  ·exact .inl lh
  ·right
   intro j e
   rcases hv with h | ⟨q,hq,_⟩
   ·exact lh h
   ·exact eZ.2 ⟨lh,q,j,hq,by rw[e,hq];rfl⟩
 ·rw[nv,wN,n2 k id e h1 h2]
 ·subst h2
  have V4:Id.new q j ∉ ids:=λeZ=>hp _ eZ (Qm q j h1 rfl)
  rw[nv,wN,n1 _ V4]
  exact m2 h1 j
open Classical in
theorem IJ{c:Call}{F:Operand}{f:FuncId}{caps:aH}{en:Entry}(fa:o.op= .call c)(hc:c.callee= .value F)(hF:s.ev F= .fn f caps)(hΓ:Γ f (c.args.toList.map s.ev++caps.list)=some en){s':AS}
  (he:(s.call en o.dst (c.args.toList.map s.ev++caps.list)).eval=some s'):yo P Γ da ops o s s':=by
 have tM:∀z,z=F\/z∈c.args.toList->z∈o.op.operands.toList:=λz hz=>by
  rw[fa]
  simp only[Op.operands,Call.operands,hc,di,cf]
  rcases hz with rfl | hz
  ·exact .inl (by simp)
  ·exact .inr hz
 have Nm:∀v∈c.args.toList.map s.ev++caps.list,∀id∈v.ids,id∈(jM Γ ops s o).rs:=λv hv id eZ=>by
  rcases cf.1 hv with hv | hv
  ·obtain⟨x,hx,rfl⟩:=eb.1 hv
   exact xN (FW fa rfl) (tM x (.inr hx)) eZ
  ·refine xN (FW fa rfl) (tM F (.inl rfl)) ?_
   rw[hF]
   exact Hf caps v hv id eZ
 generalize Cn:c.args.toList.map s.ev++caps.list=vs at he Nm hΓ
 have OO:(jM Γ ops s o).ws=s.reach 64 (qV en.params vs) []:=by
  show writes Γ s o=_
  unfold writes
  rw[fa]
  simp only[hc,hF,Cn,hΓ]
 have EB:∀t,mH (jM Γ ops s o) s t->oV P Γ da o t=t.call en o.dst vs:=λt ht=>by
  unfold oV
  rw[fa]
  have h1:t.ev F= .fn f caps:=by rw[ht.ev (tM F (.inl rfl)),hF]
  have h2:c.args.toList.map t.ev=c.args.toList.map s.ev:=j5 λx hx=>ht.ev (tM x (.inr hx))
  obtain⟨cal,args,tys⟩:=c
  simp only at hc Cn h2
  subst hc
  simp only[h1,h2,Cn,hΓ]
 unfold AS.call at he
 obtain⟨r,h1,h2⟩:=av.1 he
 obtain⟨RX,Mr⟩:=xD _ _ r h1
 have hlends:∀t:AS,(t.cm r.2).Kp r.1=t.reach 64 (qV en.params vs) []:=λt=>by
  unfold AS.Kp
  rw[Bn,RX]
 rw[hlends]at h2
 generalize hW:s.reach 64 (qV en.params vs) []=W at h2 OO
 have hWn:W.Nodup:=by rw[<-hW];exact rz s _ _ _ (by simp)
 unfold AS.enter at h2
 obtain⟨zK,h3⟩:=aL.1 h2
 obtain⟨x,hx,h4⟩:=B5.1 h3
 obtain⟨x0,Um,h4⟩:=av.1 h4
 have Wr:=en.Oq _ _ Um
 rw[Wr]at h4 Um
 obtain⟨⟨hl,hv⟩,rfl⟩:=El.1 h4
 generalize hG:en.out (r.1.map (aH.mg ((s.cm r.2).rY W))) (W.map ((s.cm r.2).nP W)) x=G at hl hv h4 ⊢
 have hp:∀id∈W,(s.cm r.2).dx id≠none:=λid eZ=>by
  have:=(ak _ _▸fy.1 zK id eZ).1
  obtain⟨⟨v,fr,c⟩,hr⟩:=dj.1 this
  rw[gC hr];simp
 obtain⟨b1,b2,b3,b4⟩:=BR (s:=s.cm r.2) (d:=o.dst) hWn hp hl hv
 have hfzent:∀(u:AS) id,u.dx id=none↔(u.cm r.2).dx id=none:=λu id=>by
  rw[iO];split <;> simp
 let E:SI:=⟨G.val.mg ((s.cm r.2).qN W (o.dst.getD 0)),λid=>if w8 W o.dst G id then(nv (s.cm r.2) W o.dst G).dx id else none,r.2⟩
 have hslots:∀u:AS,(nv (u.cm r.2) W o.dst G).dU=(u.put o.dst (G.val.mg ((u.cm r.2).qN W (o.dst.getD 0)))).dU:=λu=>by
  unfold nv
  cases o.dst <;> simp[AS.put,tX,De,nh]
 have hlen:∀u:AS,(nv (u.cm r.2) W o.dst G).news.length=u.news.length:=λu=>by
  unfold nv
  cases o.dst <;> simp[AS.put,AI,Nw,o4]
 refine⟨E,⟨hslots s,hlen s,λid=> ?_⟩,⟨λid e Cm=> ?_,λid eZ=> ?_⟩,λt ht=> ?_⟩
 ·by_cases rV:w8 W o.dst G id
  ·have Cm:E.up id=(nv (s.cm r.2) W o.dst G).dx id:=if_pos rV
   rw[Cm]
   cases hb:(nv (s.cm r.2) W o.dst G).dx id with
   |some e=>rfl
   |none=>
    rcases rV with eZ | ⟨lh,q,j,hq,rfl⟩
    ·obtain⟨k,hk⟩:=lK.1 eZ
     have mw:k < G.ez.length:=by rw[hl];exact(fE.1 hk).1
     rw[b2 k id _ hk (dB mw)]at hb
     cases hb
    ·have:=(hfzent s _).2 (b4 q j lh hq)
     simp[this]
  ·have Cm:E.up id=none:=if_neg rV
   rw[Cm,b1 id rV,iO]
 ·by_cases rV:w8 W o.dst G id
  ·rcases rV with eZ | ⟨_,q,j,hq,rfl⟩
   ·left
    refine⟨by rw[OO];exact eZ,λh=>hp id eZ ((hfzent s id).1 h)⟩
   ·exact .inr ⟨q,j,hq,rfl⟩
  ·have:E.up id=none:=if_neg rV
   rw[this]at Cm;cases Cm
 ·obtain⟨v,hv,eZ⟩:=Mr id eZ
  exact Nm v hv id eZ
 ·have TK:t.conv en.params vs=s.conv en.params vs:=xC _ _ λv hv id eZ=>ht.rs id (Nm v hv id eZ)
  have ym:∀id∈W,t.dx id=s.dx id:=λid eZ=>ht.ws id (by rw[OO];exact eZ)
  have G2:∀id∈W,(t.cm r.2).dx id=(s.cm r.2).dx id:=λid eZ=>by
   rw[iO,iO,ym id eZ]
  have hWt:t.reach 64 (qV en.params vs) []=W:=by
   rw[<-hW]
   refine ru _ _ _ λid eZ=> ?_
   rw[ym id (by rw[<-hW];exact eZ)]
  have Ul:G.news=[]\/∃q,o.dst=some q/\(t.cm r.2).gd q=true:=hv.imp id λ⟨q,hq,h⟩=>⟨q,hq,by
   rw[qQ]at h ⊢
   rw[ht.gd q hq];exact h⟩
  have Px:∀id∈W,(t.cm r.2).dx id≠none:=λid eZ=>by rw[G2 id eZ];exact hp id eZ
  obtain⟨d1,d2,d3,d4⟩:=BR (s:=t.cm r.2) (d:=o.dst) hWn Px hl Ul
  refine⟨nv (t.cm r.2) W o.dst G,?_,⟨?_,hlen t,λid=> ?_⟩⟩
  ·rw[EB t ht]
   unfold AS.call
   rw[TK]
   refine av.2 ⟨r,h1,?_⟩
   rw[hlends,hWt]
   unfold AS.enter
   have hA:(t.cm r.2).rY W=(s.cm r.2).rY W:=A2 G2
   have hO:W.map ((t.cm r.2).nP W)=W.map ((s.cm r.2).nP W):=j5 λid eZ=>GR G2 eZ
   refine aL.2 ⟨?_,B5.2 ⟨x,?_,av.2 ⟨x,Um,?_⟩⟩⟩
   ·refine fy.2 λid eZ=> ?_
    have:=fy.1 zK id eZ
    simp only[AS.obj,AS.Cx]at this ⊢
    rw[G2 id eZ]
    exact this
   ·rw[hA,hO,<-hx]
   ·rw[hA,hO,hG]
    exact El.2 ⟨⟨hl,Ul⟩,rfl⟩
  ·rw[hslots t,yW G2]
  ·by_cases rV:w8 W o.dst G id
   ·have Cm:E.up id=(nv (s.cm r.2) W o.dst G).dx id:=if_pos rV
    rw[Cm]
    rcases rV with eZ | ⟨lh,q,j,hq,rfl⟩
    ·obtain⟨k,hk⟩:=lK.1 eZ
     have mw:k < G.ez.length:=by rw[hl];exact(fE.1 hk).1
     rw[b2 k id _ hk (dB mw),d2 k id _ hk (dB mw),yx G2,Bb (G2 id eZ)]
    ·rw[b3 q j lh hq,d3 q j lh hq,yx G2]
     cases hn:G.news[j]? with
     |some e=>rfl
     |none=>
      have:=(hfzent t _).2 (d4 q j lh hq)
      simp[this]
   ·have Cm:E.up id=none:=if_neg rV
    rw[Cm,d1 id rV,iO]
end
end Go.Ab
namespace Go.Ab
section
variable {P:Program} {Γ:fD} {da:List Nat} {ops:Array Oper} {o:Oper} {s t:AS}
theorem Out.bind_assoc{α β γ:Type}(o:Out α)(f:α->Out β)(g:β->Out γ):(o.bind f).bind g=o.bind λa=>(f a).bind g:=by
 induction o with
 |ok a=>rfl
 |fail=>rfl
 |pq c r ih=>simp only[Out.bind,ih]
 |get x h ih=>simp only[Out.bind,ih]
 |br c x y ih1 ih2=>simp only[Out.bind,ih1,ih2]
theorem HR{parts:Array (Nat×Operand)}{x:Nat×Operand}(h:x∈parts.toList):x.2∈(parts.toList.map (·.2)).toArray.toList:=eb.2 ⟨x,h,rfl⟩
theorem K9{T:TypeId}{x:Operand}(fa:o.op= .box T x){s':AS}(he:(GG P s (isObj da o.dst) o.dst T (s.ev x)).eval=some s'):yo P Γ da ops o s s':=by
 have EB:∀t,oV P Γ da o t=GG P t (isObj da o.dst) o.dst T (t.ev x):=λt=>by unfold oV;rw[fa]
 have hm:x∈o.op.operands.toList:=by rw[fa];simp[Op.operands]
 unfold GG at he
 split at he
 ·rename_i q hd
  split at he
  ·rename_i ho
   obtain⟨h1,h2⟩:=aL.1 he
   obtain rfl:=aB.1 h2
   simp only[ak]at h1
   refine sJ (ids:=[]) hd h1.1 (λ_ h=>by cases h) λt ht hv=> ?_
   rw[EB,ht.ev hm]
   unfold GG
   simp only[hd]at ho ⊢
   simp only[ho]
   exact aL.2 ⟨by simp[hv,h1.2],aB.2 rfl⟩
  ·rename_i ho
   split at he
   ·rename_i ty Uh
    obtain⟨h1,h2⟩:=aL.1 he
    obtain⟨y,h3,h4⟩:=av.1 h2
    obtain rfl:=aB.1 h4
    refine Bz (λid eZ=>xN (FW fa rfl) hm (qP _ _ eZ)) λt ht=> ?_
    rw[EB,ht.ev hm]
    unfold GG
    simp only[hd]at ho ⊢
    simp only[ho,Uh]
    refine aL.2 ⟨h1,av.2 ⟨y,?_,aB.2 rfl⟩⟩
    rw[nV _ _ λid eZ=>ht.H6 (FW fa rfl) hm eZ];exact h3
   ·simp only[al]at he
 ·simp only[al]at he
theorem Ij{T:TypeId}{x:Operand}(fa:o.op= .sliceToArrayPointer T x){s':AS}(he:(yg P s o.dst T (s.ev x)).eval=some s'):yo P Γ da ops o s s':=by
 have EB:∀t,oV P Γ da o t=yg P t o.dst T (t.ev x):=λt=>by unfold oV;rw[fa]
 have hm:x∈o.op.operands.toList:=by rw[fa];simp[Op.operands]
 unfold yg at he
 split at he
 ·rename_i n e hT
  split at he
  ·rename_i ty Uh
   obtain⟨h1,h2⟩:=aL.1 he
   obtain⟨l,h3,h4⟩:=av.1 h2
   obtain⟨h5,h6⟩:=cW.1 h4
   obtain rfl:=aB.1 h6
   refine Bz (λid eZ=>xN (FW fa rfl) hm (qP _ _ eZ)) λt ht=> ?_
   rw[EB,ht.ev hm]
   unfold yg
   simp only[hT,Uh]
   refine aL.2 ⟨h1,av.2 ⟨l,?_,cW.2 ⟨h5,aB.2 rfl⟩⟩⟩
   rw[nV _ _ λid eZ=>ht.H6 (FW fa rfl) hm eZ];exact h3
  ·simp only[al]at he
 ·simp only[al]at he
theorem GI{T:TypeId}{parts:Array (Nat×Operand)}(fa:o.op= .build T parts){s':AS}(he:(vR P s o.dst T parts.toList).eval=some s'):yo P Γ da ops o s s':=by
 have EB:∀t,oV P Γ da o t=vR P t o.dst T parts.toList:=λt=>by unfold oV;rw[fa]
 have hm:∀x∈parts.toList,x.2∈o.op.operands.toList:=λx hx=>by rw[fa];exact HR hx
 unfold vR at he
 split at he
 ·rename_i fs hT
  split at he
  ·rename_i z hz
   obtain⟨h1,h2⟩:=aL.1 he
   obtain⟨v,h3,h4⟩:=av.1 h2
   obtain rfl:=aB.1 h4
   refine mX λt ht=> ?_
   rw[EB]
   unfold vR
   simp only[hT,hz]
   refine aL.2 ⟨h1,av.2 ⟨v,?_,aB.2 rfl⟩⟩
   rw[vB _ _ λx hx=>ht.ev (hm x hx)];exact h3
  ·simp only[al]at he
 ·rename_i n e hT
  split at he
  ·rename_i ty Uh
   obtain⟨h1,h2⟩:=aL.1 he
   obtain⟨r,h3,h4⟩:=av.1 h2
   obtain rfl:=aB.1 h4
   refine Bz (λid eZ=> ?_) λt ht=> ?_
   ·obtain⟨x,hx,hi⟩:=rQ _ _ _ h3 id eZ
    exact xN (FW fa rfl) (hm x hx) hi
   ·rw[EB]
    unfold vR
    simp only[hT,Uh]
    refine aL.2 ⟨h1,av.2 ⟨r,?_,aB.2 rfl⟩⟩
    rw[sQ _ _ λx hx=>⟨ht.ev (hm x hx),λid eZ=>ht.H6 (FW fa rfl) (hm x hx) eZ⟩];exact h3
  ·simp only[al]at he
 ·simp only[al]at he
theorem zz{T:TypeId}{n:Nat}{parts:Array (Nat×Operand)}(fa:o.op= .buildSlice T n parts){s':AS}(he:(mJ P s (LA da o.dst) (isObj da o.dst) o.dst T n parts.toList).eval=some s'):yo P Γ da ops o s s':=by
 have EB:∀t,oV P Γ da o t=mJ P t (LA da o.dst) (isObj da o.dst) o.dst T n parts.toList:=λt=>by unfold oV;rw[fa]
 have hm:∀x∈parts.toList,x.2∈o.op.operands.toList:=λx hx=>by rw[fa];exact HR hx
 unfold mJ at he
 split at he
 ·rename_i e ty b q xe hd
  obtain⟨h1,h2⟩:=aL.1 he
  obtain⟨r,h3,h4⟩:=av.1 h2
  have I4:∀id∈r.2,id∈(jM Γ ops s o).rs:=λid eZ=>by
   obtain⟨x,hx,hi⟩:=rQ _ _ _ h3 id eZ
   exact xN (FW fa rfl) (hm x hx) hi
  have TK:∀t,mH (jM Γ ops s o) s t->∀l,ld ty t parts.toList l=ld ty s parts.toList l:=λt ht l=>sQ _ _ λx hx=>⟨ht.ev (hm x hx),λid eZ=>ht.H6 (FW fa rfl) (hm x hx) eZ⟩
  split at h4
  ·rename_i ho
   obtain⟨h5,h6⟩:=aL.1 h4
   obtain rfl:=aB.1 h6
   refine sJ hd h5 I4 λt ht hv=> ?_
   rw[EB]
   unfold mJ
   simp only[hd]at ho xe ⊢
   simp only[xe,ho]
   refine aL.2 ⟨h1,av.2 ⟨r,by rw[TK t ht];exact h3,aL.2 ⟨hv,aB.2 rfl⟩⟩⟩
  ·rename_i ho
   obtain rfl:=aB.1 h4
   refine Bz I4 λt ht=> ?_
   rw[EB]
   unfold mJ
   simp only[hd]at ho xe ⊢
   simp only[xe,ho]
   exact aL.2 ⟨h1,av.2 ⟨r,by rw[TK t ht];exact h3,aB.2 rfl⟩⟩
 ·simp only[al]at he
theorem Bm{T:TypeId}{x y:Operand}(fa:o.op= .makeSlice T x y){len cap:Int}(hx:(asInt (s.ev x)).eval=some len)(hy:(asInt (s.ev y)).eval=some cap){s':AS}(he:(pD P s o.dst T len cap).eval=some s'):yo P Γ da ops o s s':=by
 have EB:∀t,oV P Γ da o t=(asInt (t.ev x)).bind λl=>(asInt (t.ev y)).bind λc=>pD P t o.dst T l c:=λt=>by unfold oV;rw[fa]
 have hm:∀z,z=x\/z=y->z∈o.op.operands.toList:=λz hz=>by rw[fa];simpa[Op.operands]using hz
 unfold pD at he
 split at he
 ·rename_i e ty b q xe hd
  obtain⟨h1,h2⟩:=aL.1 he
  obtain⟨h3,h4⟩:=cW.1 h2
  obtain rfl:=aB.1 h4
  refine sJ (ids:=[]) hd h1 (λ_ h=>by cases h) λt ht hv=> ?_
  rw[EB,ht.ev (hm x (.inl rfl)),ht.ev (hm y (.inr rfl))]
  refine av.2 ⟨len,hx,av.2 ⟨cap,hy,?_⟩⟩
  unfold pD
  simp only[xe,hd]
  exact aL.2 ⟨hv,cW.2 ⟨h3,aB.2 rfl⟩⟩
 ·simp only[al]at he
theorem FR{id:Id}{ver:Nat}{kt vt:Ty}(h:sS (t.dx id) (s.dx id)):t.qf id ver kt vt=s.qf id ver kt vt:=by
 unfold AS.qf
 rcases ze h with⟨h1,h2⟩ | ⟨v,f,f',c,h1,h2⟩
 ·rw[h1,h2]
 ·rw[h1,h2]
  cases c <;> rfl
theorem DR{T:TypeId}{m k:aH}{ok:Bool}(h:∀id∈m.ids,sS (t.dx id) (s.dx id)):uY P t T m k ok=uY P s T m k ok:=by
 unfold uY
 split
 ·rename_i id ver hm
  rw[FR (h id (by simp[aH.ids]))]
 ·rfl
theorem EG{id:Id}{ver:Nat}{kt vt:Ty}{l:List (kt.den×vt.den)}(h:(s.qf id ver kt vt).eval=some l):∃e,s.dx id=some e:=by
 unfold AS.qf at h
 split at h
 ·rename_i v fr k' v' l' nc
  exact⟨_,gC nc⟩
 ·simp only[al]at h
theorem AK{id:Id}{ver:Nat}{kt vt:Ty}(h:t.dx id=s.dx id):t.qf id ver kt vt=s.qf id ver kt vt:=by
 unfold AS.qf AS.obj
 rw[h]
theorem xu{id:Id}(h:t.dx id=s.dx id):t.qu id=s.qu id:=by
 unfold AS.qu AS.obj
 rw[h]
theorem DU{T:TypeId}{m k v:aH}{s':AS}(h:(u6 P s T m k v).eval=some s'):
  ∃id e0 e,m.ids=[id]/\s.dx id=some e0/\s'=s.bM id e/\∀t:AS,t.dx id=s.dx id->(u6 P t T m k v).eval=some (t.bM id e):=by
 unfold u6 at h
 split at h
 ·rename_i K V kt vt id ver hm
  obtain⟨l,h1,h⟩:=av.1 h
  obtain⟨kx,h2,h⟩:=av.1 h
  obtain⟨vx,h3,h⟩:=av.1 h
  obtain⟨hu,h⟩:=aL.1 h
  obtain rfl:=aB.1 h
  obtain⟨e0,Gm⟩:=EG h1
  refine⟨id,e0,_,rfl,Gm,rfl,λt ht=> ?_⟩
  unfold u6
  simp only[hm]
  exact av.2 ⟨l,by rw[AK ht];exact h1,av.2 ⟨kx,h2,av.2 ⟨vx,h3,aL.2 ⟨by rw[xu ht];exact hu,aB.2 rfl⟩⟩⟩⟩
 ·simp only[al]at h
theorem DT{T:TypeId}{m k:aH}{s':AS}(h:(u5 P s T m k).eval=some s'):
  ∃id e0 e,m.ids=[id]/\s.dx id=some e0/\s'=s.bM id e/\∀t:AS,t.dx id=s.dx id->(u5 P t T m k).eval=some (t.bM id e):=by
 unfold u5 at h
 split at h
 ·rename_i K V kt vt id ver hm
  obtain⟨l,h1,h⟩:=av.1 h
  obtain⟨kx,h2,h⟩:=av.1 h
  obtain⟨hu,h⟩:=aL.1 h
  obtain rfl:=aB.1 h
  obtain⟨e0,Gm⟩:=EG h1
  refine⟨id,e0,_,rfl,Gm,rfl,λt ht=> ?_⟩
  unfold u5
  simp only[hm]
  exact av.2 ⟨l,by rw[AK ht];exact h1,av.2 ⟨kx,h2,aL.2 ⟨by rw[xu ht];exact hu,aB.2 rfl⟩⟩⟩
 ·simp only[al]at h
theorem Ej{s':AS}(he:(oV P Γ da o s).eval=some s'):yo P Γ da ops o s s':=by
 have Gm:=he
 have one:∀x,o.op.operands= #[x]->∀t,mH (jM Γ ops s o) s t->t.ev x=s.ev x/\(EI o.op=false->∀id∈(s.ev x).ids,sS (t.dx id) (s.dx id)):=λx hx t ht=>
  have hm:x∈o.op.operands.toList:=by rw[hx];simp
  ⟨ht.ev hm,λhn _ eZ=>ht.H6 hn hm eZ⟩
 unfold oV at he
 split at he
 ·rename_i x fa
  obtain rfl:=aB.1 he
  refine mX λt ht=> ?_
  unfold oV
  rw[fa]
  simp only
  rw[(one x (by rw[fa];rfl) t ht).1];rfl
 ·rename_i x fa
  obtain rfl:=aB.1 he
  refine mX λt ht=> ?_
  unfold oV
  rw[fa]
  simp only
  rw[(one x (by rw[fa];rfl) t ht).1];rfl
 ·rename_i c x y fa
  refine ov (F:=λt=>Ky (t.ev c) (t.ev x) (t.ev y)) (λt=>by unfold oV;rw[fa]) (λt ht=> ?_) Gm
  rw[ht.ev (by rw[fa];simp[Op.operands]),ht.ev (by rw[fa];simp[Op.operands]),ht.ev (by rw[fa];simp[Op.operands])]
 ·rename_i T fa
  split at he
  ·rename_i z q hz hq
   obtain⟨h1,h2⟩:=aL.1 he
   obtain rfl:=aB.1 h2
   simp only[ak]at h1
   refine sJ (ids:=[]) hq h1.1 (λ_ h=>by cases h) λt ht hv=> ?_
   unfold oV
   rw[fa]
   simp only[hz,hq]
   exact aL.2 ⟨by simp[hv,h1.2],aB.2 rfl⟩
  ·exact(al.1 he).elim
 ·rename_i T x fa
  exact K9 fa he
 ·rename_i T parts fa
  exact GI fa he
 ·rename_i T n parts fa
  exact zz fa he
 ·rename_i T x fa
  refine ov (F:=λt=>yJ P t T (t.ev x)) (λt=>by unfold oV;rw[fa]) (λt ht=> ?_) Gm
  obtain⟨h1,h2⟩:=one x (by rw[fa];rfl) t ht
  rw[h1,Hi (h2 (FW fa rfl))]
 ·rename_i T x v fa
  obtain⟨s1,h1,h2⟩:=av.1 he
  obtain rfl:=aB.1 h2
  obtain⟨id,e0,e,eZ,hs,rfl,hl⟩:=F8 h1
  refine uX hs ?_ λt ht Lx=> ?_
  ·show id∈writes Γ s o
   unfold writes
   rw[fa]
   simp only[eZ,aR]
  ·unfold oV
   rw[fa]
   simp only
   rw[ht.ev (x:=x) (by rw[fa];simp[Op.operands]),ht.ev (x:=v) (by rw[fa];simp[Op.operands])]
   exact av.2 ⟨_,hl t Lx,aB.2 rfl⟩
 ·rename_i x fa
  split at he
  ·rename_i id v p n hx
   obtain rfl:=aB.1 he
   refine mX λt ht=> ?_
   unfold oV
   rw[fa]
   simp only[(one x (by rw[fa];rfl) t ht).1,hx];rfl
  ·rename_i ty y hx
   obtain rfl:=aB.1 he
   refine mX λt ht=> ?_
   unfold oV
   rw[fa]
   simp only[(one x (by rw[fa];rfl) t ht).1,hx];rfl
  ·rename_i f c hx
   obtain rfl:=aB.1 he
   refine mX λt ht=> ?_
   unfold oV
   rw[fa]
   simp only[(one x (by rw[fa];rfl) t ht).1,hx];rfl
  ·exact(al.1 he).elim
 ·rename_i op T x y U fa
  have Nh:x∈o.op.operands.toList:=by rw[fa];simp[Op.operands]
  have SZ:y∈o.op.operands.toList:=by rw[fa];simp[Op.operands]
  split at he
  ·rename_i i v1 j v2 hx hy
   obtain⟨v,h1,h2⟩:=av.1 he
   obtain rfl:=aB.1 h2
   refine mX λt ht=> ?_
   unfold oV
   rw[fa]
   simp only[ht.ev Nh,ht.ev SZ,hx,hy]
   exact av.2 ⟨v,by rw[Lm (ht.H6 (FW fa rfl) Nh (by rw[hx];simp[aH.ids]))];exact h1,rfl⟩
  ·rename_i lh
   obtain⟨v,h1,h2⟩:=av.1 he
   obtain rfl:=aB.1 h2
   refine mX λt ht=> ?_
   unfold oV
   rw[fa]
   simp only[ht.ev Nh,ht.ev SZ]
   exact av.2 ⟨v,h1,rfl⟩
 ·rename_i op T x fa
  refine ov (F:=λt=>Vf op (t.ev x)) (λt=>by unfold oV;rw[fa]) (λt ht=> ?_) Gm
  rw[(one x (by rw[fa];rfl) t ht).1]
 ·rename_i T U x fa
  split at he
  ·rename_i id ver len hTU hx
   unfold GO at he
   split at he
   ·rename_i v e0 l e nc hD
    split at he
    ·rename_i hE
     obtain⟨h1,h2⟩:=aL.1 he
     obtain⟨h3,h4⟩:=cW.1 h2
     obtain rfl:=aB.1 h4
     refine uX (gC nc) ?_ λt ht Lx=> ?_
     ·show id∈writes Γ s o
      unfold writes
      rw[fa]
      simp only[hTU,hx]
      simp[aH.ids]
     ·have hob':t.obj id=some (v,false,.vec e0 (.int .u8) l):=by simp only[AS.obj,Lx];exact nc
      unfold oV
      rw[fa]
      simp only[hTU,(one x (by rw[fa];rfl) t ht).1,hx]
      unfold GO
      simp only[hob',hD,hE]
      exact aL.2 ⟨h1,cW.2 ⟨h3,aB.2 rfl⟩⟩
    ·exact(al.1 he).elim
   ·exact(al.1 he).elim
  ·rename_i id ver hx
   obtain⟨v,h1,h2⟩:=av.1 he
   obtain rfl:=aB.1 h2
   refine mX λt ht=> ?_
   obtain⟨h3,h4⟩:=one x (by rw[fa];rfl) t ht
   unfold oV
   rw[fa]
   simp only[h3,hx]
   exact av.2 ⟨v,by rw[GP (h4 (FW fa rfl) _ (by rw[hx];simp[aH.ids]))];exact h1,rfl⟩
  ·rename_i lh
   obtain⟨v,h1,h2⟩:=av.1 he
   obtain rfl:=aB.1 h2
   refine mX λt ht=> ?_
   obtain⟨h3,h4⟩:=one x (by rw[fa];rfl) t ht
   unfold oV
   rw[fa]
   simp only[h3]
   exact av.2 ⟨v,by rw[GN (h4 (FW fa rfl))];exact h1,rfl⟩
 ·rename_i T x fa
  exact Ij fa he
 ·rename_i f first caps fa
  obtain⟨h1,h2⟩:=aL.1 he
  obtain rfl:=aB.1 h2
  refine mX λt ht=> ?_
  have hc:po t caps.toList=po s caps.toList:=yw _ λx hx=>ht.ev (by rw[fa];simp only[Op.operands,di];exact cf.2 (.inr hx))
  unfold oV
  rw[fa]
  simp only[hc]
  exact aL.2 ⟨h1,aB.2 rfl⟩
 ·rename_i T l c fa
  obtain⟨n,h1,h2⟩:=av.1 he
  obtain⟨m,h3,h4⟩:=av.1 h2
  exact Bm fa h1 h3 h4
 ·rename_i T x lo hi fa
  refine ov (F:=λt=>yd P t T (t.ev x) lo hi) (λt=>by unfold oV;rw[fa]) (λt ht=> ?_) Gm
  have hm:∀z,(z=x\/lo=some z\/hi=some z)->z∈o.op.operands.toList:=λz hz=>by
   rw[fa]
   simp only[Op.operands,di,cf]
   rcases hz with rfl | rfl | rfl
   ·left;left;left;simp
   ·left;left;right;simp
   ·left;right;simp
  have hx:=hm x (.inl rfl)
  rw[ht.ev hx]
  exact F5 (λid eZ=>ht.H6 (FW fa rfl) hx eZ) (λy hy=>ht.ev (hm y (.inr (.inl hy)))) (λy hy=>ht.ev (hm y (.inr (.inr hy))))
 ·rename_i T x f fa
  refine ov (F:=λt=>uS P T (t.ev x) f) (λt=>by unfold oV;rw[fa]) (λt ht=> ?_) Gm
  rw[(one x (by rw[fa];rfl) t ht).1]
 ·rename_i T x f fa
  refine ov (F:=λt=>Fu P T (t.ev x) f) (λt=>by unfold oV;rw[fa]) (λt ht=> ?_) Gm
  rw[(one x (by rw[fa];rfl) t ht).1]
 ·rename_i T x i fa
  refine ov (F:=λt=>(asInt (t.ev i)).bind λi=>pB P t T (t.ev x) i) (λt=>by unfold oV;rw[fa,Out.bind_assoc]) (λt ht=> ?_) Gm
  have hx:x∈o.op.operands.toList:=by rw[fa];simp[Op.operands]
  rw[ht.ev (x:=i) (by rw[fa];simp[Op.operands]),ht.ev hx]
  congr 1
  funext i
  exact zP λid eZ=>ht.H6 (FW fa rfl) hx eZ
 ·rename_i T x i fa
  refine ov (F:=λt=>(asInt (t.ev i)).bind λi=>FJ P T (t.ev x) i) (λt=>by unfold oV;rw[fa,Out.bind_assoc]) (λt ht=> ?_) Gm
  rw[ht.ev (x:=i) (by rw[fa];simp[Op.operands]),ht.ev (x:=x) (by rw[fa];simp[Op.operands])]
 ·rename_i x i fa
  refine ov (F:=λt=>Out.opt ((t.ev x).list[i]?)) (λt=>by unfold oV;rw[fa]) (λt ht=> ?_) Gm
  rw[(one x (by rw[fa];rfl) t ht).1]
 ·rename_i T fa
  have yB:=he
  unfold wa at yB
  split at yB
  ·rename_i K V kt vt q hm hd
   obtain⟨h1,h2⟩:=aL.1 yB
   obtain rfl:=aB.1 h2
   refine sJ (ids:=[]) hd h1 (λ_ h=>by cases h) λt ht hv=> ?_
   unfold oV
   rw[fa]
   simp only
   unfold wa
   simp only[hm,hd]
   exact aL.2 ⟨hv,aB.2 rfl⟩
  ·exact(al.1 yB).elim
 ·rename_i T x i ok fa
  refine ov (F:=λt=>uY P t T (t.ev x) (t.ev i) ok) (λt=>by unfold oV;rw[fa]) (λt ht=> ?_) Gm
  have hx:x∈o.op.operands.toList:=by rw[fa];simp[Op.operands]
  rw[ht.ev (x:=i) (by rw[fa];simp[Op.operands]),ht.ev hx]
  exact DR λid eZ=>ht.H6 (FW fa rfl) hx eZ
 ·rename_i T m k x fa
  obtain⟨s1,h1,h2⟩:=av.1 he
  obtain rfl:=aB.1 h2
  obtain⟨id,e0,e,eZ,hs,rfl,hl⟩:=DU h1
  refine uX hs ?_ λt ht Lx=> ?_
  ·show id∈writes Γ s o
   unfold writes
   rw[fa]
   simp only[eZ,aR]
  ·unfold oV
   rw[fa]
   simp only
   rw[ht.ev (x:=m) (by rw[fa];simp[Op.operands]),ht.ev (x:=k) (by rw[fa];simp[Op.operands]),ht.ev (x:=x) (by rw[fa];simp[Op.operands])]
   exact av.2 ⟨_,hl t Lx,aB.2 rfl⟩
 ·rename_i c fa
  obtain⟨cal,args,tys⟩:=c
  simp only at he
  split at he
  ·split at he
   ·rename_i m k T T2 ha ht'
    have VZ:m∈o.op.operands.toList:=by rw[fa];simp only[Op.operands,Call.operands,bu,di,ha];simp
    have ON:k∈o.op.operands.toList:=by rw[fa];simp only[Op.operands,Call.operands,bu,di,ha];simp
    obtain⟨s1,h1,h2⟩:=av.1 he
    obtain rfl:=aB.1 h2
    obtain⟨id,e0,e,eZ,hs,rfl,hl⟩:=DT h1
    refine uX hs ?_ λt ht Lx=> ?_
    ·show id∈writes Γ s o
     unfold writes
     rw[fa]
     simp only[ha,eZ,aR]
    ·unfold oV
     rw[fa]
     simp only[ha,ht']
     rw[ht.ev VZ,ht.ev ON]
     exact av.2 ⟨_,hl t Lx,aB.2 rfl⟩
   ·exact(al.1 he).elim
  ·split at he
   ·rename_i x y T X ha ht'
    exact IQ fa rfl ha ht' he
   ·exact(al.1 he).elim
  ·split at he
   ·rename_i x T ha ht'
    refine ov (F:=λt=>PG P T (t.ev x)) (λt=>by unfold oV;rw[fa];simp only[ha,ht']) (λt ht=> ?_) Gm
    rw[ht.ev (by rw[fa];simp only[Op.operands,Call.operands,bu,di,ha];simp)]
   ·exact(al.1 he).elim
  ·split at he
   ·rename_i x y T X ha ht'
    have Nh:x∈o.op.operands.toList:=by rw[fa];simp only[Op.operands,Call.operands,bu,di,ha];simp
    have SZ:y∈o.op.operands.toList:=by rw[fa];simp only[Op.operands,Call.operands,bu,di,ha];simp
    split at he
    ·rename_i k n hx hy
     have yB:=he
     unfold G1 at yB
     split at yB
     ·rename_i e t0 b q kn xe hd hX
      obtain⟨h1,h2⟩:=aL.1 yB
      obtain⟨h3,h4⟩:=cW.1 h2
      obtain rfl:=aB.1 h4
      refine sJ (ids:=[]) hd h1 (λ_ h=>by cases h) λt ht hv=> ?_
      unfold oV
      rw[fa]
      simp only[ha,ht',ht.ev Nh,ht.ev SZ,hx,hy]
      unfold G1
      simp only[xe,hd,hX]
      exact aL.2 ⟨hv,cW.2 ⟨h3,aB.2 rfl⟩⟩
     ·exact(al.1 yB).elim
    ·rename_i lh
     exact Fh fa rfl ha ht' lh he
   ·exact(al.1 he).elim
  ·split at he
   ·rename_i x T ha ht'
    have Nh:x∈o.op.operands.toList:=by rw[fa];simp only[Op.operands,Call.operands,bu,di,ha];simp
    split at he
    ·rename_i e hx hT
     obtain rfl:=aB.1 he
     refine mX λt ht=> ?_
     unfold oV
     rw[fa]
     simp only[ha,ht',ht.ev Nh,hx,hT];rfl
    ·exact(al.1 he).elim
   ·exact(al.1 he).elim
  ·refine ov (F:=λt=>LL true (args.toList.map t.ev)) (λt=>by unfold oV;rw[fa]) (λt ht=> ?_) Gm
   congr 1
   exact j5 λx hx=>ht.ev (by rw[fa];simp only[Op.operands,Call.operands,bu,di];exact hx)
  ·refine ov (F:=λt=>LL false (args.toList.map t.ev)) (λt=>by unfold oV;rw[fa]) (λt ht=> ?_) Gm
   congr 1
   exact j5 λx hx=>ht.ev (by rw[fa];simp only[Op.operands,Call.operands,bu,di];exact hx)
  ·split at he
   ·rename_i x ha
    have Nh:x∈o.op.operands.toList:=by rw[fa];simp only[Op.operands,Call.operands,bu,di,ha];simp
    split at he
    ·rename_i id ver len hx
     obtain⟨h1,h2⟩:=cW.1 he
     obtain rfl:=aB.1 h2
     refine mX λt ht=> ?_
     unfold oV
     rw[fa]
     simp only[ha,ht.ev Nh,hx]
     exact cW.2 ⟨h1,rfl⟩
    ·exact(al.1 he).elim
   ·exact(al.1 he).elim
  ·split at he
   ·rename_i x y T U ha ht'
    have Nh:x∈o.op.operands.toList:=by rw[fa];simp only[Op.operands,Call.operands,bu,di,ha];simp
    have SZ:y∈o.op.operands.toList:=by rw[fa];simp only[Op.operands,Call.operands,bu,di,ha];simp
    split at he
    ·rename_i id ver n hx hy
     have yB:=he
     unfold Ih at yB
     split at yB
     ·rename_i v e l u nc hT
      obtain⟨h1,h2⟩:=aL.1 yB
      obtain⟨h3,h4⟩:=cW.1 h2
      obtain rfl:=aB.1 h4
      refine uX (gC nc) ?_ λt ht Lx=> ?_
      ·show id∈writes Γ s o
       unfold writes
       rw[fa]
       simp only[ha,hx]
       simp[aH.ids]
      ·have hob':t.obj id=some (v,false,.vec e (.int .u8) l):=by simp only[AS.obj,Lx];exact nc
       unfold oV
       rw[fa]
       simp only[ha,ht',ht.ev Nh,ht.ev SZ,hx,hy]
       unfold Ih
       simp only[hob',hT]
       exact aL.2 ⟨h1,cW.2 ⟨h3,aB.2 rfl⟩⟩
     ·exact(al.1 yB).elim
    ·exact(al.1 he).elim
   ·exact(al.1 he).elim
  ·rename_i F _
   split at he
   ·rename_i f caps hF
    split at he
    ·rename_i en RF
     exact IJ fa rfl hF RF he
    ·exact(al.1 he).elim
   ·exact(al.1 he).elim
  ·exact(al.1 he).elim
 ·exact(al.1 he).elim
end
end Go.Ab
namespace Go.Ab
section
variable {P:Program} {Γ:fD} {da:List Nat} {ops:Array Oper} {o:Oper} {s t:AS}
def Loc(P:Program)(Γ:fD)(da:List Nat)(ops:Array Oper)(o:Oper)(s s':AS):Prop:=
 ∃E,App o.dst E s s'/\Fe (jM Γ ops s o) s E/\∀t,mH (jM Γ ops s o) s t->∃t',xd P Γ da ops o t=some t'/\App o.dst E t t'
theorem Cg{s':AS}(he:xd P Γ da ops o s=some s'):Loc P Γ da ops o s s':=by
 unfold xd at he
 split at he
 ·rename_i hg
  obtain⟨E,h1,h2,h3⟩:=Ej (ops:=ops) he
  refine⟨E,h1,h2,λt ht=> ?_⟩
  obtain⟨t',h4,h5⟩:=h3 t ht
  exact⟨t',by unfold xd;simp only[hg];exact h4,h5⟩
 ·rename_i j want hg
  split at he
  ·rename_i q hq
   split at he
   ·rename_i b hb
    have Kf:∀t,mH (jM Γ ops s o) s t->t.slot q= .d .bool b:=λt ht=>by
     rw[ht.dU q (cf.2 (.inr (by unfold zJ;simp only[hg,hq];simp)))];exact hb
    by_cases e:b=want
    ·rw[if_pos e]at he
     obtain⟨E,h1,h2,h3⟩:=Ej (ops:=ops) he
     refine⟨E,h1,h2,λt ht=> ?_⟩
     obtain⟨t',h4,h5⟩:=h3 t ht
     exact⟨t',by unfold xd;simp only[hg,hq,Kf t ht,if_pos e];exact h4,h5⟩
    ·rw[if_neg e]at he
     simp only[aE]at he
     subst he
     exact⟨⟨.nil,λ_=>none,[]⟩,App.wU _ _ _,⟨λ_ _ h=>by simp at h,λ_ h=>by simp at h⟩,λt ht=>⟨_,by unfold xd;simp only[hg,hq,Kf t ht,if_neg e],App.wU _ _ _⟩⟩
   ·rename_i hb
    have Kf:∀t,mH (jM Γ ops s o) s t->t.slot q= .nil:=λt ht=>by
     rw[ht.dU q (cf.2 (.inr (by unfold zJ;simp only[hg,hq];simp)))];exact hb
    simp only[aE]at he
    subst he
    exact⟨⟨.nil,λ_=>none,[]⟩,App.wU _ _ _,⟨λ_ _ h=>by simp at h,λ_ h=>by simp at h⟩,λt ht=>⟨_,by unfold xd;simp only[hg,hq,Kf t ht],App.wU _ _ _⟩⟩
   ·cases he
  ·cases he
theorem Gf(h:mH (jM Γ ops s o) s t):writes Γ t o=writes Γ s o:=by
 have OO:∀id∈writes Γ s o,t.dx id=s.dx id:=h.ws
 unfold writes at OO ⊢
 split
 ·rename_i x v fa
  rw[h.ev (by rw[fa];simp[Op.operands])]
 ·rename_i m k v fa
  rw[h.ev (by rw[fa];simp[Op.operands])]
 ·rename_i T U x fa
  rw[h.ev (by rw[fa];simp[Op.operands])]
 ·rename_i c fa
  obtain⟨cal,args,tys⟩:=c
  simp only[fa]at OO
  simp only
  split
  ·split
   ·rename_i x l ha
    rw[h.ev (by rw[fa];simp only[Op.operands,Call.operands,bu,di,ha];simp)]
   ·rfl
  ·split
   ·rename_i x l ha
    rw[h.ev (by rw[fa];simp only[Op.operands,Call.operands,bu,di,ha];simp)]
   ·rfl
  ·split
   ·rename_i x l ha
    rw[h.ev (by rw[fa];simp only[Op.operands,Call.operands,bu,di,ha];simp)]
   ·rfl
  ·split
   ·rename_i x l ha
    rw[h.ev (by rw[fa];simp only[Op.operands,Call.operands,bu,di,ha];simp)]
   ·rfl
  ·rename_i F
   simp only at OO
   have hm:∀z,z=F\/z∈args.toList->z∈o.op.operands.toList:=λz hz=>by
    rw[fa]
    simp only[Op.operands,Call.operands,di,cf]
    rcases hz with rfl | hz
    ·exact .inl (by simp)
    ·exact .inr hz
   have h1:t.ev F=s.ev F:=h.ev (hm F (.inl rfl))
   have h2:args.toList.map t.ev=args.toList.map s.ev:=j5 λx hx=>h.ev (hm x (.inr hx))
   rw[h1]
   split
   ·rename_i f caps hF
    simp only[hF]at OO
    rw[h2]
    split
    ·rename_i en RF
     simp only[RF]at OO
     exact ru _ _ _ λid eZ=>by rw[OO id eZ]
    ·rfl
   ·rfl
  ·rfl
 ·rfl
theorem B9(h:mH (jM Γ ops s o) s t):jM Γ ops t o=jM Γ ops s o:=by
 have h1:=Gf h
 have h2:HO t o=HO s o:=by
  unfold HO
  split
  ·rfl
  unfold List.flatMap
  congr 1
  exact j5 λi hi=>by rw[h.dU i (cf.2 (.inl hi))]
 unfold jM
 rw[h1,h2]
theorem rf{xs ys:List Id}(h:meets xs ys=false){id:Id}(hx:id∈xs):id ∉ ys:=by
 intro hy
 have:meets xs ys=true:=by
  unfold meets
  exact List.any_eq_true.2 ⟨id,hx,List.any_eq_true.2 ⟨id,hy,by simp⟩⟩
 rw[h]at this;cases this
theorem qp{d:Option Tmp}{ids:List Id}(h:Dc d ids=false){q:Nat}(hd:d=some q)(j:Nat):Id.new q j ∉ ids:=by
 intro hy
 have:Dc d ids=true:=by
  subst hd
  exact List.any_eq_true.2 ⟨_,hy,by simp⟩
 rw[h]at this;cases this
theorem wQ{f g:vI}(h:f.T1 g=false){q:Nat}(hd:f.dst=some q):q ∉ g.dU/\g.dst≠some q:=by
 unfold vI.T1 at h
 rw[hd]at h
 simp only[Bool.or_eq_false_iff,jr,decide_eq_true_eq,decide_eq_false_iff_not]at h
 exact⟨λhx=>h.1 q hx rfl,h.2⟩
theorem H9(s:AS)(d:Option Tmp)(v:aH)(i:Nat)(h:d≠some i):(s.put d v).slot i=s.slot i:=by
 cases d with
 |none=>rfl
 |some q=>rw[Dd,if_neg];rintro⟨rfl,_⟩;exact h rfl
theorem App.slot{d:Option Tmp}{E:SI}{s s':AS}(h:App d E s s')(i:Nat)(hi:d≠some i):s'.slot i=s.slot i:=by
 rw[<-H9 s d E.v i hi]
 simp only[AS.slot,h.dU]
theorem Gw{f f':vI}{E:SI}{s s1:AS}(ha:App f.dst E s s1)(hw:Fe f s E)(I5:∀id∈f'.ws,id∈f'.rs)(h1:f.T1 f'=false)(h2:meets f.ws f'.rs=false)(h3:meets f'.ws f.rs=false)
  (h4:Dc f.dst f'.rs=false):(∀i∈f'.dU,s1.slot i=s.slot i)/\(∀id∈f'.ws,s1.dx id=s.dx id)/\(∀id∈f'.rs,sS (s1.dx id) (s.dx id))/\∀q,f'.dst=some q->s1.gd q=s.gd q:=by
 have Cm:∀id∈f'.rs,E.up id=none:=λid eZ=>by
  cases hu:E.up id with
  |none=>rfl
  |some e=>
   rcases hw.up id e hu with⟨h,_⟩ | ⟨q,j,hd,rfl⟩
   ·exact absurd eZ (rf h2 h)
   ·exact absurd eZ (qp h4 hd j)
 refine⟨λi hi=>ha.slot i λhd=>(wQ h1 hd).1 hi,λid eZ=> ?_,λid eZ=> ?_,λq hq=> ?_⟩
 ·rw[ha.dx,Cm id (I5 id eZ)]
  have:id ∉ E.fz:=λhz=>rf h3 eZ (hw.fz id hz)
  simp only[if_neg this]
 ·rw[ha.dx,Cm id eZ]
  simp only
  split
  ·exact Ma _
  ·exact Mb _
 ·have lh:∀j,(s1.dx (.new q j)=none↔s.dx (.new q j)=none):=λj=>by
   rw[ha.dx]
   cases hu:E.up (.new q j) with
   |none=>
    simp only
    split <;> simp
   |some e=>
    rcases hw.up _ e hu with⟨_,h⟩ | ⟨q',j',hd,he⟩
    ·simp[h]
    ·simp only[Id.new.injEq]at he
     obtain⟨rfl,_⟩:=he
     exact absurd hq (wQ h1 hd).2
  rw[Bool.eq_iff_iff,sX,sX,ha.len]
  exact and_congr Iff.rfl (forall_congr' lh)
theorem vX(s:AS)(o:Oper):∀id∈(jM Γ ops s o).ws,id∈(jM Γ ops s o).rs:=λ_ eZ=>cf.2 (.inr eZ)
theorem swap{o':Oper}{s1 s2:AS}(h1:xd P Γ da ops o s=some s1)(h2:xd P Γ da ops o' s1=some s2)(hi:(jM Γ ops s o).indep (jM Γ ops s1 o')=true):
  ∃t1,xd P Γ da ops o' s=some t1/\xd P Γ da ops o t1=some s2/\jM Γ ops s o'=jM Γ ops s1 o'/\jM Γ ops t1 o=jM Γ ops s o:=by
 unfold vI.indep at hi
 simp only[ak,dI]at hi
 obtain⟨⟨⟨⟨⟨i1,i2⟩,i3⟩,i4⟩,i5⟩,i6⟩:=hi
 obtain⟨E,a1,w1,l1⟩:=Cg h1
 obtain⟨E',a2,w2,l2⟩:=Cg h2
 obtain⟨g1,g2,g3,g4⟩:=Gw (f:=jM Γ ops s o) (f':=jM Γ ops s1 o') a1 w1 (vX _ _) i1 i3 i4 i5
 have ym:mH (jM Γ ops s1 o') s1 s:=⟨λi hi=>(g1 i hi).symm,λid eZ=>(g2 id eZ).symm,λid eZ=>by
  have:=g3 id eZ
  revert this
  cases s1.dx id <;> cases s.dx id <;> simp only[sS] <;> intro h <;> first | trivial | exact h | skip
  rename_i a b
  cases a <;> cases b <;> simp_all [gU.H6],λq hq=>(g4 q hq).symm⟩
 obtain⟨t1,k1,k2⟩:=l2 s ym
 have hf':=B9 ym
 have w2':Fe (jM Γ ops s1 o') s E':=⟨λid e hu=>by
  rcases w2.up id e hu with⟨h,hn⟩ | h
  ·exact .inl ⟨h,by rw[<-g2 id h];exact hn⟩
  ·exact .inr h,w2.fz⟩
 obtain⟨m1,m2,m3,m4⟩:=Gw (f:=jM Γ ops s1 o') (f':=jM Γ ops s o) k2 w2' (vX _ _) i2 i4 i3 i6
 have TC:mH (jM Γ ops s o) s t1:=⟨m1,m2,m3,m4⟩
 obtain⟨t2,k3,k4⟩:=l1 t1 TC
 refine⟨t1,k1,?_,hf',B9 TC⟩
 rw[k3]
 congr 1
 have Ui:∀id e,E.up id=some e->E'.up id=none/\id ∉ E'.fz:=λid e hu=>by
  rcases w1.up id e hu with⟨h,hn⟩ | ⟨q,j,hd,rfl⟩
  ·refine⟨?_,λhz=>rf i3 h (w2.fz id hz)⟩
   cases hu':E'.up id with
   |none=>rfl
   |some e'=>
    rcases w2.up id e' hu' with⟨h',_⟩ | ⟨q,j,hd,rfl⟩
    ·exact absurd (vX _ _ id h') (rf i3 h)
    ·exact absurd (vX _ _ _ h) (qp i6 hd j)
  ·refine⟨?_,λhz=>qp i5 hd j (w2.fz _ hz)⟩
   cases hu':E'.up (.new q j) with
   |none=>rfl
   |some e'=>
    rcases w2.up _ e' hu' with⟨h',_⟩ | ⟨q',j',hd',he⟩
    ·exact absurd (vX _ _ _ h') (qp i5 hd j)
    ·simp only[Id.new.injEq]at he
     obtain⟨rfl,_⟩:=he
     exact absurd hd' (wQ i1 hd).2
 have Wk:∀id e,E'.up id=some e->E.up id=none/\id ∉ E.fz:=λid e hu=>by
  have hn:E.up id=none:=by
   cases Wi:E.up id with
   |none=>rfl
   |some e1=>rw[(Ui id e1 Wi).1]at hu;cases hu
  refine⟨hn,λhz=> ?_⟩
  rcases w2.up id e hu with⟨h,_⟩ | ⟨q,j,hd,rfl⟩
  ·exact rf i4 h (w1.fz id hz)
  ·exact qp i6 hd j (w1.fz _ hz)
 refine AS.M1 ?_ (by rw[k4.len,k2.len,a2.len,a1.len]) λid=> ?_
 ·have e1:∀(u u':AS) (d:Option Tmp) (v:aH),u.dU=u'.dU->(u.put d v).dU=(u'.put d v).dU:=λu u' d v h=>by cases d <;> simp[AS.put,h]
  rw[k4.dU,a2.dU,e1 t1 (s.put o'.dst E'.v) _ _ k2.dU,e1 s1 (s.put o.dst E.v) _ _ a1.dU]
  cases hd:o.dst with
  |none=>cases o'.dst <;> rfl
  |some q=>
   cases hd':o'.dst with
   |none=>rfl
   |some q'=>
    have lh:q'≠q:=λe=>(wQ (f:=jM Γ ops s o) i1 hd).2 (by show o'.dst=some q;rw[hd',e])
    simp only[AS.put]
    exact List.set_comm _ _ lh
 ·rw[k4.dx,k2.dx,a2.dx,a1.dx]
  cases hu:E.up id with
  |some e=>
   obtain⟨h3,h4⟩:=Ui id e hu
   simp only[h3,if_neg h4]
  |none=>
   simp only
   cases hu':E'.up id with
   |some e=>
    obtain⟨_,h4⟩:=Wk id e hu'
    simp only[if_neg h4]
   |none=>
    simp only
    by_cases z1:id∈E.fz <;> by_cases z2:id∈E'.fz <;> simp only[if_pos,if_neg,z1,z2,not_false_eq_true]
end
end Go.Ab
namespace Go.Ab
section
variable {P:Program} {Γ:fD} {da:List Nat} {ops:Array Oper}
def Gt(P:Program)(Γ:fD)(da:List Nat)(ops:Array Oper)(fs:Nat->vI):List Nat->AS->AS->Prop
 |[],s,sn=>s=sn
 |i::l,s,sn=>∃o,ops[i]? =some o/\jM Γ ops s o=fs i/\∃s',xd P Γ da ops o s=some s'/\Gt P Γ da ops fs l s' sn
theorem Gt.MO{fs:Nat->vI}{i:Nat}{l2:List Nat}{sn:AS}:∀(l1:List Nat) {s:AS},Gt P Γ da ops fs (l1++i::l2) s sn->(∀j∈l1,(fs j).indep (fs i)=true)->Gt P Γ da ops fs (i::(l1++l2)) s sn
 |[],_,h,_=>h
 |j::l1,s,h,hi=>by
  obtain⟨oj,h1,h2,s1,h3,h4⟩:=h
  obtain⟨oi,h5,h6,s2,h7,h8⟩:=Gt.MO l1 h4 λj hj=>hi j (bj _ hj)
  have hd:=hi j (bq ..)
  rw[<-h2,<-h6]at hd
  obtain⟨t1,k1,k2,k3,k4⟩:=swap h3 h7 hd
  exact⟨oi,h5,by rw[k3,h6],t1,k1,oj,h1,by rw[k4,h2],s2,k2,h8⟩
theorem EA{R:Type}{anc:List Nat}{k:AS->Option R}{r:R}:∀(l:List Oper) (i:Nat) (acc:List (Nat×vI)) (s:AS) (f0:Nat->vI),(∀n o,l[n]? =some o->ops[i+n]? =some o)->(∀x∈acc,f0 x.1=x.2/\x.1 < i)->
  Ez P Γ da ops anc i l acc s k=some r->∃fs sn,(∀j,j < i->fs j=f0 j)/\Gt P Γ da ops fs (List.range' i l.length) s sn/\k sn=some r/\
   (∀x∈acc,∀m,i<=m->m < i+l.length->(anc.getD m 0).testBit x.1=true\/x.2.indep (fs m)=true)/\(∀m1 m2,i<=m1->m1 < m2->m2 < i+l.length->(anc.getD m2 0).testBit m1=true\/(fs m1).indep (fs m2)=true)
 |[],i,acc,s,f0,_,_,h=>⟨f0,s,λ_ _=>rfl,rfl,h,λ_ _ m h1 h2=>by simp at h2;omega,λ_ _ h1 h2 h3=>by simp at h3;omega⟩
 |o::l,i,acc,s,f0,ho,hf,h=>by
  unfold Ez at h
  split at h
  ·rename_i zK
   simp only[AS.y8]at h
   obtain⟨s',h1,h2⟩:=G0 (k:=λs'=>Ez P Γ da ops anc (i+1) l ((i,jM Γ ops s o)::acc) s' k) h
   have Vs:∀x∈(i,jM Γ ops s o)::acc,(if x.1=i then jM Γ ops s o else f0 x.1)=x.2/\x.1 < i+1:=λx hx=>by
    rcases cH.1 hx with rfl | hx
    ·simp
    ·obtain⟨q1,q2⟩:=hf x hx
     rw[if_neg (by omega)]
     exact⟨q1,by omega⟩
   obtain⟨fs,sn,g1,g2,g3,g4,g5⟩:=EA l (i+1) ((i,jM Γ ops s o)::acc) s' (λn=>if n=i then jM Γ ops s o else f0 n)
    (λn o' hn=>by have:=ho (n+1) o' (by simpa using hn);rw[<-this];congr 1;omega) Vs h2
   have gi:fs i=jM Γ ops s o:=by rw[g1 i (by omega),if_pos rfl]
   refine⟨fs,sn,λj hj=>by rw[g1 j (by omega),if_neg (by omega)],?_,g3,λx hx m h3 h4=> ?_,λm1 m2 h3 h4 h5=> ?_⟩
   ·rw[aN,List.range'_succ]
    exact⟨o,ho 0 o rfl,gi.symm,s',h1,g2⟩
   ·rcases Nat.eq_or_lt_of_le h3 with rfl | h3
    ·have:=fy.1 zK x hx
     simp only[j9]at this
     rcases this with h | h
     ·exact .inl h
     ·right;rw[gi];exact h
    ·exact g4 x (bj _ hx) m (by omega) (by simp only[aN]at h4;omega)
   ·rcases Nat.eq_or_lt_of_le h3 with rfl | h3
    ·rw[gi]
     exact g4 (i,jM Γ ops s o) (bq ..) m2 (by omega) (by simp only[aN]at h5;omega)
    ·exact g5 m1 m2 (by omega) h4 (by simp only[aN]at h5;omega)
  ·cases h
theorem Gz{acc:List Nat}{j:Nat}:∀ {l:List Edge},(l.foldr (λe m=>Nat.lor (Nat.lor (Nat.pow 2 e.on) (acc.getD e.on 0)) m) 0).testBit j=true->∃e∈l,j=e.on\/(acc.getD e.on 0).testBit j=true
 |[],h=>by simp at h
 |e::l,h=>by
  rw[List.foldr_cons,show ∀x y,Nat.lor x y=x ||| y from λ_ _=>rfl,show ∀x y,Nat.lor x y=x ||| y from λ_ _=>rfl,Nat.testBit_or,Nat.testBit_or,show Nat.pow 2 e.on=2^e.on from rfl,Nat.testBit_two_pow]at h
  simp only[j9,decide_eq_true_eq]at h
  rcases h with(h | h) | h
  ·exact⟨e,bq ..,.inl h.symm⟩
  ·exact⟨e,bq ..,.inr h⟩
  ·obtain⟨e',h1,h2⟩:=Gz h
   exact⟨e',bj _ h1,h2⟩
theorem Ei:∀(l:List Oper) (acc:List Nat),(∀i,i < acc.length->(l.foldl (λacc o=>acc++ [Ff acc o]) acc)[i]? =acc[i]?)/\
  ∀i o,l[i]? =some o->(l.foldl (λacc o=>acc++ [Ff acc o]) acc)[acc.length+i]? =some (Ff ((l.foldl (λacc o=>acc++ [Ff acc o]) acc).take (acc.length+i)) o)
 |[],acc=>⟨λ_ _=>rfl,λi o h=>by simp at h⟩
 |x::l,acc=>by
  obtain⟨h1,h2⟩:=Ei l (acc++ [Ff acc x])
  simp only[iv]
  refine⟨λi hi=> ?_,λi o hi=> ?_⟩
  ·rw[h1 i (by simp;omega),kk hi]
  ·cases i with
   |zero=>
    simp only[iT,aE]at hi
    subst hi
    rw[dE,h1 _ (by simp)]
    have:(l.foldl (λacc o=>acc++ [Ff acc o]) (acc++ [Ff acc x])).take acc.length=acc:=by
     apply List.ext_getElem?
     intro j
     rw[fv]
     split
     ·rename_i hj
      rw[h1 j (by simp;omega),kk hj]
     ·rename_i hj
      rw[ij (by omega)]
    rw[this]
    simp
   |succ i=>
    have:=h2 i o (by simpa using hi)
    simp only[ae,aN,bJ,bl]at this
    rw[show acc.length+(i+1)=acc.length+1+i by omega]
    exact this
theorem MF{l:List Oper}{i:Nat}{o:Oper}(hi:l[i]? =some o){j:Nat}(hj:((GA l).getD i 0).testBit j=true):∃e∈o.after.toList,Region.binds .any e=true/\(j=e.on\/((GA l).getD e.on 0).testBit j=true):=by
 have h:=(Ei l []).2 i o hi
 have e:GA l=l.foldl (λacc o=>acc++ [Ff acc o]) []:=rfl
 rw[<-e]at h
 simp only[bJ,bl]at h
 rw[aX,h]at hj
 obtain⟨e,h1,h3⟩:=Gz hj
 obtain⟨h1,h2⟩:=jG.1 h1
 refine⟨e,h1,h2,h3.imp id λh4=> ?_⟩
 rw[aX,fv]at h4
 split at h4
 ·rw[aX];exact h4
 ·simp at h4
def E7(n:Nat)(listed:Array Bool):List Nat:=(List.range n).filter λi=> !listed.getD i true
theorem yK{n:Nat}{listed:Array Bool}{i:Nat}:i∈E7 n listed↔i < n/\listed.getD i true=false:=by simp[E7]
theorem yi(n:Nat)(listed:Array Bool):(E7 n listed).Pairwise (· < ·):=(List.pairwise_lt_range).filter _
theorem Cf{listed:Array Bool}{i j:Nat}(d:Bool)(hi:i < listed.size):(listed.setIfInBounds i true).getD j d=if j=i then true else listed.getD j d:=by
 simp only[fF,iL]
 by_cases h:i=j
 ·subst h;simp[hi]
 ·simp[h,Ne.symm h]
theorem P5{listed:Array Bool}{i:Nat}(hi:i < listed.size){l1 l2:List Nat}(h:E7 listed.size listed=l1++i::l2):E7 listed.size (listed.setIfInBounds i true)=l1++l2:=by
 have hs:=yi listed.size listed
 rw[h]at hs
 obtain⟨p1,p2,p3⟩:=List.pairwise_append.1 hs
 obtain⟨p4,_⟩:=iF.1 p2
 have e:E7 listed.size (listed.setIfInBounds i true)=(E7 listed.size listed).filter λj=>decide (j≠i):=by
  unfold E7
  rw[List.filter_filter]
  refine List.filter_congr λj _=> ?_
  rw[Cf true hi]
  by_cases hj:j=i
  ·simp[hj]
  ·simp[hj]
 rw[e,h,kA,ix]
 have f1:l1.filter (λj=>decide (j≠i))=l1:=kY.2 λj hj=>by
  have:=p3 j hj i (bq ..)
  simp;omega
 have f2:l2.filter (λj=>decide (j≠i))=l2:=kY.2 λj hj=>by
  have:=p4 j hj
  simp;omega
 rw[f1,f2]
 simp
theorem K2{C:Ctx}(hΓ:Sound P Γ){fs:Nat->vI}{sn:AS}{Q:Exit->Act->World->Prop}(hE:Fp ops.toList=true)
  (VI:∀m1 m2,m1 < m2->m2 < ops.size->((GA ops.toList).getD m2 0).testBit m1=true\/(fs m1).indep (fs m2)=true) (hQ:∀a w,kL C sn a w->Q .normal a w):
  ∀(fuel:Nat) (listed:Array Bool) (s:AS) (a:Act) (w:World),listed.size=ops.size->(E7 ops.size listed).length=fuel->
   (∀i,i < ops.size->listed.getD i true=true->∀j,((GA ops.toList).getD i 0).testBit j=true->listed.getD j false=true)->Gt P Γ da ops fs (E7 ops.size listed) s sn->kL C s a w->wpAny P .any ops Q fuel listed a w:=by
 have Qh:∀i o,ops[i]? =some o->∀e∈o.after.toList,Region.binds .any e=true->e.on < i:=λi o hi e he hb=>by
  have:=fy.1 hE (o,i) (List.mem_zipIdx_iff_getElem?.2 (by simpa using hi))
  have:=fy.1 this e he
  simpa[hb]using this
 have RY:∀(listed:Array Bool),listed.size=ops.size->∀i,i∈Region.ready .any ops listed↔i∈E7 ops.size listed/\∀o,ops[i]? =some o->∀e∈o.after.toList,Region.binds .any e=true->listed.getD e.on false=true:=λlisted _ i=>by
  rw[yK]
  unfold Region.ready
  simp only[jG,List.mem_range,ak,dI]
  constructor
  ·rintro⟨h1,h2,h3⟩
   refine⟨⟨h1,h2⟩,λo ho e he hb=> ?_⟩
   rw[ho]at h3
   simp only[jd,gj,Array.all_eq_true',j9,dI]at h3
   rcases h3 e (by simpa using he) with h | h
   ·rw[hb]at h;cases h
   ·exact h
  ·rintro⟨⟨h1,h2⟩,h3⟩
   refine⟨h1,h2,?_⟩
   obtain⟨o,ho⟩:∃o,ops[i]? =some o:=⟨ops[i],by simp[h1]⟩
   rw[ho]
   simp only[jd,gj,Array.all_eq_true',j9,dI]
   intro e he
   cases hb:Region.binds .any e with
   |false=>exact .inl rfl
   |true=>exact .inr (h3 o ho e (by simpa using he) hb)
 have oZ:∀(listed:Array Bool),listed.size=ops.size->Region.ready .any ops listed=[]->E7 ops.size listed=[]:=λlisted hs hr=>by
  cases hu:E7 ops.size listed with
  |nil=>rfl
  |cons i l=>
   exfalso
   have hi:i∈E7 ops.size listed:=by rw[hu];exact bq ..
   have Uf:=yi ops.size listed
   rw[hu]at Uf
   have:i∈Region.ready .any ops listed:=(RY listed hs i).2 ⟨hi,λo ho e he hb=>by
    have mw:=Qh i o ho e he hb
    have RK:=(yK.1 hi).1
    cases hl:listed.getD e.on true with
    |false=>
     have hm:e.on∈E7 ops.size listed:=yK.2 ⟨by omega,hl⟩
     rw[hu]at hm
     rcases cH.1 hm with h | h
     ·omega
     ·have:=(iF.1 Uf).1 _ h;omega
    |true=>
     have:e.on < listed.size:=by omega
     simp only[fF,lQ this,gj]at hl ⊢
     exact hl⟩
   rw[hr]at this
   cases this
 intro fuel
 induction fuel with
 |zero=>
  intro listed s a w hs hl _ hr vF
  have hn:E7 ops.size listed=[]:=df hl
  refine⟨?_,?_⟩
  ·cases S4:Region.ready .any ops listed with
   |nil=>rfl
   |cons i l=>
    have:i∈Region.ready .any ops listed:=by rw[S4];exact bq ..
    have:=((RY listed hs i).1 this).1
    rw[hn]at this;cases this
  ·rw[hn]at hr
   have:s=sn:=hr
   subst this
   exact hQ a w vF
 |succ fuel ih=>
  intro listed s a w hs hl Mo hr vF
  refine⟨λS4=> ?_,λi hi=> ?_⟩
  ·have:=oZ listed hs S4
   rw[this]at hl;simp at hl
  ·obtain⟨hu,TN⟩:=(RY listed hs i).1 hi
   obtain⟨RK,Zw⟩:=yK.1 hu
   obtain⟨o,ho⟩:∃o,ops[i]? =some o:=⟨ops[i],by simp[RK]⟩
   obtain⟨l1,l2,ED⟩:=List.append_of_mem hu
   have Uf:=yi ops.size listed
   rw[ED]at Uf
   have TD:∀j,((GA ops.toList).getD i 0).testBit j=true->listed.getD j false=true:=λj hj=>by
    obtain⟨e,he,hb,h | h⟩:=MF (by simpa using ho) hj
    ·rw[h];exact TN o ho e he hb
    ·have h1:=TN o ho e he hb
     have h2:=Qh i o ho e he hb
     refine Mo e.on (by omega) ?_ j h
     have:e.on < listed.size:=by omega
     simp only[fF,lQ this,gj]at h1 ⊢
     exact h1
   rw[ED]at hr
   have hb:=Gt.MO l1 hr λj hj=>by
    have mw:j < i:=(List.pairwise_append.1 Uf).2.2 j hj i (bq ..)
    rcases VI j i mw RK with h | h
    ·have h1:=TD j h
     have Yg:j∈E7 ops.size listed:=by rw[ED];exact cf.2 (.inl hj)
     have h2:=(yK.1 Yg).2
     have:j < listed.size:=by omega
     simp only[fF,lQ this,gj]at h1 h2
     rw[h1]at h2;cases h2
    ·exact h
   obtain⟨o',ho',hf,s',hg,oY⟩:=hb
   obtain rfl:o=o':=by rw[ho]at ho';simpa using ho'
   have FF:E7 ops.size (listed.setIfInBounds i true)=l1++l2:=by
    rw[<-hs]at ED ⊢
    exact P5 (by omega) ED
   refine((Ey hΓ vF hg).mono λa' w' hst'=>ih (listed.setIfInBounds i true) s' a' w' (by simpa using hs) ?_ ?_ (by rw[FF];exact oY) hst').wpOp ho
   ·rw[FF]
    rw[ED]at hl
    simp only[ae,aN]at hl ⊢
    omega
   ·intro m hm RP j hj
    rw[Cf false (by omega)]
    split
    ·rfl
    ·rw[Cf true (by omega)]at RP
     split at RP
     ·rename_i Yp
      subst Yp
      exact TD j hj
     ·exact Mo m hm RP j hj
theorem HX{C:Ctx}(hm:P.follows .mixedOrders=true)(hΓ:Sound P Γ){id:Nat}{R:Type}{Q:Exit->Act->World->Prop}{s:AS}{a:Act}{w:World}{k:AS->Option R}{r:R}(h:kL C s a w)(hE:Fp ops.toList=true)
  (he:Ez P Γ da ops (GA ops.toList) 0 ops.toList [] s k=some r) (hk:∀s' a' w',kL C s' a' w'->k s'=some r->Q .normal a' w'):(Code.region id ops true).wp P Q a w:=by
 obtain⟨fs,sn,_,g2,g3,_,g5⟩:=EA ops.toList 0 [] s (λ_=>⟨none,[],[],[]⟩) (λn o hn=>by simpa using hn) (λ_ hx=>by cases hx) he
 refine wp_region_any hm ?_
 obtain⟨g,β,h⟩:=h
 have hu:E7 ops.size (Array.replicate ops.size false)=List.range' 0 ops.toList.length:=by
  unfold E7
  rw[kY.2]
  ·simp[List.range_eq_range']
  ·intro i hi
   have hi:i < ops.size:=by simpa using hi
   simp[fF,hi]
 refine K2 (da:=da) hΓ hE (fs:=fs) (sn:=sn) (λm1 m2 h1 h2=>g5 m1 m2 (bm _) h1 (by simpa using h2)) (λa' w' hs=>hk sn a' w' hs g3) ops.size _ s a _ (by simp) (by rw[hu];simp) (λi hi hl=> ?_) (by rw[hu];exact g2) ⟨g,β,h.drew⟩
 simp[fF,hi]at hl
end
end Go.Ab
namespace Go.Ab
theorem sP{ρ:Is}{s:AS}(h:∀id,(s.obj id).isSome=true->∀ver,ρ id ver=some (id,ver)):∀(v:aH),v.there s=true->v.mg ρ=v
 | .ptr id ver p n,ht=>by simp only[aH.mg];rw[h id ht]
 | .dh id ver p c i len,ht=>by simp only[aH.mg];rw[h id ht]
 | .pr a b,ht=>by
  simp only[aH.there,ak]at ht
  simp only[aH.mg];rw[sP h a ht.1,sP h b ht.2]
 | .cons a b,ht=>by
  simp only[aH.there,ak]at ht
  simp only[aH.mg];rw[sP h a ht.1,sP h b ht.2]
 | .fn f c,ht=>by simp only[aH.mg];rw[sP h c ht]
 | .bx e z c,ht=>by simp only[aH.mg];rw[sP h c ht]
 | .kO id ver,ht=>by simp only[aH.mg];rw[h id ht]
 | .qd ..,ht=>by cases ht
 | .undef,_ | .gone,_ | .eV,_ | .o6,_ | .rP,_ | .uw,_ | .d _ _,_ | .gE _ _,_ | .nil,_ | .vec ..,_ | .mp ..,_ | .sb _,_=>rfl
theorem SJ.bS{E E':Env}(hm:qZ E E')(hh:∀b:Nat,E'.w.heap[b]? =E.w.heap[b]?){i q:Id}{ver:Nat}{kt vt:Ty}{rest:List (kt.den×vt.den)}{cur:Option (kt.den×vt.den)}(h:SJ E i q ver kt vt rest cur)(hβ:E'.β i=E.β i)
  (hg:∀pl,E.β i=some pl->E.g pl.b= .own (.id i) 0->E'.g pl.b= .own (.id i) 0)
  (hq:∀vr,ver=vr+1->(E.w9 q vr->E'.w9 q vr/\(E'.cur q vr->E.cur q vr/\E'.β q=E.β q))/\(∀k v l,E.s q=some (.obj vr true (.mp k v l))->E'.s q=some (.obj vr true (.mp k v l)))/\
   ∀pl,E.β q=some pl->E.g pl.b= .own (.id q) 0->E'.g pl.b= .own (.id q) 0):SJ E' i q ver kt vt rest cur:=by
 obtain⟨pl,mb,since,seen,c0,h1,h2,h3,h4⟩:=h
 refine⟨pl,mb,since,seen,c0,by rw[hβ,h1],by rw[hh,h2],hg pl h1 h3,λvr Mt=> ?_⟩
 obtain⟨h5,h6⟩:=h4 vr Mt
 obtain⟨q1,q2,q3⟩:=hq vr Mt
 obtain⟨b1,b2⟩:=q1 h5
 refine⟨b1,λhc=> ?_⟩
 obtain⟨c1,c2⟩:=b2 hc
 obtain⟨⟨k,v,l,k0⟩,plq,es,clock,k1,k2,k3,k4,k5,k6,k7,k8,k9⟩:=h6 c1
 exact⟨⟨k,v,l,q2 _ _ _ k0⟩,plq,es,clock,by rw[c2,k1],k2,by rw[hh,k3],q3 _ k1 k4,k5,k6,k7,k8.mono hm,λx hx=>
  let⟨e,se,a1,a2,a3,a4⟩:=k9 x hx
  ⟨e,se,a1,a2,a3,a4.mono hm⟩⟩
theorem Nu(c:aH):(∃q ver k v l cu,c= .qd q ver k v l cu)\/(∀ρ kp,c.Sl ρ kp=c.mg ρ)/\∀s v fr,gU.there s (.obj v fr c)=c.there s:=by
 cases c <;> first | exact .inl ⟨_,_,_,_,_,_,rfl⟩ | exact .inr ⟨λ_ _=>rfl,λ_ _ _=>rfl⟩
section
variable {P:Program} {C:Ctx} {g:Nat->od} {β:Id->Option Pl} {s:AS} {a:Act} {w:World}
theorem Inv.ER(h:Inv C g β s a w)(hC:∀i j,C.E.s (.new i j)=none){s1:AS}{g1:Nat->od}{β1:Id->Option Pl}(ρ:Is)(hlen:s1.dU.length=s.dU.length)(ht:Trans w w g g1)(hle:vk ρ (s.env w g β) (s1.env w g1 β1))
  (Cl:∀i,VS (s1.env w g1 β1) (s1.slot i) (a.tmps.getD i undef))
  (eP:∀id ver fr c,s1.dx id=some (.obj ver fr c)->rI (s1.env w g1 β1) id fr c\/∃id0 v0 c0,s.dx id0=some (.obj v0 fr c0)/\c0.mg ρ=c/\β1 id=β id0/\∀pl,β id0=some pl->(∀k,g pl.b= .own (.id id0) k->g1 pl.b= .own (.id id) k)/\(g pl.b= .free->g1 pl.b= .free))
  (hold:∀k,(s.dx (.ew k)≠none->s1.dx (.ew k)≠none)/\(∀v fr c,s1.dx (.ew k)=some (.obj v fr c)->∃c0,s.dx (.ew k)=some (.obj v fr c0))/\β1 (.ew k)=β (.ew k)):Inv C g1 β1 s1 a w:=by
 refine⟨h.defers,by rw[hlen];exact h.size,Cl,λid ver fr c eZ=> ?_,h.trans.trans ht,?_⟩
 ·rcases eP id ver fr c eZ with ho | ⟨id0,v0,c0,h1,h2,h3,h4⟩
  ·exact ho
  have:=ub hle (h.da id0 v0 fr c0 h1) (id':=id) h3 λpl hp=>⟨rfl,(h4 pl hp).1,(h4 pl hp).2⟩
  rw[h2]at this
  exact this
 ·have hl:=h.le
  have ho:∀id ver,C.E.w9 id ver->∃k,id= .ew k:=λid ver hb=>by
   cases id with
   |ew k=>exact⟨k,rfl⟩
   |new i j=>exact absurd (hC i j) hb.1
  refine⟨hl.mem.trans (Trans.mem (E:=s.env w g β) (E':=s1.env w g1 β1) ht),λid ver hb=> ?_,λid ver hb hc=> ?_⟩
  ·obtain⟨k,rfl⟩:=ho id ver hb
   obtain⟨h1,h2⟩:=hl.w9 _ ver hb
   obtain⟨e1,e2,_⟩:=hold k
   exact⟨e1 h1,λv fr c hh=>let⟨c0,Nc⟩:=e2 v fr c hh;h2 v fr c0 Nc⟩
  ·obtain⟨k,rfl⟩:=ho id ver hb
   obtain⟨fr,c,hc⟩:=hc
   obtain⟨_,e2,e3⟩:=hold k
   obtain⟨c0,Nc⟩:=e2 _ _ _ hc
   obtain⟨h1,h2⟩:=hl.cur _ ver hb ⟨fr,c0,Nc⟩
   exact⟨h1,e3.trans h2⟩
theorem Inv.renamed(h:Inv C g β s a w)(hC:∀i j,C.E.s (.new i j)=none){s1:AS}{β1:Id->Option Pl}(ρ:Is)(hlen:s1.dU.length=s.dU.length)(hle:vk ρ (s.env w g β) (s1.env w g β1))
  (Cl:∀i,VS (s1.env w g β1) (s1.slot i) (a.tmps.getD i undef)) (eP:∀id ver fr c,s1.dx id=some (.obj ver fr c)->rI (s1.env w g β1) id fr c\/∃v0,s.dx id=some (.obj v0 fr c)/\c.mg ρ=c/\β1 id=β id)
  (hold:∀k,s1.dx (.ew k)=s.dx (.ew k)/\β1 (.ew k)=β (.ew k)):Inv C g β1 s1 a w:=
 h.ER hC ρ hlen (Trans.refl w g) hle Cl (λid ver fr c eZ=>(eP id ver fr c eZ).imp (λh=>h) λ⟨v0,h1,h2,h3⟩=>⟨id,v0,c,h1,h2,h3,λ_ _=>⟨λ_ h=>h,λh=>h⟩⟩)
  λk=>⟨λhh=>by rw[(hold k).1];exact hh,λv fr c hh=>⟨c,(hold k).1.symm.trans hh⟩,(hold k).2⟩
theorem Inv.UB(h:Inv C g β s a w)(j:Nat){v:aH}(hv:VS (s.env w g β) v (a.tmps.getD j undef)):Inv C g β (s.put (some j) v) a w:=by
 refine⟨h.defers,by simpa[AS.put]using h.size,λi=> ?_,by simpa using h.da,h.trans,by simpa using h.le⟩
 rw[J4,Dd]
 split
 ·rename_i T0;rw[T0.1];exact hv
 ·exact h.dU i
theorem Am(bS:List Nat):∀(l:List aH) (n i:Nat),(lA bS n l).getD i .undef= .undef\/(lA bS n l).getD i .undef=l.getD i .undef
 |[],n,i=>by simp[lA]
 |v::l,n,0=>by
  simp only[lA,mh]
  split
  ·exact .inr rfl
  ·exact .inl rfl
 |v::l,n,i+1=>by
  simp only[lA,oI]
  exact Am bS l (n+1) i
theorem tQ(bS:List Nat):∀(l:List aH) (n:Nat),(lA bS n l).length=l.length
 |[],n=>rfl
 |v::l,n=>by simp[lA,tQ bS l]
theorem EY(bS:List Nat):∀(l:List (List gU)) (n i:Nat),(nr bS n l).getD i []=[]\/(nr bS n l).getD i []=l.getD i []
 |[],n,i=>by simp[nr]
 |v::l,n,0=>by
  simp only[nr,mh]
  split
  ·exact .inr rfl
  ·exact .inl rfl
 |v::l,n,i+1=>by
  simp only[nr,oI]
  exact EY bS l (n+1) i
theorem LK{s:AS}(i:Nat):s.slot i= .undef\/s.slot i∈s.dU:=by
 unfold AS.slot
 rw[aX]
 cases h:s.dU[i]? with
 |none=>exact .inl rfl
 |some v=>exact .inr (eQ h)
theorem O8{s:AS}{id:Id}{e:gU}(h:s.dx id=some e):e∈s.ez\/∃es∈s.news,e∈es:=by
 cases id with
 |ew k=>exact .inl (eQ h)
 |new i j=>
  simp only[AS.dx,aX]at h
  cases hi:s.news[i]? with
  |none=>rw[hi]at h;simp at h
  |some es=>rw[hi]at h;exact .inr ⟨es,eQ hi,eQ h⟩
theorem Inv.bS(h:Inv C g β s a w)(hC:∀i j,C.E.s (.new i j)=none){an:om}(ht:(yH an s).Gx=true):Inv C g β (yH an s) a w:=by
 obtain⟨ks,kt,_,_,_⟩:=an
 obtain⟨s1,zM⟩:∃s1:AS,s1= {dU:=lA ks 0 s.dU,ez:=s.ez,news:=nr kt 0 s.news}:=⟨_,rfl⟩
 have e1:s1.dU=lA ks 0 s.dU:=by rw[zM]
 have e2:s1.ez=s.ez:=by rw[zM]
 have e3:s1.news=nr kt 0 s.news:=by rw[zM]
 have ht:(s1.dU.all (aH.there s1) && s1.ez.all (gU.there s1) && s1.news.all λes=>es.all (gU.there s1))=true:=by rw[zM];exact ht
 show Inv C g β {dU:=lA ks 0 s.dU,ez:=s.ez,news:=nr kt 0 s.news} a w
 rw[<-zM]
 rw[ak,ak]at ht
 obtain⟨⟨t1,t2⟩,t3⟩:=ht
 have eP:∀id,s1.dx id=none\/s1.dx id=s.dx id:=λid=>by
  cases id with
  |ew k=>right;simp only[AS.dx,e2]
  |new i j=>
   simp only[AS.dx,e3]
   rcases EY kt s.news 0 i with h | h
   ·rw[h];exact .inl rfl
   ·rw[h];exact .inr rfl
 have Pu:∀id,(s1.obj id).isSome=true->s1.dx id=s.dx id:=λid hi=>by
  rcases eP id with h | h
  ·simp[AS.obj,h]at hi
  ·exact h
 let ρ:Is:=λid ver=>if(s1.obj id).isSome=true then some (id,ver) else none
 have hρ:∀v:aH,v.there s1=true->v.mg ρ=v:=sP λid eZ ver=>if_pos eZ
 have hle:vk ρ (s.env w g β) (s1.env w g β):=by
  refine⟨⟨λ_ _ _ h=>h,λ_ _ h h'=>⟨h,h'⟩⟩,λid ver r hr hb=> ?_⟩
  by_cases hi:(s1.obj id).isSome=true
  ·have:ρ id ver=some (id,ver):=if_pos hi
   rw[this,aE]at hr
   subst hr
   have e:=Pu id hi
   obtain⟨b1,b2⟩:=hb
   exact⟨⟨by show s1.dx id≠none;rw[e];exact b1,λv fr c hh=>b2 v fr c (e.symm.trans hh)⟩,λ⟨fr,c,hc⟩=>⟨⟨fr,c,e.symm.trans hc⟩,rfl⟩⟩
  ·have:ρ id ver=none:=if_neg hi
   rw[this]at hr;cases hr
 refine h.renamed hC ρ (by rw[e1,tQ]) hle (λi=> ?_) (λid ver fr c eZ=> ?_) λk=>⟨by simp only[AS.dx,e2],rfl⟩
 ·rcases LK (s:=s1) i with hi | hi
  ·rw[hi];exact VS.undef
  ·have Wh:=fy.1 t1 _ hi
   rcases Am ks s.dU 0 i with h1 | h1
   ·have:s1.slot i= .undef:=by simp only[AS.slot,e1,h1]
    rw[this];exact VS.undef
   ·have:s1.slot i=s.slot i:=by simp only[AS.slot,e1,h1]
    have hv:=BN hle (h.dU i)
    rw[<-this,hρ _ Wh]at hv
    exact hv
 ·have:s1.dx id=s.dx id:=by
   rcases eP id with h | h
   ·rw[h]at eZ;cases eZ
   ·exact h
  have hc:gU.there s1 (.obj ver fr c)=true:=by
   rcases O8 eZ with h | ⟨es,h1,h2⟩
   ·exact fy.1 t2 _ h
   ·exact fy.1 (fy.1 t3 _ h1) _ h2
  rcases Nu c with⟨q,vq,k,v,l,cu,rfl⟩ | ⟨_,Wh⟩
  ·have e:=Pu q hc
   refine .inl (SJ.bS hle.mem (λ_=>rfl) (h.da id ver fr _ (this.symm.trans eZ)) rfl (λ_ _ h=>h) λvr _=>⟨λhb=>hle.ref q vr (q,vr) (if_pos hc) hb,λk v l hk=>e.trans hk,λ_ _ h=>h⟩)
  ·rw[Wh]at hc
   exact .inr ⟨ver,this.symm.trans eZ,hρ c hc,rfl⟩
theorem Inv.drop(h:Inv C g β s a w)(ks:List Nat):Inv C g β (s.drop ks) a w:=by
 refine⟨h.defers,by simpa[AS.drop,tQ]using h.size,λi=> ?_,h.da,h.trans,h.le⟩
 rcases Am ks s.dU 0 i with h1 | h1
 ·have:(s.drop ks).slot i= .undef:=h1
  rw[this];exact VS.undef
 ·have:(s.drop ks).slot i=s.slot i:=h1
  rw[this];exact h.dU i
def vb(b q:Nat):od->od
 | .own (.id (.new x j)) k=>if x=b then .own (.id (.new q j)) k else .own (.id (.new x j)) k
 |l=>l
theorem Trans.UA(w:World)(g:Nat->od)(b q:Nat):Trans w w g λx=>vb b q (g x):=by
 refine⟨rfl,rfl,⟨rfl,aC _⟩,aC _,λy _=> ?_⟩
 cases hg:g y with
 |free=>exact⟨by simp[vb],rfl⟩
 |own o k=>cases o with
  |iR=>exact⟨by simp[vb],rfl⟩
  |id x=>
   refine⟨.inr ?_,λ_ _ _ h=>h⟩
   cases x with
   |ew m=>exact⟨_,_,rfl,aC _⟩
   |new x j=>
    simp only[vb]
    split
    ·exact⟨_,_,rfl,aC _⟩
    ·exact⟨_,_,rfl,aC _⟩
theorem Oo(f:aH->aH)(hf:f .undef= .undef)(l:List aH)(i:Nat):(l.map f).getD i .undef=f (l.getD i .undef):=by
 simp only[aX,jY]
 cases l[i]? <;> simp[hf]
theorem Inv.wx(h:Inv C g β s a w)(hC:∀i j,C.E.s (.new i j)=none){b q:Nat}(SS:b < s.news.length)(Yy:q < s.news.length):
  ∃g1 β1,Inv C g1 β1 (s.wx b q (s.news.getD b [])) a w:=by
 generalize Ya:s.news.getD b []=es
 have TQ:∀j,s.dx (.new b j)=es[j]? :=λj=>by rw[<-Ya];rfl
 let ρ:Is:=yX es b q
 let s1:=s.wx b q es
 have nR:∀j',s1.dx (.new q j')=(es[j']?).map (gU.PW ρ):=λj'=>by
  simp[s1,AS.wx,AS.dx,aX,Yy,ρ]
 have TX:b≠q->∀j',s1.dx (.new b j')=none:=λRB j'=>by
  have hbq':¬q=b:=λe=>RB e.symm
  simp only[s1,AS.wx,AS.dx,aX]
  rw[iD hbq',List.getElem?_set,if_pos rfl]
  split <;> simp
 have DM:∀i,(∀j',i≠ .new q j')->(∀j',i≠ .new b j')->s1.dx i=(s.dx i).map (gU.D5 ρ (wV b q)):=λi hi hi'=>by
  cases i with
  |ew k=>simp[s1,AS.wx,AS.dx,ρ]
  |new x y=>
   have h1:¬q=x:=λe=>hi y (by rw[e])
   have h2:¬b=x:=λe=>hi' y (by rw[e])
   simp only[s1,AS.wx,AS.dx,aX]
   rw[iD h1,iD h2,jY]
   cases s.news[x]? <;> simp[ρ]
 let g1:Nat->od:=λx=>vb b q (g x)
 let β1:Id->Option Pl:=λi=>match i with | .new x j=>if x=q then β (.new b j) else β (.new x j) | .ew k=>β (.ew k)
 have hβ1:∀i,(∀j',i≠ .new q j')->β1 i=β i:=λi hi=>by
  cases i with
  |ew k=>rfl
  |new x y=>exact if_neg λe=>hi y (by rw[e])
 have ht:Trans w w g g1:=Trans.UA w g _ _
 have hρ:∀i ver r,ρ i ver=some r->(∃j fr c,i= .new b j/\es[j]? =some (.obj ver fr c)/\r=(.new q j,0))\/((∀j',i≠ .new q j')/\(∀j',i≠ .new b j')/\r=(i,ver)):=λi ver r hr=>by
  replace hr:yX es b q i ver=some r:=hr
  cases i with
  |ew k=>exact .inr ⟨λ_=>by simp,λ_=>by simp,(cM hr).symm⟩
  |new x j=>
   unfold yX at hr
   simp only at hr
   split at hr
   ·rename_i hx
    have hx:x=b:=by simpa using hx
    subst hx
    split at hr
    ·rename_i v fr c he
     split at hr
     ·rename_i hv
      have hv:ver=v:=by simpa using hv
      subst hv
      exact .inl ⟨j,fr,c,rfl,he,(cM hr).symm⟩
     ·cases hr
    ·cases hr
   ·rename_i hx
    have hx:¬x=b:=by simpa using hx
    split at hr
    ·cases hr
    ·rename_i hx'
     have hx':¬x=q:=by simpa using hx'
     exact .inr ⟨λ_ e=>hx' (by injection e),λ_ e=>hx (by injection e),(cM hr).symm⟩
 have hle:vk ρ (s.env w g β) (s1.env w g1 β1):=by
  refine⟨Trans.mem (E:=s.env w g β) (E':=s1.env w g1 β1) ht,λi ver r hr OL=> ?_⟩
  rcases hρ i ver r hr with⟨j,fr,c,rfl,he,rfl⟩ | ⟨hi,hi',rfl⟩
  ·refine⟨⟨by show s1.dx (.new q j)≠none;rw[nR,he];simp,λ_ _ _ _=>bm _⟩,λ_=>⟨⟨fr,c,(TQ j).trans he⟩,if_pos rfl⟩⟩
  ·obtain⟨k1,k2⟩:=OL
   have k1:s.dx i≠none:=k1
   have e:s1.dx i=(s.dx i).map (gU.D5 ρ (wV b q)):=DM i hi hi'
   have back:∀v' fr' c',s1.dx i=some (.obj v' fr' c')->∃c0,s.dx i=some (.obj v' fr' c0):=λv' fr' c' hh=>by
    rw[e]at hh
    cases hs:s.dx i with
    |none=>exact absurd hs k1
    |some en=>
     rw[hs]at hh
     cases en with
     |dead=>simp[gU.D5]at hh
     |obj v0 fr0 c0=>
      simp only[jd,gU.D5,aE,gU.obj.injEq]at hh
      obtain⟨rfl,rfl,_⟩:=hh
      exact⟨c0,rfl⟩
   refine⟨⟨by
    show s1.dx i≠none
    rw[e]
    cases hs:s.dx i with
    |none=>exact absurd hs k1
    |some en=>simp,λv' fr' c' hh=> ?_⟩,λ⟨fr',c',hh⟩=> ?_⟩
   ·obtain⟨c0,Nc⟩:=back v' fr' c' hh
    exact k2 v' fr' c0 Nc
   ·obtain⟨c0,Nc⟩:=back ver fr' c' hh
    exact⟨⟨fr',c0,Nc⟩,hβ1 i hi⟩
 have UZ:∀(i:Id),(∀j',i≠ .new b j')->∀(x:Nat) (k:Nat),g x= .own (.id i) k->g1 x= .own (.id i) k:=λi hi x k hk=>by
  show vb b q (g x)=_
  rw[hk]
  cases i with
  |ew m=>rfl
  |new y j=>exact if_neg λe=>hi j (by rw[e])
 refine⟨g1,β1,h.ER hC ρ (by simp[AS.wx]) ht hle (λi=> ?_) (λid ver fr' c' eZ=> ?_) λk=>⟨λhk=> ?_,λv' fr' c' hh=> ?_,rfl⟩⟩
 ·have:(s.wx b q es).slot i=(s.slot i).mg ρ:=Oo _ rfl _ _
  rw[this]
  exact BN hle (h.dU i)
 ·have eZ:s1.dx id=some (.obj ver fr' c'):=eZ
  by_cases hi:∃j',id= .new q j'
  ·obtain⟨j',rfl⟩:=hi
   rw[nR]at eZ
   cases he:es[j']? with
   |none=>rw[he]at eZ;cases eZ
   |some en=>
    rw[he]at eZ
    cases en with
    |dead=>simp[gU.PW]at eZ
    |obj v0 fr0 c0=>
     simp only[jd,gU.PW,aE,gU.obj.injEq]at eZ
     obtain⟨_,rfl,rfl⟩:=eZ
     exact .inr ⟨.new b j',v0,c0,(TQ j').trans he,rfl,if_pos rfl,λpl hp=>⟨λk hk=>by
      show vb b q (g pl.b)=_
      rw[hk];exact if_pos rfl,λhk=>by
      show vb b q (g pl.b)=_
      rw[hk];rfl⟩⟩
  ·by_cases hi':∃j',id= .new b j'
   ·obtain⟨j',rfl⟩:=hi'
    have RB:b≠q:=λe=>hi ⟨j',by rw[e]⟩
    rw[TX RB]at eZ;cases eZ
   ·have U1:∀j',id≠ .new q j':=λj' e=>hi ⟨j',e⟩
    have hni':∀j',id≠ .new b j':=λj' e=>hi' ⟨j',e⟩
    have e:=DM id U1 hni'
    rw[e]at eZ
    cases hs:s.dx id with
    |none=>rw[hs]at eZ;cases eZ
    |some en=>
     rw[hs]at eZ
     cases en with
     |dead=>simp[gU.D5]at eZ
     |obj v0 fr0 c0=>
      simp only[jd,gU.D5,aE,gU.obj.injEq]at eZ
      obtain⟨rfl,rfl,rfl⟩:=eZ
      rcases Nu c0 with⟨q2,vq,k,v2,l,cu,rfl⟩ | ⟨Wb,_⟩
      ·have h0:=h.da id v0 fr0 _ hs
       left
       simp only[aH.Sl]
       cases Xg:wV b q q2 with
       |true=>
        have Pp:(∀j',q2≠ .new b j')/\(∀j',q2≠ .new q j')/\∀vr,ρ q2 vr=some (q2,vr):=by
         cases q2 with
         |ew k=>exact⟨λ_=>by simp,λ_=>by simp,λ_=>rfl⟩
         |new x y=>
          simp only[wV,ak,dI,decide_eq_false_iff_not]at Xg
          obtain⟨k1,k2⟩:=Xg
          refine⟨λ_ e=>k1 (by injection e),λ_ e=>k2 (by injection e),λvr=> ?_⟩
          show yX es b q (.new x y) vr=_
          unfold yX
          simp only[decide_eq_false k1,decide_eq_false k2]
        obtain⟨Pp,OM,hρq⟩:=Pp
        refine SJ.bS hle.mem (λ_=>rfl) h0 (hβ1 id U1) (λpl _ hk=>UZ id hni' _ _ hk) λvr _=>⟨λhb=>hle.ref q2 vr (q2,vr) (hρq vr) hb,λk v l hk=> ?_,λpl _ hk=>UZ q2 Pp _ _ hk⟩
        have hk:s.dx q2=some (.obj vr true (.mp k v l)):=hk
        show s1.dx q2=_
        rw[DM q2 OM Pp,hk]
        rfl
       |false=>
        obtain⟨pl,mb,since,seen,c0,h1,h2,h3,h4⟩:=h0
        exact⟨pl,mb,since,seen,c0,(hβ1 id U1).trans h1,h2,UZ id hni' _ _ h3,λvr Mt=>by omega⟩
      rw[Wb]
      exact .inr ⟨id,v0,c0,hs,rfl,hβ1 id U1,λpl hp=>⟨λk hk=>UZ id hni' _ _ hk,λhk=>by
       show vb b q (g pl.b)=_
       rw[hk];rfl⟩⟩
 ·have e:=DM (.ew k) (λ_=>by simp) (λ_=>by simp)
  show s1.dx (.ew k)≠none
  rw[e]
  cases hs:s.dx (.ew k) with
  |none=>exact absurd hs hk
  |some en=>simp
 ·have e:=DM (.ew k) (λ_=>by simp) (λ_=>by simp)
  have hh:s1.dx (.ew k)=some (.obj v' fr' c'):=hh
  rw[e]at hh
  cases hs:s.dx (.ew k) with
  |none=>rw[hs]at hh;cases hh
  |some en=>
   rw[hs]at hh
   cases en with
   |dead=>simp[gU.D5]at hh
   |obj v0 fr0 c0=>
    simp only[jd,gU.D5,aE,gU.obj.injEq]at hh
    obtain⟨rfl,rfl,_⟩:=hh
    exact⟨c0,rfl⟩
theorem Dr{k t:Ty}{l:List (k.den×t.den)}:∀ {p:List xy} {x c':aH},¬(tY (.mp k t l) p x).eval=some c'
 |[],x,c',h=>by simp only[tY,al]at h
 | .arr::p,x,c',h=>by simp only[tY]at h;exact Dr h
 | .idx i::p,x,c',h=>by simp only[tY,al]at h
 | .fst::p,x,c',h=>by simp only[tY,al]at h
 | .snd::p,x,c',h=>by simp only[tY,al]at h
theorem Ge{q:Id}{vq:Nat}{k t:Ty}{l:List (k.den×t.den)}{cu:Option (k.den×t.den)}:∀ {p:List xy} {x c':aH},¬(tY (.qd q vq k t l cu) p x).eval=some c'
 |[],x,c',h=>by simp only[tY,al]at h
 | .arr::p,x,c',h=>by simp only[tY]at h;exact Ge h
 | .idx i::p,x,c',h=>by simp only[tY,al]at h
 | .fst::p,x,c',h=>by simp only[tY,al]at h
 | .snd::p,x,c',h=>by simp only[tY,al]at h
theorem A6{l:List Value}{n:Nat}{vs:List Value}(h:(l.drop n).take vs.length=vs):fo l n vs=l:=by
 unfold fo
 have h2:l.drop n=vs++l.drop (n+vs.length):=by
  conv=>lhs;rw[<-fQ vs.length (l.drop n)]
  rw[h,iX]
 have h3:=fQ n l
 rw[h2]at h3
 simpa[bR]using h3
theorem Inv.Uu(h:Inv C g β s a w){j:Nat}{p:List xy}(Bi:(s.at j p).eval=some .eV){q:Nat}(hq:s.gd q=true){e:TypeId}{t:Ty}(hz:0 < t.size){s':AS}
  (he:((s.born q [.obj 0 false (.vec e t [])]).putAt j (.dh (.new q 0) 0 [] 0 0 0) p).eval=some s'):kL C s' a w:=by
 obtain⟨β',h1,h2,h3⟩:=h.NM hq (e:=e) hz
 cases p with
 |nil=>
  simp only[AS.at]at Bi
  have hj:=aB.1 Bi
  simp only[AS.putAt]at he
  obtain rfl:=aB.1 he
  refine⟨g,β',h1.UB j ?_⟩
  have:=h.dU j
  rw[hj]at this
  rw[l5 this]
  exact h3
 |cons st p=>
  simp only[AS.at]at Bi
  simp only[AS.putAt]at he
  have Cl:(s.born q [.obj 0 false (.vec e t [])]).slot j=s.slot j:=rfl
  rw[Cl]at he
  split at Bi
  ·rename_i id ver p0 nn hj
   split at Bi
   ·rename_i v fr c nc
    obtain⟨hv,Bi⟩:=aL.1 Bi
    obtain⟨⟨n,u⟩,hl,Bi⟩:=av.1 Bi
    have hu:=aB.1 Bi
    simp only at hu
    subst hu
    have eP:=gC nc
    have lh:id≠ .new q 0:=λe=>by rw[e,(lH hq).1 0]at eP;cases eP
    have hne':∀j',id≠ .new q j':=λj' e=>by rw[e,(lH hq).1 j']at eP;cases eP
    have rU:(s.born q [.obj 0 false (.vec e t [])]).dx id=some (.obj v fr c):=(kM _ hne').trans eP
    have RU:(s.born q [.obj 0 false (.vec e t [])]).obj id=some (v,fr,c):=by simp only[AS.obj,rU]
    simp only[hj,RU]at he
    split at he
    ·simp only[al]at he
    ·rename_i c1 Vv
     obtain⟨c',Cm,he⟩:=av.1 he
     obtain rfl:=aB.1 he
     have hn:c.kq=false:=by
      cases c <;> first | rfl | (exact(Vv _ _ _ rfl).elim) | (exact absurd Cm Dr) | (exact absurd Cm Ge)
     have hO:=h1.da id v fr c rU
     obtain⟨pl,cur,e0,hp,hh,hg,hk,hV⟩:=hO.box hn
     have ht:=Trans.refl w g
     have hN:=Bq hk
     have hle:=dZ.bM (s:=s.born q [.obj 0 false (.vec e t [])]) (β:=β') (v':=v) (fr':=fr) (c':=c.wrap c') rU (aC _) ht (λ_ _=>rfl) (λ_=>rfl)
     refine⟨g,β',h1.step (fi _ _ _) ht hle (lO.bM h1.da (by rw[rU];simp) hle (λ_ _=>rfl) (λ_ _ _ _ _ _ _ _=>⟨rfl,rfl⟩) ?_ (ou rU λk v1 l e=>by subst e;exact absurd Cm Dr))⟩
     obtain⟨cs,k1,k2⟩:=h3
     have k2:cs=[.slice none 0 0]:=k2
     subst k2
     obtain⟨u1,u2,u3⟩:=oA (p0++st::p) c.strip (cur.toList.take (c.rJ cur.size)) n .eV _ c' [.slice none 0 0] (VO.of hV) hl k1 Cm
     have u4:=u2.to (u3.qk hV.qk)
     have yA:((cur.toList.take (c.rJ cur.size)).drop n).take 1=[.slice none 0 0]:=by
      rcases pM (p0++st::p) c.strip (cur.toList.take (c.rJ cur.size)) n .eV (VO.of hV) hl with⟨RR,Nc⟩ | ⟨q1,q2⟩
      ·rw[<-Nc]at hV
       simp only[V]at hV
       rw[hV,RR]
       rfl
      ·simpa only[V,aH.size]using q1
     rw[A6 (vs:=[.slice none 0 0]) yA]at u4
     have rM:c'.size=c.strip.size:=by have e1:=u4.size;have e2:=hV.size;omega
     exact zq.obj ⟨pl,cur,e0,hp,hh,hg,xA hk u4.sL rM,by rw[yf c u4.sL,zx u4.sL rM];exact V.mono hle u4⟩
   ·simp only[al]at Bi
  ·simp only[al]at Bi
theorem xl:∀(ids:List Id) {s:AS} {i:Id} {v:Nat} {fr:Bool} {c:aH},s.dx i=some (.obj v fr c)->∃fr',(s.cm ids).dx i=some (.obj v fr' c)
 |[],s,i,v,fr,c,h=>⟨fr,h⟩
 |id::ids,s,i,v,fr,c,h=>by
  obtain⟨fr',h'⟩:=B3 (id:=id) h
  exact xl ids h'
theorem Inv.Tn(h:Inv C g β s a w){j:Nat}{p:List xy}{u:aH}(Bi:(s.at j p).eval=some u){t:Ty}{x:t.den}(ht:(s.kQ t u).eval=some x){s':AS}
  (he:((s.cm u.shared).putAt j (.d t x) p).eval=some s'):kL C s' a w:=by
 cases p with
 |nil=>
  simp only[AS.at]at Bi
  have hj:=aB.1 Bi
  simp only[AS.putAt]at he
  obtain rfl:=aB.1 he
  have hs:=h.dU j
  rw[hj]at hs
  obtain⟨g',i1,_,_,cs,hR,hO⟩:=sV h hs ht
  exact⟨g',β,i1.UB j (VS.of (a:= .d t x) (cs:=cs) (by simpa only[V]using hR) hO)⟩
 |cons st p=>
  simp only[AS.at]at Bi
  simp only[AS.putAt]at he
  have Cl:(s.cm u.shared).slot j=s.slot j:=by simp only[AS.slot,nh]
  rw[Cl]at he
  split at Bi
  ·rename_i id ver p0 nn hj
   split at Bi
   ·rename_i v fr c nc
    obtain⟨hv,Bi⟩:=aL.1 Bi
    obtain⟨⟨n,u'⟩,hl,Bi⟩:=av.1 Bi
    have hu:=aB.1 Bi
    simp only at hu
    subst hu
    have eP:=gC nc
    obtain⟨g',h1,h2,h3,h4⟩:=kc u'.shared h
    obtain⟨fr',rU⟩:=xl u'.shared eP
    have RU:(s.cm u'.shared).obj id=some (v,fr',c):=by simp only[AS.obj,rU]
    simp only[hj,RU]at he
    split at he
    ·simp only[al]at he
    ·rename_i c1 Vv
     obtain⟨c',Cm,he⟩:=av.1 he
     obtain rfl:=aB.1 he
     have hn:c.kq=false:=by
      cases c <;> first | rfl | (exact(Vv _ _ _ rfl).elim) | (exact absurd Cm Dr) | (exact absurd Cm Ge)
     obtain⟨pl0,cur0,e00,RV,RI,VB,VL,hV0⟩:=(h.da id v fr c eP).box hn
     obtain⟨pl,cur,e0,hp,hh,hg,hk,hV⟩:=(h1.da id v fr' c rU).box hn
     have wR:pl0=pl:=by
      have RV:β id=some pl0:=RV
      have hp:β id=some pl:=hp
      rw[RV]at hp
      exact cM hp
     subst wR
     have jt:cur0=cur:=by
      have RI:w.heap[pl0.b]? =_:=RI
      have hh:w.heap[pl0.b]? =_:=hh
      rw[RI]at hh
      simpa using(congrArg (λo=>match o with | some (.cells x _ _)=>x | _=>cur0) hh)
     subst jt
     obtain⟨cs,hVu,yA⟩:∃cs,V (s.env w g β) u' cs/\((cur0.toList.take (c.rJ cur0.size)).drop n).take cs.length=cs:=by
      rcases pM (p0++st::p) c.strip (cur0.toList.take (c.rJ cur0.size)) n u' (VO.of hV0) hl with⟨RR,Nc⟩ | ⟨q1,q2⟩
      ·refine⟨cur0.toList.take (c.rJ cur0.size),by rw[Nc];exact hV0,?_⟩
       rw[RR,aW,cz]
      ·refine⟨_,q1,?_⟩
       rw[fO,iy]
       congr 1
       omega
     have hR:=rG rfl h.da h2 u' t x cs hVu ht h4
     have hVx:V ((s.cm u'.shared).env w g' β) (.d t x) cs:=by simpa only[V]using hR
     have ht':=Trans.refl w g'
     have hle:=dZ.bM (s:=s.cm u'.shared) (β:=β) (v':=v) (fr':=fr') (c':=c.wrap c') rU (aC _) ht' (λ_ _=>rfl) (λ_=>rfl)
     refine⟨g',β,h1.step (fi _ _ _) ht' hle (lO.bM h1.da (by rw[rU];simp) hle (λ_ _=>rfl) (λ_ _ _ _ _ _ _ _=>⟨rfl,rfl⟩) ?_ (ou rU λk v1 l e=>by subst e;exact absurd Cm Dr))⟩
     obtain⟨u1,u2,u3⟩:=oA (p0++st::p) c.strip (cur0.toList.take (c.rJ cur0.size)) n u' _ c' cs (VO.of hV) hl hVx Cm
     have u4:=u2.to (u3.qk hV.qk)
     rw[A6 (vs:=cs) yA]at u4
     have rM:c'.size=c.strip.size:=by have e1:=u4.size;have e2:=hV.size;omega
     exact zq.obj ⟨pl0,cur0,e0,hp,hh,hg,xA hk u4.sL rM,by rw[yf c u4.sL,zx u4.sL rM];exact V.mono hle u4⟩
   ·simp only[al]at Bi
  ·simp only[al]at Bi
theorem xG{E:Env}:∀(t:Ty) (x:t.den) (u:aH),(zE t x).eval=some u->∀cs,eY E t cs x->V E u cs
 | .kg t,x,u,h,cs,hr=>by
  simp only[zE]at h
  obtain⟨h1,h2⟩:=cW.1 h
  obtain rfl:=aB.1 h2
  simp only[eY]at hr
  simp only[V]
  exact hr.1 (Option.isNone_iff_eq_none.1 h1)
 | .pair a b,x,u,h,cs,hr=>by
  simp only[zE]at h
  obtain⟨u1,h1,h2⟩:=av.1 h
  obtain⟨u2,h3,h4⟩:=av.1 h2
  obtain rfl:=aB.1 h4
  simp only[eY]at hr
  obtain⟨ca,cb,rfl,ha,hb⟩:=hr
  exact IA (xG a x.1 u1 h1 ca ha) (xG b x.2 u2 h3 cb hb)
 | .int k,x,u,h,cs,hr=>by simp only[zE]at h;obtain rfl:=aB.1 h;simpa only[V]using hr
 | .bool,x,u,h,cs,hr=>by simp only[zE]at h;obtain rfl:=aB.1 h;simpa only[V]using hr
 | .str,x,u,h,cs,hr=>by simp only[zE]at h;obtain rfl:=aB.1 h;simpa only[V]using hr
 | .slice t,x,u,h,cs,hr=>by simp only[zE]at h;obtain rfl:=aB.1 h;simpa only[V]using hr
 | .unit,x,u,h,cs,hr=>by simp only[zE]at h;obtain rfl:=aB.1 h;simpa only[V]using hr
 | .arr n t,x,u,h,cs,hr=>by simp only[zE]at h;obtain rfl:=aB.1 h;simpa only[V]using hr
theorem K8{e:TypeId}{z:Nat}{c:aH}{pl:Pl}{n:Nat}(hz:0 < z)(h1:n=pl.cap*z)(h2:pl.cap<=maxLen)(h3:c.size<=n):(aH.bx e z c).vQ pl n e:=by
 cases z with
 |zero=>omega
 |succ z=>exact⟨rfl,h1,h2,h3⟩
theorem GH{e:TypeId}{z:Nat}{c:aH}{n:Nat}(hz:0 < z):(aH.bx e z c).rJ n=c.size:=by
 cases z with
 |zero=>omega
 |succ z=>rfl
theorem F0{e e':TypeId}{z:Nat}{c:aH}{pl:Pl}{n:Nat}(hz:0 < z)(h:(aH.bx e z c).vQ pl n e'):e'=e/\n=pl.cap*z/\pl.cap<=maxLen/\c.size<=n:=by
 cases z with
 |zero=>omega
 |succ z=>exact h
theorem HV{E:Env}{id:Id}{ver n:Nat}{p p':List xy}{y:Value}(h:VS E (.ptr id ver p n) y):VS E (.ptr id ver p' n) y:=by
 obtain⟨cs,h1,h2⟩:=h
 exact⟨cs,by simpa only[V]using h1,h2⟩
theorem Inv.Tr(h:Inv C g β s a w){j:Nat}{id:Id}{ver n k v:Nat}{p p':List xy}(hj:s.slot j= .ptr id ver p n){e:TypeId}{t:Ty}{r:List t.den}(nc:s.obj id=some (v,false,.vec e t r))
  (hk:k < r.length) {u:aH} (hu:(zE t (nth t r k)).eval=some u):
  kL C ((s.bM id (.obj v false (.bx e t.size (.pr (.d (.arr k t) (r.take k)) (.pr u (.d (.arr (r.drop (k+1)).length t) (r.drop (k+1)))))))).put (some j) (.ptr id ver p' n)) a w:=by
 have eP:=gC nc
 obtain⟨hz,hO⟩:rI (s.env w g β) id false (.vec e t r):=h.da id v false _ eP
 have hO:(match β id with
  |none=>r=[]
  |some pl=>∃cur k,w.heap[pl.b]? =some (.cells cur e (0,0))/\cur.size=pl.cap*t.size/\r.length<=pl.cap/\pl.cap<=maxLen/\g pl.b= .own (.id id) k/\
    k<=r.length*t.size/\(false=false->k=0)/\cg (eY (s.env w g β) t) (cur.toList.take (r.length*t.size)) r):=hO
 have ht:=Trans.refl w g
 have hle:dZ (s.env w g β) ((s.bM id (.obj v false (.bx e t.size (.pr (.d (.arr k t) (r.take k)) (.pr u (.d (.arr (r.drop (k+1)).length t) (r.drop (k+1)))))))).env w g β):=
  dZ.bM eP (aC _) ht (λ_ _=>rfl) (λ_=>rfl)
 have hI:=h.step (fi _ _ _) ht hle (lO.bM h.da (by rw[eP];simp) hle (λ_ _=>rfl) (λ_ _ _ _ _ _ _ _=>⟨rfl,rfl⟩) (Mp:=By eP) (by
  cases hp:β id with
  |none=>rw[hp]at hO;simp only at hO;subst hO;simp at hk
  |some pl=>
   rw[hp]at hO
   obtain⟨cur,k0,q1,q2,q3,q4,q5,q6,q7,q8⟩:=hO
   have VL:=q7 rfl
   subst VL
   have Ix:∀c x,eY (s.env w g β) t c x->c.length=t.size:=λc x hx=>hx.size
   have c1:=cg.take Ix k q8
   have c2:=(q8.get Ix k hk)
   have c3:=cg.drop Ix (k+1) q8
   have Gn:V (s.env w g β) u (((cur.toList.take (r.length*t.size)).drop (k*t.size)).take t.size):=xG t _ u (by rw[CV hk]at hu;exact hu) _ c2
   have YH:=Gn.size
   have hlen:(cur.toList.take (r.length*t.size)).length=r.length*t.size:=cg.length Ix q8
   have rM:r.length*t.size<=cur.size:=by rw[q2];exact eR _ q3
   have Zu:(k+1)*t.size<=r.length*t.size:=eR _ hk
   have Pp:(k+1)*t.size=k*t.size+t.size:=Nat.succ_mul k t.size
   have R0:u.size=t.size:=by rw[<-YH,fO,iy,hlen];omega
   have hm:(r.drop (k+1)).length*t.size=r.length*t.size - (k+1)*t.size:=by rw[iy,Nat.sub_mul]
   have Lt:(aH.pr (.d (.arr k t) (r.take k)) (.pr u (.d (.arr (r.drop (k+1)).length t) (r.drop (k+1))))).size=r.length*t.size:=by
    simp only[aH.size,Ty.size,R0,hm]
    omega
   refine zq.obj ⟨pl,cur,e,hp,q1,q5,K8 hz q2 q4 (by rw[Lt];exact rM),?_⟩
   rw[GH hz,Lt]
   refine V.mono hle ?_
   show V _ (.pr (.d (.arr k t) (r.take k)) (.pr u (.d (.arr (r.drop (k+1)).length t) (r.drop (k+1))))) _
   simp only[V]
   generalize cur.toList.take (r.length*t.size)=R at*
   refine⟨R.take (k*t.size),R.drop (k*t.size),(fQ _ _).symm,?_,(R.drop (k*t.size)).take t.size,R.drop ((k+1)*t.size),?_,Gn,?_⟩
   ·simp only[eY]
    exact⟨by rw[fO];omega,c1⟩
   ·rw[Pp,<-iX,fQ]
   ·simp only[eY]
    exact⟨trivial,c3⟩))
 refine⟨g,β,hI.UB j ?_⟩
 have:=h.dU j
 rw[hj]at this
 exact HV (VS.mono hle this)
theorem zG:∀(l:List Nat) {s s1:AS},kL C s a w->(Lo s l).eval=some s1->kL C s1 a w
 |[],s,s1,h,he=>by
  simp only[Lo]at he
  obtain rfl:=aB.1 he
  exact h
 |j::l,s,s1,h,he=>by
  obtain⟨g,β,h⟩:=h
  simp only[Lo]at he
  split at he
  ·rename_i id ver k p n hj
   split at he
   ·rename_i v e t r nc
    obtain⟨h1,he⟩:=aL.1 he
    obtain⟨h2,he⟩:=cW.1 he
    obtain⟨u,h3,he⟩:=av.1 he
    exact zG l (h.Tr hj nc (of_decide_eq_true h2) h3) he
   ·simp only[al]at he
  ·exact zG l ⟨g,β,h⟩ he
  ·simp only[al]at he
theorem zD{s:AS}{id i:Id}(h:i≠id):(s.freeze id).dx i=s.dx i:=by
 unfold AS.freeze
 split
 ·exact dV s id i _ h
 ·rfl
theorem rT:∀(ids:List Id) {s:AS} {i:Id},i ∉ ids->(s.cm ids).dx i=s.dx i
 |[],_,_,_=>rfl
 |id::ids,s,i,h=>by
  have h1:i≠id:=λe=>h (by rw[e];exact bq)
  exact(rT ids λhi=>h (bj _ hi)).trans (zD h1)
theorem Inv.UG(h:Inv C g β s a w){j:Nat}{id:Id}{ver n k m v z:Nat}{p p':List xy}(hj:s.slot j= .ptr id ver p n){e:TypeId}{t:Ty}{l1 l2:List t.den}{u:aH}
  (nc:s.obj id=some (v,false,.bx e z (.pr (.d (.arr k t) l1) (.pr u (.d (.arr m t) l2))))) (hz:z=t.size) (PA:0 < z) (eZ:id ∉ u.shared) {x:t.den} (hx:(s.kQ t u).eval=some x):
  kL C (((s.cm u.shared).bM id (.obj v false (.vec e t (l1++x::l2)))).put (some j) (.ptr id ver p' n)) a w:=by
 have eP:=gC nc
 obtain⟨pl0,cur0,e0,RV,RI,VB,VL,hV0⟩:=(h.da id v false _ eP).box rfl
 obtain⟨g',h1,h2,h3,h4⟩:=kc u.shared h
 have rU:(s.cm u.shared).dx id=some (.obj v false (.bx e z (.pr (.d (.arr k t) l1) (.pr u (.d (.arr m t) l2))))):=(rT _ eZ).trans eP
 obtain⟨pl,cur,e1,hp,hh,hg,hk,hV⟩:=(h1.da id v false _ rU).box rfl
 have hp:β id=some pl:=hp
 have wR:pl0=pl:=by
  have RV:β id=some pl0:=RV
  rw[RV]at hp
  exact cM hp
 subst wR
 have jt:cur0=cur:=by
  have RI:w.heap[pl0.b]? =_:=RI
  have hh:w.heap[pl0.b]? =_:=hh
  rw[RI]at hh
  simpa using(congrArg (λo=>match o with | some (.cells x _ _)=>x | _=>cur0) hh)
 subst jt
 obtain⟨rfl,q2,q4,q3⟩:=F0 PA hk
 rw[GH PA]at hV0
 have hV0:V (s.env w g β) (.pr (.d (.arr k t) l1) (.pr u (.d (.arr m t) l2))) _:=hV0
 have YE:=hV0.size
 simp only[V]at hV0
 obtain⟨ca,cb,hR,hA,cu,cc,RC,hU,hB⟩:=hV0
 subst RC
 simp only[eY]at hA hB
 have hX:=rG rfl h.da h2 u t x cu hU hx h4
 have Ix:∀c x,eY ((s.cm u.shared).env w g' β) t c x->c.length=t.size:=λc x hx=>hx.size
 have cA:=hA.2.mono λ_ _ hx=>hx.mono h2.mem
 have cB:=hB.2.mono λ_ _ hx=>hx.mono h2.mem
 have fI:cg (eY ((s.cm u.shared).env w g' β) t) (ca++(cu++cc)) (l1++x::l2):=cg.append cA ⟨cu,cc,rfl,hX,cB⟩
 have hlen:=cg.length Ix fI
 have Lt:(aH.pr (.d (.arr k t) l1) (.pr u (.d (.arr m t) l2))).size=(l1++x::l2).length*t.size:=by rw[<-hlen,<-hR];exact YE.symm
 rw[Lt]at hR q3
 rw[hz]at q2
 have I2:(l1++x::l2).length<=pl0.cap:=by
  rw[q2]at q3
  exact Nat.le_of_mul_le_mul_right q3 (by omega)
 have ht:=Trans.refl w g'
 have hle:dZ ((s.cm u.shared).env w g' β) (((s.cm u.shared).bM id (.obj v false (.vec e1 t (l1++x::l2)))).env w g' β):=dZ.bM rU (aC _) ht (λ_ _=>rfl) (λ_=>rfl)
 have hI:=h1.step (fi _ _ _) ht hle (lO.bM h1.da (by rw[rU];simp) hle (λ_ _=>rfl) (λ_ _ _ _ _ _ _ _=>⟨rfl,rfl⟩) (Mp:=ou rU λ_ _ _ e=>by cases e) (by
  refine⟨by omega,?_⟩
  show(match β id with
   |none=>l1++x::l2=[]
   |some pl=>_)
  rw[hp]
  exact⟨cur0,0,hh,q2,I2,q4,hg,bm _,λ_=>rfl,by rw[hR];exact fI.mono λ_ _ hx=>hx.mono hle.mem⟩))
 refine⟨g',β,hI.UB j ?_⟩
 have:=h.dU j
 rw[hj]at this
 exact HV (VS.mono (h2.trans hle) this)
theorem E6:∀(l:List Nat) {s s1:AS},kL C s a w->(OB s l).eval=some s1->kL C s1 a w
 |[],s,s1,h,he=>by
  simp only[OB]at he
  obtain rfl:=aB.1 he
  exact h
 |j::l,s,s1,h,he=>by
  obtain⟨g,β,h⟩:=h
  simp only[OB]at he
  split at he
  ·rename_i id ver p n hj
   split at he
   ·rename_i v e z k t l1 u m t' l2 nc
    obtain⟨h1,he⟩:=aL.1 he
    obtain⟨l2',h2,he⟩:=av.1 he
    obtain⟨x,h3,he⟩:=av.1 he
    simp only[ak,beq_iff_eq,dI,beq_eq_false_iff_ne]at h1
    obtain⟨⟨⟨h5,h6⟩,h7⟩,h8⟩:=h1
    obtain⟨et,hl⟩:=lq (lF.1 h2)
    have et':t'=t:=by simpa using et
    subst et'
    simp only at hl
    subst hl
    refine E6 l (h.UG hj nc h6 (by omega) (λhi=> ?_) h3) he
    have:(u.shared.any λi=>decide (i=id))=true:=List.any_eq_true.2 ⟨id,hi,by simp⟩
    rw[this]at h8
    cases h8
   ·simp only[al]at he
  ·simp only[al]at he
theorem uP:∀(l:List UL) {s s1:AS},kL C s a w->(B0 s l).eval=some s1->kL C s1 a w
 |[],s,s1,h,he=>by
  simp only[B0]at he
  obtain rfl:=aB.1 he
  exact h
 |o::l,s,s1,h,he=>by
  obtain⟨g,β,h⟩:=h
  unfold B0 at he
  split at he
  ·exact uP l ⟨g,β,h⟩ he
  obtain⟨u,hu,he⟩:=av.1 he
  obtain⟨x,hx,he⟩:=av.1 he
  obtain⟨s',hs,he⟩:=av.1 he
  exact uP l (h.Tn hu hx hs) he
theorem o8(hC:∀i j,C.E.s (.new i j)=none):∀(l:List OX) {s s1:AS},kL C s a w->(tv P s l).eval=some s1->kL C s1 a w
 |[],s,s1,h,he=>by
  simp only[tv]at he
  obtain rfl:=aB.1 he
  exact h
 |o::l,s,s1,h,he=>by
  obtain⟨g,β,h⟩:=h
  unfold tv at he
  split at he
  ·exact o8 hC l ⟨g,β,h⟩ he
  obtain⟨u,hu,he⟩:=av.1 he
  split at he
  ·split at he
   ·rename_i e t b xe hv
    obtain⟨s',h1,h2⟩:=av.1 he
    exact o8 hC l (h.Uu hu hv (DJ xe) h1) h2
   ·simp only[al]at he
  ·split at he
   ·rename_i b j ver Xa
    split at he
    ·rename_i v fr c nc hm
     split at he
     ·have SS:b < s.news.length:=by
       have:=gC nc
       simp only[AS.dx,aX]at this
       cases hn:s.news[b]? with
       |none=>rw[hn]at this;simp at this
       |some es=>exact(fE.1 hn).1
      obtain⟨g1,β1,h1⟩:=h.wx hC SS (by simpa using hm)
      exact o8 hC l ⟨g1,β1,h1⟩ he
     ·simp only[al]at he
    ·simp only[al]at he
   ·simp only[al]at he
theorem Dn:∀(l:List Nat) {s s1:AS},kL C s a w->(Ik s l).eval=some s1->kL C s1 a w
 |[],s,s1,h,he=>by
  simp only[Ik]at he
  obtain rfl:=aB.1 he
  exact h
 |j::l,s,s1,h,he=>by
  obtain⟨g,β,h⟩:=h
  simp only[Ik]at he
  split at he
  ·rename_i id ver len hj
   split at he
   ·rename_i v e t r nc
    split at he
    ·obtain⟨h1,h2⟩:=cW.1 he
     have h1:len<=r.length:=by simpa using h1
     refine Dn l ?_ h2
     have eP:=gC nc
     have hO:rI (s.env w g β) id false (.vec e t r):=h.da id v false _ eP
     have ht:=Trans.refl w g
     have hle:dZ (s.env w g β) ((s.bM id (.obj v false (.vec e t (r.take len)))).env w g β):=dZ.bM eP (aC _) ht (λ_ _=>rfl) (λ_=>rfl)
     refine⟨g,β,h.step (fi _ _ _) ht hle (lO.bM h.da (by rw[eP];simp) hle (λ_ _=>rfl) (λ_ _ _ _ _ _ _ _=>⟨rfl,rfl⟩) ?_ (By eP))⟩
     obtain⟨hz,hO⟩:=hO
     refine⟨hz,?_⟩
     have hO:(match β id with
      |none=>r=[]
      |some pl=>∃cur k,w.heap[pl.b]? =some (.cells cur e (0,0))/\cur.size=pl.cap*t.size/\r.length<=pl.cap/\pl.cap<=maxLen/\g pl.b= .own (.id id) k/\
        k<=r.length*t.size/\(false=false->k=0)/\cg (eY (s.env w g β) t) (cur.toList.take (r.length*t.size)) r):=hO
     show(match β id with
      |none=>r.take len=[]
      |some pl=>_)
     cases hp:β id with
     |none=>rw[hp]at hO;simp only at hO;subst hO;simp
     |some pl=>
      rw[hp]at hO
      obtain⟨cur,k,q1,q2,q3,q4,q5,q6,q7,q8⟩:=hO
      have hk:=q7 rfl
      subst hk
      have hlen:(r.take len).length=len:=by simp;omega
      refine⟨cur,0,q1,q2,by omega,q4,q5,bm _,λ_=>rfl,?_⟩
      have:=cg.take (λ_ _ hx=>eY.size hx) len q8
      rw[mm,jH (eR _ h1)]at this
      rw[hlen]
      exact this.mono λ_ _ hx=>hx.mono hle.mem
    ·simp only[al]at he
   ·simp only[al]at he
  ·simp only[al]at he
theorem yt:∀(l:List (Nat×Ty)) {s s1:AS},kL C s a w->(asData s l).eval=some s1->kL C s1 a w
 |[],s,s1,h,he=>by
  simp only[asData]at he
  obtain rfl:=aB.1 he
  exact h
 | (j,t)::l,s,s1,h,he=>by
  obtain⟨g,β,h⟩:=h
  simp only[asData]at he
  obtain⟨x,h1,h2⟩:=av.1 he
  obtain⟨g',i1,_,_,cs,hR,hO⟩:=sV h (h.dU j) h1
  exact yt l ⟨g',β,i1.UB j (VS.of (a:= .d t x) (cs:=cs) (by simpa only[V]using hR) hO)⟩ h2
theorem Inv.still:∀(l:List Nat) {s:AS},Inv C g β s a w->Inv C g β (s.still l) a w
 |[],s,h=>h
 |q::l,s,h=>by
  simp only[AS.still]
  split
  ·rename_i v fr i ver k t r cu nc
   exact Inv.still l (h.Qu (gC nc) (.inr ⟨rfl,rfl,rfl⟩))
  ·exact Inv.still l h
theorem Az{α:Type}(l:List α):(IK l).Perm l:=Quotient.exact (s:=N0 α) (Quotient.exists_rep (Quotient.mk (N0 α) l)).choose_spec
theorem Inv.canon:∀(l:List Id) {s:AS},Inv C g β s a w->Inv C g β (s.canon l) a w
 |[],s,h=>h
 |id::l,s,h=>by
  simp only[AS.canon]
  split
  ·rename_i v fr k t r nc
   have eP:=gC nc
   have ht:=Trans.refl w g
   have hle:dZ (s.env w g β) ((s.bM id (.obj v fr (.mp k t (IK r)))).env w g β):=dZ.bM eP (aC _) ht (λ_ _=>rfl) (λ_=>rfl)
   obtain⟨pl,es,clock,h1,h2,h3,⟨⟨l',h4,h5⟩,h6⟩,h7⟩:=h.da id v fr _ eP
   refine Inv.canon l (h.step (fi _ _ _) ht hle (lO.bM h.da (by rw[eP];simp) hle (λ_ _=>rfl) (λ_ _ _ _ _ _ _ _=>⟨rfl,rfl⟩)
    ⟨pl,es,clock,h1,h2,h3,⟨⟨l',h4.mono λ_ _ he=>he.mono hle.mem,h5.trans (Az r).symm⟩,(((Az r).map _).nodup_iff).2 h6⟩,h7⟩ ?_))
   intro ver k' v' l2 hl
   rw[eP]at hl
   simp only[aE,gU.obj.injEq]at hl
   obtain⟨rfl,rfl,_⟩:=hl
   exact⟨rfl,rfl,⟨_,_,_,rfl⟩,λ_ _=>⟨rfl,rfl⟩⟩
  ·exact Inv.canon l h
theorem nT(hC:∀i j,C.E.s (.new i j)=none){an:om}{s1:AS}(h:kL C s a w)(he:(norm P an s).eval=some s1):kL C s1 a w:=by
 unfold norm at he
 obtain⟨su,XW,he⟩:=av.1 he
 obtain⟨sd,Vp,he⟩:=av.1 he
 obtain⟨s0,h1,h2⟩:=av.1 he
 obtain⟨h3,h4⟩:=aL.1 h2
 obtain⟨sf,h5,h6⟩:=av.1 h4
 obtain⟨g0,β0,h0⟩:=h
 obtain⟨g1,i1,_⟩:=kc an.J7 h0
 obtain⟨g,β,h⟩:=yt _ (uP _ (E6 _ ⟨g1,β0,(i1.still an.Xx).canon an.Tk⟩ XW) Vp) h1
 exact o8 hC _ (zG _ ⟨g,β,h.bS hC h3⟩ h5) h6
end
end Go.Ab
namespace Go.Ab
section
variable {P:Program} {Γ:fD} {an:fT} {C:Ctx}
open Classical in
def Wz(p:Prop):Option Unit:=if p then some () else none
theorem NS{p:Prop}(h:Wz p=some ()):p:=by
 unfold Wz at h
 split at h
 ·assumption
 ·cases h
theorem Ll{X R:Type}{S:X->Prop}{k:X->Option R}{r:R}(h:Rd S k=some r):(∃x,S x)/\∀x,S x->k x=some r:=by
 unfold Rd at h
 split at h
 ·rename_i hx
  obtain rfl:=cM h
  exact hx.choose_spec
 ·cases h
def Mk(P:Program)(Γ:fD)(an:fT)(N:Nat)(b:Code):Prop:=
 ∀le,an.jw (gf b)=some le->
  (le.set=none->∀s x,le.run s=some x->∃n,AJ (norm P (an.loops (gf b))) (λe=>norm P (an.outs (gf b) (Hb e))) (ev P Γ an N b) n s (λe s'=>some (e,s'))=(le.out x).eval)/\
  ∀S,le.set=some S->∀s,(∃x,S s x)->∃n,AJ (norm P (an.loops (gf b))) (λe=>norm P (an.outs (gf b) (Hb e))) (ev P Γ an N b) n s (λe s'=>Wz (∃x,S s x/\(le.out x).eval=some (e,s')))=some ()
def Gk(P:Program)(Γ:fD)(an:fT)(N:Nat):List Code->Prop
 |[]=>True
 |b::l=>Mk P Γ an N b/\Gk P Γ an N l
theorem Gk.append{N:Nat}:∀ {l l':List Code},Gk P Γ an N (l++l')->Gk P Γ an N l/\Gk P Γ an N l'
 |[],_,h=>⟨trivial,h⟩
 |_::_,_,⟨h1,h2⟩=>⟨⟨h1,(Gk.append h2).1⟩,(Gk.append h2).2⟩
theorem uZ{R:Type}{r:R}{b:Code}{nrm:AS->Out AS}{nrmX:Exit->AS->Out AS}{body:AS->(Exit->AS->Option R)->Option R}
  (hn:∀s s1 a w,kL C s a w->(nrm s).eval=some s1->kL C s1 a w) (hx:∀e s s1 a w,kL C s a w->(nrmX e s).eval=some s1->kL C s1 a w)
  (hb:∀(s:AS) (a:Act) (w:World) (k:Exit->AS->Option R) (Q:Exit->Act->World->Prop),kL C s a w->body s k=some r->(∀e s' a' w',kL C s' a' w'->k e s'=some r->Q e a' w')->b.wp P Q a w)
  {k:Exit->AS->Option R} {Q:Exit->Act->World->Prop} (hk:∀e s' a' w',kL C s' a' w'->k e s'=some r->Q e a' w'):
  ∀(n:Nat) (s:AS) (a:Act) (w:World),kL C s a w->AJ nrm nrmX body n s k=some r->Code.rounds P b Q n a w
 | 0,s,a,w,_,h=>by simp[AJ]at h
 |n+1,s,a,w,hs,h=>by
  simp only[AJ]at h
  rw[rounds_succ]
  refine hb s a w _ _ hs h λe s' a' w' hs' T3=> ?_
  have exits:∀e,(nrmX e s').run (k e)=some r->Q e a' w':=λe T3=>by
   obtain⟨s1,h1,h2⟩:=mB.1 T3
   exact hk e s1 a' w' (hx e s' s1 a' w' hs' h1) h2
  cases e with
  |normal=>
   simp only at T3
   obtain⟨s1,h1,h2⟩:=mB.1 T3
   exact uZ hn hx hb hk n s1 a' w' (hn s' s1 a' w' hs' h1) h2
  |_=>exact exits _ T3
theorem yG(hC:∀i j,C.E.s (.new i j)=none){j:Option KT}{run: {R:Type}->(Exit->AS->Option R)->Option R}{c:Code}{a:Act}{w:World}
  (oY:∀ {R:Type} {r:R} (k:Exit->AS->Option R) (Q:Exit->Act->World->Prop),run k=some r->(∀e s' a' w',kL C s' a' w'->k e s'=some r->Q e a' w')->c.wp P Q a w)
  {R:Type} {r:R} {k:Exit->AS->Option R} {Q:Exit->Act->World->Prop} (h:zT P j run k=some r) (hk:∀e s' a' w',kL C s' a' w'->k e s'=some r->Q e a' w'):c.wp P Q a w:=by
 cases j with
 |none=>exact oY k Q h hk
 |some j=>
  simp only[zT]at h
  cases hx:run λe s=>(norm P j.an s).run (j.U7 e) with
  |none=>rw[hx]at h;cases h
  |some x=>
   rw[hx]at h
   simp only[aj]at h
   obtain⟨y,hy,h⟩:=mB.1 h
   refine oY _ Q hx λe s' a' w' hs' hK=> ?_
   obtain⟨s1,h1,h2⟩:=mB.1 hK
   have he:=j.ok _ _ _ h2
   rw[hy,aE]at he
   subst he
   exact hk e s1 a' w' (nT hC hs' h1) h
theorem oX(hm:P.follows .mixedOrders=true)(hΓ:Sound P Γ)(hC:∀i j,C.E.s (.new i j)=none){N:Nat}:∀(c:Code),Gk P Γ an N (mY c)->∀ {R:Type} {r:R} (s:AS) (a:Act) (w:World) (k:Exit->AS->Option R) (Q:Exit->Act->World->Prop),
  kL C s a w->ev P Γ an N c s k=some r->(∀e s' a' w',kL C s' a' w'->k e s'=some r->Q e a' w')->c.wp P Q a w
 | .skip,hL,_,_,s,a,w,k,Q,hs,h,hk=>wp_skip (hk _ _ _ _ hs h)
 | .region id ops draw,hL,_,_,s,a,w,k,Q,hs,h,hk=>by
  simp only[ev]at h
  refine yG hC (λk Q h hk=> ?_) h hk
  cases draw with
  |true=>
   simp only at h
   split at h
   ·rename_i hE
    exact HX hm hΓ hs hE h λs' a' w' hs' hk'=>hk _ _ _ _ hs' hk'
   ·cases h
  |false=>exact wp_region_list (AE hΓ ops.toList hs h λs' a' w' hs' hk'=>hk _ _ _ _ hs' hk')
 | .seq x y,hL,_,_,s,a,w,k,Q,hs,h,hk=>by
  simp only[ev]at h
  refine wp_seq (yG hC (λk Q h hk=>oX hm hΓ hC x hL.append.1 s a w k Q hs h hk) h λe s' a' w' hs' hk'=> ?_)
  cases e with
  |normal=>exact oX hm hΓ hC y hL.append.2 s' a' w' k Q hs' hk' hk
  |_=>exact hk _ s' a' w' hs' hk'
 | .cond c x y,hL,_,_,s,a,w,k,Q,hs,h,hk=>by
  simp only[ev]at h
  split at h
  ·rename_i b hb
   have hc:a.eval c= .bool b:=by
    obtain⟨g,β,hi⟩:=hs
    have:=hi.ev c
    rw[hb]at this
    exact Bp this
   refine wp_cond hc ?_
   cases b with
   |true=>exact oX hm hΓ hC x hL.append.1 s a w k Q hs h hk
   |false=>exact oX hm hΓ hC y hL.append.2 s a w k Q hs h hk
  ·cases h
 | .block id b,hL,_,_,s,a,w,k,Q,hs,h,hk=>by
  simp only[ev]at h
  refine wp_block (oX hm hΓ hC b hL s a w _ _ hs h λe s' a' w' hs' hk'=> ?_)
  cases e with
  |exit i=>
   simp only at hk'
   simp only[Exit.inBlock]
   by_cases hi:i=id
   ·rw[if_pos hi]
    simp only[hi,decide_true]at hk'
    exact hk _ s' a' w' hs' hk'
   ·rw[if_neg hi]
    simp only[hi,decide_false]at hk'
    exact hk _ s' a' w' hs' hk'
  |_=>exact hk _ s' a' w' hs' hk'
 | .loop b,hL,R,r,s,a,w,k,Q,hs,h,hk=>by
  simp only[ev]at h
  obtain⟨s1,h1,h⟩:=mB.1 h
  have zM:=nT hC hs h1
  obtain⟨hL1,hL2⟩:=(hL:Mk P Γ an N b/\Gk P Γ an N (mY b))
  split at h
  ·rename_i le hle
   unfold OE at h
   cases FF:le.set with
   |some S=>
    rw[FF]at h
    simp only at h
    obtain⟨h2,h3⟩:=Ll h
    obtain⟨n,hn⟩:=(hL1 le hle).2 S FF s1 h2
    refine wp_loop_rounds n (uZ (λs s1 a w hs hn=>nT hC hs hn) (λe s s1 a w hs hn=>nT hC hs hn) (λs a w k Q hs hb hk=>oX hm hΓ hC b hL2 s a w k Q hs hb hk) (λe s' a' w' hs' he=> ?_) n s1 a w zM hn)
    obtain⟨x,Wo,Wp⟩:=NS he
    obtain⟨y,hy,h4⟩:=mB.1 (h3 x Wo)
    rw[Wp,aE]at hy
    subst hy
    exact hk _ _ _ _ hs' h4
   |none=>
   rw[FF]at h
   simp only at h
   cases hr:le.run s1 with
   |none=>rw[hr]at h;cases h
   |some x=>
    rw[hr]at h
    simp only[aj]at h
    obtain⟨y,hy,h⟩:=mB.1 h
    obtain⟨n,hn⟩:=(hL1 le hle).1 FF s1 x hr
    rw[hy]at hn
    refine wp_loop_rounds n (uZ (λs s1 a w hs hn=>nT hC hs hn) (λe s s1 a w hs hn=>nT hC hs hn) (λs a w k Q hs hb hk=>oX hm hΓ hC b hL2 s a w k Q hs hb hk) (λe s' a' w' hs' he=> ?_) n s1 a w zM hn)
    simp only[aE]at he
    subst he
    exact hk e s' a' w' hs' h
  ·exact wp_loop_rounds N (uZ (λs s1 a w hs hn=>nT hC hs hn) (λe s s1 a w hs hn=>nT hC hs hn) (λs a w k Q hs hb hk=>oX hm hΓ hC b hL2 s a w k Q hs hb hk) hk N s1 a w zM h)
 | .exit id,hL,_,_,s,a,w,k,Q,hs,h,hk=>wp_exit (hk _ _ _ _ hs h)
 | .ret,hL,_,_,s,a,w,k,Q,hs,h,hk=>wp_ret (hk _ _ _ _ hs h)
 | .rangeFunc ..,_,_,_,_,_,_,_,_,_,h,_=>by simp[ev]at h
 | .scope b,hL,_,_,s,a,w,k,Q,hs,h,hk=>by
  simp only[ev]at h
  refine wp_scope_straight (oX hm hΓ hC b hL s a w _ _ hs h λe s' a' w' hs' hk'=> ?_)
  cases e with
  |goto l=>cases hk'
  |_=>exact hk _ s' a' w' hs' hk'
 | .label _,hL,_,_,s,a,w,k,Q,hs,h,hk=>wp_label (hk _ _ _ _ hs h)
 | .goto _,_,_,_,_,_,_,_,_,_,h,_=>by simp[ev]at h
 | .refuse _,_,_,_,_,_,_,_,_,_,h,_=>by simp[ev]at h
variable {g:Nat->od} {β:Id->Option Pl} {s:AS} {a:Act} {w:World}
def C1(tmps:Array Value)(r:ResultVar):Sem Value:=
 match r with
 | .tmp t=>pure (tmps.getD t undef)
 | .cell a t=>do loadVar t (<-asAddr (tmps.getD a undef))
theorem yZ(h:Inv C g β s a w){r:ResultVar}{v:aH}(he:(C3 P s r).eval=some v):∃x,(C1 a.tmps r).run P w= .ok x w/\VS (s.env w g β) v x:=by
 cases r with
 |tmp t=>
  simp only[C3]at he
  obtain rfl:=aB.1 he
  exact⟨_,by simp[C1],h.dU t⟩
 |cell t T=>
  simp only[C3]at he
  obtain⟨ad,z,hy,hr,hv⟩:=CC h (h.dU t) he
  exact⟨z,by simp[C1,hy,asAddr,hr],hv⟩
theorem yY(h:Inv C g β s a w){r:ResultVar}{o:Option Ty}{y:AS×aH}(he:(C2 P s r o).eval=some y):
  ∃x g',(C1 a.tmps r).run P w= .ok x w/\Inv C g' β y.1 a w/\dZ (s.env w g β) (y.1.env w g' β)/\VS (y.1.env w g' β) y.2 x:=by
 cases o with
 |none=>
  simp only[C2]at he
  obtain⟨v,h1,h2⟩:=av.1 he
  obtain rfl:=aB.1 h2
  obtain⟨x,hx,hv⟩:=yZ h h1
  exact⟨x,g,hx,h,dZ.refl _,hv⟩
 |some t=>
  simp only[C2]at he
  obtain⟨v,h1,h2⟩:=av.1 he
  obtain⟨d,h3,h4⟩:=av.1 h2
  obtain rfl:=aB.1 h4
  obtain⟨x,hx,hv⟩:=yZ h h1
  obtain⟨g',i1,e1,_,cs,hR,hO⟩:=sV h hv h3
  exact⟨x,g',hx,i1,e1,VS.of (a:= .d t d) (cs:=cs) (by simpa only[V]using hR) hO⟩
theorem xr:∀(l:List ResultVar) (ts:List (Option Ty)) {s:AS} {g:Nat->od} (_:Inv C g β s a w) {y:AS×aH},(y1 P s l ts).eval=some y->
  ∃(xs:List Value) (g':Nat->od),(l.mapM (C1 a.tmps)).run P w= .ok xs w/\Inv C g' β y.1 a w/\dZ (s.env w g β) (y.1.env w g' β)/\VC (y.1.env w g' β) y.2 xs/\xs.length=l.length
 |[],ts,s,g,h,y,he=>by
  simp only[y1]at he
  obtain rfl:=aB.1 he
  exact⟨[],g,by simp,h,dZ.refl _,by simp[VC],rfl⟩
 |r::l,ts,s,g,h,y,he=>by
  simp only[y1]at he
  obtain⟨u,h1,h2⟩:=av.1 he
  obtain⟨hc,h2⟩:=aL.1 h2
  obtain⟨us,h3,h4⟩:=av.1 h2
  obtain rfl:=aB.1 h4
  obtain⟨x,g1,hx,i1,e1,hv⟩:=yY h h1
  obtain⟨xs,g2,Iv,i2,e2,Cn,hl⟩:=xr l ts.tail i1 h3
  obtain⟨cs,hV,hO⟩:=(hv.mono e2).iA hc
  refine⟨x::xs,g2,?_,i2,e1.trans e2,by simp only[VC];exact⟨x,xs,cs,rfl,hV,hO,Cn⟩,by simp[hl]⟩
  simp only[List.mapM_cons,Sem.run_bind,hx,Result.andThen_ok,Iv,Sem.run_pure]
theorem MD{E:Env}{v:aH}{xs:List Value}(h:VC E v xs):VS E v (.tuple xs.toArray):=by
 cases v <;> first
  | (simp only[VC]at h;done)
  |exact⟨xs,rfl,h⟩
  | (simp only[VC]at h;subst h;rfl)
theorem D6(h:Inv C g β s a w){fn:Func}{ts:List (Option Ty)}{y:AS×aH}(he:(F2 P fn ts s).eval=some y):
  ∃x g',(results fn a.tmps).run P w= .ok x w/\Inv C g' β y.1 a w/\VS (y.1.env w g' β) y.2 x:=by
 have key:∀xs:List Value,(fn.results.toList.mapM (C1 a.tmps)).run P w= .ok xs w->(results fn a.tmps).run P w= .ok (if h:xs.length=1 then xs[0] else .tuple xs.toArray) w:=λxs Iv=>by
  have e:results fn a.tmps=(do
   let vs <-fn.results.mapM (C1 a.tmps)
   pure (if h:vs.size=1 then vs[0] else .tuple vs)):=rfl
  rw[e,Array.mapM_eq_mapM_toList]
  simp only[map_eq_pure_bind,Sem.run_bind,Iv,Result.andThen_ok,Sem.run_pure]
  congr 1
 unfold F2 at he
 split at he
 ·rename_i r hr
  obtain⟨x,g',hx,hi,_,hv⟩:=yY h he
  refine⟨x,g',?_,hi,hv⟩
  rw[key [x] (by simp[hr,hx])]
  simp
 ·rename_i rs lh
  obtain⟨xs,g',hx,hi,_,hv,hl⟩:=xr _ _ h he
  refine⟨.tuple xs.toArray,g',?_,hi,MD hv⟩
  rw[key xs hx,dif_neg]
  rw[hl]
  intro h1
  obtain⟨r,hr⟩:=List.length_eq_one_iff.1 h1
  exact lh r hr
end
end Go.Ab
namespace Go.Ab
def qK(ids:List Id):od->od
 | .own (.id (.new i j)) k=> .own (.id (match idxOf (.new i j) ids with | some m=> .new 0 m | none=> .new 1 0)) k
 |l=>l
def N1(β:Id->Option Pl)(ids:List Id):Id->Option Pl
 | .ew k=>β (.ew k)
 | .new 0 m=>(ids[m]?).bind β
 | .new (_+1) _=>none
theorem LD{ids:List Id}{g:Nat->od}{b off:Nat}(h:rq g b off):rq (λb=>qK ids (g b)) b off:=by
 unfold rq at*
 simp only
 cases hg:g b with
 |free=>simp[qK]
 |own o k=>
  rw[hg]at h
  cases o with
  |iR=>exact h
  |id i=>cases i <;> exact h
theorem Fv(s:AS)(v:aH):(s.zF v).Nodup:=(rz s _ _ _ (by simp)).filter _
theorem IZ{s:AS}{v:aH}{id:Id}(h:id∈s.zF v):∃i j,id= .new i j:=by
 unfold AS.zF at h
 have:=(jG.1 h).2
 cases id with
 |ew k=>simp[Id.Qw]at this
 |new i j=>exact⟨i,j,rfl⟩
section
variable {P:Program} {Γ:fD} {C:Ctx} {g:Nat->od} {β:Id->Option Pl} {s:AS} {a:Act} {w:World}
theorem Ln(h:Inv C g β s a w)(hC:∀i j,C.E.s (.new i j)=none){v:aH}{x:Value}(hv:VS (s.env w g β) v x):vH C.E (s.fin v) x w:=by
 unfold AS.fin
 have hn:=Fv s v
 have uV:∀id∈s.zF v,∃i j,id= .new i j:=λid eZ=>IZ eZ
 generalize s.zF v=ids at hn uV
 generalize hG:s.Qe ids v=G
 have sI:G.val=v.mg (xI ids):=by rw[<-hG];rfl
 have hold:∀k,G.st.dx (.ew k)=(s.dx (.ew k)).map (gU.fin ids):=λk=>by
  rw[<-hG]
  show(s.ez.map (gU.fin ids))[k]? =_
  rw[jY];rfl
 have Xk:∀m,G.st.dx (.new 0 m)=(ids[m]?).map λid=>((s.dx id).getD .dead).fin ids:=λm=>by
  rw[<-hG]
  show(ids.map λid=>((s.dx id).getD .dead).fin ids)[m]? =_
  rw[jY]
 have Yq:∀i m,G.st.dx (.new (i+1) m)=none:=λi m=>by simp[aZ.st,AS.dx]
 let g':Nat->od:=λb=>qK ids (g b)
 let β':=N1 β ids
 have Lv:∀e ver fr c,gU.fin ids e= .obj ver fr c->∃c0,e= .obj ver fr c0/\c=c0.mg (xI ids):=λe ver fr c he=>by
  cases e with
  |dead=>cases he
  |obj v0 fr0 c0=>
   simp only[gU.fin,gU.obj.injEq]at he
   obtain⟨rfl,rfl,rfl⟩:=he
   exact⟨c0,rfl,rfl⟩
 have hle:vk (xI ids) (s.env w g β) (G.st.env w g' β'):=by
  refine⟨⟨λb off v ⟨h1,h2⟩=>⟨h1,LD h2⟩,λb ob h1 h2=>⟨by show qK ids (g b)= .free;have h1:g b= .free:=h1;rw[h1];rfl,h2⟩⟩,λid ver r hr hb=> ?_⟩
  obtain⟨yn,Dv⟩:=hb
  have yn:s.dx id≠none:=yn
  have Dv:∀v fr c,s.dx id=some (.obj v fr c)->ver<=v:=Dv
  cases id with
  |ew k=>
   simp only[xI,aE]at hr
   subst hr
   refine⟨⟨?_,λv fr c hh=> ?_⟩,λ⟨fr,c,hh⟩=>⟨?_,rfl⟩⟩
   ·show G.st.dx (.ew k)≠none
    rw[hold];simpa using yn
   ·have hh:G.st.dx (.ew k)=some (.obj v fr c):=hh
    rw[hold,iG]at hh
    obtain⟨e,he,hh⟩:=hh
    obtain⟨c0,rfl,_⟩:=Lv _ _ _ _ hh
    exact Dv v fr c0 he
   ·have hh:G.st.dx (.ew k)=some (.obj ver fr c):=hh
    rw[hold,iG]at hh
    obtain⟨e,he,hh⟩:=hh
    obtain⟨c0,rfl,_⟩:=Lv _ _ _ _ hh
    exact⟨fr,c0,he⟩
  |new i j=>
   simp only[xI]at hr
   split at hr
   ·rename_i m hm
    simp only[aE]at hr
    subst hr
    have eZ:=pA hm
    obtain⟨e,he⟩:=Option.ne_none_iff_exists'.1 yn
    have hg:G.st.dx (.new 0 m)=some (e.fin ids):=by rw[Xk,eZ];simp[he]
    refine⟨⟨?_,λv fr c hh=> ?_⟩,λ⟨fr,c,hh⟩=>⟨?_,?_⟩⟩
    ·show G.st.dx (.new 0 m)≠none
     rw[hg];simp
    ·have hh:G.st.dx (.new 0 m)=some (.obj v fr c):=hh
     rw[hg,aE]at hh
     obtain⟨c0,rfl,_⟩:=Lv _ _ _ _ hh
     exact Dv v fr c0 he
    ·have hh:G.st.dx (.new 0 m)=some (.obj ver fr c):=hh
     rw[hg,aE]at hh
     obtain⟨c0,rfl,_⟩:=Lv _ _ _ _ hh
     exact⟨fr,c0,he⟩
    ·show(ids[m]?).bind β=β (.new i j)
     rw[eZ];rfl
   ·cases hr
 have I6:Trans C.E.w w C.E.g g':=by
  have h0:=h.trans
  refine⟨h0.os,h0.tape,h0.output,h0.size,λb hb=> ?_⟩
  have h1:=h0.K6 b hb
  show match C.E.g b with | .free=>qK ids (g b)= .free/\_ | .own .iR k=>qK ids (g b)= .own .iR k/\_ | .own (.id _) k=>(qK ids (g b)= .free\/∃i k',qK ids (g b)= .own (.id i) k'/\k<=k')/\_
  cases Ck:C.E.g b with
  |free=>simp only[Ck]at h1 ⊢;rw[h1.1];exact⟨rfl,h1.2⟩
  |own o k=>cases o with
   |iR=>simp only[Ck]at h1 ⊢;rw[h1.1];exact⟨rfl,h1.2⟩
   |id i=>
    simp only[Ck]at h1 ⊢
    refine⟨?_,h1.2⟩
    rcases h1.1 with h2 | ⟨i',k',h2,h3⟩
    ·rw[h2];exact .inl rfl
    ·rw[h2]
     right
     cases i' with
     |ew m=>exact⟨_,k',rfl,h3⟩
     |new i j=>exact⟨_,k',rfl,h3⟩
 have Pu:lO (G.st.env w g' β'):=by
  intro id ver fr c eZ
  have eZ:G.st.dx id=some (.obj ver fr c):=eZ
  cases id with
  |ew k=>
   rw[hold,iG]at eZ
   obtain⟨e,he,eZ⟩:=eZ
   obtain⟨c0,rfl,rfl⟩:=Lv _ _ _ _ eZ
   refine ub hle (h.da (.ew k) ver fr c0 he) rfl λpl _=>⟨rfl,λn hg=> ?_,λhg=> ?_⟩
   ·have hg:g pl.b= .own (.id (.ew k)) n:=hg
    show qK ids (g pl.b)=_
    rw[hg];rfl
   ·have hg:g pl.b= .free:=hg
    show qK ids (g pl.b)=_
    rw[hg];rfl
  |new i m=>
   cases i with
   |succ i=>rw[Yq]at eZ;cases eZ
   |zero=>
    rw[Xk,iG]at eZ
    obtain⟨id0,RJ,eZ⟩:=eZ
    obtain⟨c0,he,rfl⟩:=Lv _ _ _ _ eZ
    have eP:s.dx id0=some (.obj ver fr c0):=by
     cases hs:s.dx id0 with
     |none=>rw[hs]at he;cases he
     |some e=>rw[hs]at he;simp only[gj]at he;rw[he]
    obtain⟨i0,j0,rfl⟩:=uV id0 (eQ RJ)
    refine ub hle (h.da (.new i0 j0) ver fr c0 eP) (by show(ids[m]?).bind β=_;rw[RJ];rfl) λpl _=>⟨rfl,λn hg=> ?_,λhg=> ?_⟩
    ·have hg:g pl.b= .own (.id (.new i0 j0)) n:=hg
     show qK ids (g pl.b)=_
     rw[hg]
     simp only[qK,tj hn RJ]
    ·have hg:g pl.b= .free:=hg
     show qK ids (g pl.b)=_
     rw[hg];rfl
 have ho:∀id ver,C.E.w9 id ver->∃k,id= .ew k:=λid ver hb=>by
  cases id with
  |ew k=>exact⟨k,rfl⟩
  |new i j=>exact absurd (hC i j) hb.1
 refine⟨g',β',by rw[sI];exact BN hle hv,Pu,I6,Trans.mem (E:=C.E) (E':=G.st.env w g' β') I6,λid ver hb=> ?_,λid ver hb hc=> ?_⟩
 ·obtain⟨k,rfl⟩:=ho id ver hb
  exact(hle.ref (.ew k) ver (.ew k,ver) rfl (h.le.w9 _ _ hb)).1
 ·obtain⟨k,rfl⟩:=ho id ver hb
  obtain⟨h1,h2⟩:=(hle.ref (.ew k) ver (.ew k,ver) rfl (h.le.w9 _ _ hb)).2 hc
  obtain⟨h3,h4⟩:=h.le.cur _ _ hb h1
  exact⟨h3,h2.trans h4⟩
theorem yl.len{E:Env}:∀ {as:List aH} {vs:List Value},yl E as vs->as.length=vs.length
 |[],[],_=>rfl
 |_::_,_::_,⟨_,h⟩=>by simp[yl.len h]
 |[],_::_,h=>h.elim
 |_::_,[],h=>h.elim
theorem yl.get{E:Env}:∀ {as:List aH} {vs:List Value},yl E as vs->∀i,VS E (as.getD i .undef) (vs.getD i undef)
 |[],[],_,i=>by simpa using VS.undef
 |_::_,_::_,⟨h,_⟩,0=>by simpa using h
 |_::_,_::_,⟨_,h⟩,i+1=>by simpa using yl.get h i
 |[],_::_,h,_=>h.elim
 |_::_,[],h,_=>h.elim
theorem Me{w:World}{g:Nat->od}{β:Id->Option Pl}{fn:Func}{args:List aH}{ez:List gU}{mZ:List Value}(hv:yl ((oL ez).env w g β) args mZ)(ho:lO ((oL ez).env w g β)):
  Inv ⟨(oL ez).env w g β⟩ g β (start fn args ez) {tmps:=mZ.toArray++Array.replicate (fn.ntmps - mZ.toArray.size) undef,defers:=[]} w:=by
 have hl:=hv.len
 have eP:(start fn args ez).dx=(oL ez).dx:=by
  funext id
  cases id with
  |ew k=>rfl
  |new i j=>
   simp only[start,oL,AS.dx,aX,List.getElem?_replicate]
   split <;> simp
 have RG:(start fn args ez).env w g β=(oL ez).env w g β:=by simp only[AS.env,eP]
 refine⟨rfl,by simp[start,hl],λi=> ?_,by rw[RG];exact ho,Trans.refl _ _,by rw[RG];exact dZ.refl _⟩
 rw[RG]
 have h1:(start fn args ez).slot i=args.getD i .undef:=by
  simp only[start,AS.slot,aX,List.getElem?_append,List.getElem?_replicate]
  split
  ·rfl
  ·rw[ij (l:=args) (by omega)]
   split <;> rfl
 have h2:(mZ.toArray++Array.replicate (fn.ntmps - mZ.toArray.size) undef).getD i undef=mZ.getD i undef:=by
  simp only[fF,aX,Array.getElem?_append,Array.getElem?_replicate]
  simp only[jZ,List.getElem?_toArray]
  split
  ·rfl
  ·rw[ij (l:=mZ) (by omega)]
   split <;> rfl
 rw[h1,h2]
 exact hv.get i
theorem qv.Ac(hm:P.follows .mixedOrders=true)(hΓ:Sound P Γ){f:FuncId}{fn:Func}(hf:P.funcs[f]? =some fn)(hb:fn.body.isSome=true)(v5:(fn.name== "runtime.NumGoroutine")=false){en:Entry}{an:fT}{N:Nat}(hL:∀c,fn.body=some c->Gk P Γ an N (mY c))
  (h:∀args ez x,en.run args ez=some x->OZ P Γ an N fn args ez some=some (en.out args ez x)):qv P f en:=by
 intro w g β args ez mZ x hv ho hx
 left
 obtain⟨c,hc⟩:=dj.1 hb
 refine⟨?_,?_⟩
 ·unfold callFunc
  have hname':¬fn.name= "runtime.NumGoroutine" :=by simpa using v5
  simp[hf,hname',hc]
 ·have hN:=h args ez x hx
  unfold OZ at hN
  rw[hc]at hN
  simp only at hN
  have hC:∀i j,((oL ez).env w g β).s (.new i j)=none:=λi j=>by simp[AS.env,oL,AS.dx]
  refine calls_of_wp hf hc (oX (C:=⟨(oL ez).env w g β⟩) hm hΓ hC c (hL c hc) _ _ w _ _ ⟨g,β,Me hv ho⟩ hN λe s' a' w' hs' hk'=> ?_)
  have fin:(finish P an fn s').run (λv=>some v)=some (en.out args ez x)->a'.defers=[]/\∃v,(results fn a'.tmps).run P w'= .ok v w'/\∃u,Ending.returned v= .returned u/\vH ((oL ez).env w g β) (en.out args ez x) u w':=λhr=>by
   obtain⟨G,h1,h2⟩:=mB.1 hr
   simp only[aE]at h2
   subst h2
   unfold finish at h1
   obtain⟨sd,Vp,h1⟩:=av.1 h1
   obtain⟨s2,h3,h4⟩:=av.1 h1
   obtain⟨s3,XX,h4⟩:=av.1 h4
   obtain⟨y,h5,h6⟩:=av.1 h4
   obtain⟨g0,β0,Pm⟩:=uP _ hs' Vp
   obtain⟨g',β',hi⟩:=Dn _ (o8 hC _ ⟨g0,β0,Pm.drop _⟩ h3) XX
   obtain⟨z,g2,h7,h8,h9⟩:=D6 hi h5
   refine⟨hi.defers,z,h7,z,rfl,?_⟩
   rw[<-aB.1 h6]
   exact Ln h8 hC h9
  cases e with
  |normal=>exact fin hk'
  |ret=>exact fin hk'
  |_=>cases hk'
end
end Go.Ab
namespace Go.Ab
def eH(k:IntKind)(n:Int):Int:=k.wrap n
def bO(k:IntKind)(x y:Int):Int:=k.wrap (x+y)
def cY(k:IntKind)(x y:Int):Int:=k.wrap (x - y)
def gJ(k:IntKind)(x y:Int):Int:=k.wrap (x*y)
def qw(k:IntKind)(x y:Int):Int:=k.wrap (x.tdiv y)
def fU(x y:Int):Int:=x.tmod y
def oJ(k:IntKind)(x y:Int):Int:=k.wrap (x*2^(min y.toNat k.bits))
def cZ(k:IntKind)(x y:Int):Int:=x.fdiv (2^(min y.toNat k.bits))
def R2(k:IntKind)(x:Int):Int:=k.wrap (0 - x)
def PD(k:IntKind)(x:Int):Int:=dC .xor k (if k.signed then -1 else k.max) x
def nX(x y:Int):Bool:=x==y
def rN(x y:Int):Bool:=x !=y
def jK(x y:Int):Bool:=decide (x < y)
def FH(x y:Int):Bool:=decide (x<=y)
def so(x y:Int):Bool:=decide (x > y)
def qz(x y:Int):Bool:=decide (x>=y)
def seq(x y:ByteArray):Bool:=x.toList==y.toList
def H4(a:ByteArray)(i:Int):Int:=((a.data.toList.getD i.toNat 0).toNat:Int)
def imax(x y:Int):Int:=if x < y then y else x
def fp(i n:Int):Bool:=decide (0<=i/\i < n)
def inc(i n:Int):Bool:=decide (0<=i/\i<=n)
def nA(y:Int):Bool:=decide (0<=y)
def lN(y:Int):Bool:= !(decide (y=0))
open Classical in
def cV.of{D X:Type}(st:D->AS)(aw:D->Prop)(F:D->X)(out:X->Out (Exit×AS)):cV:=
 {X,run:=λs=>if h:∃d,st d=s/\aw d then some (F h.choose) else none,out}
open Classical in
theorem cV.Ac{D X:Type}{st:D->AS}{aw:D->Prop}{F:D->X}{out:X->Out (Exit×AS)}(FD:∀d d',st d=st d'->d=d'){d:D}(h:aw d):(cV.of st aw F out).run (st d)=some (F d):=by
 have hex:∃d',st d'=st d/\aw d':=⟨d,rfl,h⟩
 show(if h:∃d',st d'=st d/\aw d' then some (F h.choose) else none)=_
 rw[dif_pos hex,FD _ _ hex.choose_spec.1]
open Classical in
def KT.of{X:Type}(an:om)(st:X->AS):KT:=
 {an,X,U7:=λe s=>if h:e= .normal/\∃x,st x=s then some h.2.choose else none,out:=λx=> .ok (.normal,st x),
  ok:=λe s x h=>by
   by_cases h1:e= .normal/\∃x,st x=s
   ·rw[dif_pos h1]at h
    have h2:=h1.2.choose_spec
    rw[cM h]at h2
    rw[h1.1,<-h2]
    rfl
   ·rw[dif_neg h1]at h;cases h}
open Classical in
open Classical in
theorem Mk.of{P:Program}{Γ:fD}{an:fT}{N:Nat}{fn:Func}{i:Nat}{D X:Type}{st:D->AS}{aw:D->Prop}{F:D->X}{out:X->Out (Exit×AS)}
  (hle:an.jw (gf (pz fn i))=some (cV.of st aw F out)) (h:∀d,aw d->∃n,Hl P Γ an N fn i n (st d) (λe s=>some (e,s))=(out (F d)).eval):Mk P Γ an N (pz fn i):=by
 intro le hle'
 rw[hle]at hle'
 simp only[aE]at hle'
 subst hle'
 refine⟨λ_ s x hx=> ?_,λS hS=>by cases hS⟩
 change (if h:∃d',st d'=s/\aw d' then some (F h.choose) else none)=some x at hx
 split at hx
 ·rename_i hex
  obtain rfl:=cM hx
  obtain⟨h1,h2⟩:=hex.choose_spec
  obtain⟨n,hn⟩:=h _ h2
  refine⟨n,?_⟩
  show Hl P Γ an N fn i n s _=_
  rw[h1]at hn
  exact hn
 ·cases hx
theorem EF(P:Program)(Γ:fD)(an:fT)(N:Nat)(fn:Func)(i:Nat){R:Type}(n:Nat)(s:AS)(k:Exit->AS->Option R):
  Hl P Γ an N fn i (n+1) s k=zZ P Γ an N fn i s (λs1=>Hl P Γ an N fn i n s1 k) k:=rfl
theorem Kr{P:Program}{Γ:fD}{an:fT}{N:Nat}{fn:Func}{i:Nat}{D X:Type}{st:D->AS}{aw:D->Prop}{F:D->X}{out:X->Out (Exit×AS)}(μ:D->Nat)
  (h:∀d,aw d->(∃d',aw d'/\μ d' < μ d/\F d'=F d/\∀ {R:Type} (kn:AS->Option R) (kx:Exit->AS->Option R),zZ P Γ an N fn i (st d) kn kx=kn (st d'))\/
   (∃r,(out (F d)).eval=some r/\∀ {R:Type} (kn:AS->Option R) (kx:Exit->AS->Option R),zZ P Γ an N fn i (st d) kn kx=kx r.1 r.2)):
  ∀d,aw d->∃n,Hl P Γ an N fn i n (st d) (λe s=>some (e,s))=(out (F d)).eval:=by
 have key:∀m d,μ d=m->aw d->∃n,Hl P Γ an N fn i n (st d) (λe s=>some (e,s))=(out (F d)).eval:=by
  intro m
  induction m using Nat.strongRecOn with
  |_ m ih=>
   intro d hm hp
   rcases h d hp with⟨d',hp',mw,hF,hr⟩ | ⟨r,hr,hx⟩
   ·obtain⟨n,hn⟩:=ih (μ d') (by omega) d' rfl hp'
    exact⟨n+1,by rw[EF,hr,hn,hF]⟩
   ·exact⟨1,by rw[EF,hx,hr]⟩
 exact λd hp=>key _ d rfl hp
open Classical in
theorem NC{P:Program}{Γ:fD}{an:fT}{N:Nat}{fn:Func}{i:Nat}{D X:Type}{st:D->AS}{aw:D->Prop}{F:D->X}{ex:X->Exit×AS}(μ:D->Nat)
  (h:∀d,aw d->(∃d',aw d'/\μ d' < μ d/\F d'=F d/\∀ {R:Type} (kn:AS->Option R) (kx:Exit->AS->Option R),zZ P Γ an N fn i (st d) kn kx=kn (st d'))\/
   (∀ {R:Type} (kn:AS->Option R) (kx:Exit->AS->Option R),zZ P Γ an N fn i (st d) kn kx=kx (ex (F d)).1 (ex (F d)).2)):
  ∀d,aw d->∃n,Hl P Γ an N fn i n (st d) (λe s=>some (e,s))=(Out.ok (ex (F d))).eval:=
 Kr (out:=λx=> .ok (ex x)) μ λd hp=>(h d hp).imp id λh=>⟨_,rfl,h⟩
open Classical in
def Entry.of{D X:Type}(params:List (Option Ty))(st:D->List aH×List gU)(aw:D->Prop)(F:D->X)(out:X->aZ):Entry:=
 {params,X,run:=λargs ez=>if h:∃d,st d=(args,ez)/\aw d then some (F h.choose) else none,out:=λ_ _=>out}
open Classical in
theorem Entry.Ac{D X:Type}{params:List (Option Ty)}{st:D->List aH×List gU}{aw:D->Prop}{F:D->X}{out:X->aZ}(FD:∀d d',st d=st d'->d=d'){d:D}(h:aw d):
  (Entry.of params st aw F out).run (st d).1 (st d).2=some (F d):=by
 have hex:∃d',st d'=((st d).1,(st d).2)/\aw d':=⟨d,rfl,h⟩
 show(if h:∃d',st d'=((st d).1,(st d).2)/\aw d' then some (F h.choose) else none)=_
 rw[dif_pos hex,FD _ _ hex.choose_spec.1]
open Classical in
theorem qv.of{P:Program}{Γ:fD}(hm:P.follows .mixedOrders=true)(hΓ:Sound P Γ){f:FuncId}{fn:Func}(hf:P.funcs[f]? =some fn)(hb:fn.body.isSome=true)(v5:(fn.name== "runtime.NumGoroutine")=false){an:fT}{N:Nat}
  (hL:∀c,fn.body=some c->Gk P Γ an N (mY c)) {D X:Type} {params:List (Option Ty)} {st:D->List aH×List gU} {aw:D->Prop} {F:D->X} {out:X->aZ}
  (h:∀d,aw d->OZ P Γ an N fn (st d).1 (st d).2 some=some (out (F d))):qv P f (Entry.of params st aw F out):=by
 refine qv.Ac hm hΓ hf hb v5 hL λargs ez x hx=> ?_
 change (if h:∃d',st d'=(args,ez)/\aw d' then some (F h.choose) else none)=some x at hx
 split at hx
 ·rename_i hex
  obtain rfl:=cM hx
  obtain⟨h1,h2⟩:=hex.choose_spec
  have:=h _ h2
  rw[h1]at this
  exact this
 ·cases hx
def SK(P:Program)(Γ:fD)(an:fT)(N:Nat)(fn:Func):Nat->Nat->Prop
 | 0,_=>True
 |n+1,i=>Mk P Γ an N (pz fn i)/\SK P Γ an N fn n (i+1)
theorem SK.get{P:Program}{Γ:fD}{an:fT}{N:Nat}{fn:Func}:∀ {n i:Nat},SK P Γ an N fn n i->∀j,j < n->Mk P Γ an N (pz fn (i+j))
 | 0,_,_,j,hj=>by omega
 |n+1,i,h,0,_=>h.1
 |n+1,i,h,j+1,hj=>by
  have:=SK.get h.2 j (by omega)
  rwa[show i+1+j=i+(j+1) by omega]at this
theorem Gk.NQ{P:Program}{Γ:fD}{an:fT}{N:Nat}:∀(l:List Code),(∀j,j < l.length->Mk P Γ an N (l.getD j .skip))->Gk P Γ an N l
 |[],_=>trivial
 |b::l,h=>⟨h 0 (by simp),Gk.NQ l λj hj=>by have:=h (j+1) (by simpa using hj);simpa using this⟩
theorem Gk.fn{P:Program}{Γ:fD}{an:fT}{N:Nat}{fn:Func}(n:Nat)(hn:(match fn.body with | some c=>(mY c).length | none=>0)=n)(h:SK P Γ an N fn n 0):∀c,fn.body=some c->Gk P Γ an N (mY c):=by
 intro c hc
 refine Gk.NQ _ λj hj=> ?_
 rw[hc]at hn
 simp only at hn
 have:=h.get j (by omega)
 unfold pz at this
 rw[hc]at this
 simpa using this
theorem Mk.none{P:Program}{Γ:fD}{an:fT}{N:Nat}{fn:Func}{i:Nat}(h:an.jw (gf (pz fn i))=none):Mk P Γ an N (pz fn i):=λle hle=>by
 rw[h]at hle;cases hle
def Tu:fD:=λ_ _=>none
theorem Sound.nil(P:Program):Sound P Tu:=λ_ _ _ h=>by cases h
def M9(f:FuncId)(p:List aH->Bool)(en:Entry)(Γ:fD):fD:=λg vs=>match Nat.beq g f with | true=>(match p vs with | true=>some en | false=>Γ g vs) | false=>Γ g vs
theorem Sound.cons{P:Program}{f:FuncId}{p:List aH->Bool}{en:Entry}{Γ:fD}(h:qv P f en)(hΓ:Sound P Γ):Sound P (M9 f p en Γ):=λg vs e hg=>by
 unfold M9 at hg
 split at hg
 ·rename_i he
  have:g=f:=Nat.eq_of_beq_eq_true he
  split at hg
  ·simp only[aE]at hg
   subst hg this
   exact h
  ·exact hΓ g vs e hg
 ·exact hΓ g vs e hg
theorem Qd{t:Ty}{x y:t.den}(h:aH.d t x=aH.d t y):x=y:=by
 injection h with _ h
def aP:List aH->Bool:=λ_=>true
def LP:List aH->Bool | .eV::_=>true | _=>false
def Md:List aH->Bool | .dh .. ::_=>true | _=>false
@[simp] theorem ah{α:Type}(x y:Option α):aJ true x y=x:=rfl
@[simp] theorem ai{α:Type}(x y:Option α):aJ false x y=y:=rfl
@[simp] theorem ab{α β:Type}(x:α)(f:α->Option β):aj (some x) f=f x:=rfl
@[simp] theorem wX{α:Type}(x:Option α):nd x x=x:=by simp[nd]
structure SG(P:Program) where
 f:FuncId
 p:List aH->Bool
 e:Entry
 h:qv P f e
def gz{P:Program}:List (SG P)->fD
 |[]=>Tu
 |a::l=>M9 a.f a.p a.e (gz l)
theorem Sound.gz{P:Program}:∀l:List (SG P),Sound P (gz l)
 |[]=>Sound.nil P
 |a::l=>Sound.cons a.h (Sound.gz l)
abbrev SA:=List aH×List gU
def dq(P:Program)(G:fD)(an:fT)(N:Nat)(fn:Func){D:Type}(st:D->SA){R:Type}(d:D)(k:aZ->Option R):Option R:=OZ P G an N fn (st d).1 (st d).2 k
def dn(P:Program)(G:fD)(an:fT)(N:Nat)(fn:Func)(i:Nat){D:Type}(st:D->AS){R:Type}(d:D)(kn:AS->Option R)(kx:Exit->AS->Option R):Option R:=zZ P G an N fn i (st d) kn kx
abbrev dr{D X Y:Type}(A: {R:Type}->D->(aZ->Option R)->Option R)(aw:D->Prop)(add:D->Y->X)(F:D->Y)(out:X->aZ):Prop:=
 ∀d,aw d->A d some=some (out (add d (F d)))
abbrev gw(P:Program)(G:fD)(an:fT)(N:Nat)(fn:Func)(i:Nat){D X Y:Type}(st:D->AS)(aw:D->Prop)(add:D->Y->X)(F:D->Y)(out:X->Out (Exit×AS)):Prop:=
 ∀d,aw d->∃n,Hl P G an N fn i n (st d) (λe s=>some (e,s))=(out (add d (F d))).eval
abbrev jk{D X Y:Type}(R: {R:Type}->D->(AS->Option R)->(Exit->AS->Option R)->Option R)(st:D->AS)(aw:D->Prop)(add:D->Y->X)(F:D->Y)(ex:X->Exit×AS)(C:Prop):Prop:=
 ∀μ:D->Nat,(∀d,aw d->(∃d',aw d'/\μ d' < μ d/\add d' (F d')=add d (F d)/\∀ {T:Type} (kn:AS->Option T) (kx:Exit->AS->Option T),R d kn kx=kn (st d'))\/
  (∀ {T:Type} (kn:AS->Option T) (kx:Exit->AS->Option T),R d kn kx=kx (ex (add d (F d))).1 (ex (add d (F d))).2))->C
abbrev sB{D X Y:Type}(R: {R:Type}->D->(AS->Option R)->(Exit->AS->Option R)->Option R)(st:D->AS)(aw:D->Prop)(add:D->Y->X)(F:D->Y)(out:X->Out (Exit×AS))(C:Prop):Prop:=
 ∀μ:D->Nat,(∀d,aw d->(∃d',aw d'/\μ d' < μ d/\add d' (F d')=add d (F d)/\∀ {T:Type} (kn:AS->Option T) (kx:Exit->AS->Option T),R d kn kx=kn (st d'))\/
  (∃r,(out (add d (F d))).eval=some r/\∀ {T:Type} (kn:AS->Option T) (kx:Exit->AS->Option T),R d kn kx=kx r.1 r.2))->C
theorem jm{P:Program}{G:fD}{an:fT}{N:Nat}{fn:Func}{i:Nat}{D X Y:Type}{st:D->AS}{aw:D->Prop}{add:D->Y->X}{F:D->Y}{ex:X->Exit×AS}:
  jk (dn P G an N fn i st) st aw add F ex (gw P G an N fn i st aw add F λx=> .ok (ex x)):=λ μ h=>NC (F:=λd=>add d (F d)) μ h
theorem s8{P:Program}{G:fD}{an:fT}{N:Nat}{fn:Func}{i:Nat}{D X Y:Type}{st:D->AS}{aw:D->Prop}{add:D->Y->X}{F:D->Y}{out:X->Out (Exit×AS)}:
  sB (dn P G an N fn i st) st aw add F out (gw P G an N fn i st aw add F out):=λ μ h=>Kr (F:=λd=>add d (F d)) (out:=out) μ h
def oF:List (Nat×om)->Nat->om
 |[],_=> {}
 |a::l,r=>bif Nat.beq r a.1 then a.2 else oF l r
def oE:List (Nat×om×om)->Nat->Bool->om
 |[],_,_=> {}
 |a::l,r,b=>bif Nat.beq r a.1 then(bif b then a.2.2 else a.2.1) else oE l r b
def pL{α:Type 1}:List (Nat×α)->Nat->Option α
 |[],_=>none
 |a::l,r=>bif Nat.beq r a.1 then some a.2 else pL l r
inductive Lf where
 |d (t:Ty)
 |n
@[reducible] def Lf.den:Lf->Type
 | .d t=>t.den
 | .n=>Nat
@[reducible] def Lf.SD:List Lf->Type
 |[]=>Unit
 |[a]=>a.den
 |a::b::l=>a.den×Lf.SD (b::l)
abbrev Tc:=List (Sigma Lf.den)
def Lf.mk:(ts:List Lf)->Lf.SD ts->Tc
 |[],_=> []
 |[a],x=> [⟨a,x⟩]
 |a::b::l,x=>⟨a,x.1⟩::Lf.mk (b::l) x.2
theorem Lf.mk_inj:∀(ts:List Lf) (x y:Lf.SD ts),Lf.mk ts x=Lf.mk ts y->x=y
 |[],_,_,_=>rfl
 |[a],x,y,h=>by
  injection h with h _
  injection h
 |a::b::l,(x,u),(y,v),h=>by
  injection h with h h2
  injection h with _ h
  have h:x=y:=h
  rw[h,Lf.mk_inj (b::l) u v h2]
def aH.leaves:aH->Tc
 | .d .unit _=> []
 | .d (.arr _ t) l=> [⟨.d (.slice t),l⟩]
 | .d t x=> [⟨.d t,x⟩]
 | .gE t x=> [⟨.d t,x⟩]
 | .vec _ t l=> [⟨.d (.slice t),l⟩]
 | .mp k v l=> [⟨.d (.slice (.pair k v)),l⟩]
 | .qd _ _ k v l _=> [⟨.d (.slice (.pair k v)),l⟩]
 | .dh _ _ _ _ _ n=> [⟨.n,n⟩]
 | .pr a b=>a.leaves++b.leaves
 | .cons a b=>a.leaves++b.leaves
 | .fn _ c=>c.leaves
 | .bx _ _ c=>c.leaves
 |_=> []
def gU.leaves:gU->Tc
 | .obj _ _ c=>c.leaves
 | .dead=> []
def SA.leaves(s:SA):Tc:=s.1.flatMap aH.leaves++s.2.flatMap gU.leaves
def AS.leaves(s:AS):Tc:=s.dU.flatMap aH.leaves++(s.ez.flatMap gU.leaves++s.news.flatMap (·.flatMap gU.leaves))
theorem du(ts:List Lf){st:Lf.SD ts->SA}(h:∀d,SA.leaves (st d)=Lf.mk ts d)(d d':Lf.SD ts)(e:st d=st d'):d=d':=Lf.mk_inj ts d d' (by rw[<-h,<-h,e])
theorem gS(ts:List Lf){st:Lf.SD ts->AS}(h:∀d,AS.leaves (st d)=Lf.mk ts d)(d d':Lf.SD ts)(e:st d=st d'):d=d':=Lf.mk_inj ts d d' (by rw[<-h,<-h,e])
def Entry.dp{D X Y:Type}(params:List (Option Ty))(st:D->SA)(aw:D->Prop)(add:D->Y->X)(F:D->Y)(out:X->aZ):Entry:=Entry.of params st aw (λd=>add d (F d)) out
def XE{X Y:Type}(x:X⊕Y):Out (X⊕Y):= .br x.isLeft (.get x.getLeft? λa=> .ok (.inl a)) (.get x.getRight? λb=> .ok (.inr b))
theorem Sx{X Y:Type}(x y:X⊕Y)(h:(XE x).eval=some y):y=x:=by
 cases x <;> exact(cM h).symm
def Entry.PI{D X X' Y:Type}(params:List (Option Ty))(st:D->SA)(aw:D->Prop)(add:D->Y->X⊕X')(F:D->Y)(out:X⊕X'->aZ):Entry:=
 {Entry.dp params st aw add F out with sp:=XE,Oq:=Sx}
theorem qv.XF{P:Program}{f:FuncId}{D X X' Y:Type}{params:List (Option Ty)}{st:D->SA}{aw:D->Prop}{add:D->Y->X⊕X'}{F:D->Y}{out:X⊕X'->aZ}(h:qv P f (Entry.dp params st aw add F out)):qv P f (Entry.PI params st aw add F out):=h
def cV.dp{D X Y:Type}(st:D->AS)(aw:D->Prop)(add:D->Y->X)(F:D->Y)(out:X->Out (Exit×AS)):cV:=cV.of st aw (λd=>add d (F d)) out
def cj{D:Type}(E:Entry)(st:D->SA):D->Option E.X:=λd=>E.run (st d).1 (st d).2
def eI{D:Type}(E:cV)(st:D->AS):D->Option E.X:=λd=>E.run (st d)
abbrev cl{D X Y:Type}(call:D->Option X)(aw:D->Prop)(add:D->Y->X)(F:D->Y):Prop:=∀ {d:D},aw d->call d=some (add d (F d))
theorem dw{D X Y:Type}{params:List (Option Ty)}{st:D->SA}{aw:D->Prop}{add:D->Y->X}{F:D->Y}{out:X->aZ}(FD:∀d d',st d=st d'->d=d'):
  cl (cj (Entry.dp params st aw add F out) st) aw add F:=λh=>Entry.Ac FD h
theorem QT{D X X' Y:Type}{params:List (Option Ty)}{st:D->SA}{aw:D->Prop}{add:D->Y->X⊕X'}{F:D->Y}{out:X⊕X'->aZ}(FD:∀d d',st d=st d'->d=d'){d:D}(h:aw d):
  (Entry.PI params st aw add F out).run (st d).1 (st d).2=some (add d (F d)):=dw (params:=params) (out:=out) FD h
theorem gT{D X Y:Type}{st:D->AS}{aw:D->Prop}{add:D->Y->X}{F:D->Y}{out:X->Out (Exit×AS)}(FD:∀d d',st d=st d'->d=d'):
  cl (eI (cV.dp st aw add F out) st) aw add F:=λh=>cV.Ac FD h
def Tp(P:Program)(fn:Func):Bool:=P.follows .mixedOrders && fn.body.isSome && !(fn.name== "runtime.NumGoroutine")
def Vo(fn:Func):Nat:=match fn.body with | some c=>(mY c).length | none=>0
theorem qv.fn{P:Program}{l:List (SG P)}{f:FuncId}{fn:Func}{an:fT}{N:Nat}{D X Y:Type}{params:List (Option Ty)}{st:D->SA}{aw:D->Prop}{add:D->Y->X}{F:D->Y}{out:X->aZ}(n:Nat)
  (hc:(P.funcs[f]?,Tp P fn,Vo fn)=(some fn,true,n))
  (h:dr (@dq P (gz l) an N fn D st) aw add F out)
  (hL:SK P (gz l) an N fn n 0):qv P f (Entry.dp params st aw add F out):=by
 injection hc with h1 h2
 injection h2 with h2 h3
 unfold Tp at h2
 simp only[ak,dI]at h2
 exact qv.of h2.1.1 (Sound.gz l) h1 h2.1.2 h2.2 (Gk.fn n h3 hL) h
theorem Mk.dp{P:Program}{Γ:fD}{an:fT}{N:Nat}{fn:Func}{i:Nat}{D X Y:Type}{st:D->AS}{aw:D->Prop}{add:D->Y->X}{F:D->Y}{out:X->Out (Exit×AS)}
  (h:gw P Γ an N fn i st aw add F out) (hle:an.jw (gf (pz fn i))=some (cV.dp st aw add F out)):Mk P Γ an N (pz fn i):=Mk.of hle h
abbrev tu:Ty:=(.int .u64)
abbrev ti:Ty:=(.int .i64)
abbrev tb:Ty:=(.int .u8)
abbrev tB:Ty:=(.slice tb)
abbrev Bs:=(List Int)
abbrev tH:Ty:=(.arr 32 tb)
abbrev tU:Ty:=(.slice tu)
abbrev gV:Ty:=(.pair tH (.pair ti .unit))
abbrev ir:=(Bs×(Int×Unit))
abbrev Ap:Ty:=(.pair tu (.pair tu .unit))
abbrev Sg:=(Int×(Int×Unit))
abbrev OR:Ty:=(.pair ti (.pair (.slice Ap) (.pair tu .unit)))
abbrev DB:=(Int×((List Sg)×(Int×Unit)))
abbrev kj:Ty:=(.pair gV (.pair OR .unit))
abbrev kX:=(ir×(DB×Unit))
abbrev pT:Ty:=(.pair tU (.pair ti (.pair ti (.pair tu .unit))))
abbrev qy:=(Bs×(Int×(Int×(Int×Unit))))
abbrev s7:Ty:=(.pair (.slice pT) .unit)
abbrev Lk:=((List qy)×Unit)
abbrev lg:Ty:=(.pair ti (.pair s7 .unit))
abbrev kF:=(Int×(Lk×Unit))
abbrev jP:Ty:=(.pair (.slice kj) (.pair (.slice lg) (.pair ti .unit)))
abbrev iM:=((List kX)×((List kF)×(Int×Unit)))
end Go.Ab
namespace Go.Ab
theorem rb{n:Int}(h1: -9223372036854775808<=n)(h2:n<=9223372036854775807):IntKind.i64.wrap n=n:=by
 simp[IntKind.wrap,IntKind.bits,IntKind.signed]
 split <;> omega
theorem ff{x y:Int}(h1: -9223372036854775808<=x+y)(h2:x+y<=9223372036854775807):bO .i64 x y=x+y:=rb h1 h2
theorem gm{x y:Int}(h1: -9223372036854775808<=x - y)(h2:x - y<=9223372036854775807):cY .i64 x y=x - y:=rb h1 h2
theorem nf{x y:Int}(h1: -9223372036854775808<=x*y)(h2:x*y<=9223372036854775807):gJ .i64 x y=x*y:=rb h1 h2
theorem pb{x:Int}(h1: -9223372036854775808<=x)(h2:x<=9223372036854775807):eH .i64 x=x:=rb h1 h2
def vw{n:Nat}(w:BitVec n):Int:=(w.toNat:Int)
theorem kP(n:Nat)(x:Int):vw (BitVec.ofInt n x)=x%((2^n:Nat):Int):=by
 unfold vw
 rw[pg]
 have:0<=x%((2^n:Nat):Int):=kU _ (by have:=Nat.two_pow_pos n;omega)
 omega
theorem Ar{n:Nat}(w:BitVec n):0<=vw w:=pj _
theorem OF{n:Nat}(w:BitVec n):vw w < ((2^n:Nat):Int):=by have:=w.isLt;unfold vw;omega
theorem ql{n:Nat}(w:BitVec n):BitVec.ofInt n (vw w)=w:=by
 apply BitVec.eq_of_toNat_eq
 have:=kP n (vw w)
 unfold vw at this ⊢
 have h:=w.isLt
 rw[jq (pj _) (by omega)]at this
 omega
theorem wrap_u32(x:Int):IntKind.u32.wrap x=vw (BitVec.ofInt 32 x):=by rw[kP];simp[IntKind.wrap,IntKind.bits,IntKind.signed]
theorem wrap_u64(x:Int):IntKind.u64.wrap x=vw (BitVec.ofInt 64 x):=by rw[kP];simp[IntKind.wrap,IntKind.bits,IntKind.signed]
theorem wrap_u8(x:Int):IntKind.u8.wrap x=vw (BitVec.ofInt 8 x):=by rw[kP];simp[IntKind.wrap,IntKind.bits,IntKind.signed]
theorem ofInt_add(n:Nat)(x y:Int):BitVec.ofInt n (x+y)=BitVec.ofInt n x+BitVec.ofInt n y:=BitVec.ofInt_add ..
theorem um(x y:BitVec 32):bO .u32 (vw x) (vw y)=vw (x+y):=by rw[bO,wrap_u32,BitVec.ofInt_add,ql,ql]
theorem Kh(x:Int):eH .u32 x=vw (BitVec.ofInt 32 x):=wrap_u32 x
theorem FG(x:Int):eH .u64 x=vw (BitVec.ofInt 64 x):=wrap_u64 x
theorem Cp(x:Int):eH .u8 x=vw (BitVec.ofInt 8 x):=wrap_u8 x
theorem NK{n:Nat}(x:BitVec n):BitVec.ofInt n ((x.toNat:Nat):Int)=x:=ql x
theorem ot(op:BinOp)(x y:BitVec 32):dC op .u32 (vw x) (vw y)=vw (match op with | .and=>x &&& y | .or=>x ||| y | .xor=>x^^^y | _=>x &&& ~~~y):=by
 unfold dC
 split <;> (simp only[IntKind.bits,ql,wrap_u32,NK];rfl)
theorem K5(op:BinOp)(x y:BitVec 64):dC op .u64 (vw x) (vw y)=vw (match op with | .and=>x &&& y | .or=>x ||| y | .xor=>x^^^y | _=>x &&& ~~~y):=by
 unfold dC
 split <;> (simp only[IntKind.bits,ql,wrap_u64,NK];rfl)
theorem M3(x y:Nat):Int.fdiv (x:Int) (y:Int)=((x / y:Nat):Int):=by
 rw[lC _ (pj _)]
 rfl
theorem zi(k:Nat):(2:Int)^k=((2^k:Nat):Int):=by simp
theorem Ss{n:Nat}(w:BitVec n)(k:Nat):Int.fdiv (vw w) (2^(min k n))=vw (w >>> k):=by
 rw[zi]
 unfold vw
 rw[M3,BitVec.toNat_ushiftRight,Nat.shiftRight_eq_div_pow]
 congr 1
 rcases Nat.le_total k n with hk | hk
 ·rw[jH hk]
 ·rw[Nat.min_eq_right hk,Nat.div_eq_of_lt w.isLt,Nat.div_eq_of_lt]
  exact Nat.lt_of_lt_of_le w.isLt (Nat.pow_le_pow_right (by omega) hk)
theorem v8(w:BitVec 32)(k:Int):cZ .u32 (vw w) k=vw (w >>> k.toNat):=Ss w k.toNat
theorem Sr{n:Nat}(w:BitVec n)(k:Nat):BitVec.ofInt n (vw w*2^(min k n))=w <<< k:=by
 apply BitVec.eq_of_toNat_eq
 rw[pg,BitVec.toNat_shiftLeft,Nat.shiftLeft_eq]
 unfold vw
 rw[zi]
 have e:((w.toNat:Int)*((2^min k n:Nat):Int))=((w.toNat*2^min k n:Nat):Int):=by simp
 rw[e]
 have:(((w.toNat*2^min k n:Nat):Int)%((2^n:Nat):Int)).toNat=(w.toNat*2^min k n)%2^n:=by omega
 rw[this]
 rcases Nat.le_total k n with hk | hk
 ·rw[jH hk]
 ·rw[Nat.min_eq_right hk,Nat.mul_mod_left]
  obtain⟨m,rfl⟩:=Nat.exists_eq_add_of_le hk
  rw[nK,<-Nat.mul_assoc,Nat.mul_right_comm,Nat.mul_mod_left]
theorem yF(w:BitVec 32)(k:Int):oJ .u32 (vw w) k=vw (w <<< k.toNat):=by rw[oJ,wrap_u32];congr 1;exact Sr w k.toNat
theorem bF{i n:Int}(h1:0<=i)(h2:i < n):fp i n=true:=by simp[fp,h1,h2]
theorem qc{i n:Int}(h1:0<=i)(h2:i<=n):inc i n=true:=by simp[inc,h1,h2]
theorem bI{x y:Int}(h:x < y):jK x y=true:=by simp[jK,h]
theorem bp{x y:Int}(h:¬x < y):jK x y=false:=by simp[jK];omega
theorem uo{x y:Int}(h:x<=y):FH x y=true:=by simp[FH,h]
theorem qJ{x y:Int}(h:¬x<=y):FH x y=false:=by simp[FH];omega
theorem fA{x y:Int}(h:x > y):so x y=true:=by simp[so];omega
theorem dW{x y:Int}(h:¬x > y):so x y=false:=by simp[so];omega
theorem lG{x y:Int}(h:x>=y):qz x y=true:=by simp[qz];omega
theorem iU{x y:Int}(h:¬x>=y):qz x y=false:=by simp[qz];omega
theorem iE{x y:Int}(h:x=y):nX x y=true:=by simp[nX,h]
theorem fJ{x y:Int}(h:¬x=y):nX x y=false:=by simp[nX,h]
theorem kN{x y:Int}(h:¬x=y):rN x y=true:=by simp[rN,h]
theorem gK{x y:Int}(h:x=y):rN x y=false:=by simp[rN,h]
theorem tq{x:Int}(h:0<=x):nA x=true:=by simp[nA,h]
theorem aO{p:Prop} [Decidable p] (h:p):decide p=true:=by simp[h]
theorem cR{p:Prop} [Decidable p] (h:¬p):decide p=false:=by simp[h]
theorem fV{n b:Nat}(h:n*b<=140737488355328)(h2:n<=9223372036854775807):fk n b=true:=by simp[fk,h,h2]
def from_{α:Type}(f:Nat->α->α)(t:Nat)(l:List α):List α:=l.mapIdx λi x=>if i < t then x else f i x
theorem wP{α:Type}(f:Nat->α->α)(l:List α)(t:Nat)(h:t < l.length):from_ f (t+1) (l.set t (f t l[t]))=from_ f t l:=by
 unfold from_
 apply List.ext_getElem (by simp)
 intro i h1 h2
 simp only[List.getElem_mapIdx,List.getElem_set]
 by_cases hi:t=i
 ·subst hi;simp
 ·simp only[if_neg hi]
  by_cases h3:i < t
  ·rw[if_pos (by omega),if_pos h3]
  ·rw[if_neg (by omega),if_neg h3]
theorem yy{α:Type}(f:Nat->α->α)(l:List α)(t:Nat)(h:l.length<=t):from_ f t l=l:=by
 unfold from_
 apply List.ext_getElem (by simp)
 intro i h1 h2
 simp only[List.getElem_mapIdx]
 rw[if_pos (by omega)]
theorem Cc{α:Type}(f:Nat->α->α)(n:Nat)(x:α):from_ f 0 (List.replicate n x)=(List.range n).map λi=>f i x:=by
 unfold from_
 apply List.ext_getElem (by simp)
 intro i h1 h2
 simp
theorem dP{t:Ty}{l:List t.den}{i:Nat}(h:i < l.length):nth t l i=l[i]:=by simp[nth,h]
end Go.Ab
namespace Go.Ab.N
section
variable {α:Type} {x y:Option α} {a b n:Nat} {i j:Int}
theorem lt:aJ (jK i j) x y=if i < j then x else y:=by unfold jK;split <;> rename_i h <;> simp[h]
theorem le:aJ (FH i j) x y=if i<=j then x else y:=by unfold FH;split <;> rename_i h <;> simp[h]
theorem gt:aJ (so i j) x y=if j < i then x else y:=by unfold so;split <;> rename_i h <;> simp[h]
theorem ge:aJ (qz i j) x y=if j<=i then x else y:=by unfold qz;split <;> rename_i h <;> simp[h]
theorem eq:aJ (nX i j) x y=if i=j then x else y:=by
 by_cases h:i=j
 ·rw[iE h,if_pos h];rfl
 ·rw[fJ h,if_neg h];rfl
theorem ne:aJ (rN i j) x y=if i=j then y else x:=by
 by_cases h:i=j
 ·rw[gK h,if_pos h];rfl
 ·rw[kN h,if_neg h];rfl
theorem ib:aJ (fp i j) x y=if 0<=i/\i < j then x else y:=by unfold fp;split <;> rename_i h <;> simp[h]
theorem ic:aJ (inc i j) x y=if 0<=i/\i<=j then x else y:=by unfold inc;split <;> rename_i h <;> simp[h]
theorem nn:aJ (nA i) x y=if 0<=i then x else y:=by unfold nA;split <;> rename_i h <;> simp[h]
theorem nz:aJ (lN i) x y=if i=0 then y else x:=by unfold lN;split <;> rename_i h <;> simp[h]
theorem dc{p:Prop} [Decidable p]:aJ (decide p) x y=if p then x else y:=by split <;> rename_i h <;> simp[h]
theorem rm:aJ (fk n b) x y=if n*b<=140737488355328/\n<=9223372036854775807 then x else y:=by unfold fk;exact dc
theorem an{c d:Bool}:aJ (c && d) x y=aJ c (aJ d x y) y:=by cases c <;> rfl
theorem or{c d:Bool}:aJ (c || d) x y=aJ c x (aJ d x y):=by cases c <;> rfl
theorem no{c:Bool}:aJ (!c) x y=aJ c y x:=by cases c <;> rfl
theorem UO(h:a+b<=9223372036854775807):bO .i64 (a:Int) (b:Int)=((a+b:Nat):Int):=by rw[ff (by omega) (by omega)];omega
theorem pJ(h:a+OfNat.ofNat n<=9223372036854775807):bO .i64 (a:Int) (no_index (OfNat.ofNat n))=((a+OfNat.ofNat n:Nat):Int):=UO h
theorem W0(h:OfNat.ofNat n+a<=9223372036854775807):bO .i64 (no_index (OfNat.ofNat n)) (a:Int)=((OfNat.ofNat n+a:Nat):Int):=UO h
theorem Vd(h:b<=a)(h2:a<=9223372036854775807):cY .i64 (a:Int) (b:Int)=((a - b:Nat):Int):=by rw[gm (by omega) (by omega)];omega
theorem Vc(h:OfNat.ofNat n<=a)(h2:a<=9223372036854775807):cY .i64 (a:Int) (no_index (OfNat.ofNat n))=((a - OfNat.ofNat n:Nat):Int):=Vd h h2
theorem XD(h:a<=OfNat.ofNat n)(h2:(OfNat.ofNat n:Nat)<=9223372036854775807):cY .i64 (no_index (OfNat.ofNat n)) (a:Int)=((OfNat.ofNat n - a:Nat):Int):=Vd h h2
theorem Va(h:a*b<=9223372036854775807):gJ .i64 (a:Int) (b:Int)=((a*b:Nat):Int):=by
 have e:(a:Int)*(b:Int)=((a*b:Nat):Int):=by simp
 rw[nf (by omega) (by omega),e]
theorem XA(h:a*OfNat.ofNat n<=9223372036854775807):gJ .i64 (a:Int) (no_index (OfNat.ofNat n))=((a*OfNat.ofNat n:Nat):Int):=Va h
theorem U9(h:OfNat.ofNat n*a<=9223372036854775807):gJ .i64 (no_index (OfNat.ofNat n)) (a:Int)=((OfNat.ofNat n*a:Nat):Int):=Va h
theorem WG(h:a<=9223372036854775807):qw .i64 (a:Int) (b:Int)=((a / b:Nat):Int):=by
 have:(a:Int).tdiv (b:Int)=((a / b:Nat):Int):=by rw[lD (by omega)];simp
 have hl:a / b<=a:=Nat.div_le_self a b
 unfold qw
 rw[this]
 generalize a / b=c at hl
 exact rb (by omega) (by omega)
theorem XB(h:a<=9223372036854775807):qw .i64 (a:Int) (no_index (OfNat.ofNat n))=((a / OfNat.ofNat n:Nat):Int):=WG h
theorem WH:fU (a:Int) (b:Int)=((a%b:Nat):Int):=by
 unfold fU
 rw[jX (by omega)]
 simp
theorem XC:fU (a:Int) (no_index (OfNat.ofNat n))=((a%OfNat.ofNat n:Nat):Int):=WH
theorem cN(h:a<=9223372036854775807):eH .i64 (a:Int)=(a:Int):=pb (by omega) (by omega)
theorem cL(h:(OfNat.ofNat n:Nat)<=9223372036854775807):eH .i64 (no_index (OfNat.ofNat n))=OfNat.ofNat n:=cN h
theorem tL:Int.toNat (no_index (OfNat.ofNat n))=OfNat.ofNat n:=rfl
end
end Go.Ab.N
namespace Go.Ab
section
variable {P:Program}
theorem MZ{E E':Env}(h1:E'.w=E.w)(h2:E'.g=E.g)(h3:E'.β=E.β)(h4:E'.s=E.s):E'=E:=by
 obtain⟨a,b,c,d⟩:=E
 obtain⟨a',b',c',d'⟩:=E'
 simp only at h1 h2 h3 h4
 subst h1 h2 h3 h4
 rfl
theorem vH.same{w:World}{g:Nat->od}{β:Id->Option Pl}{ez:List gU}{a:aH}{v:Value}(hv:VS ((oL ez).env w g β) a v)(ho:lO ((oL ez).env w g β)):
  vH ((oL ez).env w g β) ⟨a,ez,[]⟩ v w:=by
 have hE:(aZ.st ⟨a,ez,[]⟩).env w g β=(oL ez).env w g β:=by
  refine MZ rfl rfl rfl ?_
  funext id
  cases id with
  |ew k=>rfl
  |new i j=>
   show([([]:List gU)].getD i [])[j]? =(([]:List (List gU)).getD i [])[j]?
   cases i <;> rfl
 refine⟨g,β,?_⟩
 rw[hE]
 exact⟨hv,ho,Trans.refl w g,dZ.refl _⟩
theorem qv.extern{f:FuncId}{fn:Func}{e:Array Value->Sem Value}(hf:P.funcs[f]? =some fn)(v5:(fn.name== "runtime.NumGoroutine")=false)(hb:fn.body.isNone=true)(hn:Extern.findNext fn=none)(he:Extern.find fn=some e){en:Entry}
  (h:∀w g β args ez mZ x,yl ((oL ez).env w g β) args mZ->lO ((oL ez).env w g β)->en.run args ez=some x->∃v,(e mZ.toArray).run P w= .ok v w/\vH ((oL ez).env w g β) (en.out args ez x) v w):qv P f en:=by
 intro w g β args ez mZ x h1 h2 h3
 obtain⟨v,h4,h5⟩:=h w g β args ez mZ x h1 h2 h3
 refine .inr ⟨v,w,?_,h5⟩
 rw[run_callFunc_extern hf v5 hb hn he,h4]
 rfl
def QN.E:Entry:= {params:=[none],X:=Unit,run:=λargs _=>match args with | [_]=>some () | _=>none,out:=λargs ez _=>⟨args.headD .undef,ez,[]⟩}
theorem QN.of{f:FuncId}{fn:Func}(hf:P.funcs[f]? =some fn)(v5:(fn.name== "runtime.NumGoroutine")=false)(hb:fn.body.isNone=true)(hn:Extern.findNext fn=none)(he:Extern.find fn=some Extern.AbiNoEscape.same):qv P f QN.E:=by
 refine qv.extern hf v5 hb hn he λw g β args ez mZ x h1 h2 h3=> ?_
 cases args with
 |nil=>cases h3
 |cons a as=>
  cases as with
  |cons _ _=>cases h3
  |nil=>
   cases mZ with
   |nil=>exact h1.elim
   |cons v vs=>
    obtain⟨h4,h5⟩:=h1
    cases vs with
    |cons _ _=>exact h5.elim
    |nil=>exact⟨v,rfl,vH.same h4 h2⟩
theorem EW{w:World}:∀(xs:List Int) (a:Addr) (acc:ByteArray),(∀j x,xs[j]? =some x->w.cell? (a.add j)=some (.int .u8 x))->
  (Extern.Bytes.loadBytes a xs.length acc).run P w= .ok ⟨acc.data++(xs.map λn=>UInt8.ofNat n.toNat).toArray⟩ w
 |[],a,acc,_=>by simp[Extern.Bytes.loadBytes]
 |x::l,a,acc,h=>by
  have h0:w.cell? a=some (.int .u8 x):=by
   have:=h 0 x rfl
   simpa[Addr.add]using this
  have ih:=EW l (a.add 1) (acc.push x.toNat.toUInt8) (λj y hy=>by
   have:=h (j+1) y (by simpa using hy)
   have e:(a.add 1).add j=a.add (j+1):=by
    unfold Addr.add
    by_cases hj:j=0
    ·subst hj;simp
    ·simp[hj];omega
   rw[e];exact this)
  simp only[aN,Extern.Bytes.loadBytes,Sem.run_bind,run_load,h0,Result.andThen]
  rw[ih]
  congr 1
  apply ByteArray.ext
  simp[ByteArray.push]
theorem C6{E:Env}{l:List Int}{y:Value}(h:VS E (.d (.slice (.int .u8)) l) y):(Extern.Bytes.bytesOf y).run P E.w= .ok (kC l) E.w:=by
 obtain⟨a,cap,vs,rfl,_,hs,my,fI⟩:=qq h
 have Cn:=ra (k:= .u8) (vs:=vs) (l:=l) fI
 cases a with
 |none=>
  have hl:l=[]:=by
   cases l with
   |nil=>rfl
   |cons _ _=>simp at hs
  subst hl
  rfl
 |some ad=>
  have Ng:=EW (P:=P) (w:=E.w) l ad .empty λj x hx=>by
   obtain⟨b,off,e,hh⟩:=my j (.int .u8 x) (by rw[Cn];simp[hx])
   have e:ad=⟨b,off,none⟩:=by simpa using e
   subst e
   have h1:=hh.1
   unfold Addr.add
   by_cases hj:j=0
   ·subst hj;simpa using h1
   ·simpa[hj]using h1
  show(Extern.Bytes.loadBytes ad l.length .empty).run P E.w=_
  rw[Ng]
  congr 1
  apply ByteArray.ext
  simp[kC]
def IM(a b:List Int):Int:=Extern.BytealgCompare.cmp (kC a) (kC b)
def JX.E:Entry:=Entry.of (D:=List Int×List Int) (X:=Int) [some (.slice (.int .u8)),some (.slice (.int .u8))] (λd=>([.d (.slice (.int .u8)) d.1,.d (.slice (.int .u8)) d.2],[])) (λ_=>True) (λd=>IM d.1 d.2) (λx=>⟨.d (.int .i64) x,[],[]⟩)
theorem JX.inj:∀d d':List Int×List Int,(([aH.d (.slice (.int .u8)) d.1,aH.d (.slice (.int .u8)) d.2],([]:List gU)):List aH×List gU)=([.d (.slice (.int .u8)) d'.1,.d (.slice (.int .u8)) d'.2],[])->d=d':=by
 rintro⟨a,b⟩ ⟨a',b'⟩ h
 have e1:a=a':=Qd (t:= .slice (.int .u8)) (congrArg (λs:List aH×List gU=>s.1.getD 0 .undef) h)
 have e2:b=b':=Qd (t:= .slice (.int .u8)) (congrArg (λs:List aH×List gU=>s.1.getD 1 .undef) h)
 rw[e1,e2]
def JX.call:List Int×List Int->Option Int:=λd=>JX.E.run [.d (.slice (.int .u8)) d.1,.d (.slice (.int .u8)) d.2] []
theorem JX.run(d:List Int×List Int):JX.call d=some (IM d.1 d.2):=Entry.Ac (d:=d) JX.inj trivial
theorem JX.of{f:FuncId}{fn:Func}(hf:P.funcs[f]? =some fn)(v5:(fn.name== "runtime.NumGoroutine")=false)(hb:fn.body.isNone=true)(hn:Extern.findNext fn=none)(he:Extern.find fn=some Extern.BytealgCompare.compare):qv P f JX.E:=by
 refine qv.extern hf v5 hb hn he λw g β args ez mZ x h1 h2 h3=> ?_
 have hx:∃d:List Int×List Int,(([aH.d (.slice (.int .u8)) d.1,aH.d (.slice (.int .u8)) d.2],([]:List gU)):List aH×List gU)=(args,ez):=by
  by_cases hh:∃d:List Int×List Int,(([aH.d (.slice (.int .u8)) d.1,aH.d (.slice (.int .u8)) d.2],([]:List gU)):List aH×List gU)=(args,ez)
  ·exact hh
  ·exfalso
   have hn:JX.E.run args ez=none:=dif_neg λ⟨d,h,_⟩=>hh ⟨d,h⟩
   rw[hn]at h3
   cases h3
 obtain⟨d,hd⟩:=hx
 simp only[eN]at hd
 obtain⟨rfl,rfl⟩:=hd
 have hr:=JX.run d
 have hx:x=IM d.1 d.2:=cM (h3.symm.trans hr)
 subst hx
 match mZ,h1 with
 |[u,v],⟨h4,h5,_⟩=>
  refine⟨.int .i64 (IM d.1 d.2),?_,vH.same (mQ _ _) h2⟩
  have e1:=C6 (P:=P) h4
  have e2:=C6 (P:=P) h5
  have e1:(Extern.Bytes.bytesOf u).run P w= .ok (kC d.1) w:=e1
  have e2:(Extern.Bytes.bytesOf v).run P w= .ok (kC d.2) w:=e2
  have RE:Extern.BytealgCompare.compare [u,v].toArray=(do let a <-Extern.Bytes.bytesOf u;let b <-Extern.Bytes.bytesOf v;pure (goInt (Extern.BytealgCompare.cmp a b))):=rfl
  rw[RE]
  simp[e1,e2,goInt,IM]
def IC{X Y:Type} [Inhabited Y] (x:Option X):Option (X×Y):=aj x λy=>some (y,default)
def yq{X Y:Type} [Inhabited X] (x:Option Y):Option (X×Y):=aj x λy=>some (default,y)
@[simp] theorem SM{X Y:Type} [Inhabited Y] (x:X):IC (Y:=Y) (some x)=some (x,default):=rfl
@[simp] theorem SN{X Y:Type} [Inhabited X] (x:Y):yq (X:=X) (some x)=some (default,x):=rfl
def Entry.alt(p:List aH->List gU->Bool)(params:List (Option Ty)){X Y:Type} [Inhabited X] [Inhabited Y] (r1:List aH->List gU->Option X) (r2:List aH->List gU->Option Y) (o1:List aH->List gU->X->aZ) (o2:List aH->List gU->Y->aZ):Entry:=
 {params,X:=X×Y,run:=λa o=>match p a o with | true=>IC (r1 a o) | false=>yq (r2 a o),out:=λa o x=>match p a o with | true=>o1 a o x.1 | false=>o2 a o x.2}
theorem qv.alt{f:FuncId}{p:List aH->List gU->Bool}{params:List (Option Ty)}{X Y:Type} [Inhabited X] [Inhabited Y] {r1:List aH->List gU->Option X} {r2:List aH->List gU->Option Y} {o1:List aH->List gU->X->aZ} {o2:List aH->List gU->Y->aZ}
  (h1:qv P f {params,X,run:=r1,out:=o1}) (h2:qv P f {params,X:=Y,run:=r2,out:=o2}):qv P f (Entry.alt p params r1 r2 o1 o2):=by
 intro w g β args ez mZ x h3 h4 h5
 have h5:(match p args ez with | true=>IC (r1 args ez) | false=>yq (r2 args ez))=some x:=h5
 cases hp:p args ez with
 |true=>
  rw[hp]at h5
  cases hr:r1 args ez with
  |none=>rw[hr]at h5;cases h5
  |some y=>
   rw[hr]at h5
   obtain rfl:(y,default)=x:=cM h5
   have:=h1 w g β args ez mZ y h3 h4 hr
   have e:(Entry.alt p params r1 r2 o1 o2).out args ez (y,default)=o1 args ez y:=by show(match p args ez with | true=>o1 args ez y | false=>o2 args ez default)=_;rw[hp]
   rw[e]
   exact this
 |false=>
  rw[hp]at h5
  cases hr:r2 args ez with
  |none=>rw[hr]at h5;cases h5
  |some y=>
   rw[hr]at h5
   obtain rfl:(default,y)=x:=cM h5
   have:=h2 w g β args ez mZ y h3 h4 hr
   have e:(Entry.alt p params r1 r2 o1 o2).out args ez (default,y)=o2 args ez y:=by show(match p args ez with | true=>o1 args ez default | false=>o2 args ez y)=_;rw[hp]
   rw[e]
   exact this
def Sh:List aH->List gU->Bool:=λ_ ez=>match ez with | [_]=>true | _=>false
end
theorem S1:(type_of% @N.lt)/\(type_of% @N.le)/\(type_of% @N.gt)/\(type_of% @N.ge)/\(type_of% @N.eq)/\(type_of% @N.ne)/\(type_of% @N.ib)/\(type_of% @N.ic)/\(type_of% @N.nn)/\(type_of% @N.nz)/\(type_of% @N.dc)/\(type_of% @N.rm)/\(type_of% @N.an)/\(type_of% @N.or)/\(type_of% @N.no)/\(type_of% @ah)/\(type_of% @ai)/\(type_of% @ab):=⟨@N.lt,@N.le,@N.gt,@N.ge,@N.eq,@N.ne,@N.ib,@N.ic,@N.nn,@N.nz,@N.dc,@N.rm,@N.an,@N.or,@N.no,@ah,@ai,@ab⟩
theorem S2:(type_of% @ab)/\(type_of% @N.UO)/\(type_of% @N.pJ)/\(type_of% @N.W0)/\(type_of% @N.Vd)/\(type_of% @N.Vc)/\(type_of% @N.XD)/\(type_of% @N.Va)/\(type_of% @N.XA)/\(type_of% @N.U9)/\(type_of% @N.WG)/\(type_of% @N.XB)/\(type_of% @N.WH)/\(type_of% @N.XC)/\(type_of% @N.cN)/\(type_of% @N.cL)/\(type_of% @N.tL)/\(type_of% @aa)/\(type_of% @and_self)/\(type_of% @true_and)/\(type_of% @and_true):=⟨@ab,@N.UO,@N.pJ,@N.W0,@N.Vd,@N.Vc,@N.XD,@N.Va,@N.XA,@N.U9,@N.WG,@N.XB,@N.WH,@N.XC,@N.cN,@N.cL,@N.tL,@aa,@and_self,@true_and,@and_true⟩
end Go.Ab
end
