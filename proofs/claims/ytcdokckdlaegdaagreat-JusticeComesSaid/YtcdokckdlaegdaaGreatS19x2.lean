/-
  Made short by a program of mine (wip/tools/mini.py).
-/
import Derived.Test.YtcdokckdlaegdaaGreatS19x1
import Derived.Lib.Builder
import Derived.Lib.UnsafeStr
import Derived.Lib.AppendZeros
import Derived.Maps.RangeRun
import Derived.Scope
import Derived.Laws.Externs
import Derived.KernelRfl
set_option linter.unusedVariables false
set_option linter.unusedSimpArgs false
set_option maxRecDepth 100000
set_option synthInstance.maxSize 5000
noncomputable section
namespace Go.Ab
section
variable {P:Program} {C:Ctx} {g:Nat->nZ} {β:Id->Option Pl} {s:AS} {a:Act} {w:World} {o:Oper}
theorem I5:∀(c:aH) (f off:Nat) (v:aH),partOf c f=some (off,v)->(loc c (nh f)).eval=some (off,v):=by
 intro c f
 induction f generalizing c with
 |zero=>
  intro off v h
  cases c with
  |d t y=>
   cases t <;> simp only[partOf,reduceCtorEq]at h
   simp only[aD,eN]at h
   obtain⟨rfl,rfl⟩:=h
   rfl
  |pr b c=>
   simp only[partOf,aD,eN]at h
   obtain⟨rfl,rfl⟩:=h
   simp only[nh,loc]
   cases b <;> rfl
  |_=>simp only[partOf,reduceCtorEq]at h
 |succ f ih=>
  intro off v h
  cases c with
  |d t y=>
   cases t with
   |pair ta tb=>
    simp only[partOf]at h
    cases hp:partOf (.d tb y.2) f with
    |none=>rw[hp]at h;cases h
    |some r=>
     rw[hp]at h
     simp only[aD,eN]at h
     obtain⟨rfl,rfl⟩:=h
     simp only[nh,loc,aw]
     exact⟨_,ih _ _ _ hp,rfl⟩
   |_=>simp only[partOf,reduceCtorEq]at h
  |pr b c=>
   simp only[partOf]at h
   cases hp:partOf c f with
   |none=>rw[hp]at h;cases h
   |some r=>
    rw[hp]at h
    simp only[aD,eN]at h
    obtain⟨rfl,rfl⟩:=h
    simp only[nh,loc,aw]
    exact⟨_,ih _ _ _ hp,rfl⟩
  |_=>simp only[partOf,reduceCtorEq]at h
theorem Hb(a b:aH):(yI a b).agg=true:=by unfold yI;split <;> rfl
theorem DY{v x v':aH}{i:Nat}(h:(tP v (nh i) x).eval=some v'):v'.agg=true:=by
 have fin:∀ {o:Out aH} {f:aH->aH},(∀a,(f a).agg=true)->(o.bind λa=>Out.ok (f a)).eval=some v'->v'.agg=true:=by
  intro o f hf hh
  obtain⟨_,_,h2⟩:=aw.1 hh
  obtain rfl:=aB.1 h2
  exact hf _
 cases i <;> simp only[nh]at h
 all_goals
  cases v with
  |d t y=>cases t <;> first | (simp only[tP,al]at h;done) | (simp only[tP]at h;exact fin (λ_=>Hb _ _) h)
  |pr b c=>simp only[tP]at h;exact fin (λ_=>Hb _ _) h
  |_=>simp only[tP,al]at h
theorem wk{E:Env}(P1:∀x,VS E (s.ev x) (a.eval x)){fs:Array Field}{places:Array (Nat×Nat)}(wJ:∀(i:Nat) (f:Field),fs[i]? =some f->places[i]? =some (f.offset,P.cellsOf f.type)):
  ∀(ps:List (Nat×Operand)) (v v':aH) (cells:Array Value),(ot P fs s ps v).eval=some v'->V E v cells.toList->v.agg=true->
   ∃cells',Instr.fill (places[·]?) cells (ps.map λ(i,x)=>(i,a.eval x))=some cells'/\V E v' cells'.toList/\v'.agg=true
 |[],v,v',cells,h,hV,yh=>by
  obtain rfl:=aB.1 h
  exact⟨cells,rfl,hV,yh⟩
 | (i,x)::ps,v,v',cells,h,hV,yh=>by
  simp only[ot]at h
  split at h
  ·rename_i f off ew hf hp
   obtain⟨h1,h2⟩:=aL.1 h
   obtain⟨v1,h3,h4⟩:=aw.1 h2
   simp only[ak,beq_iff_eq]at h1
   obtain⟨⟨rfl,Uy⟩,WQ⟩:=h1
   obtain⟨II,_⟩:=pq WQ
   obtain⟨cs,hVx,hO⟩:=(P1 x).iA II
   have hcells:=hO.cells hVx.one
   have Vt:=I5 _ _ _ _ hp
   obtain⟨u1,u2,u3⟩:=ou (nh i) v cells.toList f.offset ew (s.ev x) v1 cs (VO.of hV) Vt hVx h3
   have TL:v1.ky=false:=u3.qf hV.qf
   have rI:P.cellsOf f.type=cs.length:=by rw[(vN WQ).2.1];exact hVx.size.symm
   obtain⟨cells',q1,q2,q3⟩:=wk P1 wJ ps v1 v' (fo cells.toList f.offset cs).toArray h4 (by simpa using u2.to TL) (DY h3)
   refine⟨cells',?_,q2,q3⟩
   rw[cO,Ej (by rw[wJ i f hf,rI]) hcells (by simpa using u1)]
   exact q1
  ·simp only[al]at h
theorem HD{α γ:Type}(f:α->Sem γ)(r:α->γ):∀(l:List α),(∀x∈l,(f x).run P w= .ok (r x) w)->(l.mapM f).run P w= .ok (l.map r) w
 |[],_=>by simp
 |x::xs,h=>by
  rw[List.mapM_cons]
  simp only[Sem.run_bind,h x (by simp),Result.andThen_ok,HD f r xs (λy hy=>h y (by simp[hy])),Sem.run_pure,cO]
theorem Iq(h:Inv C g β s a w){T:TypeId}{parts:Array (Nat×Operand)}(ho:o.op= .build T parts){s':AS}(he:(vG P s o.dst T parts.toList).eval=some s'):iY P o a w (kN C s'):=by
 unfold vG at he
 split at he
 ·rename_i fs hT
  split at he
  ·rename_i z Y7
   obtain⟨h1,h2⟩:=aL.1 he
   obtain⟨v,h3,h4⟩:=aw.1 h2
   obtain rfl:=aB.1 h4
   simp only[ak,fC]at h1
   obtain⟨⟨hz,yh⟩,Vm⟩:=h1
   obtain⟨i,zv,hi,Ib,hV,hO⟩:=qK hz (s.env w g β)
   let places:Array (Nat×Nat):=fs.map λf=>(f.offset,P.cellsOf f.type)
   have wJ:∀(i:Nat) (f:Field),fs[i]? =some f->places[i]? =some (f.offset,P.cellsOf f.type):=by
    intro i f hf
    simp[places,hf]
   obtain⟨cells',q1,q2,q3⟩:=wk (a:=a) h.ev wJ parts.toList z v zv.cells h3 hV yh
   have hm:(fs.mapM λf=>(do pure (f.offset,<-sizeOf f.type):Sem (Nat×Nat))).run P w= .ok places w:=by
    rw[Array.mapM_eq_mapM_toList]
    have:=HD (P:=P) (w:=w) (λf=>(do pure (f.offset,<-sizeOf f.type):Sem (Nat×Nat))) (λf=>(f.offset,P.cellsOf f.type)) fs.toList (by
     intro f hf
     obtain⟨j,hj⟩:=dj.1 (Vm f hf)
     rw[Sem.run_bind,run_sizeOf hj,mL hj]
     rfl)
    rw[Sem.run_map,this]
    show Result.ok _ w=Result.ok _ w
    congr 1
    apply jW
    simp[places]
   refine h.value (x:= .agg cells') (VS.of q2 (by rw[q3];simp[jK])) (fW (f:=Instr.build T (parts.map λ(i,x)=>(i,a.eval x))) (by simp only[execOp,ho]) ?_)
   have q1':Instr.fill (places[·]?) zv.cells (parts.map λ(i,x)=>(i,a.eval x)).toList=some cells':=by rw[zU];exact q1
   simp only[Instr.build,Sem.run_bind,zeroValue,typeInfo,run_program,hi,Result.andThen_ok,Sem.run_pure,Ib,run_underlying hT,hm,q1']
  ·simp only[al]at he
 ·rename_i n e hT
  split at he
  ·rename_i t ht
   obtain⟨h1,h2⟩:=aL.1 he
   obtain⟨r,h3,h4⟩:=aw.1 h2
   obtain rfl:=aB.1 h4
   simp only[ak,beq_iff_eq]at h1
   obtain⟨rI,hz⟩:=h1
   obtain⟨g1,i1,e1,t1,f1⟩:=ke r.2 h
   obtain⟨i,zv,hi,Ib,hV,hO⟩:=qK hz ((s.cg r.2).env w g1 β)
   simp only[V,eX]at hV
   obtain⟨cells',q1,q2⟩:=tN (a:=a) rfl h.cZ e1 h.ev parts.toList _ r zv.cells h3 f1 hV.2
   have TK:r.1.length=n:=by
    have:∀(ps:List (Nat×Operand)) (l:List t.den) (r:List t.den×List Id),(lf t s ps l).eval=some r->r.1.length=l.length:=by
     intro ps
     induction ps with
     |nil=>intro l r hh;obtain rfl:=aB.1 hh;rfl
     |cons p ps ih=>
      intro l r hh
      obtain⟨i,x⟩:=p
      simp only[lf]at hh
      obtain⟨_,h2⟩:=aL.1 hh
      obtain⟨y,h3,h4⟩:=aw.1 h2
      obtain⟨r',h5,h6⟩:=aw.1 h4
      obtain rfl:=aB.1 h6
      have:=ih _ _ h5
      simpa using this
    rw[this _ _ _ h3]
    simp
   refine .inl ⟨.agg cells',w,fW (f:=Instr.build T (parts.map λ(i,x)=>(i,a.eval x))) (by simp only[execOp,ho]) ?_,g1,β,i1.put o.dst ⟨cells'.toList,?_,by simp[jK,aH.agg,Ty.agg]⟩⟩
   ·have q1':Instr.fill (λi=>some (i*t.size,t.size)) zv.cells (parts.map λ(i,x)=>(i,a.eval x)).toList=some cells':=by rw[zU];exact q1
    cases Vj:P.info? e with
    |none=>
     exfalso
     unfold HW EP at ht
     simp only[depth]at ht
     have:P.underlying e=none:=by simp[Program.underlying,Vj]
     rw[this]at ht
     cases ht
    |some ie=>
     have W5:=run_sizeOf Vj w
     rw[<-mL Vj,rI]at W5
     simp only[Instr.build,Sem.run_bind,zeroValue,typeInfo,run_program,hi,Result.andThen_ok,Sem.run_pure,Ib,run_underlying hT,W5,q1']
   ·simp only[V,eX]
    exact⟨TK,q2⟩
  ·simp only[al]at he
 ·simp only[al]at he
theorem Af{T X ty e:TypeId}{i:TypeInfo}(hT:P.underlying T=some (.slice e))(hX:P.underlying X=some .string\/∃e',P.underlying X=some (.slice e'))(hi:P.info? e=some i)
  {b sLen sCap:Nat} {cur:Array Value} (hg:w.heap[b]? =some (.cells cur e (0,0))) {x:Value} {n:Nat} {news:List Value} (h1:∀u∈news,u.oneCell'=true)
  (hlen:(Builtin.lenOf x).run P w= .ok n w) (hf:(Builtin.firstCells i.size n x).run P w= .ok news.toArray w) (xk:sLen+n<=sCap) (Fl:sLen*i.size+news.length<=cur.size):
  (Builtin.append_ #[T,X] ty #[.slice (some ⟨b,0,none⟩) sLen sCap,x]).run P w= .ok (.slice (some ⟨b,0,none⟩) (sLen+n) sCap) (w.setRow b (fo cur.toList (sLen*i.size) news).toArray):=by
 have vo:=run_storeCells_at P b (sLen*i.size) e news 0 cur w hg (by simpa using Fl) h1
 simp only[dR]at vo
 rcases hX with hX | ⟨e',hX⟩ <;> simp[Builtin.append_,run_underlying hT,run_underlying hX,sizeOf,typeInfo,hi,hlen,xk,hf,Addr.add_lit,vo,fo]
theorem vh{T X ty e:TypeId}{i:TypeInfo}(hT:P.underlying T=some (.slice e))(hX:P.underlying X=some .string\/∃e',P.underlying X=some (.slice e'))(hi:P.info? e=some i)
  {x:Value} (hlen:(Builtin.lenOf x).run P w= .ok 0 w) (hf:(Builtin.firstCells i.size 0 x).run P w= .ok #[] w):
  (Builtin.append_ #[T,X] ty #[.slice none 0 0,x]).run P w= .ok (.slice none 0 0) w:=by
 rcases hX with hX | ⟨e',hX⟩ <;> simp[Builtin.append_,run_underlying hT,run_underlying hX,sizeOf,typeInfo,hi,hlen,hf]
theorem Ae{T X ty e:TypeId}{i:TypeInfo}{zv:Value}(hT:P.underlying T=some (.slice e))(hX:P.underlying X=some .string\/∃e',P.underlying X=some (.slice e'))(hi:P.info? e=some i)(Ib:i.zero=some zv)
  {ad:Option Addr} {sLen sCap:Nat} {ez:List Value} (ho:(Builtin.firstCells i.size sLen (.slice ad sLen sCap)).run P w.drew= .ok ez.toArray w.drew) {x:Value} {n:Nat} {news:List Value}
  (hlen:(Builtin.lenOf x).run P w= .ok n w) (hf:(Builtin.firstCells i.size n x).run P w.drew= .ok news.toArray w.drew) (xk:sCap < sLen+n)
  (WL:((sLen+n:Nat):Int)<=9223372036854775807) (Fl:(sLen+n)*i.bytes<=140737488355328):
  (Builtin.append_ #[T,X] ty #[.slice ad sLen sCap,x]).run P w= .ok (.slice (some ⟨w.heap.size,0,none⟩) (sLen+n) (grownCap w (sLen+n) sCap e))
   (w.drew.alloc (.cells (ez.toArray++news.toArray++Builtin.zeroCells zv.cells (grownCap w (sLen+n) sCap e - (sLen+n))) e)):=by
 have hn:¬(sLen+n<=sCap):=by omega
 have h63':¬(9223372036854775807 < ((sLen:Int)+(n:Int))):=by omega
 have hfit':=growslice_fits (bytes:=i.bytes) xk Fl
 have h48':¬(281474976710656 < Builtin.nextslicecap (sLen+n) sCap*i.bytes):=by omega
 rcases hX with hX | ⟨e',hX⟩
 all_goals
  simp[Builtin.append_,run_underlying hT,run_underlying hX,sizeOf,typeInfo,zeroValue,hi,Ib,hlen,hn,h63',h48',Question.forced,hf,ho,newRow,grownCap]
  congr 2
  apply jW
  simp[bR]
end
end Go.Ab
namespace Go.Ab
section
variable {P:Program} {C:Ctx} {g:Nat->nZ} {β:Id->Option Pl} {s:AS} {a:Act} {w:World} {o:Oper}
theorem NK(h:Inv C g β s a w){v:aH}{y:Value}(hv:VS (s.env w g β) v y){t:Ty}{m:List t.den}(he:(s.I6 (.slice t) v).eval=some m):
  ∃ad cap vs,y= .slice ad m.length cap/\(0 < m.length->ad.isSome=true)/\(∀j u,vs[j]? =some u->∃bb off,ad=some ⟨bb,off,none⟩/\w.cell? ⟨bb,off+j,none⟩=some u)/\cd (eX (s.env w g β) t) vs m:=by
 have hp:(s.kR (.slice t) v).eval=some m:=he
 cases v <;> first | (simp only[AS.kR,al]at hp;done) | skip
 case eU=>
  simp only[AS.kR,aB]at hp
  subst hp
  exact⟨none,0,[],lY hv,by simp,λj u hj=>by simp at hj,rfl⟩
 case d t' x=>
  simp only[AS.kR]at hp
  have hp:=lG.1 hp
  have ha:(aH.d t' x).agg=false:=Ee hp
  have hV:=hv.single rfl ha
  simp only[V]at hV
  have hv:VS (s.env w g β) (.d (.slice t) m) y:=VS.of (cs:=[y]) (by simp only[V];exact uC hp hV) rfl
  obtain⟨ad,cap,vs,hy,_,hs,hr,hc⟩:=qm hv
  exact⟨ad,cap,vs,hy,hs,λj u hj=>let⟨bb,off,e,hh⟩:=hr j u hj;⟨bb,off,e,hh.1⟩,hc⟩
 case di id ver p c i len=>
  simp only[AS.kR]at hp
  obtain⟨⟨n,t',l⟩,h1,h2⟩:=aw.1 hp
  obtain⟨h3,h4⟩:=cV.1 h2
  obtain⟨Sz,XW⟩:=KV (E:=s.env w g β) (lG.1 h4)
  rw[Sz]
  simp only[decide_eq_true_eq]at h3
  obtain⟨hc,hlen⟩:=h3
  suffices hg:∃ad cap vs,y= .slice ad (cut l i len).length cap/\(0 < (cut l i len).length->ad.isSome=true)/\(∀j u,vs[j]? =some u->∃bb off,ad=some ⟨bb,off,none⟩/\w.cell? ⟨bb,off+j,none⟩=some u)/\cd (eX (s.env w g β) t') vs (cut l i len) by
   obtain⟨ad,cap,vs,e1,e2,e3,e4⟩:=hg
   exact⟨ad,cap,vs,e1,e2,e3,XW _ e4⟩
  obtain⟨fr,c0,eP,mZ⟩:=Ad rfl h.cZ h1
  obtain⟨ad,cap,hy,hle,oT,hb,ju⟩:=pd hv
  have ju:=ju ⟨fr,c0,eP⟩
  have Oz:(cut l i len).length=len:=uD hlen
  rcases mZ with⟨hp,hl,_⟩ | ⟨pl,cur,e,hp,hh,rI,fI,hbound⟩
  ·rw[hp]at ju
   simp only at ju
   obtain⟨rfl,rfl,rfl⟩:=ju
   have:cut l i 0=[]:=by simp[cut]
   refine⟨none,0,[],by rw[Oz];exact hy,by rw[Oz];omega,λ_ _ hh=>by simp at hh,?_⟩
   rw[this];rfl
  ·rw[hp]at ju
   simp only at ju
   have hmul:(i+len)*t'.size<=l.length*t'.size:=eR _ hlen
   rw[gM]at hmul
   refine⟨ad,cap,_,by rw[Oz];exact hy,by rw[Oz];exact oT,?_,xw fI i len⟩
   rw[CQ _ _ _ _ _ hmul]
   intro j v hj
   rw[fx]at hj
   split at hj
   ·rename_i Rr
    rw[kE,hc]at hj
    have Vu:0 < len:=by
     rcases mH len with h0 | h0
     ·subst h0;simp at Rr
     ·exact h0
    refine⟨pl.b,c,ju.1 (.inl Vu),?_⟩
    have hh':w.heap[pl.b]? =some (.cells cur e (0,0)):=hh
    rw[cell_of_row w pl.b (c+j) cur e (0,0) hh']
    simpa using hj
   ·cases hj
theorem AH(h:Inv C g β s a w){t:Ty}{X:TypeId}{x:aH}{y:Value}(hx:VS (s.env w g β) x y){m:List t.den}(he:(vZ P s t X x).eval=some m):
  (P.underlying X=some .string\/∃e',P.underlying X=some (.slice e'))/\∃news:List Value,cd (eX (s.env w g β) t) news m/\(Builtin.lenOf y).run P w= .ok m.length w/\
   ∀w',w'.heap=w.heap->(Builtin.firstCells t.size m.length y).run P w'= .ok news.toArray w':=by
 have sl:∀(x:aH),VS (s.env w g β) x y->(match P.underlying X with
   |some (.slice _)=>s.I6 (.slice t) x
   |_=> .fail).eval=some m->(P.underlying X=some .string\/∃e',P.underlying X=some (.slice e'))/\∃news:List Value,cd (eX (s.env w g β) t) news m/\(Builtin.lenOf y).run P w= .ok m.length w/\
   ∀w',w'.heap=w.heap->(Builtin.firstCells t.size m.length y).run P w'= .ok news.toArray w':=by
  intro x hx he
  split at he
  ·rename_i e' hX
   refine⟨.inr ⟨e',hX⟩,?_⟩
   obtain⟨ad,cap,vs,rfl,oT,mZ,fI⟩:=NK h hx he
   have hlen:=cd.length (λ_ _ hx=>eX.size hx) fI
   refine⟨vs,fI,rfl,λw' hw'=> ?_⟩
   cases ad with
   |none=>
    have P5:m.length=0:=by
     rcases mH m.length with h0 | h0
     ·exact h0
     ·have:=oT h0;simp at this
    have:vs=[]:=dd (by rw[hlen,P5,mI])
    subst this
    rfl
   |some ad=>
    refine run_firstCells_some (P:=P) w' t.size _ ad _ _ vs hlen (λj v hj=> ?_)
    obtain⟨bb,off,e1,hh⟩:=mZ j v hj
    simp only[aD]at e1
    subst e1
    rw[Addr.add_lit]
    simpa[World.cell?,hw']using hh
  ·simp only[al]at he
 unfold vZ at he
 split at he
 ·rename_i st
  split at he
  ·rename_i hX
   refine⟨.inl hX,?_⟩
   obtain⟨e,hm⟩:=lu (lG.1 he)
   have e':Ty.int .u8=t:=by simpa using e
   subst e'
   simp only at hm
   subst hm
   have hy:=wq hx
   subst hy
   have hlen:(cm st).length=st.size:=by simp only[cm,cM,eh];rfl
   refine⟨(cm st).map (Value.int .u8),qX _,by rw[hlen];rfl,λw' _=> ?_⟩
   rw[hlen]
   simp only[Builtin.firstCells,Sem.run_pure]
   congr 1
   apply jW
   rw[ByteArray.extract_zero_size]
   simp[cm]
  ·simp only[al]at he
 ·exact sl _ hx he
theorem sV(z:Array Value)(n:Nat):(Builtin.zeroCells z n).size=n*z.size:=by simp[Builtin.zeroCells]
theorem KW(h:Inv C g β s a w){c:Call}{x y:Operand}{T X:TypeId}(ho:o.op= .call c)(hc:c.callee= .builtin .copy)(ha:c.args.toList=[x,y])(ht:c.argTypes.toList=[T,X]){s':AS}
  (he:(BT P s o.dst T X (s.ev x) (s.ev y)).eval=some s'):iY P o a w (kN C s'):=by
 obtain⟨cal,args,tys⟩:=c
 simp only at hc ha ht
 have ha':args= #[x,y]:=by apply jW;simpa using ha
 have ht':tys= #[T,X]:=by apply jW;simpa using ht
 subst hc ha' ht'
 have hx:=h.ev x
 have hy:=h.ev y
 have fin:∀z w',(Builtin.copy_ #[T,X] 0 #[a.eval x,a.eval y]).run P w= .ok z w'->(∃g' β',Inv C g' β' s' (a.put o.dst z) w')->iY P o a w (kN C s'):=by
  intro z w' h1 h2
  refine .inl ⟨z,w',tv ho (f:=Builtin.copy_ #[T,X] 0 #[a.eval x,a.eval y]) (λty cs xs Ia=> ?_) h1,h2⟩
  subst Ia
  have e1:Builtin.copy_ #[T,X] 0 #[a.eval x,a.eval y]=Builtin.copy_ #[T,X] ty #[a.eval x,a.eval y]:=rfl
  rw[e1]
  simp[builtin]
 unfold BT at he
 split at he
 ·rename_i e t b id ver len w9 Ia
  obtain⟨hT,hz,i,zv,hi,La,O9,Ib,Lc⟩:=tA w9
  obtain⟨m,hm,he⟩:=aw.1 he
  obtain⟨hX,news,fI,hlen,P2⟩:=AH h hy hm
  have Pe:=fI.length (λ_ _ hx=>eX.size hx)
  have h1news:∀u∈news,u.oneCell'=true:=cd.all (λ_ _ hx=>hx.one) fI
  rw[<-La]at P2
  split at he
  ·rename_i ve n t' l mY
   obtain⟨h1,yz⟩:=aL.1 he
   simp only[ak,beq_iff_eq]at h1
   obtain⟨RE,XT⟩:=h1
   subst RE XT
   obtain⟨l',hl',Dp⟩:=aw.1 yz
   obtain⟨et,hl'⟩:=lu (lG.1 hl')
   have et':t'=t:=by simpa using et
   subst et'
   simp only at hl'
   subst hl'
   obtain⟨Sz,Sx⟩:=cV.1 Dp
   have Sz:m.length<=len:=by simpa using Sz
   obtain rfl:=aB.1 Sx
   have eP:=gC mY
   rw[Ia]at hx
   obtain⟨ad,cap,Mb,MX,oT,Ca,ju⟩:=pd hx
   have ju:=ju ⟨false,_,eP⟩
   obtain⟨pl,cur,e0,hp,hh,hg,hk,hV⟩:=(h.cZ id ve false _ eP).box rfl
   have hp:β id=some pl:=hp
   have hh:w.heap[pl.b]? =some (.cells cur e0 (0,0)):=hh
   have hg:g pl.b= .own (.id id) 0:=hg
   have hcur':(match β id with
    |some pl=>(0 < len\/0=0->ad=some ⟨pl.b,0,none⟩)/\(([.arr]:List xt)=[]->0=0->cap=pl.cap)
    |none=>ad=none/\len=0/\cap=0):=ju
   rw[hp]at hcur'
   simp only at hcur'
   have K5:=hcur'.1 (.inr trivial)
   subst K5
   have hV:V (s.env w g β) (.d (.arr len t') l) (cur.toList.take cur.size):=hV
   rw[<-eh,cQ]at hV
   simp only[V,eX]at hV
   obtain⟨P4,hVc⟩:=hV
   have LZ:=hVc.length (λ_ _ hx=>eX.size hx)
   have Fl:news.length<=cur.size:=by
    rw[Pe]
    have:cur.size=l.length*t'.size:=by simpa using LZ
    rw[this,P4]
    exact eR _ Sz
   have vo:=run_storeCells_at P pl.b 0 e0 news 0 cur w hh (by simpa using Fl) h1news
   have oS:(Builtin.copy_ #[T,X] 0 #[a.eval x,a.eval y]).run P w= .ok (goInt m.length) (w.setRow pl.b (fo cur.toList 0 news).toArray):=by
    have Vz:Nat.min m.length len=m.length:=jJ Sz
    rw[Mb]
    simp only[dR,bl]at vo
    simp[Builtin.copy_,run_underlying hT,hlen,sizeOf,typeInfo,hi,Vz,P2 w rfl,vo,fo]
   have IM:=Trans.setRow w hg (fo cur.toList 0 news).toArray
   have hle:ed (s.env w g β) ((s.bJ id (.obj ve false (.d (.arr len t') (m++l.drop m.length)))).env (w.setRow pl.b (fo cur.toList 0 news).toArray) g β):=ed.bJ eP (aE _) IM (λ_ _=>rfl) (λ_=>rfl)
   have i1:=h.step (fj _ _ _) IM hle (lO.bJ (L4:=og eP λk v1 l e=>by cases e) h.cZ (by rw[eP];simp) hle (λ_ _=>rfl) (λi ver fr c pl2 hi DE H7=>⟨setRow_other w pl.b pl2.b _ (h.apart hg hi DE H7),rfl⟩) (zk.obj ⟨pl,_,e0,hp,setRow_heap w pl.b cur _ e0 (0,0) hh,hg,trivial,by
    show V _ (.d (.arr len t') (m++l.drop m.length)) ((fo cur.toList 0 news).toArray.toList.take (fo cur.toList 0 news).toArray.size)
    rw[<-eh,cQ]
    simp only[V,eX]
    refine⟨by rw[aj,ix];omega,?_⟩
    have e2:fo cur.toList 0 news=news++cur.toList.drop (m.length*t'.size):=by
     simp[fo,Pe]
    have q:cd (eX (s.env w g β) t') (fo cur.toList 0 news) (m++l.drop m.length):=by
     rw[e2]
     exact cd.append fI (cd.drop (λ_ _ hx=>eX.size hx) m.length hVc)
    exact q.mono λ_ _ hx=>hx.mono hle.mem⟩))
   exact fin _ _ oS ⟨g,β,i1.put o.dst ⟨[.int .i64 (m.length:Int)],by simp only[V,eX],rfl⟩⟩
  ·exact(al.1 he).elim
 ·exact(al.1 he).elim
theorem Gk(h:Inv C g β s a w){c:Call}{x y:Operand}{T X:TypeId}(ho:o.op= .call c)(hc:c.callee= .builtin .append)(ha:c.args.toList=[x,y])(ht:c.argTypes.toList=[T,X]){s':AS}
  {nl dt:Bool} (he:(rX P s nl dt o.dst T X (s.ev x) (s.ev y)).eval=some s'):iY P o a w (kN C s'):=by
 obtain⟨cal,args,tys⟩:=c
 simp only at hc ha ht
 have ha':args= #[x,y]:=by apply jW;simpa using ha
 have ht':tys= #[T,X]:=by apply jW;simpa using ht
 subst hc ha' ht'
 have hx:=h.ev x
 have hy:=h.ev y
 have fin:∀z w',(Builtin.append_ #[T,X] 0 #[a.eval x,a.eval y]).run P w= .ok z w'->(∃g' β',Inv C g' β' s' (a.put o.dst z) w')->iY P o a w (kN C s'):=by
  intro z w' h1 h2
  refine .inl ⟨z,w',tv ho (f:=Builtin.append_ #[T,X] 0 #[a.eval x,a.eval y]) (λty cs xs Ia=> ?_) h1,h2⟩
  subst Ia
  have e1:Builtin.append_ #[T,X] 0 #[a.eval x,a.eval y]=Builtin.append_ #[T,X] ty #[a.eval x,a.eval y]:=rfl
  rw[e1]
  simp[builtin]
 unfold rX at he
 split at he
 ·rename_i e t b q w9 hd
  obtain⟨hT,hz,i,zv,hi,La,O9,Ib,Lc⟩:=oQ w9
  obtain⟨m,hm,he⟩:=aw.1 he
  obtain⟨hX,news,fI,hlen,P2⟩:=AH h hy hm
  have Pe:=fI.length (λ_ _ hx=>eX.size hx)
  have h1news:∀u∈news,u.oneCell'=true:=cd.all (λ_ _ hx=>hx.one) fI
  rw[<-La]at P2
  have SI:zv.cells.size=t.size:=by have:=(Lc (s.env w g β)).size;simpa using this
  have V7:∀n,(Builtin.zeroCells zv.cells n).size=n*t.size:=λn=>by rw[sV,SI]
  have grow:∀(ad:Option Addr) (sLen sCap:Nat) (ez:List Value) (l0:List t.den),a.eval x= .slice ad sLen sCap->ez.length=sLen*t.size->l0.length=sLen->cd (eX (s.env w g β) t) ez l0->
    (Builtin.firstCells i.size sLen (.slice ad sLen sCap)).run P w.drew= .ok ez.toArray w.drew->sCap < sLen+m.length->fq (sLen+m.length) b=true->
    ∃(cur:Array Value) (cap:Nat),(Builtin.append_ #[T,X] 0 #[a.eval x,a.eval y]).run P w= .ok (.slice (some ⟨w.heap.size,0,none⟩) (sLen+m.length) cap) (w.drew.alloc (.cells cur e))/\
     cur.size=cap*t.size/\sLen+m.length<=cap/\cap<=maxLen/\cur.toList.take ((sLen+m.length)*t.size)=ez++news:=by
   intro ad sLen sCap ez l0 Mb Ce TG Tl Uy xk H8
   simp only[fq,decide_eq_true_eq]at H8
   have hr:=Ae (P:=P) (w:=w) (ty:=0) hT hX hi Ib Uy hlen (P2 w.drew rfl) xk (by omega) (by rw[O9];exact H8.1)
   rw[Mb]
   refine⟨_,_,hr,?_,grownCap_ge _ _ _ _,grownCap_le_maxLen _ _ _ _ (by unfold maxLen;omega),?_⟩
   ·have YV:=grownCap_ge w (sLen+m.length) sCap e
    simp only[Array.size_append,jZ,V7,Ce,Pe,<-gM]
    congr 1
    omega
   ·have Pb:(ez++news).length=(sLen+m.length)*t.size:=by rw[aj,Ce,Pe,gM]
    simp only[df]
    rw[<-Pb]
    exact List.take_left
  split at he
  ·rename_i Yi
   rw[Yi]at hx
   have Mb:=lY hx
   cases dt with
   |true=>
    simp only at he
    obtain⟨H8,he⟩:=cV.1 he
    obtain rfl:=aB.1 he
    simp only[ak,decide_eq_true_eq]at H8
    obtain⟨H8,P5⟩:=H8
    obtain⟨cur,cap,hr,q1,q2,q3,q4⟩:=grow none 0 0 [] [] Mb (by simp) rfl rfl rfl (by omega) (by simpa using H8)
    simp only[bl,bt]at hr q2 q4
    have U7:cd (eX (s.env w.drew g β) t) news m:=fI.mono λ_ _ hx=>hx.mono (ed.same (s:=s) (β:=β) (Trans.drew w g)).mem
    refine fin _ _ hr ⟨oK g w.heap.size .free,β,(h.drew.wD (.cells cur e)).put o.dst ⟨[.slice (some ⟨w.heap.size,0,none⟩) m.length cap],?_,rfl⟩⟩
    simp only[V,eX]
    refine⟨λh0=>(by cases h0),λm' hm'=> ?_⟩
    obtain rfl:m=m':=cI hm'
    refine⟨_,cap,cur.toList.take (m.length*t.size),rfl,q2,λ_=>rfl,λj v hj=>⟨_,_,rfl,?_,?_⟩,?_⟩
    ·show(w.drew.alloc (.cells cur e)).cell? ⟨w.drew.heap.size,0+j,none⟩=some v
     rw[World.cell?_alloc_new,bl]
     rw[fx]at hj
     split at hj
     ·simpa using hj
     ·cases hj
    ·show rh (oK g w.heap.size .free) w.heap.size (0+j)
     unfold rh;rw[ji];trivial
    ·rw[q4]
     exact U7.mono λ_ _ hx=>hx.mono (Trans.mem (E:=s.env w.drew g β) (E':=s.env (w.drew.alloc (.cells cur e)) (oK g w.drew.heap.size .free) β) (Trans.alloc w.drew g (.cells cur e) .free))
   |false=>
   simp only at he
   obtain⟨hq,he⟩:=aL.1 he
   obtain⟨H8,he⟩:=cV.1 he
   obtain rfl:=aB.1 he
   by_cases P5:m.length=0
   ·have VB:m=[]:=dd P5
    subst VB
    have SC:news=[]:=dd (by rw[Pe];simp)
    subst SC
    obtain⟨β',i1,e1,v1⟩:=h.Nw hq (e:=e) hz
    refine fin (.slice none 0 0) w ?_ ⟨g,β',?_⟩
    ·rw[Mb]
     exact vh (P:=P) hT hX hi hlen (P2 w rfl)
    ·exact i1.put o.dst v1
   ·obtain⟨cur,cap,hr,q1,q2,q3,q4⟩:=grow none 0 0 [] [] Mb (by simp) rfl rfl rfl (by omega) (by simpa using H8)
    simp only[bl,bt]at hr q2 q4
    obtain⟨g2,β2,i2,v2⟩:=(h.drew).FD hq (e:=e) (l:=m) (cur:=cur) (cap:=cap) hz (by rw[q4];exact fI.mono λ_ _ hx=>hx.mono (ed.same (s:=s) (β:=β) (Trans.drew w g)).mem) q1 q2 q3
    refine fin _ _ hr ⟨g2,β2,?_⟩
    exact i2.put o.dst v2
  ·rename_i id ver len Ia
   rw[Ia]at hx
   obtain⟨ad,cap,Mb,MX,oT,Ca,ju⟩:=pd hx
   split at he
   ·rename_i v fr e' t' l mY
    obtain⟨h1,yz⟩:=aL.1 he
    clear he
    simp only[ak,beq_iff_eq]at h1
    obtain⟨RE,XH⟩:=h1
    subst RE XH
    obtain⟨l',hl',Dp⟩:=aw.1 yz
    obtain⟨et,hl'⟩:=lu (lG.1 hl')
    have et':t'=t:=by simpa using et
    subst et'
    simp only at hl'
    subst hl'
    obtain⟨Pd,Tq⟩:=cV.1 Dp
    have Pd:len<=l.length:=by simpa using Pd
    obtain⟨Ux,Sx⟩:=cV.1 Tq
    obtain⟨H8,WO⟩:=cV.1 Sx
    obtain rfl:=aB.1 WO
    clear yz Dp Tq Sx WO
    have eP:=gC mY
    have ju:=ju ⟨fr,_,eP⟩
    obtain⟨_,hO⟩:=h.cZ id v fr _ eP
    have hO':(match β id with
     |none=>l=[]
     |some pl=>∃cur k,w.heap[pl.b]? =some (.cells cur e (0,0))/\cur.size=pl.cap*t'.size/\l.length<=pl.cap/\pl.cap<=maxLen/\g pl.b= .own (.id id) k/\
       k<=l.length*t'.size/\(fr=false->k=0)/\cd (eX (s.env w g β) t') (cur.toList.take (l.length*t'.size)) l):=hO
    have hcur':(match β id with
     |some pl=>(0 < len\/0=0->ad=some ⟨pl.b,0,none⟩)/\(([]:List xt)=[]->0=0->cap=pl.cap)
     |none=>ad=none/\len=0/\cap=0):=ju
    have Rm:fr=false\/len=l.length:=by
     simp only[kb,dI,decide_eq_true_eq]at Ux
     exact Ux
    have lg:s.dx id≠none:=by rw[eP];simp
    have fresh:∀(cur:Array Value) (cp:Nat) (g0:Nat->nZ),Trans w (w.drew.alloc (.cells cur e)) g (oK g0 w.heap.size (.own (.id (id)) 0))->
      (∀i ver fr c pl,i≠id->s.dx i=some (.obj ver fr c)->β i=some pl->g0 pl.b=g pl.b)->cur.size=cp*t'.size->len+m.length<=cp->cp<=maxLen->
      cd (eX (s.env w g β) t') (cur.toList.take ((len+m.length)*t'.size)) (l.take len++m)->len<=l.length->
      ∃g' β',Inv C g' β' ((s.bJ id (.obj (v+1) fr (.vec e t' (l.take len++m)))).put o.dst (.di id (v+1) [] 0 0 (len+m.length))) (a.put o.dst (.slice (some ⟨w.heap.size,0,none⟩) (len+m.length) cp)) (w.drew.alloc (.cells cur e)):=by
     intro cur cp g0 ht Ve q1 q2 q3 q4 q5
     have P4:(l.take len++m).length=len+m.length:=by simp;omega
     have hle:ed (s.env w g β) ((s.bJ id (.obj (v+1) fr (.vec e t' (l.take len++m)))).env (w.drew.alloc (.cells cur e)) (oK g0 w.heap.size (.own (.id id) 0)) (xe β id (some ⟨w.heap.size,cp⟩))):=
      ed.bJ eP (by omega) ht (λi hi=>sS _ _ _ hi) (λhh=>by omega)
     have i1:=h.step (fj _ _ _) ht hle (lO.bJ (L4:=og eP λk v1 l e=>by cases e) h.cZ lg hle (λi hi=>sS _ _ _ hi) (λi ver fr' c' pl hi DE H7=>by
       have mw:pl.b < w.heap.size:=((h.cZ i ver fr' c' DE).label (pl:=pl) H7).1
       exact⟨qU w.drew _ mw,by rw[jb _ _ _ (by omega)];exact Ve i ver fr' c' pl hi DE H7⟩) (by
      refine⟨hz,?_⟩
      show(match xe β id (some ⟨w.heap.size,cp⟩) id with
       |none=>(l.take len++m)=[]
       |some pl=>_)
      rw[mv]
      refine⟨cur,0,sx w.drew _,q1,by rw[P4];exact q2,q3,ji _ _ _,bm _,λ_=>rfl,?_⟩
      rw[P4]
      exact q4.mono λ_ _ hx=>hx.mono hle.mem))
     refine⟨_,_,i1.put o.dst ⟨_,?_,rfl⟩⟩
     simp only[V]
     have nO:=gI s id (.obj (v+1) fr (.vec e t' (l.take len++m))) lg
     refine⟨_,_,rfl,q2,λ_=>rfl,⟨by show(s.bJ id _).dx id≠none;rw[nO];simp,λv' fr' c' hh=> ?_⟩,λ_=> ?_⟩
     ·have hh':(s.bJ id (.obj (v+1) fr (.vec e t' (l.take len++m)))).dx id=some (.obj v' fr' c'):=hh
      rw[nO]at hh'
      simp only[aD,gT.obj.injEq]at hh'
      omega
     ·show(match xe β id (some ⟨w.heap.size,cp⟩) id with
       |some pl=>_
       |none=>_)
      rw[mv]
      exact⟨λ_=>rfl,λ_ _=>rfl⟩
    cases hp:β id with
    |none=>
     rw[hp]at hO' hcur'
     simp only at hO' hcur'
     obtain⟨rfl,rfl,rfl⟩:=hcur'
     subst hO'
     by_cases P5:m.length=0
     ·have VB:m=[]:=dd P5
      subst VB
      have SC:news=[]:=dd (by rw[Pe];simp)
      subst SC
      have ht:=Trans.refl w g
      have hle:ed (s.env w g β) ((s.bJ id (.obj (v+1) fr (.vec e t' []))).env w g β):=ed.bJ eP (by omega) ht (λ_ _=>rfl) (λ_=>rfl)
      have i1:=h.step (fj _ _ _) ht hle (lO.bJ (L4:=og eP λk v1 l e=>by cases e) h.cZ lg hle (λ_ _=>rfl) (λ_ _ _ _ _ _ _ _=>⟨rfl,rfl⟩) (by
       refine⟨hz,?_⟩
       show(match β id with
        |none=>([]:List t'.den)=[]
        |some pl=>_)
       rw[hp]))
      refine fin (.slice none 0 0) w ?_ ⟨g,β,i1.put o.dst ⟨_,?_,rfl⟩⟩
      ·rw[Mb]
       exact vh (P:=P) hT hX hi hlen (P2 w rfl)
      ·simp only[V]
       have nO:=gI s id (.obj (v+1) fr (.vec e t' [])) lg
       refine⟨_,_,rfl,aE _,λhh=>by simp at hh,⟨by show(s.bJ id _).dx id≠none;rw[nO];simp,λv' fr' c' hh=> ?_⟩,λ_=> ?_⟩
       ·have hh':(s.bJ id (.obj (v+1) fr (.vec e t' []))).dx id=some (.obj v' fr' c'):=hh
        rw[nO]at hh'
        simp only[aD,gT.obj.injEq]at hh'
        omega
       ·show(match β id with
         |some pl=>_
         |none=>_)
        rw[hp]
        exact⟨rfl,by simp,rfl⟩
     ·obtain⟨cur,cp,hr,q1,q2,q3,q4⟩:=grow none 0 0 [] [] Mb (by simp) rfl rfl rfl (by omega) H8
      refine fin _ _ hr (fresh cur cp g (Trans.trans (Trans.drew w g) (Trans.alloc w.drew g _ _)) (λ_ _ _ _ _ _ _ _=>rfl) q1 q2 q3 ?_ (by simp))
      rw[q4]
      simpa using fI
    |some pl=>
     rw[hp]at hO' hcur'
     simp only at hO' hcur'
     obtain⟨K5,zE⟩:=hcur'
     have K5:=K5 (.inr trivial)
     have zE:=zE trivial trivial
     subst K5 zE
     obtain⟨cur,k,p1,p2,p3,p4,p5,p6,p7,p8⟩:=hO'
     have hk:k<=len*t'.size:=by
      rcases Rm with hf | hf
      ·rw[p7 hf];exact bm _
      ·rw[hf];exact p6
     have hmul:len*t'.size<=l.length*t'.size:=eR _ Pd
     have WZ:l.length*t'.size<=cur.size:=by rw[p2];exact eR _ p3
     have RC:=cd.take (λ_ _ hx=>eX.size hx) len p8
     rw[mh,jJ hmul]at RC
     have Ce:(cur.toList.take (len*t'.size)).length=len*t'.size:=by simp;omega
     by_cases xk:len+m.length<=pl.cap
     ·have X9:(len+m.length)*t'.size<=cur.size:=by rw[p2];exact eR _ xk
      have Fl:len*i.size+news.length<=cur.size:=by rw[La,Pe,<-gM];exact X9
      have hr:=Af (P:=P) (w:=w) (ty:=0) hT hX hi p1 h1news hlen (P2 w rfl) xk Fl
      rw[La]at hr Fl
      have ht:Trans w (w.setRow pl.b (fo cur.toList (len*t'.size) news).toArray) g g:=by
       refine⟨by simp,by simp,by simp,by simp,λb' hb=> ?_⟩
       by_cases Fk:b'=pl.b
       ·subst Fk
        rw[p5]
        refine⟨.inr ⟨id,k,rfl,aE _⟩,λoff u Pg hu=> ?_⟩
        rw[cell_of_row w pl.b off cur e (0,0) p1]at hu
        rw[cell_setRow_same w pl.b off cur _ e (0,0) p1]
        simp only[fo,bR,List.getElem?_toArray]
        rw[kk (by rw[Ce];omega),fx,if_pos (by omega)]
        simpa using hu
       ·rw[setRow_other w pl.b b' _ Fk]
        cases Cc:g b' with
        |free=>exact⟨rfl,rfl⟩
        |own o' k=>cases o' with
         |iS=>exact⟨rfl,rfl⟩
         |id i'=>exact⟨.inr ⟨i',k,rfl,aE _⟩,λoff v _ hv=>by rw[cell_setRow_other w pl.b _ _ Fk];exact hv⟩
      have hle:ed (s.env w g β) ((s.bJ id (.obj (v+1) fr (.vec e t' (l.take len++m)))).env (w.setRow pl.b (fo cur.toList (len*t'.size) news).toArray) g β):=
       ed.bJ eP (by omega) ht (λ_ _=>rfl) (λ_=>rfl)
      have P4:(l.take len++m).length=len+m.length:=by simp;omega
      have VQ:(fo cur.toList (len*t'.size) news).length=cur.toList.length:=lz (by simpa using Fl)
      have i1:=h.step (fj _ _ _) ht hle (lO.bJ (L4:=og eP λk v1 l e=>by cases e) h.cZ lg hle (λ_ _=>rfl) (λi ver fr c pl2 hi DE H7=>⟨setRow_other w pl.b pl2.b _ (h.apart p5 hi DE H7),rfl⟩) (by
       refine⟨hz,?_⟩
       show(match β id with
        |none=>(l.take len++m)=[]
        |some pl=>_)
       rw[hp]
       refine⟨_,k,setRow_heap w pl.b cur _ e (0,0) p1,by rw[jZ,VQ];simpa using p2,by rw[P4];exact xk,p4,p5,?_,p7,?_⟩
       ·rw[P4,gM];omega
       ·rw[P4,show(fo cur.toList (len*t'.size) news).toArray.toList=fo cur.toList (len*t'.size) news from rfl]
        have e1:(fo cur.toList (len*t'.size) news).take ((len+m.length)*t'.size)=cur.toList.take (len*t'.size)++news:=by
         unfold fo
         have Pb:(cur.toList.take (len*t'.size)++news).length=(len+m.length)*t'.size:=by rw[aj,Ce,Pe,gM]
         rw[<-Pb]
         exact List.take_left
        rw[e1]
        exact(cd.append RC fI).mono λ_ _ hx=>hx.mono hle.mem))
      rw[<-Mb]at hr
      refine fin _ _ hr ⟨g,β,i1.put o.dst ⟨_,?_,rfl⟩⟩
      simp only[V]
      have nO:=gI s id (.obj (v+1) fr (.vec e t' (l.take len++m))) lg
      refine⟨_,_,rfl,xk,λ_=>rfl,⟨by show(s.bJ id _).dx id≠none;rw[nO];simp,λv' fr' c' hh=> ?_⟩,λ_=> ?_⟩
      ·have hh':(s.bJ id (.obj (v+1) fr (.vec e t' (l.take len++m)))).dx id=some (.obj v' fr' c'):=hh
       rw[nO]at hh'
       simp only[aD,gT.obj.injEq]at hh'
       omega
      ·show(match β id with
        |some pl=>_
        |none=>_)
       rw[hp]
       exact⟨λ_=>rfl,λ_ _=>rfl⟩
     ·have Uy:(Builtin.firstCells i.size len (.slice (some ⟨pl.b,0,none⟩) len pl.cap)).run P w.drew= .ok (cur.toList.take (len*t'.size)).toArray w.drew:=by
       refine run_firstCells_some (P:=P) w.drew i.size _ _ _ _ _ (by rw[Ce,La]) (λj u hj=> ?_)
       rw[Addr.add_lit,bl]
       show w.cell? ⟨pl.b,j,none⟩=some u
       rw[cell_of_row w pl.b j cur e (0,0) p1]
       rw[fx]at hj
       split at hj
       ·simpa using hj
       ·cases hj
      obtain⟨cur2,cp,hr,q1,q2,q3,q4⟩:=grow (some ⟨pl.b,0,none⟩) len pl.cap (cur.toList.take (len*t'.size)) (l.take len) Mb Ce (by simp;omega) RC Uy (by omega) H8
      have mw:pl.b < w.heap.size:=(fw.1 p1).1
      have JS:Trans w w.drew g (oK g pl.b .free):=by
       refine⟨rfl,rfl,⟨rfl,Nat.le_succ _⟩,aE _,λb' hb=> ?_⟩
       by_cases Fk:b'=pl.b
       ·subst Fk
        rw[p5,ji]
        exact⟨.inl rfl,λ_ _ _ hh=>hh⟩
       ·rw[jb _ _ _ Fk]
        exact(Trans.drew w g).KK b' hb
      refine fin _ _ hr (fresh cur2 cp (oK g pl.b .free) (Trans.trans JS (Trans.alloc w.drew _ _ _)) (λi ver fr c pl2 hi DE H7=>jb _ _ _ (h.apart p5 hi DE H7)) q1 q2 q3 ?_ Pd)
      rw[q4]
      exact cd.append RC fI
   ·simp only[al]at he
  ·simp only[al]at he
 ·simp only[al]at he
end
end Go.Ab
namespace Go.Ab
abbrev H6:=Id->Nat->Option (Id×Nat)
structure u7(ρ:H6)(E E':Env):Prop where
 mem:qT E E'
 ref:∀id ver r,ρ id ver=some r->E.wZ id ver->E'.wZ r.1 r.2/\(E'.cur r.1 r.2->E.cur id ver/\E'.β r.1=E.β id)
theorem Kf(ρ:H6)(a:aH):(a.ma ρ).agg=a.agg:=by
 cases a with
 |ptr id v p n=>simp only[aH.ma];cases ρ id v <;> rfl
 |di id v p c i l=>simp only[aH.ma];cases ρ id v <;> rfl
 |lb id v=>simp only[aH.ma];cases ρ id v <;> rfl
 |_=>rfl
mutual
theorem Gb{ρ:H6}{E E':Env}(h:u7 ρ E E'):∀ {a:aH} {cs:List Value},V E a cs->V E' (a.ma ρ) cs
 | .undef,_,hv=>by simp only[V]at hv
 | .gone,_,hv=>by simpa only[aH.ma,V]using hv
 | .eU,_,hv=>by simpa only[aH.ma,V]using hv
 | .oX,_,hv=>by simpa only[aH.ma,V]using hv
 | .rK,_,hv=>by simpa only[aH.ma,V]using hv
 | .ue,_,hv=>by simpa only[aH.ma,V]using hv
 | .sb l,_,hv=>by
  simp only[aH.ma,V]at hv ⊢
  obtain⟨b,cap,arr,e,h1,h2,h3,h4,h5⟩:=hv
  obtain⟨h6,h7⟩:=h.mem.fz b _ h3 h4
  exact⟨b,cap,arr,e,h1,h2,h6,h7,h5⟩
 | .d t x,_,hv=>by simp only[aH.ma,V]at hv ⊢;exact hv.mono h.mem
 | .pr a b,_,hv=>by
  simp only[aH.ma,V]at hv ⊢
  obtain⟨ca,cb,e,ha,hb⟩:=hv
  exact⟨ca,cb,e,Gb h ha,Gb h hb⟩
 | .ptr id ver p n,_,hv=>by
  have h1:=hv.one
  simp only[aH.ma]
  cases hr:ρ id ver with
  |none=>
   simp only[V]at hv ⊢
   obtain⟨a,e,_⟩:=hv
   exact⟨_,e,h1 _ (by simp[e])⟩
  |some r=>
   simp only[V]at hv ⊢
   obtain⟨a,e,hb,hc⟩:=hv
   obtain⟨b1,b2⟩:=h.ref id ver r hr hb
   refine⟨a,e,b1,λc=> ?_⟩
   obtain⟨c1,e1⟩:=b2 c
   rw[e1];exact hc c1
 | .gE t x,_,hv=>by
  simp only[aH.ma,V]at hv ⊢
  obtain⟨b,off,vs,e,hr,hx⟩:=hv
  exact⟨b,off,vs,e,hr.mono h.mem,hx.mono h.mem⟩
 | .di id ver p c i len,_,hv=>by
  have h1:=hv.one
  simp only[aH.ma]
  cases hr:ρ id ver with
  |none=>
   simp only[V]at hv ⊢
   obtain⟨a,cap,e,_⟩:=hv
   exact⟨_,e,h1 _ (by simp[e])⟩
  |some r=>
   simp only[V]at hv ⊢
   obtain⟨a,cap,e,hl,hs,hb,hc⟩:=hv
   obtain⟨b1,b2⟩:=h.ref id ver r hr hb
   refine⟨a,cap,e,hl,hs,b1,λc=> ?_⟩
   obtain⟨c1,e1⟩:=b2 c
   rw[e1];exact hc c1
 | .fn f c,_,hv=>by
  simp only[aH.ma,V]at hv ⊢
  obtain⟨vs,e,hc⟩:=hv
  exact⟨vs,e,Ih h hc⟩
 | .cons _ _,_,hv=>by simp only[V]at hv
 | .nil,_,hv=>by simp only[V]at hv
 | .vec ..,_,hv=>by simp only[V]at hv
 | .bx ..,_,hv=>by simp only[V]at hv
 | .lb id ver,_,hv=>by
  have h1:=hv.one
  simp only[aH.ma]
  cases hr:ρ id ver with
  |none=>
   simp only[V]at hv ⊢
   obtain⟨b,e,_⟩:=hv
   exact⟨_,e,h1 _ (by simp[e])⟩
  |some r=>
   simp only[V]at hv ⊢
   obtain⟨b,e,hb,hc⟩:=hv
   obtain⟨b1,b2⟩:=h.ref id ver r hr hb
   refine⟨b,e,b1,λc=> ?_⟩
   obtain⟨c1,e1⟩:=b2 c
   rw[e1];exact hc c1
 | .mp ..,_,hv | .p9 ..,_,hv=>by simp only[V]at hv
theorem Ih{ρ:H6}{E E':Env}(h:u7 ρ E E'):∀ {a:aH} {vs:List Value},VC E a vs->VC E' (a.ma ρ) vs
 | .nil,_,hv=>by simpa only[aH.ma,VC]using hv
 | .cons a b,_,hv=>by
  simp only[aH.ma,VC]at hv ⊢
  obtain⟨v,vs',cs,e,ha,ho,hb⟩:=hv
  exact⟨v,vs',cs,e,Gb h ha,by rw[Kf];exact ho,Ih h hb⟩
 | .undef,_,hv=>by simp only[VC]at hv
 | .gone,_,hv=>by simp only[VC]at hv
 | .eU,_,hv=>by simp only[VC]at hv
 | .oX,_,hv=>by simp only[VC]at hv
 | .rK,_,hv=>by simp only[VC]at hv
 | .ue,_,hv=>by simp only[VC]at hv
 | .sb _,_,hv=>by simp only[VC]at hv
 | .d t x,_,hv=>by simp only[VC]at hv
 | .pr a b,_,hv=>by simp only[VC]at hv
 | .ptr ..,_,hv=>by simp only[VC]at hv
 | .gE ..,_,hv=>by simp only[VC]at hv
 | .di ..,_,hv=>by simp only[VC]at hv
 | .fn ..,_,hv=>by simp only[VC]at hv
 | .vec ..,_,hv=>by simp only[VC]at hv
 | .bx ..,_,hv=>by simp only[VC]at hv
 | .lb ..,_,hv=>by simp only[VC]at hv
 | .mp ..,_,hv | .p9 ..,_,hv=>by simp only[VC]at hv
end
theorem BH{ρ:H6}{E E':Env}(h:u7 ρ E E'){a:aH}{v:Value}(hv:VS E a v):VS E' (a.ma ρ) v:=by
 by_cases hc:a.iA=true
 ·obtain⟨cs,h1,h2⟩:=hv.iA hc
  exact VS.of (Gb h h1) (by rw[Kf];exact h2)
 ·cases a <;> first | (exact absurd rfl hc) | skip
  ·trivial
  ·obtain⟨vs,e,VZ⟩:=hv
   have:=Ih h VZ
   simp only[aH.ma]at this ⊢
   exact⟨vs,e,this⟩
  ·exact hv
  ·obtain⟨cs,h1,_⟩:=hv
   simp only[V]at h1
  ·obtain⟨cs,h1,_⟩:=hv
   simp only[V]at h1
  ·obtain⟨cs,h1,_⟩:=hv
   simp only[V]at h1
  ·obtain⟨cs,h1,_⟩:=hv
   simp only[V]at h1
theorem LC(ρ:H6)(c:aH):(c.ma ρ).strip=c.strip.ma ρ:=by
 cases c <;> first
  |rfl
  | (rename_i id ver p n;simp only[aH.strip,aH.ma];cases ρ id ver <;> rfl)
  | (rename_i id ver p c i len;simp only[aH.strip,aH.ma];cases ρ id ver <;> rfl)
  | (rename_i i v;simp only[aH.strip,aH.ma];cases ρ i v <;> rfl)
theorem zb(ρ:H6):∀c:aH,(c.ma ρ).size=c.size
 | .pr a b=>by simp only[aH.ma,aH.size,zb ρ a,zb ρ b]
 | .ptr id ver p n=>by simp only[aH.ma];cases ρ id ver <;> rfl
 | .di id ver p c i len=>by simp only[aH.ma];cases ρ id ver <;> rfl
 | .lb id ver=>by simp only[aH.ma];cases ρ id ver <;> rfl
 | .undef | .gone | .eU | .oX | .rK | .ue | .d _ _ | .gE _ _ | .fn _ _ | .cons _ _ | .nil | .vec .. | .sb _ | .bx .. | .mp .. | .p9 .. =>rfl
theorem Mv(ρ:H6){c:aH}(n:Nat):(c.ma ρ).rF n=c.rF n:=by
 cases c with
 |bx e z c=>cases z with
  |zero=>rfl
  |succ z=>exact zb ρ c
 |_=>first | rfl | (simp only[aH.ma];split <;> rfl)
theorem KL(ρ:H6){c:aH}{pl:Pl}{n:Nat}{e:TypeId}(h:c.vF pl n e):(c.ma ρ).vF pl n e:=by
  cases c <;> first
    | (rename_i e' z c;cases z with
       |zero=>exact h
       |succ z=>exact⟨h.1,h.2.1,h.2.2.1,by rw[zb];exact h.2.2.2⟩)
    |exact h
    |trivial
    | (rename_i id ver p n;simp only[aH.ma];cases ρ id ver <;> trivial)
    | (rename_i id ver p c i len;simp only[aH.ma];cases ρ id ver <;> trivial)
    | (rename_i i v;simp only[aH.ma];cases ρ i v <;> trivial)
theorem tQ{ρ:H6}{E E':Env}(h:u7 ρ E E'){id id':Id}{fr:Bool}{c:aH}(ho:rE E id fr c)(hβ:E'.β id'=E.β id)
  (hb:∀pl,E.β id=some pl->E'.w.heap[pl.b]? =E.w.heap[pl.b]? /\(∀k,E.g pl.b= .own (.id id) k->E'.g pl.b= .own (.id id') k)/\(E.g pl.b= .free->E'.g pl.b= .free)):rE E' id' fr (c.ma ρ):=by
 by_cases hn:c.ky=false
 ·obtain⟨pl,cur,e,h1,h2,h3,h5,h4⟩:=ho.box hn
  obtain⟨b1,b2,b3⟩:=hb pl h1
  have h6:=Gb h h4
  refine zk.obj ⟨pl,cur,e,by rw[hβ,h1],by rw[b1,h2],?_,KL ρ h5,by rw[LC,Mv];exact h6⟩
  cases fr with
  |true=>exact b3 h3
  |false=>exact b2 0 h3
 ·cases c <;> first
   | (exact absurd rfl hn)
   |skip
  rotate_left
  rotate_left
  ·obtain⟨pl,mb,since,seen,c0,h1,h2,h3,_⟩:=ho
   obtain⟨b1,b2,_⟩:=hb pl h1
   exact⟨pl,mb,since,seen,c0,by rw[hβ,h1],by rw[b1,h2],b2 0 h3,λvr Ma=>by cases Ma⟩
  rotate_left
  ·obtain⟨pl,es,clock,h1,h2,h3,h4⟩:=ho
   obtain⟨b1,b2,_⟩:=hb pl h1
   exact⟨pl,es,clock,by rw[hβ,h1],by rw[b1,h2],b2 0 h3,⟨h4.1.1.mono h.mem,h4.1.2⟩,h4.2⟩
  rename_i e t l
  obtain⟨hz,ho⟩:=ho
  refine⟨hz,?_⟩
  rw[hβ]
  cases hp:E.β id with
  |none=>rw[hp]at ho;exact ho
  |some pl=>
   rw[hp]at ho
   simp only at ho ⊢
   obtain⟨b1,b2,_⟩:=hb pl hp
   obtain⟨cur,k,h1,h2,h3,h4,h5,h6,h7,h8⟩:=ho
   exact⟨cur,k,by rw[b1,h1],h2,h3,h4,b2 k h5,h6,h7,h8.mono λc x hx=>hx.mono h.mem⟩
def yg(E:Env):List aH->List Value->Prop
 |[],[]=>True
 |a::as,v::vs=>VS E a v/\yg E as vs
 |_,_=>False
def aX.st(G:aX):AS:= {dW:=[],ez:=G.ez,news:=[G.news]}
def oE(ez:List gT):AS:= {dW:=[],ez,news:=[]}
def vu(E:Env)(G:aX)(v:Value)(w':World):Prop:=
 ∃g' β',VS (G.st.env w' g' β') G.val v/\lO (G.st.env w' g' β')/\Trans E.w w' E.g g'/\ed E (G.st.env w' g' β')
def qq(P:Program)(f:FuncId)(en:Entry):Prop:=
 ∀w g β args ez mS x,yg ((oE ez).env w g β) args mS->lO ((oE ez).env w g β)->en.run args ez=some x->
  ((callFunc f mS.toArray).run P w= .ok (.enter f mS.toArray) w/\
   Calls P f mS.toArray w λe w'=>∃v,e= .returned v/\vu ((oE ez).env w g β) (en.out args ez x) v w')\/
  (∃v w',(callFunc f mS.toArray).run P w= .ok (.value v) w'/\vu ((oE ez).env w g β) (en.out args ez x) v w')
def Sound(P:Program)(Γ:fD):Prop:=∀f vs en,Γ f vs=some en->qq P f en
theorem yg.mono{E E':Env}(h:ed E E'):∀ {as:List aH} {vs:List Value},yg E as vs->yg E' as vs
 |[],[],_=>trivial
 |_::_,_::_,⟨h1,h2⟩=>⟨h1.mono h,yg.mono h h2⟩
theorem yg.ma{ρ:H6}{E E':Env}(h:u7 ρ E E'):∀ {as:List aH} {vs:List Value},yg E as vs->yg E' (as.map (aH.ma ρ)) vs
 |[],[],_=>trivial
 |_::_,_::_,⟨h1,h2⟩=>⟨BH h h1,yg.ma h h2⟩
theorem yg.append{E:Env}:∀ {as:List aH} {vs:List Value} {bs:List aH} {us:List Value},yg E as vs->yg E bs us->yg E (as++bs) (vs++us)
 |[],[],_,_,_,h=>h
 |_::_,_::_,_,_,⟨h1,h2⟩,h=>⟨h1,yg.append h2 h⟩
theorem Mm{E:Env}:∀ {c:aH} {vs:List Value},VC E c vs->yg E c.list vs
 | .cons a b,vs,h=>by
  simp only[VC]at h
  obtain⟨v,vs',cs,rfl,ha,ho,hb⟩:=h
  exact⟨VS.of ha ho,Mm hb⟩
 | .nil,vs,h=>by
  simp only[VC]at h
  subst h
  trivial
 | .undef,_,hv=>by simp only[VC]at hv
 | .gone,_,hv=>by simp only[VC]at hv
 | .eU,_,hv=>by simp only[VC]at hv
 | .oX,_,hv=>by simp only[VC]at hv
 | .rK,_,hv=>by simp only[VC]at hv
 | .ue,_,hv=>by simp only[VC]at hv
 | .sb _,_,hv=>by simp only[VC]at hv
 | .d t x,_,hv=>by simp only[VC]at hv
 | .pr a b,_,hv=>by simp only[VC]at hv
 | .ptr ..,_,hv=>by simp only[VC]at hv
 | .gE ..,_,hv=>by simp only[VC]at hv
 | .di ..,_,hv=>by simp only[VC]at hv
 | .fn ..,_,hv=>by simp only[VC]at hv
 | .vec ..,_,hv=>by simp only[VC]at hv
 | .bx ..,_,hv=>by simp only[VC]at hv
 | .lb ..,_,hv=>by simp only[VC]at hv
 | .mp ..,_,hv | .p9 ..,_,hv=>by simp only[VC]at hv
theorem Inv.WI{C:Ctx}{g:Nat->nZ}{β:Id->Option Pl}{s:AS}{a:Act}{w:World}(h:Inv C g β s a w):∀l:List Operand,yg (s.env w g β) (l.map s.ev) (l.map a.eval)
 |[]=>trivial
 |x::l=>⟨h.ev x,h.WI l⟩
theorem BS{E E':Env}{s:AS}(hs:E.s=s.dx)(ho:lO E)(he:ed E E'):∀(ps:List (Option Ty)) (vs:List aH) (ys:List Value) (r:List aH×List Id),yg E vs ys->(s.conv ps vs).eval=some r->SO E E' r.2->yg E' r.1 ys
 |[],[],ys,r,hv,h,_=>by
  simp only[AS.conv,aB]at h
  subst h
  cases ys with
  |nil=>trivial
  |cons _ _=>exact hv.elim
 |some t::ps,v::vs,y::ys,r,⟨hv,Ch⟩,h,hf=>by
  simp only[AS.conv]at h
  obtain⟨x,h1,h2⟩:=aw.1 h
  obtain⟨r',h3,h4⟩:=aw.1 h2
  obtain rfl:=aB.1 h4
  obtain⟨cs,hV,hO⟩:=hv.iA (tp h1)
  refine⟨VS.of (cs:=cs) ?_ ?_,BS hs ho he ps vs ys r' Ch h3 λid eY=>hf id (cf.2 (.inr eY))⟩
  ·simp only[V]
   exact rC hs ho he v t x cs hV h1 λid eY=>hf id (cf.2 (.inl eY))
  ·show jK t.agg cs y
   rw[<-Dd h1];exact hO
 |none::ps,v::vs,y::ys,r,⟨hv,Ch⟩,h,hf=>by
  simp only[AS.conv]at h
  obtain⟨r',h3,h4⟩:=aw.1 h
  obtain rfl:=aB.1 h4
  exact⟨hv.mono he,BS hs ho he ps vs ys r' Ch h3 hf⟩
 |[],_::_,_,_,_,h,_=>by simp only[AS.conv,al]at h
 |some _::_,[],_,_,_,h,_=>by simp only[AS.conv,al]at h
 |none::_,[],_,_,_,h,_=>by simp only[AS.conv,al]at h
end Go.Ab
namespace Go.Ab
theorem px{id:Id}:∀ {ids:List Id} {k:Nat},idxOf id ids=some k->ids[k]? =some id
 |[],_,h=>by simp[idxOf]at h
 |x::xs,k,h=>by
  simp only[idxOf]at h
  split at h
  ·rename_i e
   simp only[aD]at h
   subst h e
   rfl
  ·simp only[iG]at h
   obtain⟨j,hj,rfl⟩:=h
   simpa using px hj
theorem s9{id:Id}:∀ {ids:List Id} {k:Nat},ids.Nodup->ids[k]? =some id->idxOf id ids=some k
 |[],_,_,h=>by simp at h
 |x::xs,0,hn,h=>by
  simp only[iU,aD]at h
  simp[idxOf,h]
 |x::xs,k+1,hn,h=>by
  simp only[mg]at h
  obtain⟨h1,h2⟩:=fV.1 hn
  have lg:x≠id:=λe=>h1 (e▸eQ h)
  simp[idxOf,lg,s9 h2 h]
theorem tO(s0:AS)(all:List Id)(t:Nat):∀(ids:List Id) (es:List gT) (s:AS),(AS.lk s0 all t s ids es).dW=s.dW
 |[],_,_=>by simp[AS.lk]
 |_::_,[],_=>by simp[AS.lk]
 |id::ids,e::es,s=>by rw[AS.lk,tO s0 all t ids es,fj]
theorem C5(s:AS)(ids:List Id)(t:Nat)(es:List gT):(s.made ids t es).dW=s.dW:=by cases es <;> rfl
theorem vK(s0:AS)(all:List Id)(t:Nat):∀(ids:List Id) (es:List gT) (s:AS),ids.Nodup->es.length=ids.length->(∀id∈ids,s.dx id≠none)->
  (∀id,id ∉ ids->(AS.lk s0 all t s ids es).dx id=s.dx id)/\
  ∀(k:Nat) (id:Id) (e:gT),ids[k]? =some id->es[k]? =some e->(AS.lk s0 all t s ids es).dx id=some (s0.pn all t (s0.tr id) e)
 |[],es,s,_,_,_=>⟨λ_ _=>by simp[AS.lk],λk id e h=>by simp at h⟩
 |_::_,[],s,_,hl,_=>by simp at hl
 |i::ids,e::es,s,hn,hl,hp=>by
  obtain⟨h1,h2⟩:=fV.1 hn
  have hp':∀id∈ids,(s.bJ i (s0.pn all t (s0.tr i) e)).dx id≠none:=λid eY=>by
   rw[dX s i id _ (λe=>h1 (e▸eY))]
   exact hp id (bj _ eY)
  obtain⟨r1,r2⟩:=vK s0 all t ids es (s.bJ i (s0.pn all t (s0.tr i) e)) h2 (by simpa using hl) hp'
  rw[AS.lk]
  refine⟨λid eY=> ?_,λk id e' hk he=> ?_⟩
  ·simp only[cE,not_or]at eY
   rw[r1 id eY.2,dX s i id _ eY.1]
  ·cases k with
   |zero=>
    simp only[iU,aD]at hk he
    subst hk he
    rw[r1 i h1,gI s i _ (hp i (bh ..))]
   |succ k=>
    simp only[mg]at hk he
    exact r2 k id e' hk he
theorem Gz(s:AS)(ids:List Id)(t:Nat)(es:List gT)(hv:es=[]\/s.gd t=true):
  (∀id,(es=[]\/∀j,id≠ .new t j)->(s.made ids t es).dx id=s.dx id)/\(es≠ []->∀j,(s.made ids t es).dx (.new t j)=(es[j]?).map (s.pn ids t 0)):=by
 cases es with
 |nil=>exact⟨λ_ _=>rfl,λh=>absurd rfl h⟩
 |cons e es=>
  have hv:s.gd t=true:=by
   rcases hv with h | h
   ·cases h
   ·exact h
  refine⟨λid h=> ?_,λ_ j=> ?_⟩
  ·rcases h with h | h
   ·cases h
   ·exact kO _ h
  ·rw[AS.made,sa (lI hv).2,jY]
def nP(ids:List Id):nZ->nZ
 | .free=> .free
 | .own .iS n=> .own .iS n
 | .own (.id i) n=>match idxOf i ids with | some k=> .own (.id (.ew k)) n | none=> .own .iS n
def wU(β:Id->Option Pl)(ids:List Id):Id->Option Pl
 | .ew k=>(ids[k]?).bind β
 | .new _ _=>none
def nq(g:Nat->nZ)(size:Nat)(ids:List Id)(t:Nat)(b:Nat):nZ->nZ
 | .free=> .free
 | .own .iS n=>if b < size then g b else .own .iS n
 | .own (.id i) n=> .own (.id (Qc ids t i)) n
def ri(β β':Id->Option Pl)(ids:List Id)(t:Nat)(some?:Bool)(id:Id):Option Pl:=
 match idxOf id ids with
 |some k=>β' (.ew k)
 |none=>match id with
  | .new i j=>if i=t/\some?=true then β' (.new 0 j) else β (.new i j)
  |id=>β id
theorem Nf{ids:List Id}{l:nZ}{off:Nat}(h:rh (λ_=>l) 0 off):rh (λ_=>nP ids l) 0 off:=by
 cases l with
 |free=>trivial
 |own o k=>cases o with
  |iS=>exact h
  |id i=>simp only[nP];cases idxOf i ids <;> exact h
section
variable {P:Program} {C:Ctx} {g:Nat->nZ} {β:Id->Option Pl} {s:AS} {a:Act} {w:World} {o:Oper}
theorem Qd(ids:List Id):
  u7 (s.rT ids) (s.env w g β) ((oE (ids.map (s.nL ids))).env w (λb=>nP ids (g b)) (wU β ids)):=by
 refine⟨⟨λb off v ⟨h1,h2⟩=>⟨h1,?_⟩,λb ob h1 h2=>⟨by show nP ids (g b)= .free;have h1:g b= .free:=h1;rw[h1];rfl,h2⟩⟩,λid ver r hr _=> ?_⟩
 ·exact Nf (l:=g b) h2
 ·unfold AS.rT at hr
  split at hr
  ·rename_i k v fr c hk ho
   split at hr
   ·rename_i TW
    simp only[aD]at hr
    subst hr TW
    have eY:=px hk
    have eP:=gC ho
    refine⟨⟨?_,λ_ _ _ _=>bm _⟩,λ_=>⟨⟨fr,c,eP⟩,?_⟩⟩
    ·show(ids.map (s.nL ids))[k]? ≠none
     simp[eY]
    ·show(ids[k]?).bind β=β id
     rw[eY];rfl
   ·cases hr
  ·cases hr
theorem Po(ids:List Id)(hn:ids.Nodup)(h:lO (s.env w g β)):lO ((oE (ids.map (s.nL ids))).env w (λb=>nP ids (g b)) (wU β ids)):=by
 intro id ver fr c eY
 have eY:(oE (ids.map (s.nL ids))).dx id=some (.obj ver fr c):=eY
 cases id with
 |new i j=>simp[oE,AS.dx]at eY
 |ew k=>
  simp only[oE,AS.dx,jY,iG]at eY
  obtain⟨id1,hk,he⟩:=eY
  unfold AS.nL at he
  split at he
  ·rename_i v fr1 c1 eP
   simp only[gT.obj.injEq]at he
   obtain⟨rfl,rfl,rfl⟩:=he
   refine tQ (Qd ids) (h id1 v fr1 c1 eP) (by show(ids[k]?).bind β=β id1;rw[hk];rfl) λpl hp=>⟨rfl,λn hg=> ?_,λhg=> ?_⟩
   ·have hg:g pl.b= .own (.id id1) n:=hg
    show nP ids (g pl.b)=_
    rw[hg]
    simp[nP,s9 hn hk]
   ·have hg:g pl.b= .free:=hg
    show nP ids (g pl.b)=_
    rw[hg];rfl
  ·cases he
theorem BM(h:Inv C g β s a w){ids:List Id}(hn:ids.Nodup)(hp:∀id∈ids,∃r,s.obj id=some r)(Ce:∀id∈ids,s.Cr id=true){G:aX}{t:Nat}(hl:G.ez.length=ids.length)(hv:G.news=[]\/s.gd t=true){v:Value}{w':World}
  (ha:vu ((oE (ids.map (s.nL ids))).env w (λb=>nP ids (g b)) (wU β ids)) G v w'):
  ∃g' β',Inv C g' β' (AS.lk s ids t (s.made ids t G.news) ids G.ez) a w'/\VS ((AS.lk s ids t (s.made ids t G.news) ids G.ez).env w' g' β') (G.val.ma (s.qG ids t)) v:=by
 obtain⟨g1,β1,sF,P8,IM,hle⟩:=ha
 have IM:Trans w w' (λb=>nP ids (g b)) g1:=IM
 obtain⟨m1,m2⟩:=Gz s ids t G.news hv
 have VH:∀id∈ids,s.dx id≠none:=λid eY=>by
  obtain⟨⟨v,fr,c⟩,hr⟩:=hp id eY
  rw[gC hr];simp
 have uJ:∀id,s.dx id≠none->G.news=[]\/∀j,id≠ .new t j:=λid eY=>by
  rcases hv with hv | hv
  ·exact .inl hv
  ·exact .inr λj e=>eY (by rw[e];exact(lI hv).1 j)
 obtain⟨n1,n2⟩:=vK s ids t ids G.ez (s.made ids t G.news) hn hl (λid eY=>by rw[m1 id (uJ id (VH id eY))];exact VH id eY)
 have TX:∀j,G.news≠ []->Id.new t j ∉ ids:=λj lg eY=>by
  rcases hv with hv | hv
  ·exact lg hv
  ·exact VH _ eY ((lI hv).1 j)
 generalize DE:AS.lk s ids t (s.made ids t G.news) ids G.ez=s2 at*
 have hgO:∀(k:Nat) (id:Id),ids[k]? =some id->∃e,G.ez[k]? =some e/\s2.dx id=some (s.pn ids t (s.tr id) e):=λk id hk=>by
  have mw:k < G.ez.length:=by rw[hl];exact(fK.1 hk).1
  exact⟨_,dC mw,n2 k id _ hk (dC mw)⟩
 have hgN:G.news≠ []->∀j,s2.dx (.new t j)=(G.news[j]?).map (s.pn ids t 0):=λlg j=>by
  rw[n1 _ (TX j lg),m2 lg j]
 have hgS:∀id,id ∉ ids->(G.news=[]\/∀j,id≠ .new t j)->s2.dx id=s.dx id:=λid h1 h2=>by
  rw[n1 id h1,m1 id h2]
 have hverOf:∀id∈ids,∃fr c,s.dx id=some (.obj (s.tr id) fr c):=λid eY=>by
  obtain⟨⟨v,fr,c⟩,hr⟩:=hp id eY
  refine⟨fr,c,?_⟩
  rw[gC hr]
  simp[AS.tr,hr]
 have Vc:∀b n,b < w.heap.size->g1 b= .own .iS n->(g b= .own .iS n\/∃i,g b= .own (.id i) n/\idxOf i ids=none):=λb n hb hg=>by
  have h1:=IM.KK b hb
  cases Cc:g b with
  |free=>simp only[Cc,nP]at h1;rw[h1.1]at hg;cases hg
  |own o k=>cases o with
   |iS=>simp only[Cc,nP]at h1;rw[h1.1]at hg;left;exact hg
   |id i=>
    cases hi:idxOf i ids with
    |none=>
     simp only[Cc,nP,hi]at h1
     rw[h1.1]at hg
     simp only[nZ.own.injEq,true_and]at hg
     subst hg
     exact .inr ⟨i,rfl,hi⟩
    |some k'=>
     simp only[Cc,nP,hi]at h1
     rcases h1.1 with h2 | ⟨_,_,h2,_⟩ <;> (rw[h2]at hg;cases hg)
 let g2:Nat->nZ:=λb=>nq g w.heap.size ids t b (g1 b)
 let β2:Id->Option Pl:=ri β β1 ids t (!G.news.isEmpty)
 have hβO:∀k id,ids[k]? =some id->β2 id=β1 (.ew k):=λk id hk=>by
  show ri _ _ _ _ _ id=_
  simp[ri,s9 hn hk]
 have hβN:G.news≠ []->∀j,β2 (.new t j)=β1 (.new 0 j):=λlg j=>by
  show ri _ _ _ _ _ _=_
  have:idxOf (.new t j) ids=none:=by
   cases hi:idxOf (.new t j) ids with
   |none=>rfl
   |some k=>exact absurd (eQ (px hi)) (TX j lg)
  have hne':G.news.isEmpty=false:=by cases hh:G.news with
   |nil=>exact absurd hh lg
   |cons _ _=>rfl
  simp[ri,this,hne']
 have hβS:∀id,id ∉ ids->(G.news=[]\/∀j,id≠ .new t j)->β2 id=β id:=λid h1 h2=>by
  show ri _ _ _ _ _ _=_
  have:idxOf id ids=none:=by
   cases hi:idxOf id ids with
   |none=>rfl
   |some k=>exact absurd (eQ (px hi)) h1
  cases id with
  |ew k=>simp[ri,this]
  |new i j=>
   have:¬(i=t/\(!G.news.isEmpty)=true):=by
    rintro⟨rfl,h3⟩
    rcases h2 with h2 | h2
    ·rw[h2]at h3;cases h3
    ·exact h2 j rfl
   simp only[ri, *,if_false]
 have TS:Trans w w' g g2:=by
  refine⟨IM.os,IM.tape,IM.output,IM.size,λb hb=> ?_⟩
  have h1:=IM.KK b hb
  show match g b with | .free=>nq g w.heap.size ids t b (g1 b)= .free/\_ | .own .iS k=>nq g w.heap.size ids t b (g1 b)= .own .iS k/\_ | .own (.id _) k=>(nq g w.heap.size ids t b (g1 b)= .free\/∃i k',nq g w.heap.size ids t b (g1 b)= .own (.id i) k'/\k<=k')/\_
  cases Cc:g b with
  |free=>simp only[Cc,nP]at h1 ⊢;rw[h1.1];exact⟨rfl,h1.2⟩
  |own o k=>cases o with
   |iS=>simp only[Cc,nP]at h1 ⊢;rw[h1.1];simp only[nq,hb,if_true,Cc];exact⟨trivial,h1.2⟩
   |id i=>
    cases hi:idxOf i ids with
    |none=>
     simp only[Cc,nP,hi]at h1 ⊢
     rw[h1.1]
     simp only[nq,hb,if_true,Cc]
     exact⟨.inr ⟨i,k,rfl,aE _⟩,λoff v _ hv=>by simpa only[World.cell?,h1.2]using hv⟩
    |some k'=>
     simp only[Cc,nP,hi]at h1 ⊢
     refine⟨?_,h1.2⟩
     rcases h1.1 with h2 | ⟨i',k'',h2,h3⟩
     ·rw[h2];exact .inl rfl
     ·rw[h2];exact .inr ⟨_,k'',rfl,h3⟩
 have vR:qT (G.st.env w' g1 β1) (s2.env w' g2 β2):=by
  refine⟨λb off v ⟨h1,h2⟩=> ?_,λb ob h1 h2=>⟨by show nq g w.heap.size ids t b (g1 b)= .free;have h1:g1 b= .free:=h1;rw[h1];rfl,h2⟩⟩
  refine⟨h1,?_⟩
  have h2:rh g1 b off:=h2
  show rh g2 b off
  unfold rh at h2 ⊢
  show match nq g w.heap.size ids t b (g1 b) with | .free=>True | .own _ k=>off < k
  cases Cc:g1 b with
  |free=>simp[nq]
  |own o k=>
   rw[Cc]at h2
   cases o with
   |iS=>
    simp only[nq]
    by_cases hb:b < w.heap.size
    ·rw[if_pos hb]
     rcases Vc b k hb Cc with h3 | ⟨i,h3,_⟩ <;> (rw[h3];exact h2)
    ·rw[if_neg hb];exact h2
   |id i=>exact h2
 have hentOut:∀(base:Nat) (e:gT) (ver:Nat) (fr:Bool) (c:aH),s.pn ids t base e= .obj ver fr c->∃v0 c0,e= .obj v0 fr c0/\ver=base+v0/\c=c0.ma (s.qG ids t):=λbase e ver fr c he=>by
  cases e with
  |dead=>cases he
  |obj v0 fr0 c0=>
   simp only[AS.pn,gT.obj.injEq]at he
   obtain⟨rfl,rfl,rfl⟩:=he
   exact⟨v0,c0,rfl,rfl,rfl⟩
 have IK:u7 (s.qG ids t) (G.st.env w' g1 β1) (s2.env w' g2 β2):=by
  refine⟨vR,λid ver r hr hb=> ?_⟩
  cases id with
  |ew k=>
   obtain⟨yi,Dn⟩:=hb
   have yi:G.ez[k]? ≠none:=yi
   have hk:k < ids.length:=by
    rcases pW k ids.length with h' | h'
    ·exact h'
    ·exact absurd (ik (by omega)) yi
   have eY:ids[k]? =some ids[k]:=dC hk
   simp only[AS.qG,eY,aD]at hr
   subst hr
   obtain⟨e,yz,Dp⟩:=hgO k _ eY
   refine⟨⟨by show s2.dx _≠none;rw[Dp];simp,λv fr c hh=> ?_⟩,λ⟨fr,c,hh⟩=>⟨?_,hβO k _ eY⟩⟩
   ·have hh:s2.dx ids[k]=some (.obj v fr c):=hh
    rw[Dp,aD]at hh
    obtain⟨v0,c0,rfl,rfl,_⟩:=hentOut _ _ _ _ _ hh
    have:=Dn v0 fr c0 yz
    omega
   ·have hh:s2.dx ids[k]=some (.obj (s.tr ids[k]+ver) fr c):=hh
    rw[Dp,aD]at hh
    obtain⟨v0,c0,rfl,Qa,_⟩:=hentOut _ _ _ _ _ hh
    obtain rfl:ver=v0:=by omega
    exact⟨fr,c0,yz⟩
  |new i j=>
   simp only[AS.qG,aD]at hr
   subst hr
   obtain⟨yi,Dn⟩:=hb
   have yi:([G.news].getD i [])[j]? ≠none:=yi
   have Dn:∀v fr c,([G.news].getD i [])[j]? =some (.obj v fr c)->ver<=v:=Dn
   cases i with
   |succ i=>simp at yi
   |zero=>
    simp only[mf]at yi Dn
    have lg:G.news≠ []:=λe=>by rw[e]at yi;simp at yi
    obtain⟨e,he⟩:=Option.ne_none_iff_exists'.1 yi
    have Dp:=hgN lg j
    rw[he,jc]at Dp
    refine⟨⟨by show s2.dx (.new t j)≠none;rw[Dp];simp,λv fr c hh=> ?_⟩,λ⟨fr,c,hh⟩=>⟨?_,hβN lg j⟩⟩
    ·have hh:s2.dx (.new t j)=some (.obj v fr c):=hh
     rw[Dp,aD]at hh
     obtain⟨v0,c0,rfl,rfl,_⟩:=hentOut _ _ _ _ _ hh
     have:=Dn v0 fr c0 he
     simp only
     omega
    ·have hh:s2.dx (.new t j)=some (.obj ver fr c):=hh
     rw[Dp,aD]at hh
     obtain⟨v0,c0,rfl,Qa,_⟩:=hentOut _ _ _ _ _ hh
     obtain rfl:ver=v0:=by omega
     exact⟨fr,c0,he⟩
 have TI:ed (s.env w g β) (s2.env w' g2 β2):=by
  refine⟨Trans.mem TS,λid ver hb=> ?_,λid ver hb hc=> ?_⟩
  ·obtain⟨yi,Dn⟩:=hb
   have yi:s.dx id≠none:=yi
   have Dn:∀v fr c,s.dx id=some (.obj v fr c)->ver<=v:=Dn
   by_cases eY:id∈ids
   ·obtain⟨k,hk⟩:=lM.1 eY
    obtain⟨e,yz,Dp⟩:=hgO k id hk
    obtain⟨fr1,c1,zF⟩:=hverOf id eY
    refine⟨by show s2.dx _≠none;rw[Dp];simp,λv fr c hh=> ?_⟩
    have hh:s2.dx id=some (.obj v fr c):=hh
    rw[Dp,aD]at hh
    obtain⟨v0,c0,rfl,rfl,_⟩:=hentOut _ _ _ _ _ hh
    have:=Dn _ _ _ zF
    omega
   ·have:=hgS id eY (uJ id yi)
    exact⟨by show s2.dx _≠none;rw[this];exact yi,λv fr c hh=>Dn v fr c (this.symm.trans hh)⟩
  ·obtain⟨yi,Dn⟩:=hb
   have yi:s.dx id≠none:=yi
   have Dn:∀v fr c,s.dx id=some (.obj v fr c)->ver<=v:=Dn
   obtain⟨fr,c,hh⟩:=hc
   have hh:s2.dx id=some (.obj ver fr c):=hh
   by_cases eY:id∈ids
   ·obtain⟨k,hk⟩:=lM.1 eY
    obtain⟨e,yz,Dp⟩:=hgO k id hk
    obtain⟨fr1,c1,zF⟩:=hverOf id eY
    rw[Dp,aD]at hh
    obtain⟨v0,c0,rfl,Qa,_⟩:=hentOut _ _ _ _ _ hh
    have TW:=Dn _ _ _ zF
    obtain rfl:v0=0:=by omega
    have hver':ver=s.tr id:=by omega
    refine⟨⟨fr1,c1,by rw[hver'];exact zF⟩,?_⟩
    show β2 id=β id
    rw[hβO k id hk]
    have TC:s.nL ids id= .obj 0 fr1 (c1.ma (s.rT ids)):=by simp[AS.nL,zF]
    have h0:((oE (ids.map (s.nL ids))).env w (λb=>nP ids (g b)) (wU β ids)).wZ (.ew k) 0:=by
     refine⟨?_,λ_ _ _ _=>bm _⟩
     show(ids.map (s.nL ids))[k]? ≠none
     simp[hk]
    have:=(hle.cur (.ew k) 0 h0 ⟨fr,c0,yz⟩).2
    have this:β1 (.ew k)=(ids[k]?).bind β:=this
    rw[this,hk];rfl
   ·have:=hgS id eY (uJ id yi)
    exact⟨⟨fr,c,this.symm.trans hh⟩,hβS id eY (uJ id yi)⟩
 have TN:lO (s2.env w' g2 β2):=by
  intro id ver fr c hh
  have hh:s2.dx id=some (.obj ver fr c):=hh
  by_cases eY:id∈ids
  ·obtain⟨k,hk⟩:=lM.1 eY
   obtain⟨e,yz,Dp⟩:=hgO k id hk
   rw[Dp,aD]at hh
   obtain⟨v0,c0,rfl,_,rfl⟩:=hentOut _ _ _ _ _ hh
   refine tQ IK (P8 (.ew k) v0 fr c0 yz) (hβO k id hk) λpl _=>⟨rfl,λn hg=> ?_,λhg=> ?_⟩
   ·have hg:g1 pl.b= .own (.id (.ew k)) n:=hg
    show nq g w.heap.size ids t pl.b (g1 pl.b)=_
    rw[hg]
    simp[nq,Qc,aY,hk]
   ·have hg:g1 pl.b= .free:=hg
    show nq g w.heap.size ids t pl.b (g1 pl.b)=_
    rw[hg];rfl
  ·by_cases lg:G.news≠ []/\∃j,id= .new t j
   ·obtain⟨lg,j,rfl⟩:=lg
    rw[hgN lg j,iG]at hh
    obtain⟨e,he,hh⟩:=hh
    obtain⟨v0,c0,rfl,_,rfl⟩:=hentOut _ _ _ _ _ hh
    refine tQ IK (P8 (.new 0 j) v0 fr c0 (by show([G.news].getD 0 [])[j]? =_;simpa using he)) (hβN lg j) λpl _=>⟨rfl,λn hg=> ?_,λhg=> ?_⟩
    ·have hg:g1 pl.b= .own (.id (.new 0 j)) n:=hg
     show nq g w.heap.size ids t pl.b (g1 pl.b)=_
     rw[hg]
     rfl
    ·have hg:g1 pl.b= .free:=hg
     show nq g w.heap.size ids t pl.b (g1 pl.b)=_
     rw[hg];rfl
   ·have W1:G.news=[]\/∀j,id≠ .new t j:=by
     by_cases hh:G.news=[]
     ·exact .inl hh
     ·exact .inr λj e=>lg ⟨hh,j,e⟩
    rw[hgS id eY W1]at hh
    have same:∀id,id ∉ ids->∀ver fr c,s.dx id=some (.obj ver fr c)->∀pl,β id=some pl->w'.heap[pl.b]? =w.heap[pl.b]? /\nq g w.heap.size ids t pl.b (g1 pl.b)=g pl.b:=by
     intro id eY ver fr c hh pl wJ
     obtain⟨hb,TH⟩:=(h.cZ id ver fr c hh).label (pl:=pl) wJ
     have hb:pl.b < w.heap.size:=hb
     have h1:=IM.KK pl.b hb
     have Vi:idxOf id ids=none:=by
      cases hi:idxOf id ids with
      |none=>rfl
      |some k=>exact absurd (eQ (px hi)) eY
     rcases TH with⟨k,hk⟩ | ⟨_,hk⟩
     ·have hk:g pl.b= .own (.id id) k:=hk
      simp only[hk,nP,Vi]at h1
      rw[h1.1]
      simp only[nq,hb,if_true]
      exact⟨h1.2,trivial⟩
     ·have hk:g pl.b= .free:=hk
      simp only[hk,nP]at h1
      rw[h1.1,hk]
      exact⟨h1.2,rfl⟩
    have ho:=h.cZ id ver fr c hh
    refine ho.mono TI (hβS id eY W1) (λpl wJ=>same id eY ver fr c hh pl wJ) λq2 vq k2 v2 l2 Bb _=> ?_
    have Bb:s.dx q2=some (.obj vq true (.mp k2 v2 l2)):=Bb
    have P6:q2 ∉ ids:=λhm=>by
     have:=Ce q2 hm
     have e:s.obj q2=some (vq,true,.mp k2 v2 l2):=by simp[AS.obj,Bb]
     unfold AS.Cr at this
     rw[e]at this
     cases this
    refine⟨⟨k2,v2,l2,?_⟩,λpl wJ=>same q2 P6 vq true _ Bb pl wJ⟩
    show s2.dx q2=_
    rw[hgS q2 P6 (uJ q2 (by rw[Bb];simp))]
    exact Bb
 have JU:s2.dW=s.dW:=by rw[<-DE,tO,C5]
 exact⟨g2,β2,h.step JU TS TI TN,BH IK sF⟩
end
end Go.Ab
namespace Go.Ab
theorem rk(s:AS):∀(n:Nat) (todo acc:List Id),acc.Nodup->(s.reach n todo acc).Nodup
 | 0,_,acc,h=>by simpa[AS.reach]using h
 |_+1,[],acc,h=>by simpa[AS.reach]using h
 |n+1,id::todo,acc,h=>by
  rw[AS.reach]
  split
  ·exact rk s n todo acc h
  ·rename_i hc
   refine rk s n _ _ ?_
   rw[List.nodup_append]
   refine⟨h,by simp,λx hx y hy e=> ?_⟩
   simp only[aU]at hy
   subst hy e
   exact hc (by simpa using hx)
theorem GW(s:AS)(vs:List aH):(s.J3 vs).Nodup:=rk s _ _ _ (by simp)
section
variable {P:Program} {C:Ctx} {g:Nat->nZ} {β:Id->Option Pl} {s:AS} {a:Act} {w:World} {o:Oper}
theorem IB(h:Inv C g β s a w){f:FuncId}{en:Entry}(hd:qq P f en){ids:List Id}(hn:ids.Nodup){vs:List aH}{ys:List Value}(hv:yg (s.env w g β) vs ys)
  (hr:(execOp a.eval o).run P w=(callFunc f ys.toArray).run P w) {s':AS} (he:(s.enter en o.dst ids vs).eval=some s'):iY P o a w (kN C s'):=by
 unfold AS.enter at he
 obtain⟨zD,he⟩:=aL.1 he
 obtain⟨x,hx,he⟩:=BY.1 he
 obtain⟨x0,TY,he⟩:=aw.1 he
 rw[en.N9 _ _ TY]at he
 have hp:∀id∈ids,∃r,s.obj id=some r:=λid eY=>by
  have:=fC.1 zD id eY
  rw[ak]at this
  exact dj.1 this.1
 have Ce:∀id∈ids,s.Cr id=true:=λid eY=>by
  have:=fC.1 zD id eY
  rw[ak]at this
  exact this.2
 have XG:=hd w (λb=>nP ids (g b)) (wU β ids) (vs.map (aH.ma (s.rT ids))) (ids.map (s.nL ids)) ys x (yg.ma (Qd ids) hv) (Po ids hn h.cZ) hx
 have key:∀v w',vu ((oE (ids.map (s.nL ids))).env w (λb=>nP ids (g b)) (wU β ids)) (en.out (vs.map (aH.ma (s.rT ids))) (ids.map (s.nL ids)) x) v w'->kN C s' (a.put o.dst v) w':=by
  intro v w' ha
  unfold AS.back at he
  cases Tp:o.dst with
  |some t=>
   rw[Tp]at he
   obtain⟨hg,he⟩:=aL.1 he
   obtain rfl:=aB.1 he
   simp only[ak,beq_iff_eq,kb]at hg
   obtain⟨hl,hg⟩:=hg
   have V2:(en.out (vs.map (aH.ma (s.rT ids))) (ids.map (s.nL ids)) x).news=[]\/s.gd t=true:=by
    rcases hg with hg | hg
    ·exact .inl (by simpa using hg)
    ·exact .inr hg
   obtain⟨g2,β2,h1,h2⟩:=BM h hn hp Ce hl V2 ha
   exact⟨g2,β2,h1.put (some t) h2⟩
  |none=>
   rw[Tp]at he
   obtain⟨hg,he⟩:=aL.1 he
   obtain rfl:=aB.1 he
   simp only[ak,beq_iff_eq]at hg
   obtain⟨hl,hg⟩:=hg
   have uJ:(en.out (vs.map (aH.ma (s.rT ids))) (ids.map (s.nL ids)) x).news=[]:=by simpa using hg
   obtain⟨g2,β2,h1,_⟩:=BM (t:=0) h hn hp Ce hl (.inl uJ) ha
   rw[uJ]at h1
   exact⟨g2,β2,h1⟩
 rcases XG with⟨Rk,hc⟩ | ⟨v,w',Yh,ha⟩
 ·exact .inr (.inr ⟨f,ys.toArray,w,hr.trans Rk,hc.mono λe w' ⟨v,he,ha⟩=>⟨v,he,key v w' ha⟩⟩)
 ·exact .inl ⟨v,w',hr.trans Yh,key v w' ha⟩
theorem KQ(h:Inv C g β s a w){c:Call}{F:Operand}{f:FuncId}{caps:aH}{en:Entry}(ho:o.op= .call c)(hc:c.callee= .value F)(hF:s.ev F= .fn f caps)(hd:qq P f en){s':AS}
  (he:(s.call en o.dst (c.args.toList.map s.ev++caps.list)).eval=some s'):iY P o a w (kN C s'):=by
 obtain⟨cal,args,tys⟩:=c
 simp only at hc he
 subst hc
 obtain⟨vs,hy,VZ⟩:=MO (hF▸h.ev F)
 have MT:=(h.WI args.toList).append (Mm VZ)
 have hr:(execOp a.eval o).run P w=(callFunc f (args.toList.map a.eval++vs).toArray).run P w:=by
  have e1:execOp a.eval o=(do let d <-resolve a.eval {callee:= .value F,args,argTypes:=tys} o.type;invoke d.target d.args):=by simp only[execOp,ho]
  rw[e1]
  simp only[resolve,hy,Deferred.ofValue,Sem.run_bind,Sem.run_pure,Result.andThen_ok,invoke]
  congr 2
  simp
 unfold AS.call at he
 obtain⟨r,h1,h2⟩:=aw.1 he
 obtain⟨g',i1,e1,_,f1⟩:=ke r.2 h
 exact IB i1 hd (GW _ _) (BS rfl h.cZ e1 _ _ _ r MT h1 f1) hr h2
end
end Go.Ab
namespace Go.Ab
section
variable {P:Program} {C:Ctx} {g:Nat->nZ} {β:Id->Option Pl} {s:AS} {a:Act} {w:World} {o:Oper}
theorem mK{b:Builtin}{args:Array Operand}{ts:Array TypeId}{F:TypeId->Array Value->Sem Value}{x:Value}{w':World}{s':AS}(ho:o.op= .call {callee:= .builtin b,args,argTypes:=ts})
  (hb:∀ty cs xs,builtin b ts ty cs xs=(do pure (.value (<-F ty xs)))) (hf:∀ty,(F ty (args.map a.eval)).run P w= .ok x w') (h2:∃g' β',Inv C g' β' s' (a.put o.dst x) w'):iY P o a w (kN C s'):=by
 refine .inl ⟨x,w',?_,h2⟩
 simp only[execOp,ho,resolve,Sem.run_bind,Sem.run_pure,Result.andThen_ok,invoke]
 rw[hb,Sem.run_bind,hf]
 rfl
theorem Ix(h:Inv C g β s a w){src dst:TypeId}{x:Operand}(ho:o.op= .convert src dst x){id:Id}{ver:Nat}(hx:s.ev x= .ptr id ver [] 0){v:aH}(he:(Eg P s src dst id ver).eval=some v):iY P o a w (kN C (s.put o.dst v)):=by
 have hv:=h.ev x
 rw[hx]at hv
 obtain⟨ad,hy,hb,hc⟩:=qF hv
 have fin:v= .ptr id ver [] 0->(convert src dst (a.eval x)).run P w= .ok (a.eval x) w->iY P o a w (kN C (s.put o.dst v)):=by
  intro h1 h2
  subst h1
  exact h.value hv (fW (f:=convert src dst (a.eval x)) (by simp only[execOp,ho]) h2)
 unfold Eg at he
 split at he
 ·rename_i v0 fr e c mY
  have eP:=gC mY
  obtain⟨pl',cur,e',hp',hh,hg,hk,hV⟩:=(h.cZ id v0 fr _ eP).box rfl
  have hk:e'=e:=hk
  subst hk
  have hV:V (s.env w g β) c (cur.toList.take cur.size):=hV
  rw[<-eh,cQ]at hV
  have hh:w.heap[pl'.b]? =some (.cells cur e' (0,0)):=hh
  have rI:=hV.size
  have rI:cur.toList.length=c.size:=rI
  have H9:w.shape? pl'.b=some (e',c.size):=by simp only[World.shape?,hh];rw[<-rI];simp
  have hp':β id=some pl':=hp'
  split at he
  ·rename_i t hS hD
   obtain⟨h1,h2⟩:=aL.1 he
   have h2:=aB.1 h2
   simp only[ak,beq_iff_eq,dI,beq_eq_false_iff_ne]at h1
   obtain⟨⟨rfl,h3⟩,h4⟩:=h1
   obtain⟨pl,hp,rfl⟩:=hc ⟨fr,_,eP⟩
   have hp:β id=some pl:=hp
   rw[hp']at hp
   obtain rfl:pl'=pl:=by simpa using hp
   refine fin h2.symm ?_
   rw[hy]
   cases hi:P.info? t with
   |none=>exact absurd (by simp[Program.cellsOf,hi]) h3
   |some j=>
    have hj:j.size≠0:=by rw[<-mL hi]at*;exact h3
    exact Go.Lib.run_to_unsafe w _ hS hD hi hj H9 (by show 0 < c.size;omega)
  ·rename_i u hS hD
   obtain⟨h1,h2⟩:=aL.1 he
   have h2:=aB.1 h2
   simp only[ak,beq_iff_eq,dI,beq_eq_false_iff_ne]at h1
   obtain⟨⟨rfl,h3⟩,h4⟩:=h1
   obtain⟨pl,hp,rfl⟩:=hc ⟨fr,_,eP⟩
   have hp:β id=some pl:=hp
   rw[hp']at hp
   obtain rfl:pl'=pl:=by simpa using hp
   refine fin h2.symm ?_
   rw[hy]
   cases hi:P.info? u with
   |none=>exact absurd (by simp[Program.cellsOf,hi]) h3
   |some j=>exact Go.Lib.run_from_unsafe w _ hS hD hi H9 h4
  ·simp only[al]at he
 ·simp only[al]at he
theorem MK(h:Inv C g β s a w){T U:TypeId}{op:BinOp}{x y:Operand}(ho:o.op= .binOp op T x y U){i j:Id}{v1 v2:Nat}(hx:s.ev x= .ptr i v1 [] 0)(hy:s.ev y= .ptr j v2 [] 0){v:aH}(he:(Sr P s T op i v1 j v2).eval=some v):
  iY P o a w (kN C (s.put o.dst v)):=by
 unfold Sr at he
 split at he
 ·rename_i v' fr c mY
  obtain⟨h1,h2⟩:=aL.1 he
  simp only[ak,beq_iff_eq,decide_eq_true_eq]at h1
  obtain⟨⟨⟨rfl,rfl⟩,rfl⟩,Pj⟩:=h1
  have eP:=gC mY
  have Ci:=h.ev x
  have Qb:=h.ev y
  rw[hx]at Ci
  rw[hy]at Qb
  obtain⟨ad,Tg,_,hc⟩:=qF Ci
  obtain⟨ad',Th,_,hc'⟩:=qF Qb
  obtain⟨pl,hp,rfl⟩:=hc ⟨fr,c,eP⟩
  obtain⟨pl',hp',rfl⟩:=hc' ⟨fr,c,eP⟩
  rw[hp]at hp'
  obtain rfl:pl=pl':=by simpa using hp'
  have hT:∃t j,P.underlying T=some (.pointer t)/\P.info? t=some j:=by
   unfold Ub at Pj
   split at Pj
   ·rename_i t ht
    obtain⟨j,hj⟩:=dj.1 Pj
    exact⟨t,j,ht,hj⟩
   ·cases Pj
  obtain⟨t,j,hT,hj⟩:=hT
  have hq:(Op.equal T (.pointer (some ⟨pl.b,0,none⟩)) (.pointer (some ⟨pl.b,0,none⟩))).run P w= .ok true w:=
   jy λd=>by simp[Op.equalIn,run_underlying hT,sizeOf,typeInfo,hj,run_sameAddr_same]
  have XK:(eqGuard op T x y (a.eval x) (a.eval y)).run P w= .ok () w:=by rw[Tg,Th];exact ng (by simp) rfl
  have fin:∀z,(binOp op T (a.eval x) (a.eval y)).run P w= .ok z w->VS (s.env w g β) v z->iY P o a w (kN C (s.put o.dst v)):=by
   intro z h1 h3
   refine h.value h3 ?_
   simp[execOp,ho,h1,XK]
  split at h2
  ·obtain rfl:=aB.1 h2
   refine fin (.bool true) ?_ (rW true)
   rw[Tg,Th]
   simp[binOp,hq]
  ·obtain rfl:=aB.1 h2
   refine fin (.bool false) ?_ (rW false)
   rw[Tg,Th]
   simp[binOp,hq]
  ·simp only[al]at h2
 ·simp only[al]at he
theorem PV{c:Call}{b:Builtin}{x:Operand}(hc:c.callee= .builtin b)(ha:c.args.toList=[x]):c= {callee:= .builtin b,args:= #[x],argTypes:=c.argTypes}:=by
 obtain⟨cal,args,tys⟩:=c
 simp only at hc ha
 have ha':args= #[x]:=by apply jW;simpa using ha
 subst hc ha'
 rfl
theorem JA{c:Call}{b:Builtin}{x y:Operand}(hc:c.callee= .builtin b)(ha:c.args.toList=[x,y]):c= {callee:= .builtin b,args:= #[x,y],argTypes:=c.argTypes}:=by
 obtain⟨cal,args,tys⟩:=c
 simp only at hc ha
 have ha':args= #[x,y]:=by apply jW;simpa using ha
 subst hc ha'
 rfl
theorem Wx{ts:Array TypeId}{T:TypeId}(h:ts.toList=[T]):ts= #[T]:=by apply jW;simpa using h
theorem Sf{ts:Array TypeId}{T U:TypeId}(h:ts.toList=[T,U]):ts= #[T,U]:=by apply jW;simpa using h
theorem MA(h:Inv C g β s a w){c:Call}{x:Operand}{T e:TypeId}(ho:o.op= .call c)(hc:c.callee= .builtin .cap)(ha:c.args.toList=[x])(ht:c.argTypes.toList=[T])(hx:s.ev x= .eU)(hT:P.underlying T=some (.slice e)):
  iY P o a w (kN C (s.put o.dst (.d (.int .i64) (0:Int)))):=by
 rw[PV hc ha,Wx ht]at ho
 have hv:=h.ev x
 rw[hx]at hv
 have hy:=lY hv
 refine mK ho (F:=λty xs=>Builtin.cap_ #[T] ty xs) (λty cs xs=>rfl) (x:= .int .i64 0) (w':=w) (λty=> ?_) ⟨g,β,h.put o.dst (mJ _ _)⟩
 simp[Builtin.cap_,run_underlying hT,hy,goInt]
theorem HL(h:Inv C g β s a w){c:Call}{x:Operand}{id:Id}{ver len:Nat}(ho:o.op= .call c)(hc:c.callee= .builtin .unsafeSliceData)(ha:c.args.toList=[x])(hx:s.ev x= .di id ver [] 0 0 len)(hl:0 < len):
  iY P o a w (kN C (s.put o.dst (.ptr id ver [.idx 0] 0))):=by
 rw[PV hc ha]at ho
 have hv:=h.ev x
 rw[hx]at hv
 obtain⟨ad,cap,hy,zE,hs,hb,ju⟩:=pd hv
 obtain⟨ad,rfl⟩:=dj.1 (hs hl)
 refine mK ho (F:=λty xs=>Builtin.unsafeSliceData_ c.argTypes ty xs) (λty cs xs=>rfl) (x:= .pointer (some ad)) (w':=w) (λty=> ?_) ⟨g,β,h.put o.dst ?_⟩
 ·rw[show(#[x].map a.eval)= #[a.eval x] by simp,hy]
  exact Go.Lib.run_unsafeSliceData_row w _ _ _ _ _ (by omega)
 ·refine⟨[.pointer (some ad)],?_,rfl⟩
  simp only[V]
  refine⟨ad,rfl,hb,λhc=> ?_⟩
  have h1:=ju hc
  cases hp:(s.env w g β).β id with
  |none=>rw[hp]at h1;simp only at h1;cases h1.1
  |some pl=>
   rw[hp]at h1
   simp only at h1
   exact⟨pl,rfl,by simpa using h1.1 (.inl hl)⟩
theorem Ha(h:Inv C g β s a w){c:Call}{mx:Bool}(ho:o.op= .call c)(hc:c.callee= .builtin (if mx then .max else .min)){v:aH}(he:(Lq mx (c.args.toList.map s.ev)).eval=some v):iY P o a w (kN C (s.put o.dst v)):=by
 unfold Lq at he
 split at he
 ·rename_i k x k' y JV
  obtain⟨h1,h2⟩:=aL.1 he
  obtain rfl:=aB.1 h2
  have h1:k=k':=by simpa using h1
  subst h1
  have O5:∃p q,c.args.toList=[p,q]/\s.ev p= .d (.int k) x/\s.ev q= .d (.int k) y:=by
   match hh:c.args.toList,JV with
   |[p,q],JV=>simp only[cO,jH,gl]at JV;exact⟨p,q,rfl,JV.1,JV.2.1⟩
   |[],JV=>simp at JV
   |[_],JV=>simp at JV
   |_::_::_::_,JV=>simp at JV
  obtain⟨p,q,ha,hp,hq⟩:=O5
  rw[JA hc ha]at ho
  have UF:=h.ev p
  have W7:=h.ev q
  rw[hp]at UF
  rw[hq]at W7
  have ep:=tF UF
  have eq:=tF W7
  cases mx with
  |true=>
   refine mK ho (F:=λty xs=>Builtin.max_ c.argTypes ty xs) (λty cs xs=>rfl) (x:= .int k (if x < y then y else x)) (w':=w) (λty=> ?_) ⟨g,β,h.put o.dst (mJ _ _)⟩
   rw[show(#[p,q].map a.eval)= #[a.eval p,a.eval q] by simp,ep,eq]
   simp[Builtin.max_,Builtin.max2]
  |false=>
   refine mK ho (F:=λty xs=>Builtin.min_ c.argTypes ty xs) (λty cs xs=>rfl) (x:= .int k (if y < x then y else x)) (w':=w) (λty=> ?_) ⟨g,β,h.put o.dst (mJ _ _)⟩
   rw[show(#[p,q].map a.eval)= #[a.eval p,a.eval q] by simp,ep,eq]
   simp[Builtin.min_,Builtin.min2]
 ·simp only[al]at he
theorem Dm(z:Array Value)(n:Nat):Builtin.zeroCells z n=madeCells z (n*z.size):=rfl
theorem K3(h:Inv C g β s a w){c:Call}{x y:Operand}{T X:TypeId}{k:IntKind}{n:Int}(ho:o.op= .call c)(hc:c.callee= .builtin .append)(ha:c.args.toList=[x,y])(ht:c.argTypes.toList=[T,X])(hx:s.ev x= .eU)(hy:s.ev y= .d (.int k) n){s':AS}
  (he:(GI P s o.dst T X n).eval=some s'):iY P o a w (kN C s'):=by
 rw[JA hc ha,Sf ht]at ho
 have Ci:=h.ev x
 have Qb:=h.ev y
 rw[hx]at Ci
 rw[hy]at Qb
 have ex:=lY Ci
 have ey:=tF Qb
 unfold GI at he
 split at he
 ·rename_i e t b q kn w9 hd hX
  obtain⟨hT,hz,i,zv,hi,La,O9,Ib,Lc⟩:=tA w9
  obtain⟨hq,h2⟩:=aL.1 he
  obtain⟨h3,h4⟩:=cV.1 h2
  obtain rfl:=aB.1 h4
  simp only[ak,decide_eq_true_eq,fq]at h3
  obtain⟨h5,h7,h8⟩:=h3
  obtain⟨m,rfl⟩:=kS (nU h5)
  simp only[aa]at h7 h8 ⊢
  have SI:zv.cells.size=t.size:=by have:=(Lc (s.env w g β)).size;simpa using this
  have hr:=λty=>Go.Lib.run_append_nil_zeros (P:=P) w T X ty e i zv k kn hT hX hi Ib m (by omega) (by rw[La];exact hz) (by omega) (by rw[O9];omega)
  obtain⟨cap,zE⟩:∃cap,grownCap w m 0 e=cap:=⟨_,rfl⟩
  have c1:m<=cap:=by rw[<-zE];exact grownCap_ge _ _ _ _
  have c2:cap<=maxLen:=by rw[<-zE];exact grownCap_le_maxLen _ _ _ _ (by unfold maxLen;omega)
  rw[zE]at hr
  obtain⟨cur,ju⟩:∃cur,Builtin.zeroCells zv.cells m++Builtin.zeroCells zv.cells (cap - m)=cur:=⟨_,rfl⟩
  rw[ju]at hr
  have s1:cur.size=cap*t.size:=by
   rw[<-ju,Array.size_append,sV,sV,SI,<-gM]
   congr 1
   omega
  have zD:=qj (Lc (s.env w.drew g β)) m
  have s2:cur.toList.take (m*t.size)=(madeCells zv.cells (m*t.size)).toList:=by
   rw[<-ju,df,Dm,SI]
   have hl:(madeCells zv.cells (m*t.size)).toList.length=m*t.size:=by simp[size_madeCells]
   rw[kL (by omega),cj (by omega)]
  obtain⟨g2,β2,i2,Dq⟩:=(h.drew).FD hq (e:=e) (l:=List.replicate m t.zero) (cur:=cur) (cap:=cap) hz (by rw[eo,s2];exact zD) s1 (by rw[eo];exact c1) c2
  rw[eo]at Dq
  refine mK ho (F:=λty xs=>Builtin.append_ #[T,X] ty xs) (λty cs xs=>rfl) (λty=> ?_) ⟨g2,β2,i2.put o.dst Dq⟩
  rw[show(#[x,y].map a.eval)= #[a.eval x,a.eval y] by simp,ex,ey]
  exact hr ty
 ·simp only[al]at he
theorem EG:∀(xs:List Int) (a:Addr) (acc:ByteArray),(∀j x,xs[j]? =some x->w.cell? (a.add j)=some (.int .u8 x))->
  (loadBytes a acc xs.length).run P w= .ok ⟨acc.data++(xs.map λn=>UInt8.ofNat n.toNat).toArray⟩ w
 |[],a,acc,_=>by simp[loadBytes]
 |x::l,a,acc,h=>by
  have h0:w.cell? a=some (.int .u8 x):=by
   have:=h 0 x rfl
   simpa[Addr.add]using this
  have ih:=EG l (a.add 1) (acc.push x.toNat.toUInt8) (λj y hy=>by
   have:=h (j+1) y (by simpa using hy)
   have e:(a.add 1).add j=a.add (j+1):=by
    unfold Addr.add
    by_cases hj:j=0
    ·subst hj;simp
    ·simp[hj];omega
   rw[e];exact this)
  simp only[aO,loadBytes,Sem.run_bind,run_load,h0,Result.andThen]
  rw[ih]
  congr 1
  apply ByteArray.ext
  simp[ByteArray.push]
theorem LQ(h:Inv C g β s a w){c:Call}{x y:Operand}{T U:TypeId}{id:Id}{ver:Nat}{n:Int}(ho:o.op= .call c)(hc:c.callee= .builtin .unsafeString)(ha:c.args.toList=[x,y])(ht:c.argTypes.toList=[T,U])
  (hx:s.ev x= .ptr id ver [.idx 0] 0) (hy:s.ev y= .d (.int .i64) n) {s':AS} (he:(HS P s o.dst T id ver n).eval=some s'):iY P o a w (kN C s'):=by
 rw[JA hc ha,Sf ht]at ho
 have Ci:=h.ev x
 rw[hx]at Ci
 obtain⟨ad,Tg,_,XE⟩:=qF Ci
 have Qb:=h.ev y
 rw[hy]at Qb
 have Th:=tF Qb
 unfold HS at he
 split at he
 ·rename_i v e l u mY hT
  obtain⟨h1,h2⟩:=aL.1 he
  obtain⟨h3,h4⟩:=cV.1 h2
  obtain rfl:=aB.1 h4
  simp only[ak,beq_iff_eq]at h1
  obtain⟨⟨rfl,rfl⟩,Ri⟩:=h1
  simp only[decide_eq_true_eq]at h3
  obtain⟨h5,h6⟩:=h3
  obtain⟨n,rfl⟩:=kS (nU h5)
  have h6:n<=(l:List Int).length:=by omega
  have eP:=gC mY
  obtain⟨pl,hp,rfl⟩:=XE ⟨false,_,eP⟩
  have hp:β id=some pl:=hp
  have hO:rE (s.env w g β) id false (.vec u (.int .u8) l):=h.cZ id v false _ eP
  obtain⟨hz,hO⟩:=hO
  have hO:(match β id with
   |none=>l=[]
   |some pl=>∃cur k,w.heap[pl.b]? =some (.cells cur u (0,0))/\cur.size=pl.cap*(Ty.int .u8).size/\(l:List Int).length<=pl.cap/\pl.cap<=maxLen/\g pl.b= .own (.id id) k/\
     k<=(l:List Int).length*(Ty.int .u8).size/\(false=false->k=0)/\cd (eX (s.env w g β) (.int .u8)) (cur.toList.take ((l:List Int).length*(Ty.int .u8).size)) l):=hO
  rw[hp]at hO
  obtain⟨cur,k,q1,q2,q3,q4,q5,q6,q7,q8⟩:=hO
  have hk:=q7 rfl
  subst hk
  have Ry:(Ty.int .u8).size=1:=rfl
  rw[Ry,kc]at q2 q8
  have Ch:=qV q8
  have H9:w.shape? pl.b=some (u,cur.size):=by simp only[World.shape?,q1]
  have yy:∀j z,((l:List Int).take n)[j]? =some z->w.cell? ((⟨pl.b,0,none⟩:Addr).add j)=some (.int .u8 z):=λj z hj=>by
   rw[fx]at hj
   split at hj
   ·rename_i YX
    have Rr:j < (l:List Int).length:=by omega
    rw[Addr.add_lit,bl]
    simp only[World.cell?,q1]
    have:(cur.toList.take (l:List Int).length)[j]? =some (.int .u8 z):=by rw[Ch,jY,hj];rfl
    rw[fx,if_pos Rr]at this
    simpa using this
   ·cases hj
  have hlen:((l:List Int).take n).length=n:=by rw[fS];omega
  have Pc:=EG (P:=P) (w:=w) ((l:List Int).take n) ⟨pl.b,0,none⟩ .empty yy
  rw[hlen]at Pc
  have TJ:=Go.Lib.liesAt_bytes (P:=P) (e:=u) (by simpa using Ri) (cur.size / P.cellsOf u) n (by
   rw[show P.cellsOf u=1 by simpa using Ri,Nat.div_one];omega)
  have Tz:∃w',w.freeze ⟨pl.b,0,none⟩ n=w'/\w'.os=w.os/\w'.tape=w.tape/\(w'.output=w.output/\w.drawn<=w'.drawn)/\w'.heap.size=w.heap.size/\∀b',b'≠pl.b->w'.heap[b']? =w.heap[b']? :=by
   refine⟨_,rfl,?_⟩
   unfold World.freeze
   rw[if_neg (by omega)]
   refine⟨rfl,rfl,⟨rfl,aE _⟩,by simp,λb' hb'=> ?_⟩
   simp only[lK]
   rw[if_neg (λe=>hb' e.symm)]
  obtain⟨w',hw',f1,f2,f3,f4,f5⟩:=Tz
  have i1:=h.kill eP q5 f1 f2 f3 f4 f5
  have WL:¬(9223372036854775807:Int) < (n:Int):=by unfold maxLen at q4;omega
  have VD:¬(n:Int) < 0:=by omega
  have Rv:n≠0:=by omega
  have Ru:IntKind.i64.max=9223372036854775807:=rfl
  refine mK ho (F:=λty xs=>Builtin.unsafeString_ #[T,U] ty xs) (λty cs xs=>rfl) (x:= .string (kF ((l:List Int).take n))) (w':=w') (λty=> ?_) ⟨_,β,i1.put o.dst ⟨[.string (kF ((l:List Int).take n))],by simp only[V,eX];rfl,rfl⟩⟩
  rw[show(#[x,y].map a.eval)= #[a.eval x,a.eval y] by simp,Tg,Th]
  have Rj:Builtin.unsafeString_ #[T,U] ty #[.pointer (some ⟨pl.b,0,none⟩),.int .i64 n]=
    (do
     let n <-Go.asInt (.int .i64 n)
     if n < 0 then runtimePanic (.error "unsafe.String: len out of range")
     if n > IntKind.i64.max then unsupported (.unsafePointer "String: a length above the largest int")
     if n=0 then pure (.string .empty)
     else if <-variablesAt ⟨pl.b,0,none⟩ (<-elemOf T) n.toNat then do
      let s <-loadBytes ⟨pl.b,0,none⟩ .empty n.toNat
      freeze ⟨pl.b,0,none⟩ n.toNat
      pure (.string s)
     else unsupported (.unsafePointer "String: not so many bytes at ptr")):=rfl
  rw[Rj]
  simp[Go.asInt,asIntOf,Ru,WL,VD,Rv,variablesAt,H9,elemOf,run_underlying hT,TJ,Pc,hw',kF]
 ·simp only[al]at he
end
end Go.Ab
namespace Go.Ab
section
variable {P:Program} {C:Ctx} {g:Nat->nZ} {β:Id->Option Pl} {s:AS} {a:Act} {w:World} {o:Oper}
theorem G7(h:Inv C g β s a w){c:Call}{T T2:TypeId}{m k:Operand}(eZ:o.op= .call c)(hc:c.callee= .builtin .delete)(ha:c.args.toList=[m,k])(ht:c.argTypes.toList=[T,T2]){s':AS}(he:(uO P s T (s.ev m) (s.ev k)).eval=some s'):iY P o a w (kN C (s'.put o.dst .nil)):=by
 have eZ:o.op= .call {callee:= .builtin .delete,args:= #[m,k],argTypes:= #[T,T2]}:=by rw[eZ,JA hc ha,Sf ht]
 unfold uO at he
 split at he
 ·rename_i K V' kt vt id ver hm hx
  obtain⟨l,h1,he⟩:=aw.1 he
  obtain⟨kx,h2,he⟩:=aw.1 he
  obtain⟨RD,he⟩:=aL.1 he
  obtain rfl:=aB.1 he
  obtain⟨hT,hK,_⟩:=th hm
  have Ci:=h.ev m
  rw[hx]at Ci
  obtain⟨fr,pl,es,clock,g1,g2,g3,g4,g5,g6,g7,gn⟩:=sk h h1 Ci
  obtain⟨l0,g6,gp⟩:=g6
  have xj:=sC depth K kt hK
  have hk:=uS (h.ev k) h2
  have MW:=nJ (P:=P) (w:=w) es.isEmpty depth K kt hK 10000 (by decide) _ _ hk
  obtain⟨r,hf,hr⟩:=xD (P:=P) (w:=w) hK hk g6
  have fin:∀(es':Array MapEntry) (clock':Nat),(∀ty,(Builtin.delete_ #[T,T2] ty (#[m,k].map a.eval)).run P w= .ok (.tuple #[]) {w with heap:=w.heap.setIfInBounds pl.b (.map es' clock')})->Alike (uo (s.env w g β) kt vt) es'.toList (mo kt kx l0)->nF es'.toList clock'->
    iY P o a w (kN C ((s.bJ id (.obj ver false (.mp kt vt (mo kt kx l)))).put o.dst .nil)):=λes' clock' oS O5 Tj=>
   mK (F:=λty xs=>Builtin.delete_ #[T,T2] ty xs) eZ (λ_ _ _=>rfl) oS ⟨g,β,(h.N3 g1 g2 g4 g5 ⟨_,O5,CC xj gn gp⟩ (v5 xj gn) Tj RD).put o.dst rfl⟩
  cases r with
  |none=>
   simp only at hr
   refine fin es clock (λty=> ?_) (by simp only[mo,hr];exact g6) g7
   simp[Builtin.delete_,run_underlying hT,g3,Go.MapKept.run_getObj_map g4,MW,hf,Go.MapKept.run_setObj_map _ g4]
  |some u=>
   obtain⟨j,u⟩:=u
   obtain⟨e,m1,m2,rfl⟩:=hr
   refine fin (es.eraseIdxIfInBounds j) clock (λty=> ?_) ?_ (by rw[Array.toList_eraseIdxIfInBounds];exact g7.erase j)
   ·simp[Builtin.delete_,run_underlying hT,g3,Go.MapKept.run_getObj_map g4,MW,hf,Go.MapKept.run_setObj_map _ g4]
   ·simp only[mo,m1,Array.toList_eraseIdxIfInBounds]
    exact g6.erase j
 ·simp only[al]at he
theorem Gj{Γ:fD}(hΓ:Sound P Γ){cZ:List Nat}(h:Inv C g β s a w){s':AS}(he:(oP P Γ cZ o s).eval=some s'):iY P o a w (kN C s'):=by
 unfold oP at he
 split at he
 ·rename_i x eZ
  obtain rfl:=aB.1 he
  exact Ex h (.inl eZ)
 ·rename_i x eZ
  obtain rfl:=aB.1 he
  exact Ex h (.inr eZ)
 ·rename_i c x y eZ
  obtain⟨v,h1,h2⟩:=aw.1 he
  obtain rfl:=aB.1 h2
  exact LA h eZ h1
 ·rename_i T eZ
  split at he
  ·rename_i z q hz hq
   obtain⟨h1,h2⟩:=aL.1 he
   obtain rfl:=aB.1 h2
   simp only[ak]at h1
   exact Ij h eZ h1.1 h1.2
  ·exact(al.1 he).elim
 ·rename_i T x eZ
  exact Mw h eZ he
 ·rename_i T parts eZ
  exact Iq h eZ he
 ·rename_i T n parts eZ
  exact A6 h eZ he
 ·rename_i T x eZ
  obtain⟨v,h1,h2⟩:=aw.1 he
  obtain rfl:=aB.1 h2
  exact Ln h eZ h1
 ·rename_i T x v eZ
  obtain⟨v,h1,h2⟩:=aw.1 he
  obtain rfl:=aB.1 h2
  exact Jl h eZ h1
 ·rename_i x eZ
  exact DQ h eZ he
 ·rename_i op T x y U eZ
  split at he
  ·rename_i i v1 j v2 hx hy
   obtain⟨v,h1,h2⟩:=aw.1 he
   obtain rfl:=aB.1 h2
   exact MK h eZ hx hy h1
  ·obtain⟨v,h1,h2⟩:=aw.1 he
   obtain rfl:=aB.1 h2
   exact Io h eZ h1
 ·rename_i op T x eZ
  obtain⟨v,h1,h2⟩:=aw.1 he
  obtain rfl:=aB.1 h2
  exact LR h eZ h1
 ·rename_i T U x eZ
  split at he
  ·rename_i id ver len hTU hx
   exact Iw h eZ hx he
  ·rename_i id ver hx
   obtain⟨v,h1,h2⟩:=aw.1 he
   obtain rfl:=aB.1 h2
   exact Ix h eZ hx h1
  ·obtain⟨v,h1,h2⟩:=aw.1 he
   obtain rfl:=aB.1 h2
   exact E5 h eZ h1
 ·rename_i T x eZ
  exact Jp h eZ he
 ·rename_i f first caps eZ
  obtain⟨h1,h2⟩:=aL.1 he
  obtain rfl:=aB.1 h2
  simp only[ak]at h1
  exact DJ h eZ h1.1 h1.2
 ·rename_i T l c eZ
  obtain⟨n,h1,h2⟩:=aw.1 he
  obtain⟨m,h3,h4⟩:=aw.1 h2
  exact CA h eZ h1 h3 h4
 ·rename_i T x lo hi eZ
  obtain⟨v,h1,h2⟩:=aw.1 he
  obtain rfl:=aB.1 h2
  exact Jg h eZ h1
 ·rename_i T x f eZ
  obtain⟨v,h1,h2⟩:=aw.1 he
  obtain rfl:=aB.1 h2
  exact B1 h eZ h1
 ·rename_i T x f eZ
  obtain⟨v,h1,h2⟩:=aw.1 he
  obtain rfl:=aB.1 h2
  exact IE h eZ h1
 ·rename_i T x i eZ
  obtain⟨n,h0,he⟩:=aw.1 he
  obtain⟨v,h1,h2⟩:=aw.1 he
  obtain rfl:=aB.1 h2
  exact Cm h eZ h0 h1
 ·rename_i T x i eZ
  obtain⟨n,h0,he⟩:=aw.1 he
  obtain⟨v,h1,h2⟩:=aw.1 he
  obtain rfl:=aB.1 h2
  exact IQ h eZ h0 h1
 ·rename_i x i eZ
  obtain⟨v,h1,h2⟩:=aw.1 he
  obtain rfl:=aB.1 h2
  exact Fb h eZ h1
 ·rename_i T eZ
  exact Fz h eZ he
 ·rename_i T x i ok eZ
  obtain⟨v,h1,h2⟩:=aw.1 he
  obtain rfl:=aB.1 h2
  exact G2 h eZ h1
 ·rename_i T m k x eZ
  obtain⟨s1,h1,h2⟩:=aw.1 he
  obtain rfl:=aB.1 h2
  exact G9 h eZ h1
 ·rename_i c eZ
  split at he
  ·rename_i hc
   split at he
   ·rename_i m k T T2 ha ht
    obtain⟨s1,h1,h2⟩:=aw.1 he
    obtain rfl:=aB.1 h2
    exact G7 h eZ hc ha ht h1
   ·exact(al.1 he).elim
  ·rename_i hc
   split at he
   ·rename_i x y T X ha ht
    exact KW h eZ hc ha ht he
   ·exact(al.1 he).elim
  ·rename_i hc
   split at he
   ·rename_i x T ha ht
    obtain⟨v,h1,h2⟩:=aw.1 he
    obtain rfl:=aB.1 h2
    exact Ni h eZ hc ha ht h1
   ·exact(al.1 he).elim
  ·rename_i hc
   split at he
   ·rename_i x y T X ha ht
    split at he
    ·rename_i k n hx hy
     exact K3 h eZ hc ha ht hx hy he
    ·exact Gk h eZ hc ha ht he
   ·exact(al.1 he).elim
  ·rename_i hc
   split at he
   ·rename_i x T ha ht
    split at he
    ·rename_i e hx hT
     obtain rfl:=aB.1 he
     exact MA h eZ hc ha ht hx hT
    ·exact(al.1 he).elim
   ·exact(al.1 he).elim
  ·rename_i hc
   obtain⟨v,h1,h2⟩:=aw.1 he
   obtain rfl:=aB.1 h2
   exact Ha (mx:=true) h eZ hc h1
  ·rename_i hc
   obtain⟨v,h1,h2⟩:=aw.1 he
   obtain rfl:=aB.1 h2
   exact Ha (mx:=false) h eZ hc h1
  ·rename_i hc
   split at he
   ·rename_i x ha
    split at he
    ·rename_i id ver len hx
     obtain⟨h1,h2⟩:=cV.1 he
     obtain rfl:=aB.1 h2
     exact HL h eZ hc ha hx (by simpa using h1)
    ·exact(al.1 he).elim
   ·exact(al.1 he).elim
  ·rename_i hc
   split at he
   ·rename_i x y T U ha ht
    split at he
    ·rename_i id ver n hx hy
     exact LQ h eZ hc ha ht hx hy he
    ·exact(al.1 he).elim
   ·exact(al.1 he).elim
  ·rename_i F hc
   split at he
   ·rename_i f caps hF
    split at he
    ·rename_i en Rk
     exact KQ h eZ hc hF (hΓ f _ en Rk) he
    ·exact(al.1 he).elim
   ·exact(al.1 he).elim
  ·exact(al.1 he).elim
 ·exact(al.1 he).elim
end
end Go.Ab
namespace Go.Ab
def oO(P:Program)(ops:Array Oper)(o:Oper)(a:Act)(w:World)(K:Act->World->Prop):Prop:=
 if Region.wanted o (yielded ops a.tmps) then iY P o a w K else K (a.put o.dst undef) w
theorem oO.mono{P:Program}{ops:Array Oper}{o:Oper}{a:Act}{w:World}{K K':Act->World->Prop}(h:oO P ops o a w K)(hk:∀a w,K a w->K' a w):oO P ops o a w K':=by
 unfold oO at*
 split
 ·rename_i hw;rw[if_pos hw]at h;exact h.mono hk
 ·rename_i hw;rw[if_neg hw]at h;exact hk _ _ h
theorem iY.some{P:Program}{o:Oper}{a:Act}{w:World}{K:Act->World->Prop}(h:iY P o a w K):∃a' w',K a' w':=by
 rcases h with⟨x,w',_,h⟩ | ⟨w',_,h⟩ | ⟨f,args,w',_,h⟩
 ·exact⟨_,_,h⟩
 ·exact⟨_,_,h⟩
 ·obtain⟨e,w'',_,⟨x,_,hx⟩,_⟩:=h []
  exact⟨_,_,hx⟩
theorem oO.some{P:Program}{ops:Array Oper}{o:Oper}{a:Act}{w:World}{K:Act->World->Prop}(h:oO P ops o a w K):∃a' w',K a' w':=by
 unfold oO at h
 split at h
 ·exact h.some
 ·exact⟨_,_,h⟩
theorem oO.wpList{P:Program}{ops:Array Oper}{o:Oper}{a:Act}{w:World}{Q:Exit->Act->World->Prop}{l:List Oper}(h:oO P ops o a w (wpList P ops Q l)):Go.wpList P ops Q (o::l) a w:=by
 unfold oO at h
 unfold Go.wpList
 split
 ·rename_i hw;rw[if_pos hw]at h;exact .inl h.wp
 ·rename_i hw;rw[if_neg hw]at h;exact h
theorem oO.wpOp{P:Program}{ops:Array Oper}{o:Oper}{i:Nat}{a:Act}{w:World}{Q:Exit->Act->World->Prop}{K:Act->World->Prop}(ho:ops[i]? =Option.some o)(h:oO P ops o a w K):Go.wpOp P ops Q i K a w:=by
 unfold oO at h
 unfold Go.wpOp
 simp only[ho]
 split
 ·rename_i hw;rw[if_pos hw]at h;exact .inl h.wp
 ·rename_i hw;rw[if_neg hw]at h;exact h
theorem NN{s:AS}{q:Nat}{v:aH}(h:s.slot q=v)(hq:q < s.dW.length):s.put (some q) v=s:=by
 have hv:s.dW[q]=v:=by simpa[AS.slot,aY,hq]using h
 simp only[AS.put]
 rw[<-hv,gu]
theorem Kn{s:AS}{q:Nat}{t:Ty}{x:t.den}(h:s.slot q= .d t x):q < s.dW.length:=by
 rcases pW q s.dW.length with h' | h'
 ·exact h'
 ·simp[AS.slot,aY,ik h']at h
def w8(P:Program)(Γ:fD)(cZ:List Nat)(ops:Array Oper)(o:Oper)(s:AS):Option AS:=
 match o.guard with
 |none=>(oP P Γ cZ o s).eval
 |some (j,want)=>match(ops[j]?).bind (·.dst) with
  |some q=>match s.slot q with
   | .d .bool b=>if b=want then(oP P Γ cZ o s).eval else some (s.put o.dst .nil)
   | .nil=>some (s.put o.dst .nil)
   |_=>none
  |none=>none
theorem GH{R:Type}{P:Program}{Γ:fD}{cZ:List Nat}{ops:Array Oper}{o:Oper}{s:AS}{k:AS->Option R}{r:R}(h:Rb P Γ cZ ops o s k=some r):∃s',w8 P Γ cZ ops o s=some s'/\k s'=some r:=by
 unfold Rb at h
 unfold w8
 split at h
 ·rename_i hg
  simp only[hg]
  exact mr.1 h
 ·rename_i j want hg
  simp only[hg]
  split at h
  ·rename_i q hq
   simp only[hq]
   split at h
   ·rename_i b hb
    have e:=NN hb (Kn hb)
    simp only[hb]
    cases want <;> cases b <;> simp only[aJ]at h <;> rw[e]at h
    ·obtain⟨s',h1,h2⟩:=mr.1 h
     exact⟨s',by simpa using h1,h2⟩
    ·exact⟨_,by simp,h⟩
    ·exact⟨_,by simp,h⟩
    ·obtain⟨s',h1,h2⟩:=mr.1 h
     exact⟨s',by simpa using h1,h2⟩
   ·rename_i hb
    simp only[hb]
    exact⟨_,rfl,h⟩
   ·cases h
  ·cases h
section
variable {P:Program} {C:Ctx} {g:Nat->nZ} {β:Id->Option Pl} {s:AS} {a:Act} {w:World} {o:Oper}
theorem Jv(h:Inv C g β s a w){ops:Array Oper}{j q:Nat}{b:Bool}(hq:(ops[j]?).bind (·.dst)=some q)(hb:s.slot q= .d .bool b):yielded ops a.tmps j=some b:=by
 have hv:=h.dW q
 rw[hb]at hv
 have hv:=Bj hv
 have hl:=Kn hb
 rw[<-h.size]at hl
 unfold yielded
 rw[hq,Option.bind_some]
 have:a.tmps[q]? =some (.bool b):=by
  rw[lQ hl]
  simpa[Array.getD,hl]using hv
 rw[this]
theorem H3(h:Inv C g β s a w){ops:Array Oper}{j q:Nat}(hq:(ops[j]?).bind (·.dst)=some q)(hb:s.slot q= .nil):yielded ops a.tmps j=none:=by
 have hv:=h.dW q
 rw[hb]at hv
 have hv:a.tmps.getD q undef= .tuple #[]:=hv
 unfold yielded
 rw[hq,Option.bind_some]
 split
 ·rename_i b hb
  rw[fL,hb]at hv
  cases hv
 ·rfl
theorem Em{Γ:fD}(hΓ:Sound P Γ){cZ:List Nat}{ops:Array Oper}(h:kN C s a w){s':AS}(he:w8 P Γ cZ ops o s=some s'):oO P ops o a w (kN C s'):=by
 obtain⟨g,β,h⟩:=h
 unfold w8 at he
 unfold oO
 split at he
 ·rename_i hg
  have:Region.wanted o (yielded ops a.tmps)=true:=by simp[Region.wanted,hg]
  rw[if_pos this]
  exact Gj hΓ h he
 ·rename_i j want hg
  split at he
  ·rename_i q hq
   split at he
   ·rename_i b hb
    have hy:=Jv h hq hb
    have hw:Region.wanted o (yielded ops a.tmps)=(b==want):=by simp[Region.wanted,hg,hy]
    rw[hw]
    by_cases e:b=want
    ·rw[if_pos e]at he
     rw[if_pos (by simp[e])]
     exact Gj hΓ h he
    ·rw[if_neg e]at he
     rw[if_neg (by simp[e])]
     simp only[aD]at he
     subst he
     exact⟨g,β,h.put o.dst rfl⟩
   ·rename_i hb
    have hy:=H3 h hq hb
    have hw:Region.wanted o (yielded ops a.tmps)=false:=by simp[Region.wanted,hg,hy]
    rw[hw,if_neg (by simp)]
    simp only[aD]at he
    subst he
    exact⟨g,β,h.put o.dst rfl⟩
   ·cases he
  ·cases he
theorem J6{R:Type}{x y:Option R}{r:R}(h:nd x y=some r):x=some r/\y=some r:=by
 unfold nd at h
 split at h
 ·rename_i e;exact⟨h,e▸h⟩
 ·cases h
theorem I1(h:Inv C g β s a w){x y:Operand}{n:Nat}(hn:CM s x y=some n){T:TypeId}(hT:tY.isSl P T=true):∃b,(0 < n->b=false)/\(Op.equal T (a.eval x) (a.eval y)).run P w= .ok b w/\
  pz (a.eval x)=false/\a.eval x≠ .nilIface/\∀op,binOp op T (a.eval x) (a.eval y)=(match op with | .eql=>do pure (.bool (<-Op.equal T (a.eval x) (a.eval y))) | .neq=>do pure (.bool (!(<-Op.equal T (a.eval x) (a.eval y)))) | _=>binOp op T (a.eval x) (a.eval y)):=by
 have hx:=h.ev x
 have hy:=h.ev y
 unfold tY.isSl at hT
 split at hT <;> try (cases hT;done)
 rename_i e hU
 unfold CM at hn
 split at hn
 ·rename_i t l h1 h2
  rw[h1]at hx;rw[h2]at hy
  obtain⟨ad,cap,vs,hv,_,hs,_⟩:=qm hx
  have Dq:=lY hy
  rw[hv,Dq]
  refine⟨ad.isNone,λhp=> ?_,?_,rfl,by simp,λop=>by cases op <;> rfl⟩
  ·obtain rfl:=cI hn
   obtain⟨ad',rfl⟩:=dj.1 (hs hp)
   rfl
  ·cases ad with
   |none=>exact jy λd=>by simp[Op.equalIn,run_underlying hU]
   |some ad=>exact jy λd=>by simp[Op.equalIn,run_underlying hU]
 ·rename_i t l h1 h2
  rw[h1]at hx;rw[h2]at hy
  obtain⟨ad,cap,vs,hv,_,hs,_⟩:=qm hy
  have Dq:=lY hx
  rw[hv,Dq]
  refine⟨ad.isNone,λhp=> ?_,?_,rfl,by simp,λop=>by cases op <;> rfl⟩
  ·obtain rfl:=cI hn
   obtain⟨ad',rfl⟩:=dj.1 (hs hp)
   rfl
  ·exact jy λd=>by simp[Op.equalIn,run_underlying hU]
 ·rename_i id ver pp c i len h1 h2
  rw[h1]at hx;rw[h2]at hy
  obtain⟨ad,cap,hv,_,hs,_⟩:=pd hx
  have Dq:=lY hy
  rw[hv,Dq]
  refine⟨ad.isNone,λhp=> ?_,?_,rfl,by simp,λop=>by cases op <;> rfl⟩
  ·obtain rfl:=cI hn
   obtain⟨ad',rfl⟩:=dj.1 (hs hp)
   rfl
  ·cases ad with
   |none=>exact jy λd=>by simp[Op.equalIn,run_underlying hU]
   |some ad=>exact jy λd=>by simp[Op.equalIn,run_underlying hU]
 ·rename_i id ver pp c i len h1 h2
  rw[h1]at hx;rw[h2]at hy
  obtain⟨ad,cap,hv,_,hs,_⟩:=pd hy
  have Dq:=lY hx
  rw[hv,Dq]
  refine⟨ad.isNone,λhp=> ?_,?_,rfl,by simp,λop=>by cases op <;> rfl⟩
  ·obtain rfl:=cI hn
   obtain⟨ad',rfl⟩:=dj.1 (hs hp)
   rfl
  ·exact jy λd=>by simp[Op.equalIn,run_underlying hU]
 ·cases hn
theorem yM(h:Inv C g β s a w){x y:Operand}{n:Nat}{T U:TypeId}(hn:CM s x y=some n)(hT:tY.isSl P T=true):
  (o.op= .binOp .eql T x y U->∃b,(0 < n->b=false)/\iY P o a w (kN C (s.put o.dst (.d .bool b))))/\(o.op= .binOp .neq T x y U->∃b,(0 < n->b=true)/\iY P o a w (kN C (s.put o.dst (.d .bool b)))):=by
 obtain⟨b,h1,h2,h3,h4,h5⟩:=I1 (w:=w) h hn hT
 have hg:∀op,(eqGuard op T x y (a.eval x) (a.eval y)).run P w= .ok () w:=λop=>ng h4 h3
 refine⟨λho=>⟨b,h1,h.value (rW b) ?_⟩,λho=>⟨!b,λhp=>by rw[h1 hp];rfl,h.value (rW (!b)) ?_⟩⟩
 ·have h6:(binOp .eql T (a.eval x) (a.eval y)).run P w= .ok (.bool b) w:=by rw[h5 .eql];simp[h2]
  simp[execOp,ho,hg,h6]
 ·have h6:(binOp .neq T (a.eval x) (a.eval y)).run P w= .ok (.bool (!b)) w:=by rw[h5 .neq];simp[h2]
  simp[execOp,ho,hg,h6]
theorem y6{R:Type}{c:Bool}{x y:Option R}{r:R}(h:aJ c x y=some r):(c=true/\x=some r)\/(c=false/\y=some r):=by
 cases c
 ·exact .inr ⟨rfl,h⟩
 ·exact .inl ⟨rfl,h⟩
theorem MF{R:Type}{n:Nat}{k:Nat->Option R}{r:R}(h:UX n k=some r):0 < n/\∀j,j < n->k j=some r:=by
 unfold UX at h
 split at h
 ·rename_i hx
  obtain rfl:=cI h
  exact hx.choose_spec
 ·cases h
theorem D0{s:AS}{id:Id}{e:gT}{q:Nat}(hq:s.gd q=true)(lg:s.dx id≠none):(s.bJ id e).gd q=true:=by
 cases id with
 |ew k=>exact hq
 |new i j=>
  by_cases hi:i=q
  ·subst hi;exact absurd ((lI hq).1 j) lg
  ·unfold AS.gd AS.bJ
   simp only[iE hi]
   exact hq
theorem Alike.len{α β:Type}{R:α->β->Prop}:∀ {xs:List α} {ys:List β},Alike R xs ys->xs.length=ys.length
 |[],[],_=>rfl
 |_::_,_::_,⟨_,h⟩=>by simp[h.len]
 |[],_::_,h=>h.elim
 |_::_,[],h=>h.elim
theorem I8{α:Type}:∀ {xs ys:List α} {i j:Nat} {x:α},xs.Perm ys->xs[i]? =some x->ys[j]? =some x->(xs.eraseIdx i).Perm (ys.eraseIdx j):=by
 have key:∀ {xs:List α} {i:Nat} {x:α},xs[i]? =some x->xs.Perm (x::xs.eraseIdx i):=by
  intro xs
  induction xs with
  |nil=>intro i x h;simp at h
  |cons y xs ih=>
   intro i x h
   cases i with
   |zero=>simp at h;subst h;exact jz _
   |succ i=>
    have h:xs[i]? =some x:=by simpa using h
    exact((ih h).cons y).trans (List.Perm.swap x y _)
 intro xs ys i j x hp hi hj
 exact((key hi).symm.trans (hp.trans (key hj))).cons_inv
theorem Jb(h:Inv C g β s a w){T:TypeId}{m:Operand}(eZ:o.op= .range T m){s':AS}(he:(Ja P s o.dst T (s.ev m)).eval=some s'):iY P o a w (kN C s'):=by
 unfold Ja at he
 split at he
 ·rename_i K V' kt vt id ver q hm hx hd
  obtain⟨l,h1,he⟩:=aw.1 he
  obtain⟨hq,he⟩:=aL.1 he
  obtain rfl:=aB.1 he
  rw[ak]at hq
  obtain⟨hT,_,_⟩:=th hm
  have Ci:=h.ev m
  rw[hx]at Ci
  obtain⟨fr,pl,es,clock,g1,g2,g3,g4,g5,g6,g7,gn⟩:=sk h h1 Ci
  obtain rfl:=wz g1 hq.1
  have lg:s.dx id≠none:=by rw[g1];simp
  have UE:=Trans.refl w g
  have IJ:ed (s.env w g β) ((s.bJ id (.obj ver true (.mp kt vt l))).env w g β):=ed.bJ g1 (aE _) UE (λ_ _=>rfl) (λ_=>rfl)
  have i0:Inv C g β (s.bJ id (.obj ver true (.mp kt vt l))) a w:=
   h.step (fj _ _ _) UE IJ (lO.bJ h.cZ lg IJ (λ_ _=>rfl) (λ_ _ _ _ _ _ _ _=>⟨rfl,rfl⟩) ⟨pl,es,clock,g2,g4,g5,⟨g6.mono IJ.mem,gn⟩,g7⟩ (Bq g1))
  have eP:=gI s id (.obj ver true (.mp kt vt l)) lg
  have hq':=D0 (e:= .obj ver true (.mp kt vt l)) hq.2 lg
  generalize L9:s.bJ id (.obj ver true (.mp kt vt l))=s0 at i0 eP hq' IJ
  have uJ:∀j,id≠ .new q j:=λj e=>by rw[e,(lI hq').1 j]at eP;cases eP
  have mw:pl.b < w.heap.size:=(fw.1 g4).1
  have ht:=Trans.alloc w g (.mapIter (some pl.b) clock #[] clock) (.own (.id (.new q 0)) 0)
  obtain⟨h3,h4⟩:=i0.BO hq' (c:= .p9 id (ver+1) kt vt l none) (p:=some ⟨w.heap.size,0⟩) ht (λb hb=>⟨qU w _ hb,jb _ _ _ (by omega)⟩) (λhE=>
   ⟨⟨w.heap.size,0⟩,pl.b,clock,#[],clock,mv _ _ _,sx w _,ji _ _ _,λvr Ma=>by
    obtain rfl:ver=vr:=by omega
    have hb:(s0.env w g β).wZ id ver:=⟨by show s0.dx id≠none;rw[eP];simp,λv2 fr2 c2 h2=>by
     have h2:s0.dx id=some (.obj v2 fr2 c2):=h2
     rw[eP]at h2
     simp only[aD,gT.obj.injEq]at h2
     omega⟩
    refine⟨hE.wZ _ _ hb,λ_=>⟨⟨kt,vt,l,?_⟩,pl,es,clock,?_,rfl,?_,?_,λx hx=>g7.2 x hx,⟨aE _,aE _⟩,g7.1,?_,λx hx=>by cases hx⟩⟩
    ·show(s0.born q _).dx id=_
     rw[kO _ uJ];exact eP
    ·show xe β (.new q 0) _ id=_
     rw[sS _ _ _ (uJ 0)];exact g2
    ·exact(qU w _ mw).trans g4
    ·show oK g w.heap.size _ pl.b=_
     rw[jb _ _ _ (by omega)];exact g5
    ·have:es.toList.filter (λe=> !(#[]:Array Nat).contains e.born)=es.toList:=kY.2 λx _=>by simp
     rw[this]
     exact(g6.mono IJ.mem).mono hE.mem⟩)
  refine .inl ⟨.pointer (some ⟨w.heap.size,0,none⟩),w.alloc (.mapIter (some pl.b) clock #[] clock),?_,_,_,h3.put o.dst (v:= .ptr (.new q 0) 0 [] 0) ⟨[.pointer (some ⟨w.heap.size,0,none⟩)],?_,rfl⟩⟩
  ·refine fW (f:=Instr.range T (a.eval m)) (by simp only[execOp,eZ]) ?_
   rw[g3]
   exact run_range_map w T K V' pl.b es clock hT g4
  ·simp only[V]
   exact⟨_,rfl,pY hq' _ _ _ _,λ_=>⟨_,mv _ _ _,rfl⟩⟩
 ·simp only[al]at he
theorem Cq(h:Inv C g β s a w){x:Operand}{t:Ky}(ht:s.Nb (s.ev x)=some t):
  s.dx t.i=some (.obj t.v t.fr (.p9 t.q (t.vr+1) t.kt t.vt t.rest t.cur))/\(∃k v l,s.dx t.q=some (.obj t.vr true (.mp k v l)))/\
  ∃pl plq since seen c0 es clock,a.eval x= .pointer (some ⟨pl.b,0,none⟩)/\β t.i=some pl/\w.heap[pl.b]? =some (.mapIter (some plq.b) since seen c0)/\g pl.b= .own (.id t.i) 0/\
   β t.q=some plq/\w.heap[plq.b]? =some (.map es clock)/\g plq.b= .own (.id t.q) 0/\(∀x∈es.toList,x.born < since)/\(since<=c0/\since<=clock)/\(es.toList.map (·.born)).Nodup/\
   EV (s.env w g β) t.kt t.vt (es.toList.filter λe=> !seen.contains e.born) t.rest/\
   ∀x,t.cur=some x->∃(e:MapEntry) (seen':Array Nat),e∈es.toList/\seen=seen'.push e.born/\c0=clock/\uo (s.env w g β) t.kt t.vt e x:=by
 have Ci:=h.ev x
 generalize s.ev x=y at ht Ci
 unfold AS.Nb at ht
 split at ht
 ·rename_i i ver
  split at ht
  ·rename_i v fr q vr kt vt rest cur mY
   split at ht
   ·rename_i hv hl
    obtain rfl:=cI ht
    have hv:v=ver:=by simpa using hv
    subst hv
    have eP:=gC mY
    unfold AS.G1 at hl
    split at hl
    ·rename_i v2 k2 t2 l2 VG
     have hl:v2=vr:=by simpa using hl
     subst hl
     have hq:=gC VG
     refine⟨eP,⟨_,_,_,hq⟩,?_⟩
     obtain⟨pl,mb,since,seen,c0,h1,h2,h3,h4⟩:=h.cZ i v fr _ eP
     obtain⟨h5,h6⟩:=h4 v2 rfl
     obtain⟨_,plq,es,clock,k1,k2,k3,k4,k5,k6,k7,k8,k9⟩:=h6 ⟨_,_,hq⟩
     subst k2
     obtain⟨ad,m1,m2,m3⟩:=qF Ci
     obtain⟨pl',m4,rfl⟩:=m3 ⟨_,_,eP⟩
     have h1:β i=some pl:=h1
     have m4:β i=some pl':=m4
     rw[h1]at m4
     obtain rfl:pl=pl':=by simpa using m4
     exact⟨pl,plq,since,seen,c0,es,clock,m1,h1,h2,h3,k1,k3,k4,k5,k6,k7,k8,k9⟩
    ·cases hl
   ·cases ht
  ·cases ht
 ·cases ht
theorem uo.YE{E:Env}{kt vt:Ty}{e:MapEntry}{x:kt.den×vt.den}(h:uo E kt vt e x):VS E (.cons (.d kt x.1) (.cons (.d vt x.2) .nil)) (.tuple #[e.key,e.val]):=by
 obtain⟨⟨c1,a1,b1⟩,c2,a2,b2⟩:=h
 refine⟨[e.key,e.val],rfl,?_⟩
 simp only[VC]
 exact⟨_,_,c1,rfl,by simpa only[V]using a1,b1,_,_,c2,rfl,by simpa only[V]using a2,b2,rfl⟩
theorem uo.YF{E:Env}{kt vt:Ty}{e:MapEntry}{x:kt.den×vt.den}(h:uo E kt vt e x):VS E (.cons (.d .bool true) (.cons (.d kt x.1) (.cons (.d vt x.2) .nil))) (.tuple #[.bool true,e.key,e.val]):=by
 obtain⟨⟨c1,a1,b1⟩,c2,a2,b2⟩:=h
 refine⟨[.bool true,e.key,e.val],rfl,?_⟩
 simp only[VC]
 exact⟨_,_,[.bool true],rfl,by simp only[V,eX],rfl,_,_,c1,rfl,by simpa only[V]using a1,b1,_,_,c2,rfl,by simpa only[V]using a2,b2,rfl⟩
theorem ID(h:Inv C g β s a w){x:Operand}(eZ:o.op= .entry x){v:aH}(he:(IC s (s.ev x)).eval=some v):iY P o a w (kN C (s.put o.dst v)):=by
 unfold IC at he
 split at he
 ·rename_i i v0 fr q vr kt vt rest c ht
  obtain rfl:=aB.1 he
  obtain⟨_,_,pl,plq,since,seen,c0,es,clock,m1,m2,m3,_,m5,m6,m7,_,_,m10,_,m12⟩:=Cq h ht
  obtain⟨e,seen',n1,rfl,rfl,n4⟩:=m12 c rfl
  refine h.value n4.YE (fW (f:=Instr.entry (a.eval x)) (by simp only[execOp,eZ]) ?_)
  rw[m1]
  exact run_entry_at w pl.b plq.b since seen' es _ e m3 m6 n1 m10
 ·simp only[al]at he
theorem heap_drew{w w1:World}(hw:w1=w\/w1=w.drew):w1.heap=w.heap/\w1.os=w.os/\w1.tape=w.tape/\(w1.output=w.output/\w.drawn<=w1.drawn):=by
 rcases hw with rfl | rfl
 ·exact⟨rfl,rfl,rfl,rfl,aE _⟩
 ·exact⟨rfl,rfl,rfl,rfl,Nat.le_succ _⟩
theorem Inv.Ue(h:Inv C g β s a w){i q:Id}{v vr:Nat}{fr:Bool}{kt vt:Ty}{rest:List (kt.den×vt.den)}{cur:Option (kt.den×vt.den)}(eP:s.dx i=some (.obj v fr (.p9 q (vr+1) kt vt rest cur)))
  {k2 v2:Ty} {l2:List (k2.den×v2.den)} (hq:s.dx q=some (.obj vr true (.mp k2 v2 l2))) {pl plq:Pl} {m0:Option Nat} {since0 c00:Nat} {seen0:Array Nat} (hp:β i=some pl) (hb:w.heap[pl.b]? =some (.mapIter m0 since0 seen0 c00)) (hg:g pl.b= .own (.id i) 0)
  {w1:World} (hw:w1=w\/w1=w.drew) {es:Array MapEntry} {clock since c0:Nat} {seen:Array Nat} (X6:β q=some plq) (Rg:w.heap[plq.b]? =some (.map es clock)) (XL:g plq.b= .own (.id q) 0)
  (h1:∀x∈es.toList,x.born < since) (h2:since<=c0/\since<=clock) (h3:(es.toList.map (·.born)).Nodup) {rest':List (kt.den×vt.den)} {cur':Option (kt.den×vt.den)} (h4:EV (s.env w g β) kt vt (es.toList.filter λe=> !seen.contains e.born) rest')
  (h5:∀x,cur'=some x->∃(e:MapEntry) (seen':Array Nat),e∈es.toList/\seen=seen'.push e.born/\c0=clock/\uo (s.env w g β) kt vt e x):
  Inv C g β (s.bJ i (.obj v fr (.p9 q (vr+1) kt vt rest' cur'))) a (Go.ChangeMaps.setBlock w1 pl.b (.mapIter (some plq.b) since seen c0))/\
   qT (s.env w g β) ((s.bJ i (.obj v fr (.p9 q (vr+1) kt vt rest' cur'))).env (Go.ChangeMaps.setBlock w1 pl.b (.mapIter (some plq.b) since seen c0)) g β):=by
 obtain⟨d1,d2,d3,d4⟩:=heap_drew hw
 have mw:pl.b < w.heap.size:=(fw.1 hb).1
 have JT:(Go.ChangeMaps.setBlock w1 pl.b (.mapIter (some plq.b) since seen c0)).heap=w.heap.setIfInBounds pl.b (.mapIter (some plq.b) since seen c0):=by
  show w1.heap.setIfInBounds _ _=_
  rw[d1]
 have SD:(Go.ChangeMaps.setBlock w1 pl.b (.mapIter (some plq.b) since seen c0)).os=w.os/\(Go.ChangeMaps.setBlock w1 pl.b (.mapIter (some plq.b) since seen c0)).tape=w.tape/\((Go.ChangeMaps.setBlock w1 pl.b (.mapIter (some plq.b) since seen c0)).output=w.output/\w.drawn<=(Go.ChangeMaps.setBlock w1 pl.b (.mapIter (some plq.b) since seen c0)).drawn):=⟨d2,d3,d4⟩
 generalize Go.ChangeMaps.setBlock w1 pl.b (.mapIter (some plq.b) since seen c0)=w' at JT SD
 have hother:∀b',b'≠pl.b->w'.heap[b']? =w.heap[b']? :=λb' lg=>by
  rw[JT,iM,if_neg (λe=>lg e.symm)]
 have nO:w'.heap[pl.b]? =some (.mapIter (some plq.b) since seen c0):=by
  rw[JT,iM,if_pos rfl,if_pos mw]
 have ht:Trans w w' g g:=by
  refine⟨SD.1,SD.2.1,SD.2.2,by rw[JT];simp,λb' _=> ?_⟩
  by_cases he:b'=pl.b
  ·subst he
   rw[hg]
   exact⟨.inr ⟨i,0,rfl,aE _⟩,λ_ _ hh=>by omega⟩
  ·rw[hother b' he]
   cases Cc:g b' with
   |free=>exact⟨rfl,rfl⟩
   |own o' k=>cases o' with
    |iS=>exact⟨rfl,rfl⟩
    |id i'=>exact⟨.inr ⟨i',k,rfl,aE _⟩,λoff v _ hv=>by simpa only[World.cell?,hother b' he]using hv⟩
 have hle:ed (s.env w g β) ((s.bJ i (.obj v fr (.p9 q (vr+1) kt vt rest' cur'))).env w' g β):=ed.bJ eP (aE _) ht (λ_ _=>rfl) (λ_=>rfl)
 have TO:q≠i:=λe=>by rw[e,eP]at hq;cases hq
 have X5:plq.b≠pl.b:=λe=>by rw[e,hb]at Rg;cases Rg
 refine⟨h.step (fj _ _ _) ht hle (lO.bJ h.cZ (by rw[eP];simp) hle (λ_ _=>rfl) (λi' ver' fr' c' pl2 hi DE H7=>⟨hother _ (h.apart hg hi DE H7),rfl⟩) ?_ (og eP λ_ _ _ e=>by cases e)),hle.mem⟩
 refine⟨pl,plq.b,since,seen,c0,hp,nO,hg,λvr' Ma=> ?_⟩
 obtain rfl:vr=vr':=by omega
 have O6:(s.env w g β).wZ q vr:=⟨by show s.dx q≠none;rw[hq];simp,λv3 fr3 c3 h3=>by
  have h3:s.dx q=some (.obj v3 fr3 c3):=h3
  rw[hq]at h3
  simp only[aD,gT.obj.injEq]at h3
  omega⟩
 refine⟨hle.wZ _ _ O6,λ_=>⟨⟨k2,v2,l2,?_⟩,plq,es,clock,X6,rfl,(hother _ X5).trans Rg,XL,h1,h2,h3,h4.mono hle.mem,λx hx=> ?_⟩⟩
 ·show(s.bJ i _).dx q=_
  rw[dX s i q _ TO];exact hq
 ·obtain⟨e,se,a1,a2,a3,a4⟩:=h5 x hx
  exact⟨e,se,a1,a2,a3,a4.mono hle.mem⟩
theorem Inv.Qe(h:Inv C g β s a w){i q:Id}{v ver ver':Nat}{fr:Bool}{kt vt:Ty}{rest rest':List (kt.den×vt.den)}{cur cur':Option (kt.den×vt.den)}(eP:s.dx i=some (.obj v fr (.p9 q ver kt vt rest cur)))
  (hk:ver'=0\/(ver'=ver/\rest'=rest/\cur'=none)):Inv C g β (s.bJ i (.obj v fr (.p9 q ver' kt vt rest' cur'))) a w:=by
 have ht:=Trans.refl w g
 have hle:ed (s.env w g β) ((s.bJ i (.obj v fr (.p9 q ver' kt vt rest' cur'))).env w g β):=ed.bJ eP (aE _) ht (λ_ _=>rfl) (λ_=>rfl)
 refine h.step (fj _ _ _) ht hle (lO.bJ h.cZ (by rw[eP];simp) hle (λ_ _=>rfl) (λ_ _ _ _ _ _ _ _=>⟨rfl,rfl⟩) ?_ (og eP λ_ _ _ e=>by cases e))
 obtain⟨pl,mb,since,seen,c0,h1,h2,h3,h4⟩:=h.cZ i v fr _ eP
 refine⟨pl,mb,since,seen,c0,h1,h2,h3,λvr Ma=> ?_⟩
 rcases hk with hk | ⟨rfl,rfl,rfl⟩
 ·omega
 ·obtain⟨h5,h6⟩:=h4 vr Ma
  refine⟨hle.wZ _ _ h5,λhc=> ?_⟩
  obtain⟨c1,_⟩:=hle.cur _ _ h5 hc
  obtain⟨⟨k,v1,l,hq⟩,plq,es,clock,k1,k2,k3,k4,k5,k6,k7,k8,_⟩:=h6 c1
  have TO:q≠i:=λe=>by
   have hq:s.dx q=_:=hq
   rw[e,eP]at hq;cases hq
  exact⟨⟨k,v1,l,by show(s.bJ i _).dx q=_;rw[dX s i q _ TO];exact hq⟩,plq,es,clock,k1,k2,k3,k4,k5,k6,k7,k8.mono hle.mem,λx hx=>by cases hx⟩
theorem Jc{s:AS}{q i:Id}{e:gT}(h:s.CS q=false)(hi:s.dx i=some e):e.Nc q=false:=by
 unfold AS.CS at h
 rw[Bool.or_eq_false_iff]at h
 cases i with
 |ew k=>simpa using jr.1 h.1 _ (eQ hi)
 |new a b=>
  have hi:(s.news.getD a [])[b]? =some e:=hi
  by_cases ha:a < s.news.length
  ·have h2:(s.news.getD a []).any (gT.Nc q)=false:=by simpa using jr.1 h.2 (s.news.getD a []) (by simp[aY,dC ha])
   simpa using jr.1 h2 _ (eQ hi)
  ·simp[aY,ik (Nat.le_of_not_lt ha)]at hi
theorem Inv.unlock(h:Inv C g β s a w){q:Id}{vr:Nat}{k v:Ty}{l:List (k.den×v.den)}(eP:s.dx q=some (.obj vr true (.mp k v l)))(hr:s.CS q=false):Inv C g β (s.bJ q (.obj vr false (.mp k v l))) a w:=by
 have ht:=Trans.refl w g
 have hle:ed (s.env w g β) ((s.bJ q (.obj vr false (.mp k v l))).env w g β):=ed.bJ eP (aE _) ht (λ_ _=>rfl) (λ_=>rfl)
 refine h.step (fj _ _ _) ht hle λi ver fr c hi=> ?_
 have hi:(s.bJ q (.obj vr false (.mp k v l))).dx i=some (.obj ver fr c):=hi
 by_cases WV:i=q
 ·subst WV
  rw[gI s i _ (by rw[eP];simp)]at hi
  simp only[aD,gT.obj.injEq]at hi
  obtain⟨rfl,rfl,rfl⟩:=hi
  obtain⟨pl,es,clock,h1,h2,h3,h4,h5⟩:=h.cZ i vr true _ eP
  exact⟨pl,es,clock,h1,h2,h3,⟨h4.1.mono hle.mem,h4.2⟩,h5⟩
 ·rw[dX s q i _ WV]at hi
  refine(h.cZ i ver fr c hi).Qq hle rfl (λ_ _=>⟨rfl,rfl⟩) λq2 v2 k2 v3 l2 hc Bb _=>⟨⟨k2,v3,l2,?_⟩,λ_ _=>⟨rfl,rfl⟩⟩
  obtain⟨kt,vt,rest,cu,rfl⟩:=hc
  have hn:=Jc hr hi
  have lg:q2≠q:=λe=>by simp[gT.Nc,e]at hn
  show(s.bJ q _).dx q2=_
  rw[dX s q q2 _ lg];exact Bb
theorem IV{es:List MapEntry}{seen:Array Nat}(hn:(es.map (·.born)).Nodup){j:Nat}{e:MapEntry}(hj:(es.filter λe=> !seen.contains e.born)[j]? =some e):
  es.filter (λx=> !(seen.push e.born).contains x.born)=(es.filter λe=> !seen.contains e.born).eraseIdx j:=by
 have h1:es.filter (λx=> !(seen.push e.born).contains x.born)=(es.filter λe=> !seen.contains e.born).filter λx=>x.born !=e.born:=by
  rw[List.filter_filter]
  refine List.filter_congr λx _=> ?_
  rw[contains_push]
  cases seen.contains x.born <;> cases hb:x.born==e.born <;> simp[bne,hb]
 rw[h1]
 have P6:((es.filter λe=> !seen.contains e.born).map (·.born)).Nodup:=hn.sublist (List.filter_sublist.map _)
 generalize es.filter (λe=> !seen.contains e.born)=L at hj P6
 induction L generalizing j with
 |nil=>simp at hj
 |cons x L ih=>
  rw[cO,fV]at P6
  cases j with
  |zero=>
   simp only[iU,aD]at hj
   subst hj
   have:L.filter (λy=>y.born !=x.born)=L:=kY.2 λy hy=>by
    have:y.born≠x.born:=λe=>P6.1 (e▸eD.2 ⟨y,hy,rfl⟩)
    simpa using this
   simp[this]
  |succ j=>
   have hj:L[j]? =some e:=by simpa using hj
   have hx:(x.born !=e.born)=true:=by
    have:x.born≠e.born:=λh=>P6.1 (h▸eD.2 ⟨e,eQ hj,rfl⟩)
    simpa using this
   rw[iw,hx,List.eraseIdx_cons_succ]
   simp only[if_true]
   rw[ih hj P6.2]
theorem Lt(h:Inv C g β s a w){x:Operand}(eZ:o.op= .next x false){t:Ky}(ht:s.Nb (s.ev x)=some t){R:Type}{k:AS->Option R}{r:R}(he:Nv s o.dst t k=some r):
  iY P o a w λa' w'=>∃s',kN C s' a' w'/\k s'=some r:=by
 obtain⟨hi,⟨k2,v2,l2,hq⟩,pl,plq,since,seen,c0,es,clock,m1,m2,m3,m4,m5,m6,m7,m8,m9,m10,m11,_⟩:=Cq h ht
 have hex:∀ {y:Value} {w':World},(Instr.next (a.eval x) false o.type).run P w= .ok y w'->(execOp a.eval o).run P w= .ok (.value y) w':=λhr=>
  fW (f:=Instr.next (a.eval x) false o.type) (by simp only[execOp,eZ]) hr
 have Ce:(leftOf es seen).toList=es.toList.filter λe=> !seen.contains e.born:=by unfold leftOf;rw[Array.toList_filter]
 obtain⟨l',m11,M1⟩:=m11
 have hlen:=m11.len
 rw[M1.length_eq]at hlen
 rw[<-Ce,eh]at hlen
 unfold Nv at he
 rcases run_next_at (P:=P) w o.type pl.b plq.b since c0 seen es clock m3 m6 m8 m9.1 with⟨h0,oS⟩ | ⟨e,Sy,w1,hw,oS⟩
 ·rcases y6 he with⟨hc,_⟩ | ⟨_,he⟩
  ·have:0 < t.rest.length:=by simpa using hc
   omega
  ·unfold AS.PG at he
   have i1:=h.Qe (rest':=[]) (cur':=none) hi (.inl rfl)
   have TO:t.q≠t.i:=λe=>by rw[e,hi]at hq;simp at hq
   have SF:(s.bJ t.i (.obj t.v t.fr (.p9 t.q 0 t.kt t.vt [] none))).dx t.q=some (.obj t.vr true (.mp k2 v2 l2)):=by rw[dX s t.i t.q _ TO];exact hq
   generalize s.bJ t.i (.obj t.v t.fr (.p9 t.q 0 t.kt t.vt [] none))=s1 at he i1 SF
   cases hr:s1.CS t.q with
   |true=>rw[hr]at he;cases he
   |false=>
    rw[hr]at he
    simp only at he
    have Yf:s1.unlock t.q=s1.bJ t.q (.obj t.vr false (.mp k2 v2 l2)):=by simp only[AS.unlock,AS.obj,SF]
    rw[Yf]at he
    rw[<-m1]at oS
    refine .inl ⟨_,w,hex oS,_,⟨g,β,(i1.unlock SF hr).put o.dst (v:= .cons (.d .bool false) .nil) ⟨[.bool false],rfl,?_⟩⟩,he⟩
    simp only[VC]
    exact⟨_,_,[.bool false],rfl,by simp only[V,eX],rfl,rfl⟩
 ·rcases y6 he with⟨hc,he⟩ | ⟨hc,_⟩
  ·obtain⟨_,hd⟩:=MF he
   rw[Ce]at Sy
   obtain⟨i,Ro⟩:=List.getElem?_of_mem Sy
   obtain⟨y,W9,UG⟩:=m11.get Ro
   obtain⟨j,hj⟩:=List.getElem?_of_mem (M1.mem_iff.1 (eQ W9))
   have Rr:j < t.rest.length:=(fK.1 hj).1
   have hy:FF t.kt t.vt t.rest j=y:=by simp[FF,aY,hj]
   have zD:e∈es.toList:=(jI.1 Sy).1
   have i1:=h.Ue (rest':=t.rest.eraseIdx j) (cur':=some (FF t.kt t.vt t.rest j)) (since:=since) (c0:=clock) (seen:=seen.push e.born) hi hq m2 m3 m4 hw m5 m6 m7 m8 ⟨m9.2,m9.2⟩ m10 ?_ ?_
   rotate_left
   ·rw[IV m10 Ro];exact⟨_,m11.erase i,I8 M1 W9 hj⟩
   ·intro z hz
    obtain rfl:=cI hz
    exact⟨e,seen,zD,rfl,rfl,by rw[hy];exact UG⟩
   rw[<-m1]at oS
   have hVS:=(hy▸UG:uo (s.env w g β) t.kt t.vt e (FF t.kt t.vt t.rest j))
   refine .inl ⟨_,_,hex oS,_,⟨g,β,i1.1.put o.dst (v:= .cons (.d .bool true) (.cons (.d t.kt (FF t.kt t.vt t.rest j).1) (.cons (.d t.vt (FF t.kt t.vt t.rest j).2) .nil))) ?_⟩,hd j Rr⟩
   exact uo.YF (hVS.mono i1.2)
  ·have hc:¬0 < t.rest.length:=by simpa using hc
   have:0 < (leftOf es seen).toList.length:=List.length_pos_of_mem Sy
   rw[eh]at this
   omega
theorem K2{Γ:fD}(hΓ:Sound P Γ){cZ:List Nat}{ops:Array Oper}{R:Type}{k:AS->Option R}{r:R}(h:kN C s a w)(he:O3 P Γ cZ ops o s k=some r):
  oO P ops o a w λa' w'=>∃s',kN C s' a' w'/\k s'=some r:=by
 have plain:Rb P Γ cZ ops o s k=some r->oO P ops o a w λa' w'=>∃s',kN C s' a' w'/\k s'=some r:=λhe=>by
  obtain⟨s1,h1,h2⟩:=GH he
  exact(Em hΓ h h1).mono λa' w' hs=>⟨s1,hs,h2⟩
 have stepK:∀(hg:o.guard=none),(iY P o a w λa' w'=>∃s',kN C s' a' w'/\k s'=some r)->oO P ops o a w λa' w'=>∃s',kN C s' a' w'/\k s'=some r:=λhg hr=>by
  unfold oO
  have:Region.wanted o (yielded ops a.tmps)=true:=by simp[Region.wanted,hg]
  rw[if_pos this]
  exact hr
 have step:∀(hg:o.guard=none) (b:Bool),iY P o a w (kN C (s.put o.dst (.d .bool b)))->k (s.put o.dst (.d .bool b))=some r->oO P ops o a w λa' w'=>∃s',kN C s' a' w'/\k s'=some r:=λhg b hr hk=>by
  unfold oO
  have:Region.wanted o (yielded ops a.tmps)=true:=by simp[Region.wanted,hg]
  rw[if_pos this]
  exact hr.mono λa' w' hs=>⟨_,hs,hk⟩
 unfold O3 at he
 split at he
 ·rename_i T x y U hg ho
  split at he
  ·rename_i n hn hT
   obtain⟨g,β,hi⟩:=h
   obtain⟨b,hb,hr⟩:=(yM (o:=o) (U:=U) hi hn hT).1 ho
   refine step hg b hr ?_
   rcases y6 he with⟨hc,hk⟩ | ⟨_,hk⟩
   ·rw[hb (by simpa using hc)];exact hk
   ·obtain⟨k1,k2⟩:=J6 hk
    cases b
    ·exact k2
    ·exact k1
  ·exact plain he
 ·rename_i T x y U hg ho
  split at he
  ·rename_i n hn hT
   obtain⟨g,β,hi⟩:=h
   obtain⟨b,hb,hr⟩:=(yM (o:=o) (U:=U) hi hn hT).2 ho
   refine step hg b hr ?_
   rcases y6 he with⟨hc,hk⟩ | ⟨_,hk⟩
   ·rw[hb (by simpa using hc)];exact hk
   ·obtain⟨k1,k2⟩:=J6 hk
    cases b
    ·exact k2
    ·exact k1
  ·exact plain he
 ·rename_i T m hg ho
  obtain⟨s1,h1,h2⟩:=mr.1 he
  obtain⟨g,β,hi⟩:=h
  exact stepK hg ((Jb hi ho h1).mono λ_ _ hs=>⟨_,hs,h2⟩)
 ·rename_i x hg ho
  obtain⟨s1,h1,h2⟩:=mr.1 he
  obtain⟨v,h3,h4⟩:=aw.1 h1
  obtain rfl:=aB.1 h4
  obtain⟨g,β,hi⟩:=h
  exact stepK hg ((ID hi ho h3).mono λ_ _ hs=>⟨_,hs,h2⟩)
 ·rename_i x hg ho
  split at he
  ·rename_i t ht
   obtain⟨g,β,hi⟩:=h
   exact stepK hg (Lt hi ho ht he)
  ·cases he
 ·exact plain he
theorem Av{Γ:fD}(hΓ:Sound P Γ){cZ:List Nat}{ops:Array Oper}{R:Type}{Q:Exit->Act->World->Prop}:∀(l:List Oper) {s:AS} {a:Act} {w:World} {k:AS->Option R} {r:R},kN C s a w->O4 P Γ cZ ops l s k=some r->
  (∀s' a' w',kN C s' a' w'->k s'=some r->Q .normal a' w')->wpList P ops Q l a w
 |[],s,a,w,k,r,h,he,hk=>hk s a w h he
 |o::l,s,a,w,k,r,h,he,hk=>by
  have he:O3 P Γ cZ ops o s (λs'=>s'.seen λs'=>O4 P Γ cZ ops l s' k)=some r:=he
  simp only[AS.y5]at he
  exact((K2 hΓ h he).mono λa' w' ⟨s',hs,h2⟩=>Av hΓ l hs h2 hk).wpList
end
end Go.Ab
namespace Go.Ab
theorem AS.ML{s t:AS}(h1:s.dW=t.dW)(h2:s.news.length=t.news.length)(h3:∀id,s.dx id=t.dx id):s=t:=by
 obtain⟨a,b,c⟩:=s
 obtain⟨a',b',c'⟩:=t
 simp only at h1 h2
 subst h1
 have hb:b=b':=List.ext_getElem? λk=>h3 (.ew k)
 subst hb
 have hc:c=c':=by
  apply List.ext_getElem h2
  intro i h h'
  apply List.ext_getElem?
  intro j
  have:=h3 (.new i j)
  simpa[AS.dx,aY,h,h']using this
 rw[hc]
def gT.HJ:gT->gT->Prop
 | .obj v _ c,.obj v' _ c'=>v=v'/\c=c'
 | .dead,.dead=>True
 |_,_=>False
def sP:Option gT->Option gT->Prop
 |some a,some b=>a.HJ b
 |none,none=>True
 |_,_=>False
def gT.JM:gT->gT
 | .obj v _ c=> .obj v true c
 | .dead=> .dead
theorem gT.N7(a:gT):a.HJ a:=by cases a <;> simp[gT.HJ]
theorem LK(a:Option gT):sP a a:=by cases a <;> simp[sP,gT.N7]
theorem LJ(a:Option gT):sP (a.map gT.JM) a:=by
 cases a with
 |none=>trivial
 |some x=>cases x <;> simp[sP,gT.HJ,gT.JM]
theorem gT.OY(a:gT):a.JM.JM=a.JM:=by cases a <;> rfl
structure mA(f:vy)(s t:AS):Prop where
 dW:∀i∈f.dW,t.slot i=s.slot i
 ws:∀id∈f.ws,t.dx id=s.dx id
 rs:∀id∈f.rs,sP (t.dx id) (s.dx id)
 gd:∀q,f.dst=some q->t.gd q=s.gd q
structure Sj where
 v:aH
 up:Id->Option gT
 fz:List Id
structure App(d:Option Tmp)(E:Sj)(s s':AS):Prop where
 dW:s'.dW=(s.put d E.v).dW
 len:s'.news.length=s.news.length
 dx:∀id,s'.dx id=match E.up id with | some e=>some e | none=>if id∈E.fz then(s.dx id).map gT.JM else s.dx id
theorem App.QU{d:Option Tmp}{E:Sj}{s s1 s2:AS}(h1:App d E s s1)(h2:App d E s s2):s1=s2:=
 AS.ML (by rw[h1.dW,h2.dW]) (by rw[h1.len,h2.len]) λid=>by rw[h1.dx,h2.dx]
structure EX(f:vy)(s:AS)(E:Sj):Prop where
 up:∀id e,E.up id=some e->(id∈f.ws/\s.dx id≠none)\/∃q j,f.dst=some q/\id= .new q j
 fz:∀id∈E.fz,id∈f.rs
theorem xM(s:AS)(id:Id)(e:gT):(s.bJ id e).news.length=s.news.length:=by cases id <;> simp[AS.bJ]
theorem DC(s:AS)(id i:Id):(s.freeze id).dx i=if i=id then(s.dx i).map gT.JM else s.dx i:=by
 unfold AS.freeze
 cases hs:s.dx id with
 |none=>
  by_cases hi:i=id
  ·subst hi;simp[hs]
  ·simp[hi]
 |some e=>
  cases e with
  |dead=>
   by_cases hi:i=id
   ·subst hi;simp[hs,gT.JM]
   ·simp[hi]
  |obj v fr c=>
   simp only
   by_cases hi:i=id
   ·subst hi
    rw[gI s i _ (by rw[hs];simp)]
    simp[hs,gT.JM]
   ·rw[dX s id i _ hi];simp[hi]
theorem iO(i:Id):∀(ids:List Id) (s:AS),(s.cg ids).dx i=if i∈ids then(s.dx i).map gT.JM else s.dx i
 |[],s=>by simp[AS.cg]
 |id::ids,s=>by
  rw[AS.cg,iO i ids,DC]
  by_cases h1:i=id
  ·subst h1
   by_cases h2:i∈ids
   ·simp[h2,Option.map_map,Function.comp_def,gT.OY]
   ·simp[h2]
  ·simp[h1]
theorem IW(s:AS)(id:Id):(s.freeze id).news.length=s.news.length:=by
 unfold AS.freeze
 split
 ·exact xM _ _ _
 ·rfl
theorem oV:∀(ids:List Id) (s:AS),(s.cg ids).news.length=s.news.length
 |[],_=>rfl
 |id::ids,s=>by rw[AS.cg,oV ids,IW]
theorem sT{s:AS}{q:Nat}:s.gd q=true↔q < s.news.length/\∀j,s.dx (.new q j)=none:=by
 refine⟨λh=>⟨(lI h).2,(lI h).1⟩,λ⟨h1,h2⟩=> ?_⟩
 unfold AS.gd
 rw[dC h1]
 have h0:=h2 0
 simp only[AS.dx,aY,dC h1,gj]at h0
 cases hh:s.news[q]with
 |nil=>rfl
 |cons x xs=>rw[hh]at h0;simp at h0
theorem App.zA(d:Option Tmp)(v:aH)(ids:List Id)(s:AS):App d ⟨v,λ_=>none,ids⟩ s ((s.cg ids).put d v):=by
 refine⟨?_,?_,λid=> ?_⟩
 ·cases d <;> simp[AS.put,nb]
 ·cases d <;> simp[AS.put,oV]
 ·rw[wF,iO]
theorem App.wN(d:Option Tmp)(v:aH)(s:AS):App d ⟨v,λ_=>none,[]⟩ s (s.put d v):=App.zA d v [] s
def zo(q:Nat)(es:List gT):Id->Option gT
 | .new i j=>if i=q then es[j]? else none
 | .ew _=>none
theorem MI(s:AS){q:Nat}(hq:q < s.news.length)(es:List gT)(id:Id):(s.born q es).dx id=match id with | .new i j=>if i=q then es[j]? else s.dx (.new i j) | .ew k=>s.dx (.ew k):=by
 cases id with
 |ew k=>rfl
 |new i j=>
  simp only
  by_cases h:i=q
  ·subst h;rw[if_pos rfl];exact sa hq _ j
  ·rw[if_neg h];exact kO _ λj' e=>by simp only[Id.new.injEq]at e;exact h e.1
theorem App.JF{s:AS}{q:Nat}(hv:s.gd q=true)(v:aH)(ids:List Id)(es:List gT):App (some q) ⟨v,zo q es,ids⟩ s (((s.cg ids).born q es).put (some q) v):=by
 obtain⟨h1,h2⟩:=sT.1 hv
 refine⟨?_,?_,λid=> ?_⟩
 ·simp[AS.put,nb]
 ·simp[AS.put,AS.born,oV]
 ·rw[wF,MI _ (by rw[oV];exact h1)]
  cases id with
  |ew k=>simp only[zo];exact iO _ _ _
  |new i j=>
   simp only[zo]
   by_cases h:i=q
   ·subst h
    rw[if_pos rfl]
    cases he:es[j]? with
    |none=>simp[h2]
    |some e=>simp
   ·rw[if_neg h]
    simp only[if_neg h]
    exact iO _ _ _
theorem App.N4{s:AS}{id:Id}{e0:gT}(hs:s.dx id=some e0)(d:Option Tmp)(v:aH)(e:gT):App d ⟨v,λi=>if i=id then some e else none,[]⟩ s ((s.bJ id e).put d v):=by
 refine⟨?_,?_,λi=> ?_⟩
 ·cases d <;> simp[AS.put]
 ·cases d <;> simp[AS.put,xM]
 ·rw[wF]
  by_cases hi:i=id
  ·subst hi
   rw[gI s i _ (by rw[hs];simp)]
   simp
  ·rw[dX s id i _ hi];simp[hi]
section
variable {P:Program} {Γ:fD} {cZ:List Nat} {ops:Array Oper} {o:Oper} {s t:AS}
def yk(P:Program)(Γ:fD)(cZ:List Nat)(ops:Array Oper)(o:Oper)(s s':AS):Prop:=
 ∃E,App o.dst E s s'/\EX (jO Γ ops s o) s E/\∀t,mA (jO Γ ops s o) s t->∃t',(oP P Γ cZ o t).eval=some t'/\App o.dst E t t'
theorem AE{xs:Array Operand}{i:Nat}(h:Operand.tmp i∈xs.toList):i∈Bz xs:=by
 unfold Bz
 exact List.mem_filterMap.2 ⟨_,h,rfl⟩
theorem mA.ev(h:mA (jO Γ ops s o) s t){x:Operand}(hx:x∈o.op.operands.toList):t.ev x=s.ev x:=by
 cases x with
 |tmp i=>exact h.dW i (cf.2 (.inl (AE hx)))
 |_=>rfl
theorem Hq(v:Value):(ofConst v).ids=[]:=by unfold ofConst;split <;> rfl
theorem FE{o:Oper}{x:Op}(h:o.op=x)(hx:Ew x=false):Ew o.op=false:=by rw[h];exact hx
theorem xG(hn:Ew o.op=false){x:Operand}(hx:x∈o.op.operands.toList){id:Id}(eY:id∈(s.ev x).ids):id∈(jO Γ ops s o).rs:=by
 refine cf.2 (.inl ?_)
 unfold Hs
 rw[hn]
 cases x with
 |tmp i=>exact List.mem_flatMap.2 ⟨i,AE hx,eY⟩
 |const v=>simp[AS.ev,Hq]at eY
 |global _=>simp[AS.ev,aH.ids]at eY
 |func f=>simp[AS.ev,aH.ids]at eY
theorem mA.HJ(h:mA (jO Γ ops s o) s t)(hn:Ew o.op=false){x:Operand}(hx:x∈o.op.operands.toList){id:Id}(eY:id∈(s.ev x).ids):sP (t.dx id) (s.dx id):=
 h.rs id (xG hn hx eY)
theorem za{id:Id}(h:sP (t.dx id) (s.dx id)):(t.obj id=none/\s.obj id=none)\/∃v f f' c,t.obj id=some (v,f,c)/\s.obj id=some (v,f',c):=by
 unfold AS.obj
 revert h
 cases t.dx id with
 |none=>cases s.dx id with
  |none=>intro _;simp
  |some b=>intro h;exact h.elim
 |some a=>cases s.dx id with
  |none=>intro h;exact h.elim
  |some b=>cases a <;> cases b <;> intro h <;> first
    |exact h.elim
    | (left;exact⟨rfl,rfl⟩)
    | (obtain⟨rfl,rfl⟩:=h;right;exact⟨_,_,_,_,rfl,rfl⟩)
theorem Ac{id:Id}(h:sP (t.dx id) (s.dx id))(ver:Nat)(p:List xt):t.row id ver p=s.row id ver p:=by
 unfold AS.row
 rcases za h with⟨h1,h2⟩ | ⟨v,f,f',c,h1,h2⟩ <;> rw[h1,h2]
theorem nT:∀(v:aH) (ty:Ty),(∀id∈v.ids,sP (t.dx id) (s.dx id))->t.kR ty v=s.kR ty v
 | .di id ver p c i len,ty,h=>by
  cases ty <;> first
   |rfl
   | (simp only[AS.kR];rw[Ac (h id (by simp[aH.ids]))])
 | .pr a b,ty,h=>by
  cases ty <;> first
   |rfl
   | (simp only[AS.kR];rw[nT a _ λid eY=>h id (by simp[aH.ids,eY]),nT b _ λid eY=>h id (by simp[aH.ids,eY])])
 | .undef,ty,_ | .gone,ty,_ | .eU,ty,_ | .oX,ty,_ | .rK,ty,_ | .ue,ty,_ | .d _ _,ty,_ | .ptr ..,ty,_ | .gE ..,ty,_ | .fn ..,ty,_ | .cons ..,ty,_ | .nil,ty,_ | .vec ..,ty,_ | .bx ..,ty,_ | .lb ..,ty,_ | .mp ..,ty,_ | .p9 ..,ty,_ | .sb _,ty,_=>by
  cases ty <;> simp only[AS.kR]
theorem qI:∀(v:aH),∀id∈v.shared,id∈v.ids
 | .di ..,id,h=>by simpa[aH.shared,aH.ids]using h
 | .pr a b,id,h=>by
  simp only[aH.shared,cf,aH.ids]at h ⊢
  rcases h with h | h
  ·exact .inl (qI a id h)
  ·exact .inr (qI b id h)
 | .undef,_,h | .gone,_,h | .eU,_,h | .oX,_,h | .rK,_,h | .ue,_,h | .d _ _,_,h | .ptr ..,_,h | .gE ..,_,h | .fn ..,_,h | .cons ..,_,h | .nil,_,h | .vec ..,_,h | .bx ..,_,h | .lb ..,_,h | .mp ..,_,h | .p9 ..,_,h | .sb _,_,h=>by
  simp[aH.shared]at h
theorem G0{T:TypeId}{x:aH}(h:∀id∈x.ids,sP (t.dx id) (s.dx id)):yG P t T x=yG P s T x:=by
 unfold yG
 split
 ·rename_i id ver p n
  rcases za (h id (by simp[aH.ids])) with⟨h1,h2⟩ | ⟨v,f,f',c,h1,h2⟩ <;> rw[h1,h2]
 ·rfl
 ·rfl
theorem E3{n:Nat}{lo hi:Option Operand}(hl:∀x,lo=some x->t.ev x=s.ev x)(hh:∀x,hi=some x->t.ev x=s.ev x):bounds t n lo hi=bounds s n lo hi:=by
 unfold bounds
 cases lo <;> cases hi <;> simp only[] <;> first
  |rfl
  | (rw[hl _ rfl,hh _ rfl])
  |rw[hl _ rfl]
  |rw[hh _ rfl]
theorem FN{T:TypeId}{x:aH}{lo hi:Option Operand}(h:∀id∈x.ids,sP (t.dx id) (s.dx id))(hl:∀x,lo=some x->t.ev x=s.ev x)(hh:∀x,hi=some x->t.ev x=s.ev x):
  xW P t T x lo hi=xW P s T x lo hi:=by
 have hb:∀n,bounds t n lo hi=bounds s n lo hi:=λn=>E3 hl hh
 unfold xW
 split <;> first
  |rfl
  | (rw[Ac (h _ (by simp[aH.ids]))];simp only[hb];done)
  | (simp only[hb];done)
theorem zJ{T:TypeId}{x:aH}{i:Int}(h:∀id∈x.ids,sP (t.dx id) (s.dx id)):py P t T x i=py P s T x i:=by
 unfold py
 split <;> first
  |rfl
  |rw[Ac (h _ (by simp[aH.ids]))]
theorem Gu{obj:Bool}{src dst:TypeId}{x:aH}(h:∀id∈x.ids,sP (t.dx id) (s.dx id)):Ef P t obj src dst x=Ef P s obj src dst x:=by
 unfold Ef
 split
 ·rfl
 ·unfold MD
  split <;> first
   |rfl
   | (simp only[AS.I6,nT _ _ h])
theorem KY{T:TypeId}{op:BinOp}{i:Id}{v:Nat}{j:Id}{w:Nat}(h:sP (t.dx i) (s.dx i)):Sr P t T op i v j w=Sr P s T op i v j w:=by
 unfold Sr
 rcases za h with⟨h1,h2⟩ | ⟨v,f,f',c,h1,h2⟩ <;> rw[h1,h2]
theorem Gw{src dst:TypeId}{id:Id}{ver:Nat}(h:sP (t.dx id) (s.dx id)):Eg P t src dst id ver=Eg P s src dst id ver:=by
 unfold Eg
 rcases za h with⟨h1,h2⟩ | ⟨v,f,f',c,h1,h2⟩
 ·rw[h1,h2]
 ·rw[h1,h2]
  cases c <;> first
   |rfl
   | (rename_i e z c;cases z <;> rfl)
theorem sN{ty:Ty}:∀(ps:List (Nat×Operand)) (l:List ty.den),(∀x∈ps,t.ev x.2=s.ev x.2/\∀id∈(s.ev x.2).ids,sP (t.dx id) (s.dx id))->lf ty t ps l=lf ty s ps l
 |[],_,_=>rfl
 | (i,x)::ps,l,h=>by
  obtain⟨h1,h2⟩:=h (i,x) (bh ..)
  simp only[lf]
  simp only at h1 h2
  rw[h1,nT _ _ h2]
  congr 2
  funext y
  rw[sN ps _ λz hz=>h z (bj _ hz)]
theorem rL{ty:Ty}:∀(ps:List (Nat×Operand)) (l:List ty.den) (r:List ty.den×List Id),(lf ty s ps l).eval=some r->∀id∈r.2,∃x∈ps,id∈(s.ev x.2).ids
 |[],l,r,h,id,eY=>by
  obtain rfl:=aB.1 h
  cases eY
 | (i,x)::ps,l,r,h,id,eY=>by
  simp only[lf]at h
  obtain⟨h1,h2⟩:=aL.1 h
  obtain⟨y,h3,h4⟩:=aw.1 h2
  obtain⟨r',h5,h6⟩:=aw.1 h4
  obtain rfl:=aB.1 h6
  rcases cf.1 eY with eY | eY
  ·exact⟨(i,x),bh ..,qI _ _ eY⟩
  ·obtain⟨z,hz,zH⟩:=rL ps _ r' h5 id eY
   exact⟨z,bj _ hz,zH⟩
theorem vk{fs:Array Field}:∀(ps:List (Nat×Operand)) (v:aH),(∀x∈ps,t.ev x.2=s.ev x.2)->ot P fs t ps v=ot P fs s ps v
 |[],_,_=>rfl
 | (i,x)::ps,v,h=>by
  have h1:=h (i,x) (bh ..)
  simp only at h1
  simp only[ot,h1]
  have ih:∀v,ot P fs t ps v=ot P fs s ps v:=λv=>vk ps v λz hz=>h z (bj _ hz)
  simp only[ih]
theorem yr:∀(l:List Operand),(∀x∈l,t.ev x=s.ev x)->pk t l=pk s l
 |[],_=>rfl
 |x::l,h=>by
  simp only[pk]
  rw[h x (bh ..),yr l λy hy=>h y (bj _ hy)]
theorem AG{ty:Ty}{X:TypeId}{x:aH}(h:∀id∈x.ids,sP (t.dx id) (s.dx id)):vZ P t ty X x=vZ P s ty X x:=by
 unfold vZ
 split
 ·rfl
 ·simp only[AS.I6,nT _ _ h]
theorem mO{v:aH}(h:∀t,mA (jO Γ ops s o) s t->(oP P Γ cZ o t).eval=some (t.put o.dst v)):yk P Γ cZ ops o s (s.put o.dst v):=
 ⟨⟨v,λ_=>none,[]⟩,App.wN _ _ _,⟨λ_ _ h=>by simp at h,λ_ h=>by simp at h⟩,λt ht=>⟨_,h t ht,App.wN _ _ _⟩⟩
theorem oo{F:AS->Out aH}(ho:∀t,oP P Γ cZ o t=(F t).bind λv=> .ok (t.put o.dst v))(hF:∀t,mA (jO Γ ops s o) s t->F t=F s){s':AS}(he:(oP P Γ cZ o s).eval=some s'):yk P Γ cZ ops o s s':=by
 rw[ho]at he
 obtain⟨v,h1,h2⟩:=aw.1 he
 obtain rfl:=aB.1 h2
 refine mO λt ht=> ?_
 rw[ho,hF t ht,aw]
 exact⟨v,h1,rfl⟩
theorem Br{v:aH}{ids:List Id}(hi:∀id∈ids,id∈(jO Γ ops s o).rs)(h:∀t,mA (jO Γ ops s o) s t->(oP P Γ cZ o t).eval=some ((t.cg ids).put o.dst v)):yk P Γ cZ ops o s ((s.cg ids).put o.dst v):=
 ⟨⟨v,λ_=>none,ids⟩,App.zA _ _ _ _,⟨λ_ _ h=>by simp at h,hi⟩,λt ht=>⟨_,h t ht,App.zA _ _ _ _⟩⟩
theorem sG{v:aH}{ids:List Id}{q:Nat}{es:List gT}(hd:o.dst=some q)(hv:s.gd q=true)(hi:∀id∈ids,id∈(jO Γ ops s o).rs)
  (h:∀t,mA (jO Γ ops s o) s t->t.gd q=true->(oP P Γ cZ o t).eval=some (((t.cg ids).born q es).put o.dst v)):yk P Γ cZ ops o s (((s.cg ids).born q es).put o.dst v):=by
 refine⟨⟨v,zo q es,ids⟩,by rw[hd];exact App.JF hv _ _ _,⟨λid e h=> .inr ?_,hi⟩,λt ht=> ?_⟩
 ·cases id with
  |ew _=>simp[zo]at h
  |new i j=>
   simp only[zo]at h
   split at h
   ·rename_i hq;exact⟨q,j,hd,by rw[hq]⟩
   ·cases h
 ·have hv':t.gd q=true:=by rw[ht.gd q hd];exact hv
  exact⟨_,h t ht hv',by rw[hd];exact App.JF hv' _ _ _⟩
theorem uL{v:aH}{id:Id}{e0 e:gT}(hs:s.dx id=some e0)(hw:id∈(jO Γ ops s o).ws)(h:∀t,mA (jO Γ ops s o) s t->t.dx id=s.dx id->(oP P Γ cZ o t).eval=some ((t.bJ id e).put o.dst v)):
  yk P Γ cZ ops o s ((s.bJ id e).put o.dst v):=by
 refine⟨⟨v,λi=>if i=id then some e else none,[]⟩,App.N4 hs _ _ _,⟨λi e' h=> .inl ?_,λ_ h=>by simp at h⟩,λt ht=> ?_⟩
 ·simp only at h
  split at h
  ·rename_i hi;subst hi;exact⟨hw,by rw[hs];simp⟩
  ·cases h
 ·have:=ht.ws id hw
  exact⟨_,h t ht this,App.N4 (this.trans hs) _ _ _⟩
end
end Go.Ab
namespace Go.Ab
section
variable {P:Program} {Γ:fD} {cZ:List Nat} {ops:Array Oper} {o:Oper} {s t:AS}
theorem FQ{T:TypeId}{x v:aH}{s':AS}(h:(wo P s T x v).eval=some s'):
  ∃id e0 e,x.ids=[id]/\s.dx id=some e0/\s'=s.bJ id e/\∀t:AS,t.dx id=s.dx id->(wo P t T x v).eval=some (t.bJ id e):=by
 unfold wo at h
 split at h
 ·rename_i id ver p n
  cases mY:s.obj id with
  |none=>rw[mY]at h;simp only[al]at h
  |some r=>
   obtain⟨ve,fr,c⟩:=r
   rw[mY]at h
   obtain⟨h1,h2⟩:=aL.1 h
   obtain⟨r,h3,h4⟩:=aw.1 h2
   obtain⟨h5,h6⟩:=aL.1 h4
   obtain⟨h7,h8⟩:=cV.1 h6
   obtain⟨c',h9,Rd⟩:=aw.1 h8
   obtain rfl:=aB.1 Rd
   refine⟨id,_,_,rfl,gC mY,rfl,λt ht=> ?_⟩
   have hob':t.obj id=some (ve,fr,c):=by simp only[AS.obj,ht];exact mY
   unfold wo
   simp only[hob']
   exact aL.2 ⟨h1,aw.2 ⟨r,h3,aL.2 ⟨h5,cV.2 ⟨h7,aw.2 ⟨c',h9,aB.2 rfl⟩⟩⟩⟩⟩
 ·simp only[al]at h
theorem Iy{c:Call}{x y:Operand}{T X:TypeId}(eZ:o.op= .call c)(hc:c.callee= .builtin .copy)(ha:c.args.toList=[x,y])(ht:c.argTypes.toList=[T,X]){s':AS}
  (he:(BT P s o.dst T X (s.ev x) (s.ev y)).eval=some s'):yk P Γ cZ ops o s s':=by
 have Ep:∀t:AS,oP P Γ cZ o t=BT P t o.dst T X (t.ev x) (t.ev y):=λt=>by
  unfold oP
  rw[eZ]
  simp only[hc,ha,ht]
 have vR:∀z,z=x\/z=y->z∈o.op.operands.toList:=λz hz=>by
  rw[eZ]
  simp only[Op.operands,Call.operands,hc,bt,df,ha]
  simpa using hz
 have hx:∀t,mA (jO Γ ops s o) s t->t.ev x=s.ev x:=λt h=>h.ev (vR x (.inl rfl))
 have hy:∀t,mA (jO Γ ops s o) s t->t.ev y=s.ev y:=λt h=>h.ev (vR y (.inr rfl))
 have hm:∀t,mA (jO Γ ops s o) s t->∀ty,vZ P t ty X (s.ev y)=vZ P s ty X (s.ev y):=λt h ty=>AG λid eY=>h.HJ (FE eZ rfl) (vR y (.inr rfl)) eY
 unfold BT at he
 split at he
 ·rename_i e t b id ver len w9 Ia
  obtain⟨m,h1,he⟩:=aw.1 he
  split at he
  ·rename_i ve n t' l mY
   obtain⟨h2,yz⟩:=aL.1 he
   obtain⟨l',h3,Dp⟩:=aw.1 yz
   obtain⟨h4,Sx⟩:=cV.1 Dp
   obtain rfl:=aB.1 Sx
   have hw:id∈(jO Γ ops s o).ws:=by
    show id∈writes Γ s o
    unfold writes
    rw[eZ]
    simp only[hc,ha,Ia]
    simp[aH.ids]
   refine uL (gC mY) hw λt ht Lb=> ?_
   rw[Ep t,hx t ht,hy t ht]
   have hob':t.obj id=some (ve,false,.d (.arr n t') l):=by simp only[AS.obj,Lb];exact mY
   unfold BT
   simp only[w9,Ia]
   refine aw.2 ⟨m,by rw[hm t ht];exact h1,?_⟩
   simp only[hob']
   exact aL.2 ⟨h2,aw.2 ⟨l',h3,cV.2 ⟨h4,aB.2 rfl⟩⟩⟩
  ·exact(al.1 he).elim
 ·exact(al.1 he).elim
theorem E1{c:Call}{x y:Operand}{T X:TypeId}(eZ:o.op= .call c)(hc:c.callee= .builtin .append)(ha:c.args.toList=[x,y])(ht:c.argTypes.toList=[T,X])(lg:∀k n,s.ev x= .eU->s.ev y= .d (.int k) n->False){s':AS}
  (he:(rX P s (Le cZ o.dst) (Pq cZ o.dst) o.dst T X (s.ev x) (s.ev y)).eval=some s'):yk P Γ cZ ops o s s':=by
 have Ep:∀t:AS,t.ev x=s.ev x->t.ev y=s.ev y->oP P Γ cZ o t=rX P t (Le cZ o.dst) (Pq cZ o.dst) o.dst T X (t.ev x) (t.ev y):=λt e1 e2=>by
  unfold oP
  rw[eZ]
  simp only[hc,ha,ht]
  split
  ·rename_i k n hx hy
   rw[e1]at hx
   rw[e2]at hy
   exact(lg k n hx hy).elim
  ·rfl
 have vR:∀z,z=x\/z=y->z∈o.op.operands.toList:=λz hz=>by
  rw[eZ]
  simp only[Op.operands,Call.operands,hc,bt,df,ha]
  simpa using hz
 have hx:∀t,mA (jO Γ ops s o) s t->t.ev x=s.ev x:=λt h=>h.ev (vR x (.inl rfl))
 have hy:∀t,mA (jO Γ ops s o) s t->t.ev y=s.ev y:=λt h=>h.ev (vR y (.inr rfl))
 have hm:∀t,mA (jO Γ ops s o) s t->∀ty,vZ P t ty X (s.ev y)=vZ P s ty X (s.ev y):=λt h ty=>AG λid eY=>h.HJ (FE eZ rfl) (vR y (.inr rfl)) eY
 unfold rX at he
 split at he
 ·rename_i e ty b q w9 hd
  obtain⟨m,h1,h2⟩:=aw.1 he
  split at h2
  ·rename_i TM
   cases Sw:Pq cZ o.dst with
   |true=>
    rw[Sw]at h2
    simp only at h2
    obtain⟨h5,h6⟩:=cV.1 h2
    obtain rfl:=aB.1 h6
    refine mO λt ht=> ?_
    rw[Ep t (hx t ht) (hy t ht),hx t ht,hy t ht]
    unfold rX
    simp only[hd]at Sw w9 ⊢
    simp only[w9,TM,Sw]
    refine aw.2 ⟨m,by rw[hm t ht];exact h1,?_⟩
    exact cV.2 ⟨h5,aB.2 rfl⟩
   |false=>
   rw[Sw]at h2
   simp only at h2
   obtain⟨h3,h4⟩:=aL.1 h2
   obtain⟨h5,h6⟩:=cV.1 h4
   obtain rfl:=aB.1 h6
   refine sG (ids:=[]) hd h3 (λ_ h=>by cases h) λt ht hv=> ?_
   rw[Ep t (hx t ht) (hy t ht),hx t ht,hy t ht]
   unfold rX
   simp only[hd]at Sw w9 ⊢
   simp only[w9,TM,Sw]
   refine aw.2 ⟨m,by rw[hm t ht];exact h1,?_⟩
   exact aL.2 ⟨hv,cV.2 ⟨h5,aB.2 rfl⟩⟩
  ·rename_i id ver len TM
   split at h2
   ·rename_i v fr e' t' l mY
    obtain⟨h3,h4⟩:=aL.1 h2
    obtain⟨l',h5,h6⟩:=aw.1 h4
    obtain⟨h7,h8⟩:=cV.1 h6
    obtain⟨h9,Rd⟩:=cV.1 h8
    obtain⟨Ta,Tb⟩:=cV.1 Rd
    obtain rfl:=aB.1 Tb
    have hw:id∈(jO Γ ops s o).ws:=by
     show id∈writes Γ s o
     unfold writes
     rw[eZ]
     simp only[hc,ha,TM]
     simp[aH.ids]
    refine uL (gC mY) hw λt ht Lb=> ?_
    rw[Ep t (hx t ht) (hy t ht),hx t ht,hy t ht]
    have hob':t.obj id=some (v,fr,.vec e' t' l):=by simp only[AS.obj,Lb];exact mY
    unfold rX
    simp only[hd]at w9 ⊢
    simp only[w9,TM]
    refine aw.2 ⟨m,by rw[hm t ht];exact h1,?_⟩
    simp only[hob']
    exact aL.2 ⟨h3,aw.2 ⟨l',h5,cV.2 ⟨h7,cV.2 ⟨h9,cV.2 ⟨Ta,aB.2 rfl⟩⟩⟩⟩⟩
   ·simp only[al]at h2
  ·simp only[al]at h2
 ·simp only[al]at he
theorem z9:∀(n:Nat) (todo acc:List Id),∀id∈acc,id∈s.reach n todo acc
 | 0,_,_,id,h=>h
 |_+1,[],_,id,h=>h
 |n+1,x::todo,acc,id,h=>by
  rw[AS.reach]
  split
  ·exact z9 n todo acc id h
  ·exact z9 n _ _ id (cf.2 (.inl h))
theorem rj:∀(n:Nat) (todo acc:List Id),(∀id∈s.reach n todo acc,((t.dx id).getD .dead).ids=((s.dx id).getD .dead).ids)->t.reach n todo acc=s.reach n todo acc
 | 0,_,_,_=>rfl
 |_+1,[],_,_=>rfl
 |n+1,x::todo,acc,h=>by
  rw[AS.reach]at h
  rw[AS.reach,AS.reach]
  split
  ·rename_i hc
   rw[if_pos hc]at h
   exact rj n todo acc h
  ·rename_i hc
   rw[if_neg hc]at h
   have hx:=h x (z9 n _ _ x (cf.2 (.inr (aU.2 rfl))))
   rw[hx]
   exact rj n _ _ h
theorem Pm(e:Option gT):((e.map gT.JM).getD .dead).ids=(e.getD .dead).ids:=by
 cases e with
 |none=>rfl
 |some x=>cases x <;> rfl
theorem Bg(ids:List Id)(n:Nat)(todo acc:List Id):(s.cg ids).reach n todo acc=s.reach n todo acc:=by
 refine rj n todo acc λid _=> ?_
 rw[iO]
 split
 ·exact Pm _
 ·rfl
theorem xx:∀(ps:List (Option Ty)) (vs:List aH),(∀v∈vs,∀id∈v.ids,sP (t.dx id) (s.dx id))->t.conv ps vs=s.conv ps vs
 |[],[],_=>rfl
 |[],_::_,_=>rfl
 |some _::_,[],_=>rfl
 |none::_,[],_=>rfl
 |some ty::ps,v::vs,h=>by
  simp only[AS.conv]
  rw[nT v ty (h v (bh ..)),xx ps vs λx hx=>h x (bj _ hx)]
 |none::ps,v::vs,h=>by
  simp only[AS.conv]
  rw[xx ps vs λx hx=>h x (bj _ hx)]
theorem xy:∀(ps:List (Option Ty)) (vs:List aH) (r:List aH×List Id),(s.conv ps vs).eval=some r->r.1.flatMap aH.ids=qO ps vs/\∀id∈r.2,∃v∈vs,id∈v.ids
 |[],[],r,h=>by
  simp only[AS.conv,aB]at h
  subst h
  exact⟨rfl,λ_ h=>by cases h⟩
 |some ty::ps,v::vs,r,h=>by
  simp only[AS.conv]at h
  obtain⟨x,h1,h2⟩:=aw.1 h
  obtain⟨r',h3,h4⟩:=aw.1 h2
  obtain rfl:=aB.1 h4
  obtain⟨i1,i2⟩:=xy ps vs r' h3
  refine⟨by simp[qO,i1,aH.ids],λid eY=> ?_⟩
  rcases cf.1 eY with eY | eY
  ·exact⟨v,bh ..,qI v id eY⟩
  ·obtain⟨u,hu,F5⟩:=i2 id eY
   exact⟨u,bj _ hu,F5⟩
 |none::ps,v::vs,r,h=>by
  simp only[AS.conv]at h
  obtain⟨r',h3,h4⟩:=aw.1 h
  obtain rfl:=aB.1 h4
  obtain⟨i1,i2⟩:=xy ps vs r' h3
  refine⟨by simp[qO,i1],λid eY=> ?_⟩
  obtain⟨u,hu,F5⟩:=i2 id eY
  exact⟨u,bj _ hu,F5⟩
 |[],_::_,_,h=>by simp only[AS.conv,al]at h
 |some _::_,[],_,h=>by simp only[AS.conv,al]at h
 |none::_,[],_,h=>by simp only[AS.conv,al]at h
theorem GX:∀(c:aH),∀v∈c.list,∀id∈v.ids,id∈c.ids
 | .cons a b,v,hv,id,eY=>by
  simp only[aH.list,cE]at hv
  simp only[aH.ids,cf]
  rcases hv with rfl | hv
  ·exact .inl eY
  ·exact .inr (GX b v hv id eY)
 | .sb _,_,h,_,_ | .undef,_,h,_,_ | .gone,_,h,_,_ | .eU,_,h,_,_ | .oX,_,h,_,_ | .rK,_,h,_,_ | .ue,_,h,_,_ | .d _ _,_,h,_,_ | .ptr ..,_,h,_,_ | .gE ..,_,h,_,_
 | .fn ..,_,h,_,_ | .pr ..,_,h,_,_ | .nil,_,h,_,_ | .vec ..,_,h,_,_ | .bx ..,_,h,_,_ | .lb ..,_,h,_,_ | .mp ..,_,h,_,_ | .p9 ..,_,h,_,_ | .di ..,_,h,_,_=>by simp[aH.list]at h
theorem AU{ids:List Id}(h:∀id∈ids,t.dx id=s.dx id):t.rT ids=s.rT ids:=by
 funext id ver
 unfold AS.rT
 cases hi:idxOf id ids with
 |none=>rfl
 |some k=>
  have:t.obj id=s.obj id:=by simp only[AS.obj,h id (eQ (px hi))]
  rw[this]
theorem A3{id:Id}(h:t.dx id=s.dx id):t.tr id=s.tr id:=by simp only[AS.tr,AS.obj,h]
theorem yU{ids:List Id}(h:∀id∈ids,t.dx id=s.dx id)(q:Nat):t.qG ids q=s.qG ids q:=by
 funext id ver
 cases id with
 |new i j=>rfl
 |ew k=>
  simp only[AS.qG]
  cases hk:ids[k]? with
  |none=>rfl
  |some id=>simp only[A3 (h id (eQ hk))]
theorem yt{ids:List Id}(h:∀id∈ids,t.dx id=s.dx id)(q b:Nat):t.pn ids q b=s.pn ids q b:=by
 funext e
 cases e <;> simp only[AS.pn,yU h]
theorem Gy{ids:List Id}(h:∀id∈ids,t.dx id=s.dx id){id:Id}(eY:id∈ids):t.nL ids id=s.nL ids id:=by
 unfold AS.nL
 rw[h id eY,AU h]
def np(s:AS)(ids:List Id)(d:Option Tmp)(G:aX):AS:=
 (AS.lk s ids (d.getD 0) (s.made ids (d.getD 0) G.news) ids G.ez).put d (G.val.ma (s.qG ids (d.getD 0)))
theorem D9{ids:List Id}{d:Option Tmp}{G:aX}{s':AS}:(s.back ids d G).eval=some s'↔(G.ez.length=ids.length/\(G.news=[]\/∃q,d=some q/\s.gd q=true))/\s'=np s ids d G:=by
 unfold AS.back
 cases d with
 |none=>
  rw[aL,aB]
  simp only[ak,beq_iff_eq,List.isEmpty_iff,np,AS.put,Option.getD_none]
  constructor
  ·rintro⟨⟨h1,h2⟩,rfl⟩
   rw[h2];exact⟨⟨h1,.inl rfl⟩,rfl⟩
  ·rintro⟨⟨h1,h2⟩,rfl⟩
   rcases h2 with h2 | ⟨q,hq,_⟩
   ·rw[h2];exact⟨⟨h1,rfl⟩,rfl⟩
   ·cases hq
 |some q=>
  rw[aL,aB]
  simp only[ak,beq_iff_eq,kb,List.isEmpty_iff,np,gj]
  constructor
  ·rintro⟨⟨h1,h2⟩,rfl⟩
   exact⟨⟨h1,h2.imp id λh=>⟨q,rfl,h⟩⟩,rfl⟩
  ·rintro⟨⟨h1,h2⟩,rfl⟩
   refine⟨⟨h1,h2.imp id λ⟨q',hq,h⟩=> ?_⟩,rfl⟩
   obtain rfl:q=q':=by simpa using hq
   exact h
theorem AA(s0:AS)(all:List Id)(q:Nat):∀(ids:List Id) (es:List gT) (s:AS),(AS.lk s0 all q s ids es).news.length=s.news.length
 |[],_,_=>by simp[AS.lk]
 |_::_,[],_=>by simp[AS.lk]
 |id::ids,e::es,s=>by rw[AS.lk,AA s0 all q ids es,xM]
theorem Nh(s:AS)(ids:List Id)(q:Nat)(es:List gT):(s.made ids q es).news.length=s.news.length:=by
 cases es <;> simp[AS.made,AS.born]
def wX(ids:List Id)(d:Option Tmp)(G:aX)(id:Id):Prop:=id∈ids\/(G.news≠ []/\∃q j,d=some q/\id= .new q j)
theorem BL{ids:List Id}{d:Option Tmp}{G:aX}(hn:ids.Nodup)(hp:∀id∈ids,s.dx id≠none)(hl:G.ez.length=ids.length)(hv:G.news=[]\/∃q,d=some q/\s.gd q=true):
  (∀id,¬wX ids d G id->(np s ids d G).dx id=s.dx id)/\
  (∀(k:Nat) (id:Id) (e:gT),ids[k]? =some id->G.ez[k]? =some e->(np s ids d G).dx id=some (s.pn ids (d.getD 0) (s.tr id) e))/\
  (∀q j,G.news≠ []->d=some q->(np s ids d G).dx (.new q j)=(G.news[j]?).map (s.pn ids q 0))/\
  (∀q j,G.news≠ []->d=some q->s.dx (.new q j)=none):=by
 have hv':G.news=[]\/s.gd (d.getD 0)=true:=by
  rcases hv with h | ⟨q,rfl,h⟩
  ·exact .inl h
  ·exact .inr h
 obtain⟨m1,m2⟩:=Gz s ids (d.getD 0) G.news hv'
 have P7:∀q j,G.news≠ []->d=some q->s.dx (.new q j)=none:=λq j h1 h2=>by
  rcases hv' with h | h
  ·exact absurd h h1
  ·subst h2;exact(sT.1 h).2 j
 have uJ:∀id,s.dx id≠none->G.news=[]\/∀j,id≠ .new (d.getD 0) j:=λid eY=>by
  rcases hv with h | ⟨q,rfl,h⟩
  ·exact .inl h
  ·exact .inr λj e=>eY (by rw[e];exact(sT.1 h).2 j)
 obtain⟨n1,n2⟩:=vK s ids (d.getD 0) ids G.ez (s.made ids (d.getD 0) G.news) hn hl (λid eY=>by rw[m1 id (uJ id (hp id eY))];exact hp id eY)
 refine⟨λid eY=> ?_,λk id e h1 h2=> ?_,λq j h1 h2=> ?_,P7⟩
 ·unfold wX at eY
  simp only[not_or]at eY
  rw[np,wF,n1 id eY.1]
  refine m1 id ?_
  by_cases lg:G.news=[]
  ·exact .inl lg
  ·right
   intro j e
   rcases hv with h | ⟨q,hq,_⟩
   ·exact lg h
   ·exact eY.2 ⟨lg,q,j,hq,by rw[e,hq];rfl⟩
 ·rw[np,wF,n2 k id e h1 h2]
 ·subst h2
  have VF:Id.new q j ∉ ids:=λeY=>hp _ eY (P7 q j h1 rfl)
  rw[np,wF,n1 _ VF]
  exact m2 h1 j
open Classical in
theorem Is{c:Call}{F:Operand}{f:FuncId}{caps:aH}{en:Entry}(eZ:o.op= .call c)(hc:c.callee= .value F)(hF:s.ev F= .fn f caps)(hΓ:Γ f (c.args.toList.map s.ev++caps.list)=some en){s':AS}
  (he:(s.call en o.dst (c.args.toList.map s.ev++caps.list)).eval=some s'):yk P Γ cZ ops o s s':=by
 have vR:∀z,z=F\/z∈c.args.toList->z∈o.op.operands.toList:=λz hz=>by
  rw[eZ]
  simp only[Op.operands,Call.operands,hc,df,cf]
  rcases hz with rfl | hz
  ·exact .inl (by simp)
  ·exact .inr hz
 have M5:∀v∈c.args.toList.map s.ev++caps.list,∀id∈v.ids,id∈(jO Γ ops s o).rs:=λv hv id eY=>by
  rcases cf.1 hv with hv | hv
  ·obtain⟨x,hx,rfl⟩:=eD.1 hv
   exact xG (FE eZ rfl) (vR x (.inr hx)) eY
  ·refine xG (FE eZ rfl) (vR F (.inl rfl)) ?_
   rw[hF]
   exact GX caps v hv id eY
 generalize Ch:c.args.toList.map s.ev++caps.list=vs at he M5 hΓ
 have Oy:(jO Γ ops s o).ws=s.reach 64 (qO en.params vs) []:=by
  show writes Γ s o=_
  unfold writes
  rw[eZ]
  simp only[hc,hF,Ch,hΓ]
 have Ep:∀t,mA (jO Γ ops s o) s t->oP P Γ cZ o t=t.call en o.dst vs:=λt ht=>by
  unfold oP
  rw[eZ]
  have h1:t.ev F= .fn f caps:=by rw[ht.ev (vR F (.inl rfl)),hF]
  have h2:c.args.toList.map t.ev=c.args.toList.map s.ev:=j6 λx hx=>ht.ev (vR x (.inr hx))
  obtain⟨cal,args,tys⟩:=c
  simp only at hc Ch h2
  subst hc
  simp only[h1,h2,Ch,hΓ]
 unfold AS.call at he
 obtain⟨r,h1,h2⟩:=aw.1 he
 obtain⟨RA,L8⟩:=xy _ _ r h1
 have hlends:∀t:AS,(t.cg r.2).J3 r.1=t.reach 64 (qO en.params vs) []:=λt=>by
  unfold AS.J3
  rw[Bg,RA]
 rw[hlends]at h2
 generalize hW:s.reach 64 (qO en.params vs) []=W at h2 Oy
 have hWn:W.Nodup:=by rw[<-hW];exact rk s _ _ _ (by simp)
 unfold AS.enter at h2
 obtain⟨zD,h3⟩:=aL.1 h2
 obtain⟨x,hx,h4⟩:=BY.1 h3
 obtain⟨x0,TY,h4⟩:=aw.1 h4
 have V6:=en.N9 _ _ TY
 rw[V6]at h4 TY
 obtain⟨⟨hl,hv⟩,rfl⟩:=D9.1 h4
 generalize hG:en.out (r.1.map (aH.ma ((s.cg r.2).rT W))) (W.map ((s.cg r.2).nL W)) x=G at hl hv h4 ⊢
 have hp:∀id∈W,(s.cg r.2).dx id≠none:=λid eY=>by
  have:=(ak _ _▸fC.1 zD id eY).1
  obtain⟨⟨v,fr,c⟩,hr⟩:=dj.1 this
  rw[gC hr];simp
 obtain⟨b1,b2,b3,b4⟩:=BL (s:=s.cg r.2) (d:=o.dst) hWn hp hl hv
 have hfzent:∀(u:AS) id,u.dx id=none↔(u.cg r.2).dx id=none:=λu id=>by
  rw[iO];split <;> simp
 let E:Sj:=⟨G.val.ma ((s.cg r.2).qG W (o.dst.getD 0)),λid=>if wX W o.dst G id then(np (s.cg r.2) W o.dst G).dx id else none,r.2⟩
 have hslots:∀u:AS,(np (u.cg r.2) W o.dst G).dW=(u.put o.dst (G.val.ma ((u.cg r.2).qG W (o.dst.getD 0)))).dW:=λu=>by
  unfold np
  cases o.dst <;> simp[AS.put,tO,C5,nb]
 have hlen:∀u:AS,(np (u.cg r.2) W o.dst G).news.length=u.news.length:=λu=>by
  unfold np
  cases o.dst <;> simp[AS.put,AA,Nh,oV]
 refine⟨E,⟨hslots s,hlen s,λid=> ?_⟩,⟨λid e Cg=> ?_,λid eY=> ?_⟩,λt ht=> ?_⟩
 ·by_cases sY:wX W o.dst G id
  ·have Cg:E.up id=(np (s.cg r.2) W o.dst G).dx id:=if_pos sY
   rw[Cg]
   cases hb:(np (s.cg r.2) W o.dst G).dx id with
   |some e=>rfl
   |none=>
    rcases sY with eY | ⟨lg,q,j,hq,rfl⟩
    ·obtain⟨k,hk⟩:=lM.1 eY
     have mw:k < G.ez.length:=by rw[hl];exact(fK.1 hk).1
     rw[b2 k id _ hk (dC mw)]at hb
     cases hb
    ·have:=(hfzent s _).2 (b4 q j lg hq)
     simp[this]
  ·have Cg:E.up id=none:=if_neg sY
   rw[Cg,b1 id sY,iO]
 ·by_cases sY:wX W o.dst G id
  ·rcases sY with eY | ⟨_,q,j,hq,rfl⟩
   ·left
    refine⟨by rw[Oy];exact eY,λh=>hp id eY ((hfzent s id).1 h)⟩
   ·exact .inr ⟨q,j,hq,rfl⟩
  ·have:E.up id=none:=if_neg sY
   rw[this]at Cg;cases Cg
 ·obtain⟨v,hv,eY⟩:=L8 id eY
  exact M5 v hv id eY
 ·have Tl:t.conv en.params vs=s.conv en.params vs:=xx _ _ λv hv id eY=>ht.rs id (M5 v hv id eY)
  have yh:∀id∈W,t.dx id=s.dx id:=λid eY=>ht.ws id (by rw[Oy];exact eY)
  have GJ:∀id∈W,(t.cg r.2).dx id=(s.cg r.2).dx id:=λid eY=>by
   rw[iO,iO,yh id eY]
  have hWt:t.reach 64 (qO en.params vs) []=W:=by
   rw[<-hW]
   refine rj _ _ _ λid eY=> ?_
   rw[yh id (by rw[<-hW];exact eY)]
  have TX:G.news=[]\/∃q,o.dst=some q/\(t.cg r.2).gd q=true:=hv.imp id λ⟨q,hq,h⟩=>⟨q,hq,by
   rw[qJ]at h ⊢
   rw[ht.gd q hq];exact h⟩
  have Pj:∀id∈W,(t.cg r.2).dx id≠none:=λid eY=>by rw[GJ id eY];exact hp id eY
  obtain⟨d1,d2,d3,d4⟩:=BL (s:=t.cg r.2) (d:=o.dst) hWn Pj hl TX
  refine⟨np (t.cg r.2) W o.dst G,?_,⟨?_,hlen t,λid=> ?_⟩⟩
  ·rw[Ep t ht]
   unfold AS.call
   rw[Tl]
   refine aw.2 ⟨r,h1,?_⟩
   rw[hlends,hWt]
   unfold AS.enter
   have hA:(t.cg r.2).rT W=(s.cg r.2).rT W:=AU GJ
   have hO:W.map ((t.cg r.2).nL W)=W.map ((s.cg r.2).nL W):=j6 λid eY=>Gy GJ eY
   refine aL.2 ⟨?_,BY.2 ⟨x,?_,aw.2 ⟨x,TY,?_⟩⟩⟩
   ·refine fC.2 λid eY=> ?_
    have:=fC.1 zD id eY
    simp only[AS.obj,AS.Cr]at this ⊢
    rw[GJ id eY]
    exact this
   ·rw[hA,hO,<-hx]
   ·rw[hA,hO,hG]
    exact D9.2 ⟨⟨hl,TX⟩,rfl⟩
  ·rw[hslots t,yU GJ]
  ·by_cases sY:wX W o.dst G id
   ·have Cg:E.up id=(np (s.cg r.2) W o.dst G).dx id:=if_pos sY
    rw[Cg]
    rcases sY with eY | ⟨lg,q,j,hq,rfl⟩
    ·obtain⟨k,hk⟩:=lM.1 eY
     have mw:k < G.ez.length:=by rw[hl];exact(fK.1 hk).1
     rw[b2 k id _ hk (dC mw),d2 k id _ hk (dC mw),yt GJ,A3 (GJ id eY)]
    ·rw[b3 q j lg hq,d3 q j lg hq,yt GJ]
     cases hn:G.news[j]? with
     |some e=>rfl
     |none=>
      have:=(hfzent t _).2 (d4 q j lg hq)
      simp[this]
   ·have Cg:E.up id=none:=if_neg sY
    rw[Cg,d1 id sY,iO]
end
end Go.Ab
namespace Go.Ab
section
variable {P:Program} {Γ:fD} {cZ:List Nat} {ops:Array Oper} {o:Oper} {s t:AS}
theorem Out.bind_assoc{α β γ:Type}(o:Out α)(f:α->Out β)(g:β->Out γ):(o.bind f).bind g=o.bind λa=>(f a).bind g:=by
 induction o with
 |ok a=>rfl
 |fail=>rfl
 |pP c r ih=>simp only[Out.bind,ih]
 |get x h ih=>simp only[Out.bind,ih]
 |br c x y ih1 ih2=>simp only[Out.bind,ih1,ih2]
theorem Hv{parts:Array (Nat×Operand)}{x:Nat×Operand}(h:x∈parts.toList):x.2∈(parts.toList.map (·.2)).toArray.toList:=eD.2 ⟨x,h,rfl⟩
theorem KN{T:TypeId}{x:Operand}(eZ:o.op= .box T x){s':AS}(he:(Gm P s (isObj cZ o.dst) o.dst T (s.ev x)).eval=some s'):yk P Γ cZ ops o s s':=by
 have Ep:∀t,oP P Γ cZ o t=Gm P t (isObj cZ o.dst) o.dst T (t.ev x):=λt=>by unfold oP;rw[eZ]
 have hm:x∈o.op.operands.toList:=by rw[eZ];simp[Op.operands]
 unfold Gm at he
 split at he
 ·rename_i q hd
  split at he
  ·rename_i ho
   obtain⟨h1,h2⟩:=aL.1 he
   obtain rfl:=aB.1 h2
   simp only[ak]at h1
   refine sG (ids:=[]) hd h1.1 (λ_ h=>by cases h) λt ht hv=> ?_
   rw[Ep,ht.ev hm]
   unfold Gm
   simp only[hd]at ho ⊢
   simp only[ho]
   exact aL.2 ⟨by simp[hv,h1.2],aB.2 rfl⟩
  ·rename_i ho
   split at he
   ·rename_i ty TT
    obtain⟨h1,h2⟩:=aL.1 he
    obtain⟨y,h3,h4⟩:=aw.1 h2
    obtain rfl:=aB.1 h4
    refine Br (λid eY=>xG (FE eZ rfl) hm (qI _ _ eY)) λt ht=> ?_
    rw[Ep,ht.ev hm]
    unfold Gm
    simp only[hd]at ho ⊢
    simp only[ho,TT]
    refine aL.2 ⟨h1,aw.2 ⟨y,?_,aB.2 rfl⟩⟩
    rw[nT _ _ λid eY=>ht.HJ (FE eZ rfl) hm eY];exact h3
   ·simp only[al]at he
 ·simp only[al]at he
theorem HU{T:TypeId}{x:Operand}(eZ:o.op= .sliceToArrayPointer T x){s':AS}(he:(xZ P s o.dst T (s.ev x)).eval=some s'):yk P Γ cZ ops o s s':=by
 have Ep:∀t,oP P Γ cZ o t=xZ P t o.dst T (t.ev x):=λt=>by unfold oP;rw[eZ]
 have hm:x∈o.op.operands.toList:=by rw[eZ];simp[Op.operands]
 unfold xZ at he
 split at he
 ·rename_i n e hT
  split at he
  ·rename_i ty TT
   obtain⟨h1,h2⟩:=aL.1 he
   obtain⟨l,h3,h4⟩:=aw.1 h2
   obtain⟨h5,h6⟩:=cV.1 h4
   obtain rfl:=aB.1 h6
   refine Br (λid eY=>xG (FE eZ rfl) hm (qI _ _ eY)) λt ht=> ?_
   rw[Ep,ht.ev hm]
   unfold xZ
   simp only[hT,TT]
   refine aL.2 ⟨h1,aw.2 ⟨l,?_,cV.2 ⟨h5,aB.2 rfl⟩⟩⟩
   rw[nT _ _ λid eY=>ht.HJ (FE eZ rfl) hm eY];exact h3
  ·simp only[al]at he
 ·simp only[al]at he
theorem Gp{T:TypeId}{parts:Array (Nat×Operand)}(eZ:o.op= .build T parts){s':AS}(he:(vG P s o.dst T parts.toList).eval=some s'):yk P Γ cZ ops o s s':=by
 have Ep:∀t,oP P Γ cZ o t=vG P t o.dst T parts.toList:=λt=>by unfold oP;rw[eZ]
 have hm:∀x∈parts.toList,x.2∈o.op.operands.toList:=λx hx=>by rw[eZ];exact Hv hx
 unfold vG at he
 split at he
 ·rename_i fs hT
  split at he
  ·rename_i z hz
   obtain⟨h1,h2⟩:=aL.1 he
   obtain⟨v,h3,h4⟩:=aw.1 h2
   obtain rfl:=aB.1 h4
   refine mO λt ht=> ?_
   rw[Ep]
   unfold vG
   simp only[hT,hz]
   refine aL.2 ⟨h1,aw.2 ⟨v,?_,aB.2 rfl⟩⟩
   rw[vk _ _ λx hx=>ht.ev (hm x hx)];exact h3
  ·simp only[al]at he
 ·rename_i n e hT
  split at he
  ·rename_i ty TT
   obtain⟨h1,h2⟩:=aL.1 he
   obtain⟨r,h3,h4⟩:=aw.1 h2
   obtain rfl:=aB.1 h4
   refine Br (λid eY=> ?_) λt ht=> ?_
   ·obtain⟨x,hx,hi⟩:=rL _ _ _ h3 id eY
    exact xG (FE eZ rfl) (hm x hx) hi
   ·rw[Ep]
    unfold vG
    simp only[hT,TT]
    refine aL.2 ⟨h1,aw.2 ⟨r,?_,aB.2 rfl⟩⟩
    rw[sN _ _ λx hx=>⟨ht.ev (hm x hx),λid eY=>ht.HJ (FE eZ rfl) (hm x hx) eY⟩];exact h3
  ·simp only[al]at he
 ·simp only[al]at he
theorem zr{T:TypeId}{n:Nat}{parts:Array (Nat×Operand)}(eZ:o.op= .buildSlice T n parts){s':AS}(he:(mB P s (Le cZ o.dst) (isObj cZ o.dst) o.dst T n parts.toList).eval=some s'):yk P Γ cZ ops o s s':=by
 have Ep:∀t,oP P Γ cZ o t=mB P t (Le cZ o.dst) (isObj cZ o.dst) o.dst T n parts.toList:=λt=>by unfold oP;rw[eZ]
 have hm:∀x∈parts.toList,x.2∈o.op.operands.toList:=λx hx=>by rw[eZ];exact Hv hx
 unfold mB at he
 split at he
 ·rename_i e ty b q w9 hd
  obtain⟨h1,h2⟩:=aL.1 he
  obtain⟨r,h3,h4⟩:=aw.1 h2
  have H9:∀id∈r.2,id∈(jO Γ ops s o).rs:=λid eY=>by
   obtain⟨x,hx,hi⟩:=rL _ _ _ h3 id eY
   exact xG (FE eZ rfl) (hm x hx) hi
  have Tl:∀t,mA (jO Γ ops s o) s t->∀l,lf ty t parts.toList l=lf ty s parts.toList l:=λt ht l=>sN _ _ λx hx=>⟨ht.ev (hm x hx),λid eY=>ht.HJ (FE eZ rfl) (hm x hx) eY⟩
  split at h4
  ·rename_i ho
   obtain⟨h5,h6⟩:=aL.1 h4
   obtain rfl:=aB.1 h6
   refine sG hd h5 H9 λt ht hv=> ?_
   rw[Ep]
   unfold mB
   simp only[hd]at ho w9 ⊢
   simp only[w9,ho]
   refine aL.2 ⟨h1,aw.2 ⟨r,by rw[Tl t ht];exact h3,aL.2 ⟨hv,aB.2 rfl⟩⟩⟩
  ·rename_i ho
   obtain rfl:=aB.1 h4
   refine Br H9 λt ht=> ?_
   rw[Ep]
   unfold mB
   simp only[hd]at ho w9 ⊢
   simp only[w9,ho]
   exact aL.2 ⟨h1,aw.2 ⟨r,by rw[Tl t ht];exact h3,aB.2 rfl⟩⟩
 ·simp only[al]at he
theorem Bf{T:TypeId}{x y:Operand}(eZ:o.op= .makeSlice T x y){len cap:Int}(hx:(asInt (s.ev x)).eval=some len)(hy:(asInt (s.ev y)).eval=some cap){s':AS}(he:(pA P s o.dst T len cap).eval=some s'):yk P Γ cZ ops o s s':=by
 have Ep:∀t,oP P Γ cZ o t=(asInt (t.ev x)).bind λl=>(asInt (t.ev y)).bind λc=>pA P t o.dst T l c:=λt=>by unfold oP;rw[eZ]
 have hm:∀z,z=x\/z=y->z∈o.op.operands.toList:=λz hz=>by rw[eZ];simpa[Op.operands]using hz
 unfold pA at he
 split at he
 ·rename_i e ty b q w9 hd
  obtain⟨h1,h2⟩:=aL.1 he
  obtain⟨h3,h4⟩:=cV.1 h2
  obtain rfl:=aB.1 h4
  refine sG (ids:=[]) hd h1 (λ_ h=>by cases h) λt ht hv=> ?_
  rw[Ep,ht.ev (hm x (.inl rfl)),ht.ev (hm y (.inr rfl))]
  refine aw.2 ⟨len,hx,aw.2 ⟨cap,hy,?_⟩⟩
  unfold pA
  simp only[w9,hd]
  exact aL.2 ⟨hv,cV.2 ⟨h3,aB.2 rfl⟩⟩
 ·simp only[al]at he
theorem FA{id:Id}{ver:Nat}{kt vt:Ty}(h:sP (t.dx id) (s.dx id)):t.qb id ver kt vt=s.qb id ver kt vt:=by
 unfold AS.qb
 rcases za h with⟨h1,h2⟩ | ⟨v,f,f',c,h1,h2⟩
 ·rw[h1,h2]
 ·rw[h1,h2]
  cases c <;> rfl
theorem DI{T:TypeId}{m k:aH}{ok:Bool}(h:∀id∈m.ids,sP (t.dx id) (s.dx id)):uM P t T m k ok=uM P s T m k ok:=by
 unfold uM
 split
 ·rename_i id ver hm
  rw[FA (h id (by simp[aH.ids]))]
 ·rfl
theorem Eu{id:Id}{ver:Nat}{kt vt:Ty}{l:List (kt.den×vt.den)}(h:(s.qb id ver kt vt).eval=some l):∃e,s.dx id=some e:=by
 unfold AS.qb at h
 split at h
 ·rename_i v fr k' v' l' mY
  exact⟨_,gC mY⟩
 ·simp only[al]at h
theorem AD{id:Id}{ver:Nat}{kt vt:Ty}(h:t.dx id=s.dx id):t.qb id ver kt vt=s.qb id ver kt vt:=by
 unfold AS.qb AS.obj
 rw[h]
theorem xo{id:Id}(h:t.dx id=s.dx id):t.qp id=s.qp id:=by
 unfold AS.qp AS.obj
 rw[h]
theorem DL{T:TypeId}{m k v:aH}{s':AS}(h:(uP P s T m k v).eval=some s'):
  ∃id e0 e,m.ids=[id]/\s.dx id=some e0/\s'=s.bJ id e/\∀t:AS,t.dx id=s.dx id->(uP P t T m k v).eval=some (t.bJ id e):=by
 unfold uP at h
 split at h
 ·rename_i K V kt vt id ver hm
  obtain⟨l,h1,h⟩:=aw.1 h
  obtain⟨kx,h2,h⟩:=aw.1 h
  obtain⟨vx,h3,h⟩:=aw.1 h
  obtain⟨hu,h⟩:=aL.1 h
  obtain rfl:=aB.1 h
  obtain⟨e0,F4⟩:=Eu h1
  refine⟨id,e0,_,rfl,F4,rfl,λt ht=> ?_⟩
  unfold uP
  simp only[hm]
  exact aw.2 ⟨l,by rw[AD ht];exact h1,aw.2 ⟨kx,h2,aw.2 ⟨vx,h3,aL.2 ⟨by rw[xo ht];exact hu,aB.2 rfl⟩⟩⟩⟩
 ·simp only[al]at h
theorem DK{T:TypeId}{m k:aH}{s':AS}(h:(uO P s T m k).eval=some s'):
  ∃id e0 e,m.ids=[id]/\s.dx id=some e0/\s'=s.bJ id e/\∀t:AS,t.dx id=s.dx id->(uO P t T m k).eval=some (t.bJ id e):=by
 unfold uO at h
 split at h
 ·rename_i K V kt vt id ver hm
  obtain⟨l,h1,h⟩:=aw.1 h
  obtain⟨kx,h2,h⟩:=aw.1 h
  obtain⟨hu,h⟩:=aL.1 h
  obtain rfl:=aB.1 h
  obtain⟨e0,F4⟩:=Eu h1
  refine⟨id,e0,_,rfl,F4,rfl,λt ht=> ?_⟩
  unfold uO
  simp only[hm]
  exact aw.2 ⟨l,by rw[AD ht];exact h1,aw.2 ⟨kx,h2,aL.2 ⟨by rw[xo ht];exact hu,aB.2 rfl⟩⟩⟩
 ·simp only[al]at h
theorem D7{s':AS}(he:(oP P Γ cZ o s).eval=some s'):yk P Γ cZ ops o s s':=by
 have F4:=he
 have one:∀x,o.op.operands= #[x]->∀t,mA (jO Γ ops s o) s t->t.ev x=s.ev x/\(Ew o.op=false->∀id∈(s.ev x).ids,sP (t.dx id) (s.dx id)):=λx hx t ht=>
  have hm:x∈o.op.operands.toList:=by rw[hx];simp
  ⟨ht.ev hm,λhn _ eY=>ht.HJ hn hm eY⟩
 unfold oP at he
 split at he
 ·rename_i x eZ
  obtain rfl:=aB.1 he
  refine mO λt ht=> ?_
  unfold oP
  rw[eZ]
  simp only
  rw[(one x (by rw[eZ];rfl) t ht).1];rfl
 ·rename_i x eZ
  obtain rfl:=aB.1 he
  refine mO λt ht=> ?_
  unfold oP
  rw[eZ]
  simp only
  rw[(one x (by rw[eZ];rfl) t ht).1];rfl
 ·rename_i c x y eZ
  refine oo (F:=λt=>Kc (t.ev c) (t.ev x) (t.ev y)) (λt=>by unfold oP;rw[eZ]) (λt ht=> ?_) F4
  rw[ht.ev (by rw[eZ];simp[Op.operands]),ht.ev (by rw[eZ];simp[Op.operands]),ht.ev (by rw[eZ];simp[Op.operands])]
 ·rename_i T eZ
  split at he
  ·rename_i z q hz hq
   obtain⟨h1,h2⟩:=aL.1 he
   obtain rfl:=aB.1 h2
   simp only[ak]at h1
   refine sG (ids:=[]) hq h1.1 (λ_ h=>by cases h) λt ht hv=> ?_
   unfold oP
   rw[eZ]
   simp only[hz,hq]
   exact aL.2 ⟨by simp[hv,h1.2],aB.2 rfl⟩
  ·exact(al.1 he).elim
 ·rename_i T x eZ
  exact KN eZ he
 ·rename_i T parts eZ
  exact Gp eZ he
 ·rename_i T n parts eZ
  exact zr eZ he
 ·rename_i T x eZ
  refine oo (F:=λt=>yG P t T (t.ev x)) (λt=>by unfold oP;rw[eZ]) (λt ht=> ?_) F4
  obtain⟨h1,h2⟩:=one x (by rw[eZ];rfl) t ht
  rw[h1,G0 (h2 (FE eZ rfl))]
 ·rename_i T x v eZ
  obtain⟨s1,h1,h2⟩:=aw.1 he
  obtain rfl:=aB.1 h2
  obtain⟨id,e0,e,eY,hs,rfl,hl⟩:=FQ h1
  refine uL hs ?_ λt ht Lb=> ?_
  ·show id∈writes Γ s o
   unfold writes
   rw[eZ]
   simp only[eY,aU]
  ·unfold oP
   rw[eZ]
   simp only
   rw[ht.ev (x:=x) (by rw[eZ];simp[Op.operands]),ht.ev (x:=v) (by rw[eZ];simp[Op.operands])]
   exact aw.2 ⟨_,hl t Lb,aB.2 rfl⟩
 ·rename_i x eZ
  split at he
  ·rename_i id v p n hx
   obtain rfl:=aB.1 he
   refine mO λt ht=> ?_
   unfold oP
   rw[eZ]
   simp only[(one x (by rw[eZ];rfl) t ht).1,hx];rfl
  ·rename_i ty y hx
   obtain rfl:=aB.1 he
   refine mO λt ht=> ?_
   unfold oP
   rw[eZ]
   simp only[(one x (by rw[eZ];rfl) t ht).1,hx];rfl
  ·rename_i f c hx
   obtain rfl:=aB.1 he
   refine mO λt ht=> ?_
   unfold oP
   rw[eZ]
   simp only[(one x (by rw[eZ];rfl) t ht).1,hx];rfl
  ·exact(al.1 he).elim
 ·rename_i op T x y U eZ
  have MZ:x∈o.op.operands.toList:=by rw[eZ];simp[Op.operands]
  have SB:y∈o.op.operands.toList:=by rw[eZ];simp[Op.operands]
  split at he
  ·rename_i i v1 j v2 hx hy
   obtain⟨v,h1,h2⟩:=aw.1 he
   obtain rfl:=aB.1 h2
   refine mO λt ht=> ?_
   unfold oP
   rw[eZ]
   simp only[ht.ev MZ,ht.ev SB,hx,hy]
   exact aw.2 ⟨v,by rw[KY (ht.HJ (FE eZ rfl) MZ (by rw[hx];simp[aH.ids]))];exact h1,rfl⟩
  ·rename_i lg
   obtain⟨v,h1,h2⟩:=aw.1 he
   obtain rfl:=aB.1 h2
   refine mO λt ht=> ?_
   unfold oP
   rw[eZ]
   simp only[ht.ev MZ,ht.ev SB]
   exact aw.2 ⟨v,h1,rfl⟩
 ·rename_i op T x eZ
  refine oo (F:=λt=>UN op (t.ev x)) (λt=>by unfold oP;rw[eZ]) (λt ht=> ?_) F4
  rw[(one x (by rw[eZ];rfl) t ht).1]
 ·rename_i T U x eZ
  split at he
  ·rename_i id ver len hTU hx
   unfold Gv at he
   split at he
   ·rename_i v e0 l e mY hD
    split at he
    ·rename_i hE
     obtain⟨h1,h2⟩:=aL.1 he
     obtain⟨h3,h4⟩:=cV.1 h2
     obtain rfl:=aB.1 h4
     refine uL (gC mY) ?_ λt ht Lb=> ?_
     ·show id∈writes Γ s o
      unfold writes
      rw[eZ]
      simp only[hTU,hx]
      simp[aH.ids]
     ·have hob':t.obj id=some (v,false,.vec e0 (.int .u8) l):=by simp only[AS.obj,Lb];exact mY
      unfold oP
      rw[eZ]
      simp only[hTU,(one x (by rw[eZ];rfl) t ht).1,hx]
      unfold Gv
      simp only[hob',hD,hE]
      exact aL.2 ⟨h1,cV.2 ⟨h3,aB.2 rfl⟩⟩
    ·exact(al.1 he).elim
   ·exact(al.1 he).elim
  ·rename_i id ver hx
   obtain⟨v,h1,h2⟩:=aw.1 he
   obtain rfl:=aB.1 h2
   refine mO λt ht=> ?_
   obtain⟨h3,h4⟩:=one x (by rw[eZ];rfl) t ht
   unfold oP
   rw[eZ]
   simp only[h3,hx]
   exact aw.2 ⟨v,by rw[Gw (h4 (FE eZ rfl) _ (by rw[hx];simp[aH.ids]))];exact h1,rfl⟩
  ·rename_i lg
   obtain⟨v,h1,h2⟩:=aw.1 he
   obtain rfl:=aB.1 h2
   refine mO λt ht=> ?_
   obtain⟨h3,h4⟩:=one x (by rw[eZ];rfl) t ht
   unfold oP
   rw[eZ]
   simp only[h3]
   exact aw.2 ⟨v,by rw[Gu (h4 (FE eZ rfl))];exact h1,rfl⟩
 ·rename_i T x eZ
  exact HU eZ he
 ·rename_i f first caps eZ
  obtain⟨h1,h2⟩:=aL.1 he
  obtain rfl:=aB.1 h2
  refine mO λt ht=> ?_
  have hc:pk t caps.toList=pk s caps.toList:=yr _ λx hx=>ht.ev (by rw[eZ];simp only[Op.operands,df];exact cf.2 (.inr hx))
  unfold oP
  rw[eZ]
  simp only[hc]
  exact aL.2 ⟨h1,aB.2 rfl⟩
 ·rename_i T l c eZ
  obtain⟨n,h1,h2⟩:=aw.1 he
  obtain⟨m,h3,h4⟩:=aw.1 h2
  exact Bf eZ h1 h3 h4
 ·rename_i T x lo hi eZ
  refine oo (F:=λt=>xW P t T (t.ev x) lo hi) (λt=>by unfold oP;rw[eZ]) (λt ht=> ?_) F4
  have hm:∀z,(z=x\/lo=some z\/hi=some z)->z∈o.op.operands.toList:=λz hz=>by
   rw[eZ]
   simp only[Op.operands,df,cf]
   rcases hz with rfl | rfl | rfl
   ·left;left;left;simp
   ·left;left;right;simp
   ·left;right;simp
  have hx:=hm x (.inl rfl)
  rw[ht.ev hx]
  exact FN (λid eY=>ht.HJ (FE eZ rfl) hx eY) (λy hy=>ht.ev (hm y (.inr (.inl hy)))) (λy hy=>ht.ev (hm y (.inr (.inr hy))))
 ·rename_i T x f eZ
  refine oo (F:=λt=>uH P T (t.ev x) f) (λt=>by unfold oP;rw[eZ]) (λt ht=> ?_) F4
  rw[(one x (by rw[eZ];rfl) t ht).1]
 ·rename_i T x f eZ
  refine oo (F:=λt=>Fc P T (t.ev x) f) (λt=>by unfold oP;rw[eZ]) (λt ht=> ?_) F4
  rw[(one x (by rw[eZ];rfl) t ht).1]
 ·rename_i T x i eZ
  refine oo (F:=λt=>(asInt (t.ev i)).bind λi=>py P t T (t.ev x) i) (λt=>by unfold oP;rw[eZ,Out.bind_assoc]) (λt ht=> ?_) F4
  have hx:x∈o.op.operands.toList:=by rw[eZ];simp[Op.operands]
  rw[ht.ev (x:=i) (by rw[eZ];simp[Op.operands]),ht.ev hx]
  congr 1
  funext i
  exact zJ λid eY=>ht.HJ (FE eZ rfl) hx eY
 ·rename_i T x i eZ
  refine oo (F:=λt=>(asInt (t.ev i)).bind λi=>Fq P T (t.ev x) i) (λt=>by unfold oP;rw[eZ,Out.bind_assoc]) (λt ht=> ?_) F4
  rw[ht.ev (x:=i) (by rw[eZ];simp[Op.operands]),ht.ev (x:=x) (by rw[eZ];simp[Op.operands])]
 ·rename_i x i eZ
  refine oo (F:=λt=>Out.opt ((t.ev x).list[i]?)) (λt=>by unfold oP;rw[eZ]) (λt ht=> ?_) F4
  rw[(one x (by rw[eZ];rfl) t ht).1]
 ·rename_i T eZ
  have yz:=he
  unfold vX at yz
  split at yz
  ·rename_i K V kt vt q hm hd
   obtain⟨h1,h2⟩:=aL.1 yz
   obtain rfl:=aB.1 h2
   refine sG (ids:=[]) hd h1 (λ_ h=>by cases h) λt ht hv=> ?_
   unfold oP
   rw[eZ]
   simp only
   unfold vX
   simp only[hm,hd]
   exact aL.2 ⟨hv,aB.2 rfl⟩
  ·exact(al.1 yz).elim
 ·rename_i T x i ok eZ
  refine oo (F:=λt=>uM P t T (t.ev x) (t.ev i) ok) (λt=>by unfold oP;rw[eZ]) (λt ht=> ?_) F4
  have hx:x∈o.op.operands.toList:=by rw[eZ];simp[Op.operands]
  rw[ht.ev (x:=i) (by rw[eZ];simp[Op.operands]),ht.ev hx]
  exact DI λid eY=>ht.HJ (FE eZ rfl) hx eY
 ·rename_i T m k x eZ
  obtain⟨s1,h1,h2⟩:=aw.1 he
  obtain rfl:=aB.1 h2
  obtain⟨id,e0,e,eY,hs,rfl,hl⟩:=DL h1
  refine uL hs ?_ λt ht Lb=> ?_
  ·show id∈writes Γ s o
   unfold writes
   rw[eZ]
   simp only[eY,aU]
  ·unfold oP
   rw[eZ]
   simp only
   rw[ht.ev (x:=m) (by rw[eZ];simp[Op.operands]),ht.ev (x:=k) (by rw[eZ];simp[Op.operands]),ht.ev (x:=x) (by rw[eZ];simp[Op.operands])]
   exact aw.2 ⟨_,hl t Lb,aB.2 rfl⟩
 ·rename_i c eZ
  obtain⟨cal,args,tys⟩:=c
  simp only at he
  split at he
  ·split at he
   ·rename_i m k T T2 ha ht'
    have VA:m∈o.op.operands.toList:=by rw[eZ];simp only[Op.operands,Call.operands,bt,df,ha];simp
    have L7:k∈o.op.operands.toList:=by rw[eZ];simp only[Op.operands,Call.operands,bt,df,ha];simp
    obtain⟨s1,h1,h2⟩:=aw.1 he
    obtain rfl:=aB.1 h2
    obtain⟨id,e0,e,eY,hs,rfl,hl⟩:=DK h1
    refine uL hs ?_ λt ht Lb=> ?_
    ·show id∈writes Γ s o
     unfold writes
     rw[eZ]
     simp only[ha,eY,aU]
    ·unfold oP
     rw[eZ]
     simp only[ha,ht']
     rw[ht.ev VA,ht.ev L7]
     exact aw.2 ⟨_,hl t Lb,aB.2 rfl⟩
   ·exact(al.1 he).elim
  ·split at he
   ·rename_i x y T X ha ht'
    exact Iy eZ rfl ha ht' he
   ·exact(al.1 he).elim
  ·split at he
   ·rename_i x T ha ht'
    refine oo (F:=λt=>Ps P T (t.ev x)) (λt=>by unfold oP;rw[eZ];simp only[ha,ht']) (λt ht=> ?_) F4
    rw[ht.ev (by rw[eZ];simp only[Op.operands,Call.operands,bt,df,ha];simp)]
   ·exact(al.1 he).elim
  ·split at he
   ·rename_i x y T X ha ht'
    have MZ:x∈o.op.operands.toList:=by rw[eZ];simp only[Op.operands,Call.operands,bt,df,ha];simp
    have SB:y∈o.op.operands.toList:=by rw[eZ];simp only[Op.operands,Call.operands,bt,df,ha];simp
    split at he
    ·rename_i k n hx hy
     have yz:=he
     unfold GI at yz
     split at yz
     ·rename_i e t0 b q kn w9 hd hX
      obtain⟨h1,h2⟩:=aL.1 yz
      obtain⟨h3,h4⟩:=cV.1 h2
      obtain rfl:=aB.1 h4
      refine sG (ids:=[]) hd h1 (λ_ h=>by cases h) λt ht hv=> ?_
      unfold oP
      rw[eZ]
      simp only[ha,ht',ht.ev MZ,ht.ev SB,hx,hy]
      unfold GI
      simp only[w9,hd,hX]
      exact aL.2 ⟨hv,cV.2 ⟨h3,aB.2 rfl⟩⟩
     ·exact(al.1 yz).elim
    ·rename_i lg
     exact E1 eZ rfl ha ht' lg he
   ·exact(al.1 he).elim
  ·split at he
   ·rename_i x T ha ht'
    have MZ:x∈o.op.operands.toList:=by rw[eZ];simp only[Op.operands,Call.operands,bt,df,ha];simp
    split at he
    ·rename_i e hx hT
     obtain rfl:=aB.1 he
     refine mO λt ht=> ?_
     unfold oP
     rw[eZ]
     simp only[ha,ht',ht.ev MZ,hx,hT];rfl
    ·exact(al.1 he).elim
   ·exact(al.1 he).elim
  ·refine oo (F:=λt=>Lq true (args.toList.map t.ev)) (λt=>by unfold oP;rw[eZ]) (λt ht=> ?_) F4
   congr 1
   exact j6 λx hx=>ht.ev (by rw[eZ];simp only[Op.operands,Call.operands,bt,df];exact hx)
  ·refine oo (F:=λt=>Lq false (args.toList.map t.ev)) (λt=>by unfold oP;rw[eZ]) (λt ht=> ?_) F4
   congr 1
   exact j6 λx hx=>ht.ev (by rw[eZ];simp only[Op.operands,Call.operands,bt,df];exact hx)
  ·split at he
   ·rename_i x ha
    have MZ:x∈o.op.operands.toList:=by rw[eZ];simp only[Op.operands,Call.operands,bt,df,ha];simp
    split at he
    ·rename_i id ver len hx
     obtain⟨h1,h2⟩:=cV.1 he
     obtain rfl:=aB.1 h2
     refine mO λt ht=> ?_
     unfold oP
     rw[eZ]
     simp only[ha,ht.ev MZ,hx]
     exact cV.2 ⟨h1,rfl⟩
    ·exact(al.1 he).elim
   ·exact(al.1 he).elim
  ·split at he
   ·rename_i x y T U ha ht'
    have MZ:x∈o.op.operands.toList:=by rw[eZ];simp only[Op.operands,Call.operands,bt,df,ha];simp
    have SB:y∈o.op.operands.toList:=by rw[eZ];simp only[Op.operands,Call.operands,bt,df,ha];simp
    split at he
    ·rename_i id ver n hx hy
     have yz:=he
     unfold HS at yz
     split at yz
     ·rename_i v e l u mY hT
      obtain⟨h1,h2⟩:=aL.1 yz
      obtain⟨h3,h4⟩:=cV.1 h2
      obtain rfl:=aB.1 h4
      refine uL (gC mY) ?_ λt ht Lb=> ?_
      ·show id∈writes Γ s o
       unfold writes
       rw[eZ]
       simp only[ha,hx]
       simp[aH.ids]
      ·have hob':t.obj id=some (v,false,.vec e (.int .u8) l):=by simp only[AS.obj,Lb];exact mY
       unfold oP
       rw[eZ]
       simp only[ha,ht',ht.ev MZ,ht.ev SB,hx,hy]
       unfold HS
       simp only[hob',hT]
       exact aL.2 ⟨h1,cV.2 ⟨h3,aB.2 rfl⟩⟩
     ·exact(al.1 yz).elim
    ·exact(al.1 he).elim
   ·exact(al.1 he).elim
  ·rename_i F _
   split at he
   ·rename_i f caps hF
    split at he
    ·rename_i en Rk
     exact Is eZ rfl hF Rk he
    ·exact(al.1 he).elim
   ·exact(al.1 he).elim
  ·exact(al.1 he).elim
 ·exact(al.1 he).elim
end
end Go.Ab
namespace Go.Ab
section
variable {P:Program} {Γ:fD} {cZ:List Nat} {ops:Array Oper} {o:Oper} {s t:AS}
def Loc(P:Program)(Γ:fD)(cZ:List Nat)(ops:Array Oper)(o:Oper)(s s':AS):Prop:=
 ∃E,App o.dst E s s'/\EX (jO Γ ops s o) s E/\∀t,mA (jO Γ ops s o) s t->∃t',w8 P Γ cZ ops o t=some t'/\App o.dst E t t'
theorem B8{s':AS}(he:w8 P Γ cZ ops o s=some s'):Loc P Γ cZ ops o s s':=by
 unfold w8 at he
 split at he
 ·rename_i hg
  obtain⟨E,h1,h2,h3⟩:=D7 (ops:=ops) he
  refine⟨E,h1,h2,λt ht=> ?_⟩
  obtain⟨t',h4,h5⟩:=h3 t ht
  exact⟨t',by unfold w8;simp only[hg];exact h4,h5⟩
 ·rename_i j want hg
  split at he
  ·rename_i q hq
   split at he
   ·rename_i b hb
    have JU:∀t,mA (jO Γ ops s o) s t->t.slot q= .d .bool b:=λt ht=>by
     rw[ht.dW q (cf.2 (.inr (by unfold zC;simp only[hg,hq];simp)))];exact hb
    by_cases e:b=want
    ·rw[if_pos e]at he
     obtain⟨E,h1,h2,h3⟩:=D7 (ops:=ops) he
     refine⟨E,h1,h2,λt ht=> ?_⟩
     obtain⟨t',h4,h5⟩:=h3 t ht
     exact⟨t',by unfold w8;simp only[hg,hq,JU t ht,if_pos e];exact h4,h5⟩
    ·rw[if_neg e]at he
     simp only[aD]at he
     subst he
     exact⟨⟨.nil,λ_=>none,[]⟩,App.wN _ _ _,⟨λ_ _ h=>by simp at h,λ_ h=>by simp at h⟩,λt ht=>⟨_,by unfold w8;simp only[hg,hq,JU t ht,if_neg e],App.wN _ _ _⟩⟩
   ·rename_i hb
    have JU:∀t,mA (jO Γ ops s o) s t->t.slot q= .nil:=λt ht=>by
     rw[ht.dW q (cf.2 (.inr (by unfold zC;simp only[hg,hq];simp)))];exact hb
    simp only[aD]at he
    subst he
    exact⟨⟨.nil,λ_=>none,[]⟩,App.wN _ _ _,⟨λ_ _ h=>by simp at h,λ_ h=>by simp at h⟩,λt ht=>⟨_,by unfold w8;simp only[hg,hq,JU t ht],App.wN _ _ _⟩⟩
   ·cases he
  ·cases he
theorem FZ(h:mA (jO Γ ops s o) s t):writes Γ t o=writes Γ s o:=by
 have Oy:∀id∈writes Γ s o,t.dx id=s.dx id:=h.ws
 unfold writes at Oy ⊢
 split
 ·rename_i x v eZ
  rw[h.ev (by rw[eZ];simp[Op.operands])]
 ·rename_i m k v eZ
  rw[h.ev (by rw[eZ];simp[Op.operands])]
 ·rename_i T U x eZ
  rw[h.ev (by rw[eZ];simp[Op.operands])]
 ·rename_i c eZ
  obtain⟨cal,args,tys⟩:=c
  simp only[eZ]at Oy
  simp only
  split
  ·split
   ·rename_i x l ha
    rw[h.ev (by rw[eZ];simp only[Op.operands,Call.operands,bt,df,ha];simp)]
   ·rfl
  ·split
   ·rename_i x l ha
    rw[h.ev (by rw[eZ];simp only[Op.operands,Call.operands,bt,df,ha];simp)]
   ·rfl
  ·split
   ·rename_i x l ha
    rw[h.ev (by rw[eZ];simp only[Op.operands,Call.operands,bt,df,ha];simp)]
   ·rfl
  ·split
   ·rename_i x l ha
    rw[h.ev (by rw[eZ];simp only[Op.operands,Call.operands,bt,df,ha];simp)]
   ·rfl
  ·rename_i F
   simp only at Oy
   have hm:∀z,z=F\/z∈args.toList->z∈o.op.operands.toList:=λz hz=>by
    rw[eZ]
    simp only[Op.operands,Call.operands,df,cf]
    rcases hz with rfl | hz
    ·exact .inl (by simp)
    ·exact .inr hz
   have h1:t.ev F=s.ev F:=h.ev (hm F (.inl rfl))
   have h2:args.toList.map t.ev=args.toList.map s.ev:=j6 λx hx=>h.ev (hm x (.inr hx))
   rw[h1]
   split
   ·rename_i f caps hF
    simp only[hF]at Oy
    rw[h2]
    split
    ·rename_i en Rk
     simp only[Rk]at Oy
     exact rj _ _ _ λid eY=>by rw[Oy id eY]
    ·rfl
   ·rfl
  ·rfl
 ·rfl
theorem B2(h:mA (jO Γ ops s o) s t):jO Γ ops t o=jO Γ ops s o:=by
 have h1:=FZ h
 have h2:Hs t o=Hs s o:=by
  unfold Hs
  split
  ·rfl
  unfold List.flatMap
  congr 1
  exact j6 λi hi=>by rw[h.dW i (cf.2 (.inl hi))]
 unfold jO
 rw[h1,h2]
theorem qY{xs ys:List Id}(h:meets xs ys=false){id:Id}(hx:id∈xs):id ∉ ys:=by
 intro hy
 have:meets xs ys=true:=by
  unfold meets
  exact List.any_eq_true.2 ⟨id,hx,List.any_eq_true.2 ⟨id,hy,by simp⟩⟩
 rw[h]at this;cases this
theorem ql{d:Option Tmp}{ids:List Id}(h:C3 d ids=false){q:Nat}(hd:d=some q)(j:Nat):Id.new q j ∉ ids:=by
 intro hy
 have:C3 d ids=true:=by
  subst hd
  exact List.any_eq_true.2 ⟨_,hy,by simp⟩
 rw[h]at this;cases this
theorem wI{f g:vy}(h:f.TD g=false){q:Nat}(hd:f.dst=some q):q ∉ g.dW/\g.dst≠some q:=by
 unfold vy.TD at h
 rw[hd]at h
 simp only[Bool.or_eq_false_iff,jr,decide_eq_true_eq,decide_eq_false_iff_not]at h
 exact⟨λhx=>h.1 q hx rfl,h.2⟩
theorem HM(s:AS)(d:Option Tmp)(v:aH)(i:Nat)(h:d≠some i):(s.put d v).slot i=s.slot i:=by
 cases d with
 |none=>rfl
 |some q=>rw[C4,if_neg];rintro⟨rfl,_⟩;exact h rfl
theorem App.slot{d:Option Tmp}{E:Sj}{s s':AS}(h:App d E s s')(i:Nat)(hi:d≠some i):s'.slot i=s.slot i:=by
 rw[<-HM s d E.v i hi]
 simp only[AS.slot,h.dW]
theorem Gd{f f':vy}{E:Sj}{s s1:AS}(ha:App f.dst E s s1)(hw:EX f s E)(VT:∀id∈f'.ws,id∈f'.rs)(h1:f.TD f'=false)(h2:meets f.ws f'.rs=false)(h3:meets f'.ws f.rs=false)
  (h4:C3 f.dst f'.rs=false):(∀i∈f'.dW,s1.slot i=s.slot i)/\(∀id∈f'.ws,s1.dx id=s.dx id)/\(∀id∈f'.rs,sP (s1.dx id) (s.dx id))/\∀q,f'.dst=some q->s1.gd q=s.gd q:=by
 have Cg:∀id∈f'.rs,E.up id=none:=λid eY=>by
  cases hu:E.up id with
  |none=>rfl
  |some e=>
   rcases hw.up id e hu with⟨h,_⟩ | ⟨q,j,hd,rfl⟩
   ·exact absurd eY (qY h2 h)
   ·exact absurd eY (ql h4 hd j)
 refine⟨λi hi=>ha.slot i λhd=>(wI h1 hd).1 hi,λid eY=> ?_,λid eY=> ?_,λq hq=> ?_⟩
 ·rw[ha.dx,Cg id (VT id eY)]
  have:id ∉ E.fz:=λhz=>qY h3 eY (hw.fz id hz)
  simp only[if_neg this]
 ·rw[ha.dx,Cg id eY]
  simp only
  split
  ·exact LJ _
  ·exact LK _
 ·have lg:∀j,(s1.dx (.new q j)=none↔s.dx (.new q j)=none):=λj=>by
   rw[ha.dx]
   cases hu:E.up (.new q j) with
   |none=>
    simp only
    split <;> simp
   |some e=>
    rcases hw.up _ e hu with⟨_,h⟩ | ⟨q',j',hd,he⟩
    ·simp[h]
    ·simp only[Id.new.injEq]at he
     obtain⟨rfl,_⟩:=he
     exact absurd hq (wI h1 hd).2
  rw[Bool.eq_iff_iff,sT,sT,ha.len]
  exact and_congr Iff.rfl (forall_congr' lg)
theorem vO(s:AS)(o:Oper):∀id∈(jO Γ ops s o).ws,id∈(jO Γ ops s o).rs:=λ_ eY=>cf.2 (.inr eY)
theorem swap{o':Oper}{s1 s2:AS}(h1:w8 P Γ cZ ops o s=some s1)(h2:w8 P Γ cZ ops o' s1=some s2)(hi:(jO Γ ops s o).indep (jO Γ ops s1 o')=true):
  ∃t1,w8 P Γ cZ ops o' s=some t1/\w8 P Γ cZ ops o t1=some s2/\jO Γ ops s o'=jO Γ ops s1 o'/\jO Γ ops t1 o=jO Γ ops s o:=by
 unfold vy.indep at hi
 simp only[ak,dI]at hi
 obtain⟨⟨⟨⟨⟨i1,i2⟩,i3⟩,i4⟩,i5⟩,i6⟩:=hi
 obtain⟨E,a1,w1,l1⟩:=B8 h1
 obtain⟨E',a2,w2,l2⟩:=B8 h2
 obtain⟨g1,g2,g3,g4⟩:=Gd (f:=jO Γ ops s o) (f':=jO Γ ops s1 o') a1 w1 (vO _ _) i1 i3 i4 i5
 have yh:mA (jO Γ ops s1 o') s1 s:=⟨λi hi=>(g1 i hi).symm,λid eY=>(g2 id eY).symm,λid eY=>by
  have:=g3 id eY
  revert this
  cases s1.dx id <;> cases s.dx id <;> simp only[sP] <;> intro h <;> first | trivial | exact h | skip
  rename_i a b
  cases a <;> cases b <;> simp_all [gT.HJ],λq hq=>(g4 q hq).symm⟩
 obtain⟨t1,k1,k2⟩:=l2 s yh
 have hf':=B2 yh
 have w2':EX (jO Γ ops s1 o') s E':=⟨λid e hu=>by
  rcases w2.up id e hu with⟨h,hn⟩ | h
  ·exact .inl ⟨h,by rw[<-g2 id h];exact hn⟩
  ·exact .inr h,w2.fz⟩
 obtain⟨m1,m2,m3,m4⟩:=Gd (f:=jO Γ ops s1 o') (f':=jO Γ ops s o) k2 w2' (vO _ _) i2 i4 i3 i6
 have Te:mA (jO Γ ops s o) s t1:=⟨m1,m2,m3,m4⟩
 obtain⟨t2,k3,k4⟩:=l1 t1 Te
 refine⟨t1,k1,?_,hf',B2 Te⟩
 rw[k3]
 congr 1
 have TU:∀id e,E.up id=some e->E'.up id=none/\id ∉ E'.fz:=λid e hu=>by
  rcases w1.up id e hu with⟨h,hn⟩ | ⟨q,j,hd,rfl⟩
  ·refine⟨?_,λhz=>qY i3 h (w2.fz id hz)⟩
   cases hu':E'.up id with
   |none=>rfl
   |some e'=>
    rcases w2.up id e' hu' with⟨h',_⟩ | ⟨q,j,hd,rfl⟩
    ·exact absurd (vO _ _ id h') (qY i3 h)
    ·exact absurd (vO _ _ _ h) (ql i6 hd j)
  ·refine⟨?_,λhz=>ql i5 hd j (w2.fz _ hz)⟩
   cases hu':E'.up (.new q j) with
   |none=>rfl
   |some e'=>
    rcases w2.up _ e' hu' with⟨h',_⟩ | ⟨q',j',hd',he⟩
    ·exact absurd (vO _ _ _ h') (ql i5 hd j)
    ·simp only[Id.new.injEq]at he
     obtain⟨rfl,_⟩:=he
     exact absurd hd' (wI i1 hd).2
 have VY:∀id e,E'.up id=some e->E.up id=none/\id ∉ E.fz:=λid e hu=>by
  have hn:E.up id=none:=by
   cases VW:E.up id with
   |none=>rfl
   |some e1=>rw[(TU id e1 VW).1]at hu;cases hu
  refine⟨hn,λhz=> ?_⟩
  rcases w2.up id e hu with⟨h,_⟩ | ⟨q,j,hd,rfl⟩
  ·exact qY i4 h (w1.fz id hz)
  ·exact ql i6 hd j (w1.fz _ hz)
 refine AS.ML ?_ (by rw[k4.len,k2.len,a2.len,a1.len]) λid=> ?_
 ·have e1:∀(u u':AS) (d:Option Tmp) (v:aH),u.dW=u'.dW->(u.put d v).dW=(u'.put d v).dW:=λu u' d v h=>by cases d <;> simp[AS.put,h]
  rw[k4.dW,a2.dW,e1 t1 (s.put o'.dst E'.v) _ _ k2.dW,e1 s1 (s.put o.dst E.v) _ _ a1.dW]
  cases hd:o.dst with
  |none=>cases o'.dst <;> rfl
  |some q=>
   cases hd':o'.dst with
   |none=>rfl
   |some q'=>
    have lg:q'≠q:=λe=>(wI (f:=jO Γ ops s o) i1 hd).2 (by show o'.dst=some q;rw[hd',e])
    simp only[AS.put]
    exact List.set_comm _ _ lg
 ·rw[k4.dx,k2.dx,a2.dx,a1.dx]
  cases hu:E.up id with
  |some e=>
   obtain⟨h3,h4⟩:=TU id e hu
   simp only[h3,if_neg h4]
  |none=>
   simp only
   cases hu':E'.up id with
   |some e=>
    obtain⟨_,h4⟩:=VY id e hu'
    simp only[if_neg h4]
   |none=>
    simp only
    by_cases z1:id∈E.fz <;> by_cases z2:id∈E'.fz <;> simp only[if_pos,if_neg,z1,z2,not_false_eq_true]
end
end Go.Ab
namespace Go.Ab
section
variable {P:Program} {Γ:fD} {cZ:List Nat} {ops:Array Oper}
def Ga(P:Program)(Γ:fD)(cZ:List Nat)(ops:Array Oper)(fs:Nat->vy):List Nat->AS->AS->Prop
 |[],s,sn=>s=sn
 |i::l,s,sn=>∃o,ops[i]? =some o/\jO Γ ops s o=fs i/\∃s',w8 P Γ cZ ops o s=some s'/\Ga P Γ cZ ops fs l s' sn
theorem Ga.Mz{fs:Nat->vy}{i:Nat}{l2:List Nat}{sn:AS}:∀(l1:List Nat) {s:AS},Ga P Γ cZ ops fs (l1++i::l2) s sn->(∀j∈l1,(fs j).indep (fs i)=true)->Ga P Γ cZ ops fs (i::(l1++l2)) s sn
 |[],_,h,_=>h
 |j::l1,s,h,hi=>by
  obtain⟨oj,h1,h2,s1,h3,h4⟩:=h
  obtain⟨oi,h5,h6,s2,h7,h8⟩:=Ga.Mz l1 h4 λj hj=>hi j (bj _ hj)
  have hd:=hi j (bh ..)
  rw[<-h2,<-h6]at hd
  obtain⟨t1,k1,k2,k3,k4⟩:=swap h3 h7 hd
  exact⟨oi,h5,by rw[k3,h6],t1,k1,oj,h1,by rw[k4,h2],s2,k2,h8⟩
theorem Eo{R:Type}{anc:List Nat}{k:AS->Option R}{r:R}:∀(l:List Oper) (i:Nat) (acc:List (Nat×vy)) (s:AS) (f0:Nat->vy),(∀n o,l[n]? =some o->ops[i+n]? =some o)->(∀x∈acc,f0 x.1=x.2/\x.1 < i)->
  En P Γ cZ ops anc i l acc s k=some r->∃fs sn,(∀j,j < i->fs j=f0 j)/\Ga P Γ cZ ops fs (List.range' i l.length) s sn/\k sn=some r/\
   (∀x∈acc,∀m,i<=m->m < i+l.length->(anc.getD m 0).testBit x.1=true\/x.2.indep (fs m)=true)/\(∀m1 m2,i<=m1->m1 < m2->m2 < i+l.length->(anc.getD m2 0).testBit m1=true\/(fs m1).indep (fs m2)=true)
 |[],i,acc,s,f0,_,_,h=>⟨f0,s,λ_ _=>rfl,rfl,h,λ_ _ m h1 h2=>by simp at h2;omega,λ_ _ h1 h2 h3=>by simp at h3;omega⟩
 |o::l,i,acc,s,f0,ho,hf,h=>by
  unfold En at h
  split at h
  ·rename_i zD
   simp only[AS.y5]at h
   obtain⟨s',h1,h2⟩:=GH (k:=λs'=>En P Γ cZ ops anc (i+1) l ((i,jO Γ ops s o)::acc) s' k) h
   have U2:∀x∈(i,jO Γ ops s o)::acc,(if x.1=i then jO Γ ops s o else f0 x.1)=x.2/\x.1 < i+1:=λx hx=>by
    rcases cE.1 hx with rfl | hx
    ·simp
    ·obtain⟨q1,q2⟩:=hf x hx
     rw[if_neg (by omega)]
     exact⟨q1,by omega⟩
   obtain⟨fs,sn,g1,g2,g3,g4,g5⟩:=Eo l (i+1) ((i,jO Γ ops s o)::acc) s' (λn=>if n=i then jO Γ ops s o else f0 n)
    (λn o' hn=>by have:=ho (n+1) o' (by simpa using hn);rw[<-this];congr 1;omega) U2 h2
   have gi:fs i=jO Γ ops s o:=by rw[g1 i (by omega),if_pos rfl]
   refine⟨fs,sn,λj hj=>by rw[g1 j (by omega),if_neg (by omega)],?_,g3,λx hx m h3 h4=> ?_,λm1 m2 h3 h4 h5=> ?_⟩
   ·rw[aO,List.range'_succ]
    exact⟨o,ho 0 o rfl,gi.symm,s',h1,g2⟩
   ·rcases Nat.eq_or_lt_of_le h3 with rfl | h3
    ·have:=fC.1 zD x hx
     simp only[kb]at this
     rcases this with h | h
     ·exact .inl h
     ·right;rw[gi];exact h
    ·exact g4 x (bj _ hx) m (by omega) (by simp only[aO]at h4;omega)
   ·rcases Nat.eq_or_lt_of_le h3 with rfl | h3
    ·rw[gi]
     exact g4 (i,jO Γ ops s o) (bh ..) m2 (by omega) (by simp only[aO]at h5;omega)
    ·exact g5 m1 m2 (by omega) h4 (by simp only[aO]at h5;omega)
  ·cases h
theorem Gg{acc:List Nat}{j:Nat}:∀ {l:List Edge},(l.foldr (λe m=>Nat.lor (Nat.lor (Nat.pow 2 e.on) (acc.getD e.on 0)) m) 0).testBit j=true->∃e∈l,j=e.on\/(acc.getD e.on 0).testBit j=true
 |[],h=>by simp at h
 |e::l,h=>by
  rw[List.foldr_cons,show ∀x y,Nat.lor x y=x ||| y from λ_ _=>rfl,show ∀x y,Nat.lor x y=x ||| y from λ_ _=>rfl,Nat.testBit_or,Nat.testBit_or,show Nat.pow 2 e.on=2^e.on from rfl,Nat.testBit_two_pow]at h
  simp only[kb,decide_eq_true_eq]at h
  rcases h with(h | h) | h
  ·exact⟨e,bh ..,.inl h.symm⟩
  ·exact⟨e,bh ..,.inr h⟩
  ·obtain⟨e',h1,h2⟩:=Gg h
   exact⟨e',bj _ h1,h2⟩
theorem D6:∀(l:List Oper) (acc:List Nat),(∀i,i < acc.length->(l.foldl (λacc o=>acc++ [EZ acc o]) acc)[i]? =acc[i]?)/\
  ∀i o,l[i]? =some o->(l.foldl (λacc o=>acc++ [EZ acc o]) acc)[acc.length+i]? =some (EZ ((l.foldl (λacc o=>acc++ [EZ acc o]) acc).take (acc.length+i)) o)
 |[],acc=>⟨λ_ _=>rfl,λi o h=>by simp at h⟩
 |x::l,acc=>by
  obtain⟨h1,h2⟩:=D6 l (acc++ [EZ acc x])
  simp only[iv]
  refine⟨λi hi=> ?_,λi o hi=> ?_⟩
  ·rw[h1 i (by simp;omega),kk hi]
  ·cases i with
   |zero=>
    simp only[iU,aD]at hi
    subst hi
    rw[dR,h1 _ (by simp)]
    have:(l.foldl (λacc o=>acc++ [EZ acc o]) (acc++ [EZ acc x])).take acc.length=acc:=by
     apply List.ext_getElem?
     intro j
     rw[fx]
     split
     ·rename_i hj
      rw[h1 j (by simp;omega),kk hj]
     ·rename_i hj
      rw[ik (by omega)]
    rw[this]
    simp
   |succ i=>
    have:=h2 i o (by simpa using hi)
    simp only[aj,aO,bM,bl]at this
    rw[show acc.length+(i+1)=acc.length+1+i by omega]
    exact this
theorem Mq{l:List Oper}{i:Nat}{o:Oper}(hi:l[i]? =some o){j:Nat}(hj:((Gh l).getD i 0).testBit j=true):∃e∈o.after.toList,Region.binds .any e=true/\(j=e.on\/((Gh l).getD e.on 0).testBit j=true):=by
 have h:=(D6 l []).2 i o hi
 have e:Gh l=l.foldl (λacc o=>acc++ [EZ acc o]) []:=rfl
 rw[<-e]at h
 simp only[bM,bl]at h
 rw[aY,h]at hj
 obtain⟨e,h1,h3⟩:=Gg hj
 obtain⟨h1,h2⟩:=jI.1 h1
 refine⟨e,h1,h2,h3.imp id λh4=> ?_⟩
 rw[aY,fx]at h4
 split at h4
 ·rw[aY];exact h4
 ·simp at h4
def ES(n:Nat)(listed:Array Bool):List Nat:=(List.range n).filter λi=> !listed.getD i true
theorem yH{n:Nat}{listed:Array Bool}{i:Nat}:i∈ES n listed↔i < n/\listed.getD i true=false:=by simp[ES]
theorem yd(n:Nat)(listed:Array Bool):(ES n listed).Pairwise (· < ·):=(List.pairwise_lt_range).filter _
theorem B7{listed:Array Bool}{i j:Nat}(d:Bool)(hi:i < listed.size):(listed.setIfInBounds i true).getD j d=if j=i then true else listed.getD j d:=by
 simp only[fL,iM]
 by_cases h:i=j
 ·subst h;simp[hi]
 ·simp[h,Ne.symm h]
theorem PQ{listed:Array Bool}{i:Nat}(hi:i < listed.size){l1 l2:List Nat}(h:ES listed.size listed=l1++i::l2):ES listed.size (listed.setIfInBounds i true)=l1++l2:=by
 have hs:=yd listed.size listed
 rw[h]at hs
 obtain⟨p1,p2,p3⟩:=List.pairwise_append.1 hs
 obtain⟨p4,_⟩:=iX.1 p2
 have e:ES listed.size (listed.setIfInBounds i true)=(ES listed.size listed).filter λj=>decide (j≠i):=by
  unfold ES
  rw[List.filter_filter]
  refine List.filter_congr λj _=> ?_
  rw[B7 true hi]
  by_cases hj:j=i
  ·simp[hj]
  ·simp[hj]
 rw[e,h,kD,iw]
 have f1:l1.filter (λj=>decide (j≠i))=l1:=kY.2 λj hj=>by
  have:=p3 j hj i (bh ..)
  simp;omega
 have f2:l2.filter (λj=>decide (j≠i))=l2:=kY.2 λj hj=>by
  have:=p4 j hj
  simp;omega
 rw[f1,f2]
 simp
theorem KG{C:Ctx}(hΓ:Sound P Γ){fs:Nat->vy}{sn:AS}{Q:Exit->Act->World->Prop}(hE:E8 ops.toList=true)
  (Vl:∀m1 m2,m1 < m2->m2 < ops.size->((Gh ops.toList).getD m2 0).testBit m1=true\/(fs m1).indep (fs m2)=true) (hQ:∀a w,kN C sn a w->Q .normal a w):
  ∀(fuel:Nat) (listed:Array Bool) (s:AS) (a:Act) (w:World),listed.size=ops.size->(ES ops.size listed).length=fuel->
   (∀i,i < ops.size->listed.getD i true=true->∀j,((Gh ops.toList).getD i 0).testBit j=true->listed.getD j false=true)->Ga P Γ cZ ops fs (ES ops.size listed) s sn->kN C s a w->wpAny P .any ops Q fuel listed a w:=by
 have P0:∀i o,ops[i]? =some o->∀e∈o.after.toList,Region.binds .any e=true->e.on < i:=λi o hi e he hb=>by
  have:=fC.1 hE (o,i) (List.mem_zipIdx_iff_getElem?.2 (by simpa using hi))
  have:=fC.1 this e he
  simpa[hb]using this
 have RB:∀(listed:Array Bool),listed.size=ops.size->∀i,i∈Region.ready .any ops listed↔i∈ES ops.size listed/\∀o,ops[i]? =some o->∀e∈o.after.toList,Region.binds .any e=true->listed.getD e.on false=true:=λlisted _ i=>by
  rw[yH]
  unfold Region.ready
  simp only[jI,List.mem_range,ak,dI]
  constructor
  ·rintro⟨h1,h2,h3⟩
   refine⟨⟨h1,h2⟩,λo ho e he hb=> ?_⟩
   rw[ho]at h3
   simp only[jc,gj,Array.all_eq_true',kb,dI]at h3
   rcases h3 e (by simpa using he) with h | h
   ·rw[hb]at h;cases h
   ·exact h
  ·rintro⟨⟨h1,h2⟩,h3⟩
   refine⟨h1,h2,?_⟩
   obtain⟨o,ho⟩:∃o,ops[i]? =some o:=⟨ops[i],by simp[h1]⟩
   rw[ho]
   simp only[jc,gj,Array.all_eq_true',kb,dI]
   intro e he
   cases hb:Region.binds .any e with
   |false=>exact .inl rfl
   |true=>exact .inr (h3 o ho e (by simpa using he) hb)
 have oT:∀(listed:Array Bool),listed.size=ops.size->Region.ready .any ops listed=[]->ES ops.size listed=[]:=λlisted hs hr=>by
  cases hu:ES ops.size listed with
  |nil=>rfl
  |cons i l=>
   exfalso
   have hi:i∈ES ops.size listed:=by rw[hu];exact bh ..
   have TQ:=yd ops.size listed
   rw[hu]at TQ
   have:i∈Region.ready .any ops listed:=(RB listed hs i).2 ⟨hi,λo ho e he hb=>by
    have mw:=P0 i o ho e he hb
    have TC:=(yH.1 hi).1
    cases hl:listed.getD e.on true with
    |false=>
     have hm:e.on∈ES ops.size listed:=yH.2 ⟨by omega,hl⟩
     rw[hu]at hm
     rcases cE.1 hm with h | h
     ·omega
     ·have:=(iX.1 TQ).1 _ h;omega
    |true=>
     have:e.on < listed.size:=by omega
     simp only[fL,lQ this,gj]at hl ⊢
     exact hl⟩
   rw[hr]at this
   cases this
 intro fuel
 induction fuel with
 |zero=>
  intro listed s a w hs hl _ hr vo
  have hn:ES ops.size listed=[]:=dd hl
  refine⟨?_,?_⟩
  ·cases VL:Region.ready .any ops listed with
   |nil=>rfl
   |cons i l=>
    have:i∈Region.ready .any ops listed:=by rw[VL];exact bh ..
    have:=((RB listed hs i).1 this).1
    rw[hn]at this;cases this
  ·rw[hn]at hr
   have:s=sn:=hr
   subst this
   exact hQ a w vo
 |succ fuel ih=>
  intro listed s a w hs hl LZ hr vo
  refine⟨λVL=> ?_,λi hi=> ?_⟩
  ·have:=oT listed hs VL
   rw[this]at hl;simp at hl
  ·obtain⟨hu,To⟩:=(RB listed hs i).1 hi
   obtain⟨TC,Y3⟩:=yH.1 hu
   obtain⟨o,ho⟩:∃o,ops[i]? =some o:=⟨ops[i],by simp[TC]⟩
   obtain⟨l1,l2,M4⟩:=List.append_of_mem hu
   have TQ:=yd ops.size listed
   rw[M4]at TQ
   have Tf:∀j,((Gh ops.toList).getD i 0).testBit j=true->listed.getD j false=true:=λj hj=>by
    obtain⟨e,he,hb,h | h⟩:=Mq (by simpa using ho) hj
    ·rw[h];exact To o ho e he hb
    ·have h1:=To o ho e he hb
     have h2:=P0 i o ho e he hb
     refine LZ e.on (by omega) ?_ j h
     have:e.on < listed.size:=by omega
     simp only[fL,lQ this,gj]at h1 ⊢
     exact h1
   rw[M4]at hr
   have hb:=Ga.Mz l1 hr λj hj=>by
    have mw:j < i:=(List.pairwise_append.1 TQ).2.2 j hj i (bh ..)
    rcases Vl j i mw TC with h | h
    ·have h1:=Tf j h
     have XQ:j∈ES ops.size listed:=by rw[M4];exact cf.2 (.inl hj)
     have h2:=(yH.1 XQ).2
     have:j < listed.size:=by omega
     simp only[fL,lQ this,gj]at h1 h2
     rw[h1]at h2;cases h2
    ·exact h
   obtain⟨o',ho',hf,s',hg,oS⟩:=hb
   obtain rfl:o=o':=by rw[ho]at ho';simpa using ho'
   have Fm:ES ops.size (listed.setIfInBounds i true)=l1++l2:=by
    rw[<-hs]at M4 ⊢
    exact PQ (by omega) M4
   refine((Em hΓ vo hg).mono λa' w' hst'=>ih (listed.setIfInBounds i true) s' a' w' (by simpa using hs) ?_ ?_ (by rw[Fm];exact oS) hst').wpOp ho
   ·rw[Fm]
    rw[M4]at hl
    simp only[aj,aO]at hl ⊢
    omega
   ·intro m hm UA j hj
    rw[B7 false (by omega)]
    split
    ·rfl
    ·rw[B7 true (by omega)]at UA
     split at UA
     ·rename_i XY
      subst XY
      exact Tf j hj
     ·exact LZ m hm UA j hj
theorem HB{C:Ctx}(hm:P.follows .mixedOrders=true)(hΓ:Sound P Γ){id:Nat}{R:Type}{Q:Exit->Act->World->Prop}{s:AS}{a:Act}{w:World}{k:AS->Option R}{r:R}(h:kN C s a w)(hE:E8 ops.toList=true)
  (he:En P Γ cZ ops (Gh ops.toList) 0 ops.toList [] s k=some r) (hk:∀s' a' w',kN C s' a' w'->k s'=some r->Q .normal a' w'):(Code.region id ops true).wp P Q a w:=by
 obtain⟨fs,sn,_,g2,g3,_,g5⟩:=Eo ops.toList 0 [] s (λ_=>⟨none,[],[],[]⟩) (λn o hn=>by simpa using hn) (λ_ hx=>by cases hx) he
 refine wp_region_any hm ?_
 obtain⟨g,β,h⟩:=h
 have hu:ES ops.size (Array.replicate ops.size false)=List.range' 0 ops.toList.length:=by
  unfold ES
  rw[kY.2]
  ·simp[List.range_eq_range']
  ·intro i hi
   have hi:i < ops.size:=by simpa using hi
   simp[fL,hi]
 refine KG (cZ:=cZ) hΓ hE (fs:=fs) (sn:=sn) (λm1 m2 h1 h2=>g5 m1 m2 (bm _) h1 (by simpa using h2)) (λa' w' hs=>hk sn a' w' hs g3) ops.size _ s a _ (by simp) (by rw[hu];simp) (λi hi hl=> ?_) (by rw[hu];exact g2) ⟨g,β,h.drew⟩
 simp[fL,hi]at hl
end
end Go.Ab
namespace Go.Ab
theorem sM{ρ:H6}{s:AS}(h:∀id,(s.obj id).isSome=true->∀ver,ρ id ver=some (id,ver)):∀(v:aH),v.there s=true->v.ma ρ=v
 | .ptr id ver p n,ht=>by simp only[aH.ma];rw[h id ht]
 | .di id ver p c i len,ht=>by simp only[aH.ma];rw[h id ht]
 | .pr a b,ht=>by
  simp only[aH.there,ak]at ht
  simp only[aH.ma];rw[sM h a ht.1,sM h b ht.2]
 | .cons a b,ht=>by
  simp only[aH.there,ak]at ht
  simp only[aH.ma];rw[sM h a ht.1,sM h b ht.2]
 | .fn f c,ht=>by simp only[aH.ma];rw[sM h c ht]
 | .bx e z c,ht=>by simp only[aH.ma];rw[sM h c ht]
 | .lb id ver,ht=>by simp only[aH.ma];rw[h id ht]
 | .p9 ..,ht=>by cases ht
 | .undef,_ | .gone,_ | .eU,_ | .oX,_ | .rK,_ | .ue,_ | .d _ _,_ | .gE _ _,_ | .nil,_ | .vec ..,_ | .mp ..,_ | .sb _,_=>rfl
theorem Sk.bO{E E':Env}(hm:qT E E')(hh:∀b:Nat,E'.w.heap[b]? =E.w.heap[b]?){i q:Id}{ver:Nat}{kt vt:Ty}{rest:List (kt.den×vt.den)}{cur:Option (kt.den×vt.den)}(h:Sk E i q ver kt vt rest cur)(hβ:E'.β i=E.β i)
  (hg:∀pl,E.β i=some pl->E.g pl.b= .own (.id i) 0->E'.g pl.b= .own (.id i) 0)
  (hq:∀vr,ver=vr+1->(E.wZ q vr->E'.wZ q vr/\(E'.cur q vr->E.cur q vr/\E'.β q=E.β q))/\(∀k v l,E.s q=some (.obj vr true (.mp k v l))->E'.s q=some (.obj vr true (.mp k v l)))/\
   ∀pl,E.β q=some pl->E.g pl.b= .own (.id q) 0->E'.g pl.b= .own (.id q) 0):Sk E' i q ver kt vt rest cur:=by
 obtain⟨pl,mb,since,seen,c0,h1,h2,h3,h4⟩:=h
 refine⟨pl,mb,since,seen,c0,by rw[hβ,h1],by rw[hh,h2],hg pl h1 h3,λvr Ma=> ?_⟩
 obtain⟨h5,h6⟩:=h4 vr Ma
 obtain⟨q1,q2,q3⟩:=hq vr Ma
 obtain⟨b1,b2⟩:=q1 h5
 refine⟨b1,λhc=> ?_⟩
 obtain⟨c1,c2⟩:=b2 hc
 obtain⟨⟨k,v,l,k0⟩,plq,es,clock,k1,k2,k3,k4,k5,k6,k7,k8,k9⟩:=h6 c1
 exact⟨⟨k,v,l,q2 _ _ _ k0⟩,plq,es,clock,by rw[c2,k1],k2,by rw[hh,k3],q3 _ k1 k4,k5,k6,k7,k8.mono hm,λx hx=>
  let⟨e,se,a1,a2,a3,a4⟩:=k9 x hx
  ⟨e,se,a1,a2,a3,a4.mono hm⟩⟩
theorem Nd(c:aH):(∃q ver k v l cu,c= .p9 q ver k v l cu)\/(∀ρ kp,c.RY ρ kp=c.ma ρ)/\∀s v fr,gT.there s (.obj v fr c)=c.there s:=by
 cases c <;> first | exact .inl ⟨_,_,_,_,_,_,rfl⟩ | exact .inr ⟨λ_ _=>rfl,λ_ _ _=>rfl⟩
section
variable {P:Program} {C:Ctx} {g:Nat->nZ} {β:Id->Option Pl} {s:AS} {a:Act} {w:World}
theorem Inv.ED(h:Inv C g β s a w)(hC:∀i j,C.E.s (.new i j)=none){s1:AS}{g1:Nat->nZ}{β1:Id->Option Pl}(ρ:H6)(hlen:s1.dW.length=s.dW.length)(ht:Trans w w g g1)(hle:u7 ρ (s.env w g β) (s1.env w g1 β1))
  (Cf:∀i,VS (s1.env w g1 β1) (s1.slot i) (a.tmps.getD i undef))
  (eP:∀id ver fr c,s1.dx id=some (.obj ver fr c)->rE (s1.env w g1 β1) id fr c\/∃id0 v0 c0,s.dx id0=some (.obj v0 fr c0)/\c0.ma ρ=c/\β1 id=β id0/\∀pl,β id0=some pl->(∀k,g pl.b= .own (.id id0) k->g1 pl.b= .own (.id id) k)/\(g pl.b= .free->g1 pl.b= .free))
  (hold:∀k,(s.dx (.ew k)≠none->s1.dx (.ew k)≠none)/\(∀v fr c,s1.dx (.ew k)=some (.obj v fr c)->∃c0,s.dx (.ew k)=some (.obj v fr c0))/\β1 (.ew k)=β (.ew k)):Inv C g1 β1 s1 a w:=by
 refine⟨h.defers,by rw[hlen];exact h.size,Cf,λid ver fr c eY=> ?_,h.trans.trans ht,?_⟩
 ·rcases eP id ver fr c eY with ho | ⟨id0,v0,c0,h1,h2,h3,h4⟩
  ·exact ho
  have:=tQ hle (h.cZ id0 v0 fr c0 h1) (id':=id) h3 λpl hp=>⟨rfl,(h4 pl hp).1,(h4 pl hp).2⟩
  rw[h2]at this
  exact this
 ·have hl:=h.le
  have ho:∀id ver,C.E.wZ id ver->∃k,id= .ew k:=λid ver hb=>by
   cases id with
   |ew k=>exact⟨k,rfl⟩
   |new i j=>exact absurd (hC i j) hb.1
  refine⟨hl.mem.trans (Trans.mem (E:=s.env w g β) (E':=s1.env w g1 β1) ht),λid ver hb=> ?_,λid ver hb hc=> ?_⟩
  ·obtain⟨k,rfl⟩:=ho id ver hb
   obtain⟨h1,h2⟩:=hl.wZ _ ver hb
   obtain⟨e1,e2,_⟩:=hold k
   exact⟨e1 h1,λv fr c hh=>let⟨c0,MV⟩:=e2 v fr c hh;h2 v fr c0 MV⟩
  ·obtain⟨k,rfl⟩:=ho id ver hb
   obtain⟨fr,c,hc⟩:=hc
   obtain⟨_,e2,e3⟩:=hold k
   obtain⟨c0,MV⟩:=e2 _ _ _ hc
   obtain⟨h1,h2⟩:=hl.cur _ ver hb ⟨fr,c0,MV⟩
   exact⟨h1,e3.trans h2⟩
theorem Inv.renamed(h:Inv C g β s a w)(hC:∀i j,C.E.s (.new i j)=none){s1:AS}{β1:Id->Option Pl}(ρ:H6)(hlen:s1.dW.length=s.dW.length)(hle:u7 ρ (s.env w g β) (s1.env w g β1))
  (Cf:∀i,VS (s1.env w g β1) (s1.slot i) (a.tmps.getD i undef)) (eP:∀id ver fr c,s1.dx id=some (.obj ver fr c)->rE (s1.env w g β1) id fr c\/∃v0,s.dx id=some (.obj v0 fr c)/\c.ma ρ=c/\β1 id=β id)
  (hold:∀k,s1.dx (.ew k)=s.dx (.ew k)/\β1 (.ew k)=β (.ew k)):Inv C g β1 s1 a w:=
 h.ED hC ρ hlen (Trans.refl w g) hle Cf (λid ver fr c eY=>(eP id ver fr c eY).imp (λh=>h) λ⟨v0,h1,h2,h3⟩=>⟨id,v0,c,h1,h2,h3,λ_ _=>⟨λ_ h=>h,λh=>h⟩⟩)
  λk=>⟨λhh=>by rw[(hold k).1];exact hh,λv fr c hh=>⟨c,(hold k).1.symm.trans hh⟩,(hold k).2⟩
theorem Inv.Ud(h:Inv C g β s a w)(j:Nat){v:aH}(hv:VS (s.env w g β) v (a.tmps.getD j undef)):Inv C g β (s.put (some j) v) a w:=by
 refine⟨h.defers,by simpa[AS.put]using h.size,λi=> ?_,by simpa using h.cZ,h.trans,by simpa using h.le⟩
 rw[JJ,C4]
 split
 ·rename_i Vk;rw[Vk.1];exact hv
 ·exact h.dW i
theorem Ah(bO:List Nat):∀(l:List aH) (n i:Nat),(lB bO n l).getD i .undef= .undef\/(lB bO n l).getD i .undef=l.getD i .undef
 |[],n,i=>by simp[lB]
 |v::l,n,0=>by
  simp only[lB,mf]
  split
  ·exact .inr rfl
  ·exact .inl rfl
 |v::l,n,i+1=>by
  simp only[lB,oB]
  exact Ah bO l (n+1) i
theorem tG(bO:List Nat):∀(l:List aH) (n:Nat),(lB bO n l).length=l.length
 |[],n=>rfl
 |v::l,n=>by simp[lB,tG bO l]
theorem EJ(bO:List Nat):∀(l:List (List gT)) (n i:Nat),(ni bO n l).getD i []=[]\/(ni bO n l).getD i []=l.getD i []
 |[],n,i=>by simp[ni]
 |v::l,n,0=>by
  simp only[ni,mf]
  split
  ·exact .inr rfl
  ·exact .inl rfl
 |v::l,n,i+1=>by
  simp only[ni,oB]
  exact EJ bO l (n+1) i
theorem Lp{s:AS}(i:Nat):s.slot i= .undef\/s.slot i∈s.dW:=by
 unfold AS.slot
 rw[aY]
 cases h:s.dW[i]? with
 |none=>exact .inl rfl
 |some v=>exact .inr (eQ h)
theorem OV{s:AS}{id:Id}{e:gT}(h:s.dx id=some e):e∈s.ez\/∃es∈s.news,e∈es:=by
 cases id with
 |ew k=>exact .inl (eQ h)
 |new i j=>
  simp only[AS.dx,aY]at h
  cases hi:s.news[i]? with
  |none=>rw[hi]at h;simp at h
  |some es=>rw[hi]at h;exact .inr ⟨es,eQ hi,eQ h⟩
theorem Inv.bO(h:Inv C g β s a w)(hC:∀i j,C.E.s (.new i j)=none){an:nu}(ht:(yE an s).Ge=true):Inv C g β (yE an s) a w:=by
 obtain⟨ks,kt,_,_,_⟩:=an
 obtain⟨s1,zF⟩:∃s1:AS,s1= {dW:=lB ks 0 s.dW,ez:=s.ez,news:=ni kt 0 s.news}:=⟨_,rfl⟩
 have e1:s1.dW=lB ks 0 s.dW:=by rw[zF]
 have e2:s1.ez=s.ez:=by rw[zF]
 have e3:s1.news=ni kt 0 s.news:=by rw[zF]
 have ht:(s1.dW.all (aH.there s1) && s1.ez.all (gT.there s1) && s1.news.all λes=>es.all (gT.there s1))=true:=by rw[zF];exact ht
 show Inv C g β {dW:=lB ks 0 s.dW,ez:=s.ez,news:=ni kt 0 s.news} a w
 rw[<-zF]
 rw[ak,ak]at ht
 obtain⟨⟨t1,t2⟩,t3⟩:=ht
 have eP:∀id,s1.dx id=none\/s1.dx id=s.dx id:=λid=>by
  cases id with
  |ew k=>right;simp only[AS.dx,e2]
  |new i j=>
   simp only[AS.dx,e3]
   rcases EJ kt s.news 0 i with h | h
   ·rw[h];exact .inl rfl
   ·rw[h];exact .inr rfl
 have Pf:∀id,(s1.obj id).isSome=true->s1.dx id=s.dx id:=λid hi=>by
  rcases eP id with h | h
  ·simp[AS.obj,h]at hi
  ·exact h
 let ρ:H6:=λid ver=>if(s1.obj id).isSome=true then some (id,ver) else none
 have hρ:∀v:aH,v.there s1=true->v.ma ρ=v:=sM λid eY ver=>if_pos eY
 have hle:u7 ρ (s.env w g β) (s1.env w g β):=by
  refine⟨⟨λ_ _ _ h=>h,λ_ _ h h'=>⟨h,h'⟩⟩,λid ver r hr hb=> ?_⟩
  by_cases hi:(s1.obj id).isSome=true
  ·have:ρ id ver=some (id,ver):=if_pos hi
   rw[this,aD]at hr
   subst hr
   have e:=Pf id hi
   obtain⟨b1,b2⟩:=hb
   exact⟨⟨by show s1.dx id≠none;rw[e];exact b1,λv fr c hh=>b2 v fr c (e.symm.trans hh)⟩,λ⟨fr,c,hc⟩=>⟨⟨fr,c,e.symm.trans hc⟩,rfl⟩⟩
  ·have:ρ id ver=none:=if_neg hi
   rw[this]at hr;cases hr
 refine h.renamed hC ρ (by rw[e1,tG]) hle (λi=> ?_) (λid ver fr c eY=> ?_) λk=>⟨by simp only[AS.dx,e2],rfl⟩
 ·rcases Lp (s:=s1) i with hi | hi
  ·rw[hi];exact VS.undef
  ·have VV:=fC.1 t1 _ hi
   rcases Ah ks s.dW 0 i with h1 | h1
   ·have:s1.slot i= .undef:=by simp only[AS.slot,e1,h1]
    rw[this];exact VS.undef
   ·have:s1.slot i=s.slot i:=by simp only[AS.slot,e1,h1]
    have hv:=BH hle (h.dW i)
    rw[<-this,hρ _ VV]at hv
    exact hv
 ·have:s1.dx id=s.dx id:=by
   rcases eP id with h | h
   ·rw[h]at eY;cases eY
   ·exact h
  have hc:gT.there s1 (.obj ver fr c)=true:=by
   rcases OV eY with h | ⟨es,h1,h2⟩
   ·exact fC.1 t2 _ h
   ·exact fC.1 (fC.1 t3 _ h1) _ h2
  rcases Nd c with⟨q,vq,k,v,l,cu,rfl⟩ | ⟨_,VV⟩
  ·have e:=Pf q hc
   refine .inl (Sk.bO hle.mem (λ_=>rfl) (h.cZ id ver fr _ (this.symm.trans eY)) rfl (λ_ _ h=>h) λvr _=>⟨λhb=>hle.ref q vr (q,vr) (if_pos hc) hb,λk v l hk=>e.trans hk,λ_ _ h=>h⟩)
  ·rw[VV]at hc
   exact .inr ⟨ver,this.symm.trans eY,hρ c hc,rfl⟩
theorem Inv.drop(h:Inv C g β s a w)(ks:List Nat):Inv C g β (s.drop ks) a w:=by
 refine⟨h.defers,by simpa[AS.drop,tG]using h.size,λi=> ?_,h.cZ,h.trans,h.le⟩
 rcases Ah ks s.dW 0 i with h1 | h1
 ·have:(s.drop ks).slot i= .undef:=h1
  rw[this];exact VS.undef
 ·have:(s.drop ks).slot i=s.slot i:=h1
  rw[this];exact h.dW i
def uT(b q:Nat):nZ->nZ
 | .own (.id (.new x j)) k=>if x=b then .own (.id (.new q j)) k else .own (.id (.new x j)) k
 |l=>l
theorem Trans.Uc(w:World)(g:Nat->nZ)(b q:Nat):Trans w w g λx=>uT b q (g x):=by
 refine⟨rfl,rfl,⟨rfl,aE _⟩,aE _,λy _=> ?_⟩
 cases hg:g y with
 |free=>exact⟨by simp[uT],rfl⟩
 |own o k=>cases o with
  |iS=>exact⟨by simp[uT],rfl⟩
  |id x=>
   refine⟨.inr ?_,λ_ _ _ h=>h⟩
   cases x with
   |ew m=>exact⟨_,_,rfl,aE _⟩
   |new x j=>
    simp only[uT]
    split
    ·exact⟨_,_,rfl,aE _⟩
    ·exact⟨_,_,rfl,aE _⟩
theorem N8(f:aH->aH)(hf:f .undef= .undef)(l:List aH)(i:Nat):(l.map f).getD i .undef=f (l.getD i .undef):=by
 simp only[aY,jY]
 cases l[i]? <;> simp[hf]
theorem Inv.wi(h:Inv C g β s a w)(hC:∀i j,C.E.s (.new i j)=none){b q:Nat}(Sv:b < s.news.length)(X7:q < s.news.length):
  ∃g1 β1,Inv C g1 β1 (s.wi b q (s.news.getD b [])) a w:=by
 generalize XI:s.news.getD b []=es
 have Tr:∀j,s.dx (.new b j)=es[j]? :=λj=>by rw[<-XI];rfl
 let ρ:H6:=yV es b q
 let s1:=s.wi b q es
 have nO:∀j',s1.dx (.new q j')=(es[j']?).map (gT.PH ρ):=λj'=>by
  simp[s1,AS.wi,AS.dx,aY,X7,ρ]
 have TB:b≠q->∀j',s1.dx (.new b j')=none:=λRg j'=>by
  have hbq':¬q=b:=λe=>Rg e.symm
  simp only[s1,AS.wi,AS.dx,aY]
  rw[iE hbq',List.getElem?_set,if_pos rfl]
  split <;> simp
 have DD:∀i,(∀j',i≠ .new q j')->(∀j',i≠ .new b j')->s1.dx i=(s.dx i).map (gT.DW ρ (wO b q)):=λi hi hi'=>by
  cases i with
  |ew k=>simp[s1,AS.wi,AS.dx,ρ]
  |new x y=>
   have h1:¬q=x:=λe=>hi y (by rw[e])
   have h2:¬b=x:=λe=>hi' y (by rw[e])
   simp only[s1,AS.wi,AS.dx,aY]
   rw[iE h1,iE h2,jY]
   cases s.news[x]? <;> simp[ρ]
 let g1:Nat->nZ:=λx=>uT b q (g x)
 let β1:Id->Option Pl:=λi=>match i with | .new x j=>if x=q then β (.new b j) else β (.new x j) | .ew k=>β (.ew k)
 have hβ1:∀i,(∀j',i≠ .new q j')->β1 i=β i:=λi hi=>by
  cases i with
  |ew k=>rfl
  |new x y=>exact if_neg λe=>hi y (by rw[e])
 have ht:Trans w w g g1:=Trans.Uc w g _ _
 have hρ:∀i ver r,ρ i ver=some r->(∃j fr c,i= .new b j/\es[j]? =some (.obj ver fr c)/\r=(.new q j,0))\/((∀j',i≠ .new q j')/\(∀j',i≠ .new b j')/\r=(i,ver)):=λi ver r hr=>by
  replace hr:yV es b q i ver=some r:=hr
  cases i with
  |ew k=>exact .inr ⟨λ_=>by simp,λ_=>by simp,(cI hr).symm⟩
  |new x j=>
   unfold yV at hr
   simp only at hr
   split at hr
   ·rename_i hx
    have hx:x=b:=by simpa using hx
    subst hx
    split at hr
    ·rename_i v fr c he
     split at hr
     ·rename_i hv
      have hv:ver=v:=by simpa using hv
      subst hv
      exact .inl ⟨j,fr,c,rfl,he,(cI hr).symm⟩
     ·cases hr
    ·cases hr
   ·rename_i hx
    have hx:¬x=b:=by simpa using hx
    split at hr
    ·cases hr
    ·rename_i hx'
     have hx':¬x=q:=by simpa using hx'
     exact .inr ⟨λ_ e=>hx' (by injection e),λ_ e=>hx (by injection e),(cI hr).symm⟩
 have hle:u7 ρ (s.env w g β) (s1.env w g1 β1):=by
  refine⟨Trans.mem (E:=s.env w g β) (E':=s1.env w g1 β1) ht,λi ver r hr O6=> ?_⟩
  rcases hρ i ver r hr with⟨j,fr,c,rfl,he,rfl⟩ | ⟨hi,hi',rfl⟩
  ·refine⟨⟨by show s1.dx (.new q j)≠none;rw[nO,he];simp,λ_ _ _ _=>bm _⟩,λ_=>⟨⟨fr,c,(Tr j).trans he⟩,if_pos rfl⟩⟩
  ·obtain⟨k1,k2⟩:=O6
   have k1:s.dx i≠none:=k1
   have e:s1.dx i=(s.dx i).map (gT.DW ρ (wO b q)):=DD i hi hi'
   have back:∀v' fr' c',s1.dx i=some (.obj v' fr' c')->∃c0,s.dx i=some (.obj v' fr' c0):=λv' fr' c' hh=>by
    rw[e]at hh
    cases hs:s.dx i with
    |none=>exact absurd hs k1
    |some en=>
     rw[hs]at hh
     cases en with
     |dead=>simp[gT.DW]at hh
     |obj v0 fr0 c0=>
      simp only[jc,gT.DW,aD,gT.obj.injEq]at hh
      obtain⟨rfl,rfl,_⟩:=hh
      exact⟨c0,rfl⟩
   refine⟨⟨by
    show s1.dx i≠none
    rw[e]
    cases hs:s.dx i with
    |none=>exact absurd hs k1
    |some en=>simp,λv' fr' c' hh=> ?_⟩,λ⟨fr',c',hh⟩=> ?_⟩
   ·obtain⟨c0,MV⟩:=back v' fr' c' hh
    exact k2 v' fr' c0 MV
   ·obtain⟨c0,MV⟩:=back ver fr' c' hh
    exact⟨⟨fr',c0,MV⟩,hβ1 i hi⟩
 have Uz:∀(i:Id),(∀j',i≠ .new b j')->∀(x:Nat) (k:Nat),g x= .own (.id i) k->g1 x= .own (.id i) k:=λi hi x k hk=>by
  show uT b q (g x)=_
  rw[hk]
  cases i with
  |ew m=>rfl
  |new y j=>exact if_neg λe=>hi j (by rw[e])
 refine⟨g1,β1,h.ED hC ρ (by simp[AS.wi]) ht hle (λi=> ?_) (λid ver fr' c' eY=> ?_) λk=>⟨λhk=> ?_,λv' fr' c' hh=> ?_,rfl⟩⟩
 ·have:(s.wi b q es).slot i=(s.slot i).ma ρ:=N8 _ rfl _ _
  rw[this]
  exact BH hle (h.dW i)
 ·have eY:s1.dx id=some (.obj ver fr' c'):=eY
  by_cases hi:∃j',id= .new q j'
  ·obtain⟨j',rfl⟩:=hi
   rw[nO]at eY
   cases he:es[j']? with
   |none=>rw[he]at eY;cases eY
   |some en=>
    rw[he]at eY
    cases en with
    |dead=>simp[gT.PH]at eY
    |obj v0 fr0 c0=>
     simp only[jc,gT.PH,aD,gT.obj.injEq]at eY
     obtain⟨_,rfl,rfl⟩:=eY
     exact .inr ⟨.new b j',v0,c0,(Tr j').trans he,rfl,if_pos rfl,λpl hp=>⟨λk hk=>by
      show uT b q (g pl.b)=_
      rw[hk];exact if_pos rfl,λhk=>by
      show uT b q (g pl.b)=_
      rw[hk];rfl⟩⟩
  ·by_cases hi':∃j',id= .new b j'
   ·obtain⟨j',rfl⟩:=hi'
    have Rg:b≠q:=λe=>hi ⟨j',by rw[e]⟩
    rw[TB Rg]at eY;cases eY
   ·have UC:∀j',id≠ .new q j':=λj' e=>hi ⟨j',e⟩
    have hni':∀j',id≠ .new b j':=λj' e=>hi' ⟨j',e⟩
    have e:=DD id UC hni'
    rw[e]at eY
    cases hs:s.dx id with
    |none=>rw[hs]at eY;cases eY
    |some en=>
     rw[hs]at eY
     cases en with
     |dead=>simp[gT.DW]at eY
     |obj v0 fr0 c0=>
      simp only[jc,gT.DW,aD,gT.obj.injEq]at eY
      obtain⟨rfl,rfl,rfl⟩:=eY
      rcases Nd c0 with⟨q2,vq,k,v2,l,cu,rfl⟩ | ⟨VM,_⟩
      ·have h0:=h.cZ id v0 fr0 _ hs
       left
       simp only[aH.RY]
       cases WX:wO b q q2 with
       |true=>
        have Pa:(∀j',q2≠ .new b j')/\(∀j',q2≠ .new q j')/\∀vr,ρ q2 vr=some (q2,vr):=by
         cases q2 with
         |ew k=>exact⟨λ_=>by simp,λ_=>by simp,λ_=>rfl⟩
         |new x y=>
          simp only[wO,ak,dI,decide_eq_false_iff_not]at WX
          obtain⟨k1,k2⟩:=WX
          refine⟨λ_ e=>k1 (by injection e),λ_ e=>k2 (by injection e),λvr=> ?_⟩
          show yV es b q (.new x y) vr=_
          unfold yV
          simp only[decide_eq_false k1,decide_eq_false k2]
        obtain⟨Pa,Ox,hρq⟩:=Pa
        refine Sk.bO hle.mem (λ_=>rfl) h0 (hβ1 id UC) (λpl _ hk=>Uz id hni' _ _ hk) λvr _=>⟨λhb=>hle.ref q2 vr (q2,vr) (hρq vr) hb,λk v l hk=> ?_,λpl _ hk=>Uz q2 Pa _ _ hk⟩
        have hk:s.dx q2=some (.obj vr true (.mp k v l)):=hk
        show s1.dx q2=_
        rw[DD q2 Ox Pa,hk]
        rfl
       |false=>
        obtain⟨pl,mb,since,seen,c0,h1,h2,h3,h4⟩:=h0
        exact⟨pl,mb,since,seen,c0,(hβ1 id UC).trans h1,h2,Uz id hni' _ _ h3,λvr Ma=>by omega⟩
      rw[VM]
      exact .inr ⟨id,v0,c0,hs,rfl,hβ1 id UC,λpl hp=>⟨λk hk=>Uz id hni' _ _ hk,λhk=>by
       show uT b q (g pl.b)=_
       rw[hk];rfl⟩⟩
 ·have e:=DD (.ew k) (λ_=>by simp) (λ_=>by simp)
  show s1.dx (.ew k)≠none
  rw[e]
  cases hs:s.dx (.ew k) with
  |none=>exact absurd hs hk
  |some en=>simp
 ·have e:=DD (.ew k) (λ_=>by simp) (λ_=>by simp)
  have hh:s1.dx (.ew k)=some (.obj v' fr' c'):=hh
  rw[e]at hh
  cases hs:s.dx (.ew k) with
  |none=>rw[hs]at hh;cases hh
  |some en=>
   rw[hs]at hh
   cases en with
   |dead=>simp[gT.DW]at hh
   |obj v0 fr0 c0=>
    simp only[jc,gT.DW,aD,gT.obj.injEq]at hh
    obtain⟨rfl,rfl,_⟩:=hh
    exact⟨c0,rfl⟩
theorem Di{k t:Ty}{l:List (k.den×t.den)}:∀ {p:List xt} {x c':aH},¬(tP (.mp k t l) p x).eval=some c'
 |[],x,c',h=>by simp only[tP,al]at h
 | .arr::p,x,c',h=>by simp only[tP]at h;exact Di h
 | .idx i::p,x,c',h=>by simp only[tP,al]at h
 | .fst::p,x,c',h=>by simp only[tP,al]at h
 | .snd::p,x,c',h=>by simp only[tP,al]at h
theorem FY{q:Id}{vq:Nat}{k t:Ty}{l:List (k.den×t.den)}{cu:Option (k.den×t.den)}:∀ {p:List xt} {x c':aH},¬(tP (.p9 q vq k t l cu) p x).eval=some c'
 |[],x,c',h=>by simp only[tP,al]at h
 | .arr::p,x,c',h=>by simp only[tP]at h;exact FY h
 | .idx i::p,x,c',h=>by simp only[tP,al]at h
 | .fst::p,x,c',h=>by simp only[tP,al]at h
 | .snd::p,x,c',h=>by simp only[tP,al]at h
theorem AY{l:List Value}{n:Nat}{vs:List Value}(h:(l.drop n).take vs.length=vs):fo l n vs=l:=by
 unfold fo
 have h2:l.drop n=vs++l.drop (n+vs.length):=by
  conv=>lhs;rw[<-fU vs.length (l.drop n)]
  rw[h,iW]
 have h3:=fU n l
 rw[h2]at h3
 simpa[bR]using h3
theorem Inv.T6(h:Inv C g β s a w){j:Nat}{p:List xt}(A9:(s.at j p).eval=some .eU){q:Nat}(hq:s.gd q=true){e:TypeId}{t:Ty}(hz:0 < t.size){s':AS}
  (he:((s.born q [.obj 0 false (.vec e t [])]).putAt j (.di (.new q 0) 0 [] 0 0 0) p).eval=some s'):kN C s' a w:=by
 obtain⟨β',h1,h2,h3⟩:=h.Nw hq (e:=e) hz
 cases p with
 |nil=>
  simp only[AS.at]at A9
  have hj:=aB.1 A9
  simp only[AS.putAt]at he
  obtain rfl:=aB.1 he
  refine⟨g,β',h1.Ud j ?_⟩
  have:=h.dW j
  rw[hj]at this
  rw[lY this]
  exact h3
 |cons st p=>
  simp only[AS.at]at A9
  simp only[AS.putAt]at he
  have Cf:(s.born q [.obj 0 false (.vec e t [])]).slot j=s.slot j:=rfl
  rw[Cf]at he
  split at A9
  ·rename_i id ver p0 nn hj
   split at A9
   ·rename_i v fr c mY
    obtain⟨hv,A9⟩:=aL.1 A9
    obtain⟨⟨n,u⟩,hl,A9⟩:=aw.1 A9
    have hu:=aB.1 A9
    simp only at hu
    subst hu
    have eP:=gC mY
    have lg:id≠ .new q 0:=λe=>by rw[e,(lI hq).1 0]at eP;cases eP
    have hne':∀j',id≠ .new q j':=λj' e=>by rw[e,(lI hq).1 j']at eP;cases eP
    have rQ:(s.born q [.obj 0 false (.vec e t [])]).dx id=some (.obj v fr c):=(kO _ hne').trans eP
    have Rx:(s.born q [.obj 0 false (.vec e t [])]).obj id=some (v,fr,c):=by simp only[AS.obj,rQ]
    simp only[hj,Rx]at he
    split at he
    ·simp only[al]at he
    ·rename_i c1 U6
     obtain⟨c',Cg,he⟩:=aw.1 he
     obtain rfl:=aB.1 he
     have hn:c.ky=false:=by
      cases c <;> first | rfl | (exact(U6 _ _ _ rfl).elim) | (exact absurd Cg Di) | (exact absurd Cg FY)
     have hO:=h1.cZ id v fr c rQ
     obtain⟨pl,cur,e0,hp,hh,hg,hk,hV⟩:=hO.box hn
     have ht:=Trans.refl w g
     have hN:=Bk hk
     have hle:=ed.bJ (s:=s.born q [.obj 0 false (.vec e t [])]) (β:=β') (v':=v) (fr':=fr) (c':=c.wrap c') rQ (aE _) ht (λ_ _=>rfl) (λ_=>rfl)
     refine⟨g,β',h1.step (fj _ _ _) ht hle (lO.bJ h1.cZ (by rw[rQ];simp) hle (λ_ _=>rfl) (λ_ _ _ _ _ _ _ _=>⟨rfl,rfl⟩) ?_ (og rQ λk v1 l e=>by subst e;exact absurd Cg Di))⟩
     obtain⟨cs,k1,k2⟩:=h3
     have k2:cs=[.slice none 0 0]:=k2
     subst k2
     obtain⟨u1,u2,u3⟩:=ou (p0++st::p) c.strip (cur.toList.take (c.rF cur.size)) n .eU _ c' [.slice none 0 0] (VO.of hV) hl k1 Cg
     have u4:=u2.to (u3.qf hV.qf)
     have yy:((cur.toList.take (c.rF cur.size)).drop n).take 1=[.slice none 0 0]:=by
      rcases pH (p0++st::p) c.strip (cur.toList.take (c.rF cur.size)) n .eU (VO.of hV) hl with⟨Rv,MV⟩ | ⟨q1,q2⟩
      ·rw[<-MV]at hV
       simp only[V]at hV
       rw[hV,Rv]
       rfl
      ·simpa only[V,aH.size]using q1
     rw[AY (vs:=[.slice none 0 0]) yy]at u4
     have rI:c'.size=c.strip.size:=by have e1:=u4.size;have e2:=hV.size;omega
     exact zk.obj ⟨pl,cur,e0,hp,hh,hg,xv hk u4.sI rI,by rw[xY c u4.sI,zp u4.sI rI];exact V.mono hle u4⟩
   ·simp only[al]at A9
  ·simp only[al]at A9
theorem xh:∀(ids:List Id) {s:AS} {i:Id} {v:Nat} {fr:Bool} {c:aH},s.dx i=some (.obj v fr c)->∃fr',(s.cg ids).dx i=some (.obj v fr' c)
 |[],s,i,v,fr,c,h=>⟨fr,h⟩
 |id::ids,s,i,v,fr,c,h=>by
  obtain⟨fr',h'⟩:=BW (id:=id) h
  exact xh ids h'
theorem Inv.S0(h:Inv C g β s a w){j:Nat}{p:List xt}{u:aH}(A9:(s.at j p).eval=some u){t:Ty}{x:t.den}(ht:(s.kR t u).eval=some x){s':AS}
  (he:((s.cg u.shared).putAt j (.d t x) p).eval=some s'):kN C s' a w:=by
 cases p with
 |nil=>
  simp only[AS.at]at A9
  have hj:=aB.1 A9
  simp only[AS.putAt]at he
  obtain rfl:=aB.1 he
  have hs:=h.dW j
  rw[hj]at hs
  obtain⟨g',i1,_,_,cs,hR,hO⟩:=sR h hs ht
  exact⟨g',β,i1.Ud j (VS.of (a:= .d t x) (cs:=cs) (by simpa only[V]using hR) hO)⟩
 |cons st p=>
  simp only[AS.at]at A9
  simp only[AS.putAt]at he
  have Cf:(s.cg u.shared).slot j=s.slot j:=by simp only[AS.slot,nb]
  rw[Cf]at he
  split at A9
  ·rename_i id ver p0 nn hj
   split at A9
   ·rename_i v fr c mY
    obtain⟨hv,A9⟩:=aL.1 A9
    obtain⟨⟨n,u'⟩,hl,A9⟩:=aw.1 A9
    have hu:=aB.1 A9
    simp only at hu
    subst hu
    have eP:=gC mY
    obtain⟨g',h1,h2,h3,h4⟩:=ke u'.shared h
    obtain⟨fr',rQ⟩:=xh u'.shared eP
    have Rx:(s.cg u'.shared).obj id=some (v,fr',c):=by simp only[AS.obj,rQ]
    simp only[hj,Rx]at he
    split at he
    ·simp only[al]at he
    ·rename_i c1 U6
     obtain⟨c',Cg,he⟩:=aw.1 he
     obtain rfl:=aB.1 he
     have hn:c.ky=false:=by
      cases c <;> first | rfl | (exact(U6 _ _ _ rfl).elim) | (exact absurd Cg Di) | (exact absurd Cg FY)
     obtain⟨pl0,cur0,e00,Rz,Rn,Ve,Vo,hV0⟩:=(h.cZ id v fr c eP).box hn
     obtain⟨pl,cur,e0,hp,hh,hg,hk,hV⟩:=(h1.cZ id v fr' c rQ).box hn
     have wJ:pl0=pl:=by
      have Rz:β id=some pl0:=Rz
      have hp:β id=some pl:=hp
      rw[Rz]at hp
      exact cI hp
     subst wJ
     have ju:cur0=cur:=by
      have Rn:w.heap[pl0.b]? =_:=Rn
      have hh:w.heap[pl0.b]? =_:=hh
      rw[Rn]at hh
      simpa using(congrArg (λo=>match o with | some (.cells x _ _)=>x | _=>cur0) hh)
     subst ju
     obtain⟨cs,hVu,yy⟩:∃cs,V (s.env w g β) u' cs/\((cur0.toList.take (c.rF cur0.size)).drop n).take cs.length=cs:=by
      rcases pH (p0++st::p) c.strip (cur0.toList.take (c.rF cur0.size)) n u' (VO.of hV0) hl with⟨Rv,MV⟩ | ⟨q1,q2⟩
      ·refine⟨cur0.toList.take (c.rF cur0.size),by rw[MV];exact hV0,?_⟩
       rw[Rv,aW,cQ]
      ·refine⟨_,q1,?_⟩
       rw[fS,ix]
       congr 1
       omega
     have hR:=rC rfl h.cZ h2 u' t x cs hVu ht h4
     have hVx:V ((s.cg u'.shared).env w g' β) (.d t x) cs:=by simpa only[V]using hR
     have ht':=Trans.refl w g'
     have hle:=ed.bJ (s:=s.cg u'.shared) (β:=β) (v':=v) (fr':=fr') (c':=c.wrap c') rQ (aE _) ht' (λ_ _=>rfl) (λ_=>rfl)
     refine⟨g',β,h1.step (fj _ _ _) ht' hle (lO.bJ h1.cZ (by rw[rQ];simp) hle (λ_ _=>rfl) (λ_ _ _ _ _ _ _ _=>⟨rfl,rfl⟩) ?_ (og rQ λk v1 l e=>by subst e;exact absurd Cg Di))⟩
     obtain⟨u1,u2,u3⟩:=ou (p0++st::p) c.strip (cur0.toList.take (c.rF cur0.size)) n u' _ c' cs (VO.of hV) hl hVx Cg
     have u4:=u2.to (u3.qf hV.qf)
     rw[AY (vs:=cs) yy]at u4
     have rI:c'.size=c.strip.size:=by have e1:=u4.size;have e2:=hV.size;omega
     exact zk.obj ⟨pl0,cur0,e0,hp,hh,hg,xv hk u4.sI rI,by rw[xY c u4.sI,zp u4.sI rI];exact V.mono hle u4⟩
   ·simp only[al]at A9
  ·simp only[al]at A9
theorem xB{E:Env}:∀(t:Ty) (x:t.den) (u:aH),(zx t x).eval=some u->∀cs,eX E t cs x->V E u cs
 | .kh t,x,u,h,cs,hr=>by
  simp only[zx]at h
  obtain⟨h1,h2⟩:=cV.1 h
  obtain rfl:=aB.1 h2
  simp only[eX]at hr
  simp only[V]
  exact hr.1 (Option.isNone_iff_eq_none.1 h1)
 | .pair a b,x,u,h,cs,hr=>by
  simp only[zx]at h
  obtain⟨u1,h1,h2⟩:=aw.1 h
  obtain⟨u2,h3,h4⟩:=aw.1 h2
  obtain rfl:=aB.1 h4
  simp only[eX]at hr
  obtain⟨ca,cb,rfl,ha,hb⟩:=hr
  exact Ii (xB a x.1 u1 h1 ca ha) (xB b x.2 u2 h3 cb hb)
 | .int k,x,u,h,cs,hr=>by simp only[zx]at h;obtain rfl:=aB.1 h;simpa only[V]using hr
 | .bool,x,u,h,cs,hr=>by simp only[zx]at h;obtain rfl:=aB.1 h;simpa only[V]using hr
 | .str,x,u,h,cs,hr=>by simp only[zx]at h;obtain rfl:=aB.1 h;simpa only[V]using hr
 | .slice t,x,u,h,cs,hr=>by simp only[zx]at h;obtain rfl:=aB.1 h;simpa only[V]using hr
 | .unit,x,u,h,cs,hr=>by simp only[zx]at h;obtain rfl:=aB.1 h;simpa only[V]using hr
 | .arr n t,x,u,h,cs,hr=>by simp only[zx]at h;obtain rfl:=aB.1 h;simpa only[V]using hr
theorem KM{e:TypeId}{z:Nat}{c:aH}{pl:Pl}{n:Nat}(hz:0 < z)(h1:n=pl.cap*z)(h2:pl.cap<=maxLen)(h3:c.size<=n):(aH.bx e z c).vF pl n e:=by
 cases z with
 |zero=>omega
 |succ z=>exact⟨rfl,h1,h2,h3⟩
theorem Gn{e:TypeId}{z:Nat}{c:aH}{n:Nat}(hz:0 < z):(aH.bx e z c).rF n=c.size:=by
 cases z with
 |zero=>omega
 |succ z=>rfl
theorem FH{e e':TypeId}{z:Nat}{c:aH}{pl:Pl}{n:Nat}(hz:0 < z)(h:(aH.bx e z c).vF pl n e'):e'=e/\n=pl.cap*z/\pl.cap<=maxLen/\c.size<=n:=by
 cases z with
 |zero=>omega
 |succ z=>exact h
theorem Hz{E:Env}{id:Id}{ver n:Nat}{p p':List xt}{y:Value}(h:VS E (.ptr id ver p n) y):VS E (.ptr id ver p' n) y:=by
 obtain⟨cs,h1,h2⟩:=h
 exact⟨cs,by simpa only[V]using h1,h2⟩
theorem Inv.S6(h:Inv C g β s a w){j:Nat}{id:Id}{ver n k v:Nat}{p p':List xt}(hj:s.slot j= .ptr id ver p n){e:TypeId}{t:Ty}{r:List t.den}(mY:s.obj id=some (v,false,.vec e t r))
  (hk:k < r.length) {u:aH} (hu:(zx t (nth t r k)).eval=some u):
  kN C ((s.bJ id (.obj v false (.bx e t.size (.pr (.d (.arr k t) (r.take k)) (.pr u (.d (.arr (r.drop (k+1)).length t) (r.drop (k+1)))))))).put (some j) (.ptr id ver p' n)) a w:=by
 have eP:=gC mY
 obtain⟨hz,hO⟩:rE (s.env w g β) id false (.vec e t r):=h.cZ id v false _ eP
 have hO:(match β id with
  |none=>r=[]
  |some pl=>∃cur k,w.heap[pl.b]? =some (.cells cur e (0,0))/\cur.size=pl.cap*t.size/\r.length<=pl.cap/\pl.cap<=maxLen/\g pl.b= .own (.id id) k/\
    k<=r.length*t.size/\(false=false->k=0)/\cd (eX (s.env w g β) t) (cur.toList.take (r.length*t.size)) r):=hO
 have ht:=Trans.refl w g
 have hle:ed (s.env w g β) ((s.bJ id (.obj v false (.bx e t.size (.pr (.d (.arr k t) (r.take k)) (.pr u (.d (.arr (r.drop (k+1)).length t) (r.drop (k+1)))))))).env w g β):=
  ed.bJ eP (aE _) ht (λ_ _=>rfl) (λ_=>rfl)
 have hI:=h.step (fj _ _ _) ht hle (lO.bJ h.cZ (by rw[eP];simp) hle (λ_ _=>rfl) (λ_ _ _ _ _ _ _ _=>⟨rfl,rfl⟩) (L4:=Bq eP) (by
  cases hp:β id with
  |none=>rw[hp]at hO;simp only at hO;subst hO;simp at hk
  |some pl=>
   rw[hp]at hO
   obtain⟨cur,k0,q1,q2,q3,q4,q5,q6,q7,q8⟩:=hO
   have Vo:=q7 rfl
   subst Vo
   have Ic:∀c x,eX (s.env w g β) t c x->c.length=t.size:=λc x hx=>hx.size
   have c1:=cd.take Ic k q8
   have c2:=(q8.get Ic k hk)
   have c3:=cd.drop Ic (k+1) q8
   have F5:V (s.env w g β) u (((cur.toList.take (r.length*t.size)).drop (k*t.size)).take t.size):=xB t _ u (by rw[CN hk]at hu;exact hu) _ c2
   have Yg:=F5.size
   have hlen:(cur.toList.take (r.length*t.size)).length=r.length*t.size:=cd.length Ic q8
   have rI:r.length*t.size<=cur.size:=by rw[q2];exact eR _ q3
   have YY:(k+1)*t.size<=r.length*t.size:=eR _ hk
   have Pa:(k+1)*t.size=k*t.size+t.size:=Nat.succ_mul k t.size
   have RD:u.size=t.size:=by rw[<-Yg,fS,ix,hlen];omega
   have hm:(r.drop (k+1)).length*t.size=r.length*t.size - (k+1)*t.size:=by rw[ix,Nat.sub_mul]
   have K7:(aH.pr (.d (.arr k t) (r.take k)) (.pr u (.d (.arr (r.drop (k+1)).length t) (r.drop (k+1))))).size=r.length*t.size:=by
    simp only[aH.size,Ty.size,RD,hm]
    omega
   refine zk.obj ⟨pl,cur,e,hp,q1,q5,KM hz q2 q4 (by rw[K7];exact rI),?_⟩
   rw[Gn hz,K7]
   refine V.mono hle ?_
   show V _ (.pr (.d (.arr k t) (r.take k)) (.pr u (.d (.arr (r.drop (k+1)).length t) (r.drop (k+1))))) _
   simp only[V]
   generalize cur.toList.take (r.length*t.size)=R at*
   refine⟨R.take (k*t.size),R.drop (k*t.size),(fU _ _).symm,?_,(R.drop (k*t.size)).take t.size,R.drop ((k+1)*t.size),?_,F5,?_⟩
   ·simp only[eX]
    exact⟨by rw[fS];omega,c1⟩
   ·rw[Pa,<-iW,fU]
   ·simp only[eX]
    exact⟨trivial,c3⟩))
 refine⟨g,β,hI.Ud j ?_⟩
 have:=h.dW j
 rw[hj]at this
 exact Hz (VS.mono hle this)
theorem zz:∀(l:List Nat) {s s1:AS},kN C s a w->(K1 s l).eval=some s1->kN C s1 a w
 |[],s,s1,h,he=>by
  simp only[K1]at he
  obtain rfl:=aB.1 he
  exact h
 |j::l,s,s1,h,he=>by
  obtain⟨g,β,h⟩:=h
  simp only[K1]at he
  split at he
  ·rename_i id ver k p n hj
   split at he
   ·rename_i v e t r mY
    obtain⟨h1,he⟩:=aL.1 he
    obtain⟨h2,he⟩:=cV.1 he
    obtain⟨u,h3,he⟩:=aw.1 he
    exact zz l (h.S6 hj mY (of_decide_eq_true h2) h3) he
   ·simp only[al]at he
  ·exact zz l ⟨g,β,h⟩ he
  ·simp only[al]at he
theorem zw{s:AS}{id i:Id}(h:i≠id):(s.freeze id).dx i=s.dx i:=by
 unfold AS.freeze
 split
 ·exact dX s id i _ h
 ·rfl
theorem rP:∀(ids:List Id) {s:AS} {i:Id},i ∉ ids->(s.cg ids).dx i=s.dx i
 |[],_,_,_=>rfl
 |id::ids,s,i,h=>by
  have h1:i≠id:=λe=>h (by rw[e];exact bh)
  exact(rP ids λhi=>h (bj _ hi)).trans (zw h1)
theorem Inv.Uk(h:Inv C g β s a w){j:Nat}{id:Id}{ver n k m v z:Nat}{p p':List xt}(hj:s.slot j= .ptr id ver p n){e:TypeId}{t:Ty}{l1 l2:List t.den}{u:aH}
  (mY:s.obj id=some (v,false,.bx e z (.pr (.d (.arr k t) l1) (.pr u (.d (.arr m t) l2))))) (hz:z=t.size) (Pk:0 < z) (eY:id ∉ u.shared) {x:t.den} (hx:(s.kR t u).eval=some x):
  kN C (((s.cg u.shared).bJ id (.obj v false (.vec e t (l1++x::l2)))).put (some j) (.ptr id ver p' n)) a w:=by
 have eP:=gC mY
 obtain⟨pl0,cur0,e0,Rz,Rn,Ve,Vo,hV0⟩:=(h.cZ id v false _ eP).box rfl
 obtain⟨g',h1,h2,h3,h4⟩:=ke u.shared h
 have rQ:(s.cg u.shared).dx id=some (.obj v false (.bx e z (.pr (.d (.arr k t) l1) (.pr u (.d (.arr m t) l2))))):=(rP _ eY).trans eP
 obtain⟨pl,cur,e1,hp,hh,hg,hk,hV⟩:=(h1.cZ id v false _ rQ).box rfl
 have hp:β id=some pl:=hp
 have wJ:pl0=pl:=by
  have Rz:β id=some pl0:=Rz
  rw[Rz]at hp
  exact cI hp
 subst wJ
 have ju:cur0=cur:=by
  have Rn:w.heap[pl0.b]? =_:=Rn
  have hh:w.heap[pl0.b]? =_:=hh
  rw[Rn]at hh
  simpa using(congrArg (λo=>match o with | some (.cells x _ _)=>x | _=>cur0) hh)
 subst ju
 obtain⟨rfl,q2,q4,q3⟩:=FH Pk hk
 rw[Gn Pk]at hV0
 have hV0:V (s.env w g β) (.pr (.d (.arr k t) l1) (.pr u (.d (.arr m t) l2))) _:=hV0
 have Yc:=hV0.size
 simp only[V]at hV0
 obtain⟨ca,cb,hR,hA,cu,cc,Rh,hU,hB⟩:=hV0
 subst Rh
 simp only[eX]at hA hB
 have hX:=rC rfl h.cZ h2 u t x cu hU hx h4
 have Ic:∀c x,eX ((s.cg u.shared).env w g' β) t c x->c.length=t.size:=λc x hx=>hx.size
 have cA:=hA.2.mono λ_ _ hx=>hx.mono h2.mem
 have cB:=hB.2.mono λ_ _ hx=>hx.mono h2.mem
 have fI:cd (eX ((s.cg u.shared).env w g' β) t) (ca++(cu++cc)) (l1++x::l2):=cd.append cA ⟨cu,cc,rfl,hX,cB⟩
 have hlen:=cd.length Ic fI
 have K7:(aH.pr (.d (.arr k t) l1) (.pr u (.d (.arr m t) l2))).size=(l1++x::l2).length*t.size:=by rw[<-hlen,<-hR];exact Yc.symm
 rw[K7]at hR q3
 rw[hz]at q2
 have IJ:(l1++x::l2).length<=pl0.cap:=by
  rw[q2]at q3
  exact Nat.le_of_mul_le_mul_right q3 (by omega)
 have ht:=Trans.refl w g'
 have hle:ed ((s.cg u.shared).env w g' β) (((s.cg u.shared).bJ id (.obj v false (.vec e1 t (l1++x::l2)))).env w g' β):=ed.bJ rQ (aE _) ht (λ_ _=>rfl) (λ_=>rfl)
 have hI:=h1.step (fj _ _ _) ht hle (lO.bJ h1.cZ (by rw[rQ];simp) hle (λ_ _=>rfl) (λ_ _ _ _ _ _ _ _=>⟨rfl,rfl⟩) (L4:=og rQ λ_ _ _ e=>by cases e) (by
  refine⟨by omega,?_⟩
  show(match β id with
   |none=>l1++x::l2=[]
   |some pl=>_)
  rw[hp]
  exact⟨cur0,0,hh,q2,IJ,q4,hg,bm _,λ_=>rfl,by rw[hR];exact fI.mono λ_ _ hx=>hx.mono hle.mem⟩))
 refine⟨g',β,hI.Ud j ?_⟩
 have:=h.dW j
 rw[hj]at this
 exact Hz (VS.mono (h2.trans hle) this)
theorem ER:∀(l:List Nat) {s s1:AS},kN C s a w->(Oi s l).eval=some s1->kN C s1 a w
 |[],s,s1,h,he=>by
  simp only[Oi]at he
  obtain rfl:=aB.1 he
  exact h
 |j::l,s,s1,h,he=>by
  obtain⟨g,β,h⟩:=h
  simp only[Oi]at he
  split at he
  ·rename_i id ver p n hj
   split at he
   ·rename_i v e z k t l1 u m t' l2 mY
    obtain⟨h1,he⟩:=aL.1 he
    obtain⟨l2',h2,he⟩:=aw.1 he
    obtain⟨x,h3,he⟩:=aw.1 he
    simp only[ak,beq_iff_eq,dI,beq_eq_false_iff_ne]at h1
    obtain⟨⟨⟨h5,h6⟩,h7⟩,h8⟩:=h1
    obtain⟨et,hl⟩:=lu (lG.1 h2)
    have et':t'=t:=by simpa using et
    subst et'
    simp only at hl
    subst hl
    refine ER l (h.Uk hj mY h6 (by omega) (λhi=> ?_) h3) he
    have:(u.shared.any λi=>decide (i=id))=true:=List.any_eq_true.2 ⟨id,hi,by simp⟩
    rw[this]at h8
    cases h8
   ·simp only[al]at he
  ·simp only[al]at he
theorem uE:∀(l:List Up) {s s1:AS},kN C s a w->(BU s l).eval=some s1->kN C s1 a w
 |[],s,s1,h,he=>by
  simp only[BU]at he
  obtain rfl:=aB.1 he
  exact h
 |o::l,s,s1,h,he=>by
  obtain⟨g,β,h⟩:=h
  unfold BU at he
  split at he
  ·exact uE l ⟨g,β,h⟩ he
  obtain⟨u,hu,he⟩:=aw.1 he
  obtain⟨x,hx,he⟩:=aw.1 he
  obtain⟨s',hs,he⟩:=aw.1 he
  exact uE l (h.S0 hu hx hs) he
theorem oZ(hC:∀i j,C.E.s (.new i j)=none):∀(l:List OJ) {s s1:AS},kN C s a w->(tm P s l).eval=some s1->kN C s1 a w
 |[],s,s1,h,he=>by
  simp only[tm]at he
  obtain rfl:=aB.1 he
  exact h
 |o::l,s,s1,h,he=>by
  obtain⟨g,β,h⟩:=h
  unfold tm at he
  split at he
  ·exact oZ hC l ⟨g,β,h⟩ he
  obtain⟨u,hu,he⟩:=aw.1 he
  split at he
  ·split at he
   ·rename_i e t b w9 hv
    obtain⟨s',h1,h2⟩:=aw.1 he
    exact oZ hC l (h.T6 hu hv (DB w9) h1) h2
   ·simp only[al]at he
  ·split at he
   ·rename_i b j ver WS
    split at he
    ·rename_i v fr c mY hm
     split at he
     ·have Sv:b < s.news.length:=by
       have:=gC mY
       simp only[AS.dx,aY]at this
       cases hn:s.news[b]? with
       |none=>rw[hn]at this;simp at this
       |some es=>exact(fK.1 hn).1
      obtain⟨g1,β1,h1⟩:=h.wi hC Sv (by simpa using hm)
      exact oZ hC l ⟨g1,β1,h1⟩ he
     ·simp only[al]at he
    ·simp only[al]at he
   ·simp only[al]at he
theorem De:∀(l:List Nat) {s s1:AS},kN C s a w->(HV s l).eval=some s1->kN C s1 a w
 |[],s,s1,h,he=>by
  simp only[HV]at he
  obtain rfl:=aB.1 he
  exact h
 |j::l,s,s1,h,he=>by
  obtain⟨g,β,h⟩:=h
  simp only[HV]at he
  split at he
  ·rename_i id ver len hj
   split at he
   ·rename_i v e t r mY
    split at he
    ·obtain⟨h1,h2⟩:=cV.1 he
     have h1:len<=r.length:=by simpa using h1
     refine De l ?_ h2
     have eP:=gC mY
     have hO:rE (s.env w g β) id false (.vec e t r):=h.cZ id v false _ eP
     have ht:=Trans.refl w g
     have hle:ed (s.env w g β) ((s.bJ id (.obj v false (.vec e t (r.take len)))).env w g β):=ed.bJ eP (aE _) ht (λ_ _=>rfl) (λ_=>rfl)
     refine⟨g,β,h.step (fj _ _ _) ht hle (lO.bJ h.cZ (by rw[eP];simp) hle (λ_ _=>rfl) (λ_ _ _ _ _ _ _ _=>⟨rfl,rfl⟩) ?_ (Bq eP))⟩
     obtain⟨hz,hO⟩:=hO
     refine⟨hz,?_⟩
     have hO:(match β id with
      |none=>r=[]
      |some pl=>∃cur k,w.heap[pl.b]? =some (.cells cur e (0,0))/\cur.size=pl.cap*t.size/\r.length<=pl.cap/\pl.cap<=maxLen/\g pl.b= .own (.id id) k/\
        k<=r.length*t.size/\(false=false->k=0)/\cd (eX (s.env w g β) t) (cur.toList.take (r.length*t.size)) r):=hO
     show(match β id with
      |none=>r.take len=[]
      |some pl=>_)
     cases hp:β id with
     |none=>rw[hp]at hO;simp only at hO;subst hO;simp
     |some pl=>
      rw[hp]at hO
      obtain⟨cur,k,q1,q2,q3,q4,q5,q6,q7,q8⟩:=hO
      have hk:=q7 rfl
      subst hk
      have hlen:(r.take len).length=len:=by simp;omega
      refine⟨cur,0,q1,q2,by omega,q4,q5,bm _,λ_=>rfl,?_⟩
      have:=cd.take (λ_ _ hx=>eX.size hx) len q8
      rw[mh,jJ (eR _ h1)]at this
      rw[hlen]
      exact this.mono λ_ _ hx=>hx.mono hle.mem
    ·simp only[al]at he
   ·simp only[al]at he
  ·simp only[al]at he
theorem yp:∀(l:List (Nat×Ty)) {s s1:AS},kN C s a w->(asData s l).eval=some s1->kN C s1 a w
 |[],s,s1,h,he=>by
  simp only[asData]at he
  obtain rfl:=aB.1 he
  exact h
 | (j,t)::l,s,s1,h,he=>by
  obtain⟨g,β,h⟩:=h
  simp only[asData]at he
  obtain⟨x,h1,h2⟩:=aw.1 he
  obtain⟨g',i1,_,_,cs,hR,hO⟩:=sR h (h.dW j) h1
  exact yp l ⟨g',β,i1.Ud j (VS.of (a:= .d t x) (cs:=cs) (by simpa only[V]using hR) hO)⟩ h2
theorem Inv.still:∀(l:List Nat) {s:AS},Inv C g β s a w->Inv C g β (s.still l) a w
 |[],s,h=>h
 |q::l,s,h=>by
  simp only[AS.still]
  split
  ·rename_i v fr i ver k t r cu mY
   exact Inv.still l (h.Qe (gC mY) (.inr ⟨rfl,rfl,rfl⟩))
  ·exact Inv.still l h
theorem Ar{α:Type}(l:List α):(It l).Perm l:=Quotient.exact (s:=NL α) (Quotient.exists_rep (Quotient.mk (NL α) l)).choose_spec
theorem Inv.canon:∀(l:List Id) {s:AS},Inv C g β s a w->Inv C g β (s.canon l) a w
 |[],s,h=>h
 |id::l,s,h=>by
  simp only[AS.canon]
  split
  ·rename_i v fr k t r mY
   have eP:=gC mY
   have ht:=Trans.refl w g
   have hle:ed (s.env w g β) ((s.bJ id (.obj v fr (.mp k t (It r)))).env w g β):=ed.bJ eP (aE _) ht (λ_ _=>rfl) (λ_=>rfl)
   obtain⟨pl,es,clock,h1,h2,h3,⟨⟨l',h4,h5⟩,h6⟩,h7⟩:=h.cZ id v fr _ eP
   refine Inv.canon l (h.step (fj _ _ _) ht hle (lO.bJ h.cZ (by rw[eP];simp) hle (λ_ _=>rfl) (λ_ _ _ _ _ _ _ _=>⟨rfl,rfl⟩)
    ⟨pl,es,clock,h1,h2,h3,⟨⟨l',h4.mono λ_ _ he=>he.mono hle.mem,h5.trans (Ar r).symm⟩,(((Ar r).map _).nodup_iff).2 h6⟩,h7⟩ ?_))
   intro ver k' v' l2 hl
   rw[eP]at hl
   simp only[aD,gT.obj.injEq]at hl
   obtain⟨rfl,rfl,_⟩:=hl
   exact⟨rfl,rfl,⟨_,_,_,rfl⟩,λ_ _=>⟨rfl,rfl⟩⟩
  ·exact Inv.canon l h
theorem nQ(hC:∀i j,C.E.s (.new i j)=none){an:nu}{s1:AS}(h:kN C s a w)(he:(norm P an s).eval=some s1):kN C s1 a w:=by
 unfold norm at he
 obtain⟨su,Xy,he⟩:=aw.1 he
 obtain⟨sd,U0,he⟩:=aw.1 he
 obtain⟨s0,h1,h2⟩:=aw.1 he
 obtain⟨h3,h4⟩:=aL.1 h2
 obtain⟨sf,h5,h6⟩:=aw.1 h4
 obtain⟨g0,β0,h0⟩:=h
 obtain⟨g1,i1,_⟩:=ke an.JM h0
 obtain⟨g,β,h⟩:=yp _ (uE _ (ER _ ⟨g1,β0,(i1.still an.Xb).canon an.SX⟩ Xy) U0) h1
 exact oZ hC _ (zz _ ⟨g,β,h.bO hC h3⟩ h5) h6
end
end Go.Ab
namespace Go.Ab
section
variable {P:Program} {Γ:fD} {an:fR} {C:Ctx}
open Classical in
def We(p:Prop):Option Unit:=if p then some () else none
theorem NC{p:Prop}(h:We p=some ()):p:=by
 unfold We at h
 split at h
 ·assumption
 ·cases h
theorem KX{X R:Type}{S:X->Prop}{k:X->Option R}{r:R}(h:QT S k=some r):(∃x,S x)/\∀x,S x->k x=some r:=by
 unfold QT at h
 split at h
 ·rename_i hx
  obtain rfl:=cI h
  exact hx.choose_spec
 ·cases h
def LV(P:Program)(Γ:fD)(an:fR)(N:Nat)(b:Code):Prop:=
 ∀le,an.jo (gf b)=some le->
  (le.set=none->∀s x,le.run s=some x->∃n,AB (norm P (an.loops (gf b))) (λe=>norm P (an.outs (gf b) (GS e))) (ev P Γ an N b) n s (λe s'=>some (e,s'))=(le.out x).eval)/\
  ∀S,le.set=some S->∀s,(∃x,S s x)->∃n,AB (norm P (an.loops (gf b))) (λe=>norm P (an.outs (gf b) (GS e))) (ev P Γ an N b) n s (λe s'=>We (∃x,S s x/\(le.out x).eval=some (e,s')))=some ()
def F2(P:Program)(Γ:fD)(an:fR)(N:Nat):List Code->Prop
 |[]=>True
 |b::l=>LV P Γ an N b/\F2 P Γ an N l
theorem F2.append{N:Nat}:∀ {l l':List Code},F2 P Γ an N (l++l')->F2 P Γ an N l/\F2 P Γ an N l'
 |[],_,h=>⟨trivial,h⟩
 |_::_,_,⟨h1,h2⟩=>⟨⟨h1,(F2.append h2).1⟩,(F2.append h2).2⟩
theorem uN{R:Type}{r:R}{b:Code}{nrm:AS->Out AS}{nrmX:Exit->AS->Out AS}{body:AS->(Exit->AS->Option R)->Option R}
  (hn:∀s s1 a w,kN C s a w->(nrm s).eval=some s1->kN C s1 a w) (hx:∀e s s1 a w,kN C s a w->(nrmX e s).eval=some s1->kN C s1 a w)
  (hb:∀(s:AS) (a:Act) (w:World) (k:Exit->AS->Option R) (Q:Exit->Act->World->Prop),kN C s a w->body s k=some r->(∀e s' a' w',kN C s' a' w'->k e s'=some r->Q e a' w')->b.wp P Q a w)
  {k:Exit->AS->Option R} {Q:Exit->Act->World->Prop} (hk:∀e s' a' w',kN C s' a' w'->k e s'=some r->Q e a' w'):
  ∀(n:Nat) (s:AS) (a:Act) (w:World),kN C s a w->AB nrm nrmX body n s k=some r->Code.rounds P b Q n a w
 | 0,s,a,w,_,h=>by simp[AB]at h
 |n+1,s,a,w,hs,h=>by
  simp only[AB]at h
  rw[rounds_succ]
  refine hb s a w _ _ hs h λe s' a' w' hs' TE=> ?_
  have exits:∀e,(nrmX e s').run (k e)=some r->Q e a' w':=λe TE=>by
   obtain⟨s1,h1,h2⟩:=mr.1 TE
   exact hk e s1 a' w' (hx e s' s1 a' w' hs' h1) h2
  cases e with
  |normal=>
   simp only at TE
   obtain⟨s1,h1,h2⟩:=mr.1 TE
   exact uN hn hx hb hk n s1 a' w' (hn s' s1 a' w' hs' h1) h2
  |_=>exact exits _ TE
theorem yD(hC:∀i j,C.E.s (.new i j)=none){j:Option BE}{run: {R:Type}->(Exit->AS->Option R)->Option R}{c:Code}{a:Act}{w:World}
  (oS:∀ {R:Type} {r:R} (k:Exit->AS->Option R) (Q:Exit->Act->World->Prop),run k=some r->(∀e s' a' w',kN C s' a' w'->k e s'=some r->Q e a' w')->c.wp P Q a w)
  {R:Type} {r:R} {k:Exit->AS->Option R} {Q:Exit->Act->World->Prop} (h:zN P j run k=some r) (hk:∀e s' a' w',kN C s' a' w'->k e s'=some r->Q e a' w'):c.wp P Q a w:=by
 cases j with
 |none=>exact oS k Q h hk
 |some j=>
  simp only[zN]at h
  cases hx:run λe s=>(norm P j.an s).run (j.SJ e) with
  |none=>rw[hx]at h;cases h
  |some x=>
   rw[hx]at h
   simp only[ah]at h
   obtain⟨y,hy,h⟩:=mr.1 h
   refine oS _ Q hx λe s' a' w' hs' hK=> ?_
   obtain⟨s1,h1,h2⟩:=mr.1 hK
   have he:=j.ok _ _ _ h2
   rw[hy,aD]at he
   subst he
   exact hk e s1 a' w' (nQ hC hs' h1) h
theorem oR(hm:P.follows .mixedOrders=true)(hΓ:Sound P Γ)(hC:∀i j,C.E.s (.new i j)=none){N:Nat}:∀(c:Code),F2 P Γ an N (mP c)->∀ {R:Type} {r:R} (s:AS) (a:Act) (w:World) (k:Exit->AS->Option R) (Q:Exit->Act->World->Prop),
  kN C s a w->ev P Γ an N c s k=some r->(∀e s' a' w',kN C s' a' w'->k e s'=some r->Q e a' w')->c.wp P Q a w
 | .skip,hL,_,_,s,a,w,k,Q,hs,h,hk=>wp_skip (hk _ _ _ _ hs h)
 | .region id ops draw,hL,_,_,s,a,w,k,Q,hs,h,hk=>by
  simp only[ev]at h
  refine yD hC (λk Q h hk=> ?_) h hk
  cases draw with
  |true=>
   simp only at h
   split at h
   ·rename_i hE
    exact HB hm hΓ hs hE h λs' a' w' hs' hk'=>hk _ _ _ _ hs' hk'
   ·cases h
  |false=>exact wp_region_list (Av hΓ ops.toList hs h λs' a' w' hs' hk'=>hk _ _ _ _ hs' hk')
 | .seq x y,hL,_,_,s,a,w,k,Q,hs,h,hk=>by
  simp only[ev]at h
  refine wp_seq (yD hC (λk Q h hk=>oR hm hΓ hC x hL.append.1 s a w k Q hs h hk) h λe s' a' w' hs' hk'=> ?_)
  cases e with
  |normal=>exact oR hm hΓ hC y hL.append.2 s' a' w' k Q hs' hk' hk
  |_=>exact hk _ s' a' w' hs' hk'
 | .cond c x y,hL,_,_,s,a,w,k,Q,hs,h,hk=>by
  simp only[ev]at h
  split at h
  ·rename_i b hb
   have hc:a.eval c= .bool b:=by
    obtain⟨g,β,hi⟩:=hs
    have:=hi.ev c
    rw[hb]at this
    exact Bj this
   refine wp_cond hc ?_
   cases b with
   |true=>exact oR hm hΓ hC x hL.append.1 s a w k Q hs h hk
   |false=>exact oR hm hΓ hC y hL.append.2 s a w k Q hs h hk
  ·cases h
 | .block id b,hL,_,_,s,a,w,k,Q,hs,h,hk=>by
  simp only[ev]at h
  refine wp_block (oR hm hΓ hC b hL s a w _ _ hs h λe s' a' w' hs' hk'=> ?_)
  cases e with
  |exit i=>
   simp only at hk'
   simp only[Exit.inBlock]
   by_cases hi:i=id
   ·rw[if_pos hi]
    simp only[hi,decide_true]at hk'
    exact hk _ s' a' w' hs' hk'
   ·rw[if_neg hi]
    simp only[hi,decide_false]at hk'
    exact hk _ s' a' w' hs' hk'
  |_=>exact hk _ s' a' w' hs' hk'
 | .loop b,hL,R,r,s,a,w,k,Q,hs,h,hk=>by
  simp only[ev]at h
  obtain⟨s1,h1,h⟩:=mr.1 h
  have zF:=nQ hC hs h1
  obtain⟨hL1,hL2⟩:=(hL:LV P Γ an N b/\F2 P Γ an N (mP b))
  split at h
  ·rename_i le hle
   unfold Om at h
   cases Fm:le.set with
   |some S=>
    rw[Fm]at h
    simp only at h
    obtain⟨h2,h3⟩:=KX h
    obtain⟨n,hn⟩:=(hL1 le hle).2 S Fm s1 h2
    refine wp_loop_rounds n (uN (λs s1 a w hs hn=>nQ hC hs hn) (λe s s1 a w hs hn=>nQ hC hs hn) (λs a w k Q hs hb hk=>oR hm hΓ hC b hL2 s a w k Q hs hb hk) (λe s' a' w' hs' he=> ?_) n s1 a w zF hn)
    obtain⟨x,V3,V4⟩:=NC he
    obtain⟨y,hy,h4⟩:=mr.1 (h3 x V3)
    rw[V4,aD]at hy
    subst hy
    exact hk _ _ _ _ hs' h4
   |none=>
   rw[Fm]at h
   simp only at h
   cases hr:le.run s1 with
   |none=>rw[hr]at h;cases h
   |some x=>
    rw[hr]at h
    simp only[ah]at h
    obtain⟨y,hy,h⟩:=mr.1 h
    obtain⟨n,hn⟩:=(hL1 le hle).1 Fm s1 x hr
    rw[hy]at hn
    refine wp_loop_rounds n (uN (λs s1 a w hs hn=>nQ hC hs hn) (λe s s1 a w hs hn=>nQ hC hs hn) (λs a w k Q hs hb hk=>oR hm hΓ hC b hL2 s a w k Q hs hb hk) (λe s' a' w' hs' he=> ?_) n s1 a w zF hn)
    simp only[aD]at he
    subst he
    exact hk e s' a' w' hs' h
  ·exact wp_loop_rounds N (uN (λs s1 a w hs hn=>nQ hC hs hn) (λe s s1 a w hs hn=>nQ hC hs hn) (λs a w k Q hs hb hk=>oR hm hΓ hC b hL2 s a w k Q hs hb hk) hk N s1 a w zF h)
 | .exit id,hL,_,_,s,a,w,k,Q,hs,h,hk=>wp_exit (hk _ _ _ _ hs h)
 | .ret,hL,_,_,s,a,w,k,Q,hs,h,hk=>wp_ret (hk _ _ _ _ hs h)
 | .rangeFunc ..,_,_,_,_,_,_,_,_,_,h,_=>by simp[ev]at h
 | .scope b,hL,_,_,s,a,w,k,Q,hs,h,hk=>by
  simp only[ev]at h
  refine wp_scope_straight (oR hm hΓ hC b hL s a w _ _ hs h λe s' a' w' hs' hk'=> ?_)
  cases e with
  |goto l=>cases hk'
  |_=>exact hk _ s' a' w' hs' hk'
 | .label _,hL,_,_,s,a,w,k,Q,hs,h,hk=>wp_label (hk _ _ _ _ hs h)
 | .goto _,_,_,_,_,_,_,_,_,_,h,_=>by simp[ev]at h
 | .refuse _,_,_,_,_,_,_,_,_,_,h,_=>by simp[ev]at h
variable {g:Nat->nZ} {β:Id->Option Pl} {s:AS} {a:Act} {w:World}
def CT(tmps:Array Value)(r:ResultVar):Sem Value:=
 match r with
 | .tmp t=>pure (tmps.getD t undef)
 | .cell a t=>do loadVar t (<-asAddr (tmps.getD a undef))
theorem yX(h:Inv C g β s a w){r:ResultVar}{v:aH}(he:(CV P s r).eval=some v):∃x,(CT a.tmps r).run P w= .ok x w/\VS (s.env w g β) v x:=by
 cases r with
 |tmp t=>
  simp only[CV]at he
  obtain rfl:=aB.1 he
  exact⟨_,by simp[CT],h.dW t⟩
 |cell t T=>
  simp only[CV]at he
  obtain⟨ad,z,hy,hr,hv⟩:=Cw h (h.dW t) he
  exact⟨z,by simp[CT,hy,asAddr,hr],hv⟩
theorem yW(h:Inv C g β s a w){r:ResultVar}{o:Option Ty}{y:AS×aH}(he:(CU P s r o).eval=some y):
  ∃x g',(CT a.tmps r).run P w= .ok x w/\Inv C g' β y.1 a w/\ed (s.env w g β) (y.1.env w g' β)/\VS (y.1.env w g' β) y.2 x:=by
 cases o with
 |none=>
  simp only[CU]at he
  obtain⟨v,h1,h2⟩:=aw.1 he
  obtain rfl:=aB.1 h2
  obtain⟨x,hx,hv⟩:=yX h h1
  exact⟨x,g,hx,h,ed.refl _,hv⟩
 |some t=>
  simp only[CU]at he
  obtain⟨v,h1,h2⟩:=aw.1 he
  obtain⟨d,h3,h4⟩:=aw.1 h2
  obtain rfl:=aB.1 h4
  obtain⟨x,hx,hv⟩:=yX h h1
  obtain⟨g',i1,e1,_,cs,hR,hO⟩:=sR h hv h3
  exact⟨x,g',hx,i1,e1,VS.of (a:= .d t d) (cs:=cs) (by simpa only[V]using hR) hO⟩
theorem xm:∀(l:List ResultVar) (ts:List (Option Ty)) {s:AS} {g:Nat->nZ} (_:Inv C g β s a w) {y:AS×aH},(yY P s l ts).eval=some y->
  ∃(xs:List Value) (g':Nat->nZ),(l.mapM (CT a.tmps)).run P w= .ok xs w/\Inv C g' β y.1 a w/\ed (s.env w g β) (y.1.env w g' β)/\VC (y.1.env w g' β) y.2 xs/\xs.length=l.length
 |[],ts,s,g,h,y,he=>by
  simp only[yY]at he
  obtain rfl:=aB.1 he
  exact⟨[],g,by simp,h,ed.refl _,by simp[VC],rfl⟩
 |r::l,ts,s,g,h,y,he=>by
  simp only[yY]at he
  obtain⟨u,h1,h2⟩:=aw.1 he
  obtain⟨hc,h2⟩:=aL.1 h2
  obtain⟨us,h3,h4⟩:=aw.1 h2
  obtain rfl:=aB.1 h4
  obtain⟨x,g1,hx,i1,e1,hv⟩:=yW h h1
  obtain⟨xs,g2,Ia,i2,e2,Ch,hl⟩:=xm l ts.tail i1 h3
  obtain⟨cs,hV,hO⟩:=(hv.mono e2).iA hc
  refine⟨x::xs,g2,?_,i2,e1.trans e2,by simp only[VC];exact⟨x,xs,cs,rfl,hV,hO,Ch⟩,by simp[hl]⟩
  simp only[List.mapM_cons,Sem.run_bind,hx,Result.andThen_ok,Ia,Sem.run_pure]
theorem Mo{E:Env}{v:aH}{xs:List Value}(h:VC E v xs):VS E v (.tuple xs.toArray):=by
 cases v <;> first
  | (simp only[VC]at h;done)
  |exact⟨xs,rfl,h⟩
  | (simp only[VC]at h;subst h;rfl)
theorem DX(h:Inv C g β s a w){fn:Func}{ts:List (Option Ty)}{y:AS×aH}(he:(FJ P fn ts s).eval=some y):
  ∃x g',(results fn a.tmps).run P w= .ok x w/\Inv C g' β y.1 a w/\VS (y.1.env w g' β) y.2 x:=by
 have key:∀xs:List Value,(fn.results.toList.mapM (CT a.tmps)).run P w= .ok xs w->(results fn a.tmps).run P w= .ok (if h:xs.length=1 then xs[0] else .tuple xs.toArray) w:=λxs Ia=>by
  have e:results fn a.tmps=(do
   let vs <-fn.results.mapM (CT a.tmps)
   pure (if h:vs.size=1 then vs[0] else .tuple vs)):=rfl
  rw[e,Array.mapM_eq_mapM_toList]
  simp only[map_eq_pure_bind,Sem.run_bind,Ia,Result.andThen_ok,Sem.run_pure]
  congr 1
 unfold FJ at he
 split at he
 ·rename_i r hr
  obtain⟨x,g',hx,hi,_,hv⟩:=yW h he
  refine⟨x,g',?_,hi,hv⟩
  rw[key [x] (by simp[hr,hx])]
  simp
 ·rename_i rs lg
  obtain⟨xs,g',hx,hi,_,hv,hl⟩:=xm _ _ h he
  refine⟨.tuple xs.toArray,g',?_,hi,Mo hv⟩
  rw[key xs hx,dif_neg]
  rw[hl]
  intro h1
  obtain⟨r,hr⟩:=List.length_eq_one_iff.1 h1
  exact lg r hr
end
end Go.Ab
namespace Go.Ab
def qD(ids:List Id):nZ->nZ
 | .own (.id (.new i j)) k=> .own (.id (match idxOf (.new i j) ids with | some m=> .new 0 m | none=> .new 1 0)) k
 |l=>l
def NM(β:Id->Option Pl)(ids:List Id):Id->Option Pl
 | .ew k=>β (.ew k)
 | .new 0 m=>(ids[m]?).bind β
 | .new (_+1) _=>none
theorem Li{ids:List Id}{g:Nat->nZ}{b off:Nat}(h:rh g b off):rh (λb=>qD ids (g b)) b off:=by
 unfold rh at*
 simp only
 cases hg:g b with
 |free=>simp[qD]
 |own o k=>
  rw[hg]at h
  cases o with
  |iS=>exact h
  |id i=>cases i <;> exact h
theorem Fe(s:AS)(v:aH):(s.zy v).Nodup:=(rk s _ _ _ (by simp)).filter _
theorem IG{s:AS}{v:aH}{id:Id}(h:id∈s.zy v):∃i j,id= .new i j:=by
 unfold AS.zy at h
 have:=(jI.1 h).2
 cases id with
 |ew k=>simp[Id.Qg]at this
 |new i j=>exact⟨i,j,rfl⟩
section
variable {P:Program} {Γ:fD} {C:Ctx} {g:Nat->nZ} {β:Id->Option Pl} {s:AS} {a:Act} {w:World}
theorem KZ(h:Inv C g β s a w)(hC:∀i j,C.E.s (.new i j)=none){v:aH}{x:Value}(hv:VS (s.env w g β) v x):vu C.E (s.fin v) x w:=by
 unfold AS.fin
 have hn:=Fe s v
 have uJ:∀id∈s.zy v,∃i j,id= .new i j:=λid eY=>IG eY
 generalize s.zy v=ids at hn uJ
 generalize hG:s.PX ids v=G
 have sF:G.val=v.ma (xC ids):=by rw[<-hG];rfl
 have hold:∀k,G.st.dx (.ew k)=(s.dx (.ew k)).map (gT.fin ids):=λk=>by
  rw[<-hG]
  show(s.ez.map (gT.fin ids))[k]? =_
  rw[jY];rfl
 have W0:∀m,G.st.dx (.new 0 m)=(ids[m]?).map λid=>((s.dx id).getD .dead).fin ids:=λm=>by
  rw[<-hG]
  show(ids.map λid=>((s.dx id).getD .dead).fin ids)[m]? =_
  rw[jY]
 have XZ:∀i m,G.st.dx (.new (i+1) m)=none:=λi m=>by simp[aX.st,AS.dx]
 let g':Nat->nZ:=λb=>qD ids (g b)
 let β':=NM β ids
 have K9:∀e ver fr c,gT.fin ids e= .obj ver fr c->∃c0,e= .obj ver fr c0/\c=c0.ma (xC ids):=λe ver fr c he=>by
  cases e with
  |dead=>cases he
  |obj v0 fr0 c0=>
   simp only[gT.fin,gT.obj.injEq]at he
   obtain⟨rfl,rfl,rfl⟩:=he
   exact⟨c0,rfl,rfl⟩
 have hle:u7 (xC ids) (s.env w g β) (G.st.env w g' β'):=by
  refine⟨⟨λb off v ⟨h1,h2⟩=>⟨h1,Li h2⟩,λb ob h1 h2=>⟨by show qD ids (g b)= .free;have h1:g b= .free:=h1;rw[h1];rfl,h2⟩⟩,λid ver r hr hb=> ?_⟩
  obtain⟨yi,Dn⟩:=hb
  have yi:s.dx id≠none:=yi
  have Dn:∀v fr c,s.dx id=some (.obj v fr c)->ver<=v:=Dn
  cases id with
  |ew k=>
   simp only[xC,aD]at hr
   subst hr
   refine⟨⟨?_,λv fr c hh=> ?_⟩,λ⟨fr,c,hh⟩=>⟨?_,rfl⟩⟩
   ·show G.st.dx (.ew k)≠none
    rw[hold];simpa using yi
   ·have hh:G.st.dx (.ew k)=some (.obj v fr c):=hh
    rw[hold,iG]at hh
    obtain⟨e,he,hh⟩:=hh
    obtain⟨c0,rfl,_⟩:=K9 _ _ _ _ hh
    exact Dn v fr c0 he
   ·have hh:G.st.dx (.ew k)=some (.obj ver fr c):=hh
    rw[hold,iG]at hh
    obtain⟨e,he,hh⟩:=hh
    obtain⟨c0,rfl,_⟩:=K9 _ _ _ _ hh
    exact⟨fr,c0,he⟩
  |new i j=>
   simp only[xC]at hr
   split at hr
   ·rename_i m hm
    simp only[aD]at hr
    subst hr
    have eY:=px hm
    obtain⟨e,he⟩:=Option.ne_none_iff_exists'.1 yi
    have hg:G.st.dx (.new 0 m)=some (e.fin ids):=by rw[W0,eY];simp[he]
    refine⟨⟨?_,λv fr c hh=> ?_⟩,λ⟨fr,c,hh⟩=>⟨?_,?_⟩⟩
    ·show G.st.dx (.new 0 m)≠none
     rw[hg];simp
    ·have hh:G.st.dx (.new 0 m)=some (.obj v fr c):=hh
     rw[hg,aD]at hh
     obtain⟨c0,rfl,_⟩:=K9 _ _ _ _ hh
     exact Dn v fr c0 he
    ·have hh:G.st.dx (.new 0 m)=some (.obj ver fr c):=hh
     rw[hg,aD]at hh
     obtain⟨c0,rfl,_⟩:=K9 _ _ _ _ hh
     exact⟨fr,c0,he⟩
    ·show(ids[m]?).bind β=β (.new i j)
     rw[eY];rfl
   ·cases hr
 have IM:Trans C.E.w w C.E.g g':=by
  have h0:=h.trans
  refine⟨h0.os,h0.tape,h0.output,h0.size,λb hb=> ?_⟩
  have h1:=h0.KK b hb
  show match C.E.g b with | .free=>qD ids (g b)= .free/\_ | .own .iS k=>qD ids (g b)= .own .iS k/\_ | .own (.id _) k=>(qD ids (g b)= .free\/∃i k',qD ids (g b)= .own (.id i) k'/\k<=k')/\_
  cases Cc:C.E.g b with
  |free=>simp only[Cc]at h1 ⊢;rw[h1.1];exact⟨rfl,h1.2⟩
  |own o k=>cases o with
   |iS=>simp only[Cc]at h1 ⊢;rw[h1.1];exact⟨rfl,h1.2⟩
   |id i=>
    simp only[Cc]at h1 ⊢
    refine⟨?_,h1.2⟩
    rcases h1.1 with h2 | ⟨i',k',h2,h3⟩
    ·rw[h2];exact .inl rfl
    ·rw[h2]
     right
     cases i' with
     |ew m=>exact⟨_,k',rfl,h3⟩
     |new i j=>exact⟨_,k',rfl,h3⟩
 have Pf:lO (G.st.env w g' β'):=by
  intro id ver fr c eY
  have eY:G.st.dx id=some (.obj ver fr c):=eY
  cases id with
  |ew k=>
   rw[hold,iG]at eY
   obtain⟨e,he,eY⟩:=eY
   obtain⟨c0,rfl,rfl⟩:=K9 _ _ _ _ eY
   refine tQ hle (h.cZ (.ew k) ver fr c0 he) rfl λpl _=>⟨rfl,λn hg=> ?_,λhg=> ?_⟩
   ·have hg:g pl.b= .own (.id (.ew k)) n:=hg
    show qD ids (g pl.b)=_
    rw[hg];rfl
   ·have hg:g pl.b= .free:=hg
    show qD ids (g pl.b)=_
    rw[hg];rfl
  |new i m=>
   cases i with
   |succ i=>rw[XZ]at eY;cases eY
   |zero=>
    rw[W0,iG]at eY
    obtain⟨id0,Rp,eY⟩:=eY
    obtain⟨c0,he,rfl⟩:=K9 _ _ _ _ eY
    have eP:s.dx id0=some (.obj ver fr c0):=by
     cases hs:s.dx id0 with
     |none=>rw[hs]at he;cases he
     |some e=>rw[hs]at he;simp only[gj]at he;rw[he]
    obtain⟨i0,j0,rfl⟩:=uJ id0 (eQ Rp)
    refine tQ hle (h.cZ (.new i0 j0) ver fr c0 eP) (by show(ids[m]?).bind β=_;rw[Rp];rfl) λpl _=>⟨rfl,λn hg=> ?_,λhg=> ?_⟩
    ·have hg:g pl.b= .own (.id (.new i0 j0)) n:=hg
     show qD ids (g pl.b)=_
     rw[hg]
     simp only[qD,s9 hn Rp]
    ·have hg:g pl.b= .free:=hg
     show qD ids (g pl.b)=_
     rw[hg];rfl
 have ho:∀id ver,C.E.wZ id ver->∃k,id= .ew k:=λid ver hb=>by
  cases id with
  |ew k=>exact⟨k,rfl⟩
  |new i j=>exact absurd (hC i j) hb.1
 refine⟨g',β',by rw[sF];exact BH hle hv,Pf,IM,Trans.mem (E:=C.E) (E':=G.st.env w g' β') IM,λid ver hb=> ?_,λid ver hb hc=> ?_⟩
 ·obtain⟨k,rfl⟩:=ho id ver hb
  exact(hle.ref (.ew k) ver (.ew k,ver) rfl (h.le.wZ _ _ hb)).1
 ·obtain⟨k,rfl⟩:=ho id ver hb
  obtain⟨h1,h2⟩:=(hle.ref (.ew k) ver (.ew k,ver) rfl (h.le.wZ _ _ hb)).2 hc
  obtain⟨h3,h4⟩:=h.le.cur _ _ hb h1
  exact⟨h3,h2.trans h4⟩
theorem yg.len{E:Env}:∀ {as:List aH} {vs:List Value},yg E as vs->as.length=vs.length
 |[],[],_=>rfl
 |_::_,_::_,⟨_,h⟩=>by simp[yg.len h]
 |[],_::_,h=>h.elim
 |_::_,[],h=>h.elim
theorem yg.get{E:Env}:∀ {as:List aH} {vs:List Value},yg E as vs->∀i,VS E (as.getD i .undef) (vs.getD i undef)
 |[],[],_,i=>by simpa using VS.undef
 |_::_,_::_,⟨h,_⟩,0=>by simpa using h
 |_::_,_::_,⟨_,h⟩,i+1=>by simpa using yg.get h i
 |[],_::_,h,_=>h.elim
 |_::_,[],h,_=>h.elim
theorem LN{w:World}{g:Nat->nZ}{β:Id->Option Pl}{fn:Func}{args:List aH}{ez:List gT}{mS:List Value}(hv:yg ((oE ez).env w g β) args mS)(ho:lO ((oE ez).env w g β)):
  Inv ⟨(oE ez).env w g β⟩ g β (start fn args ez) {tmps:=mS.toArray++Array.replicate (fn.ntmps - mS.toArray.size) undef,defers:=[]} w:=by
 have hl:=hv.len
 have eP:(start fn args ez).dx=(oE ez).dx:=by
  funext id
  cases id with
  |ew k=>rfl
  |new i j=>
   simp only[start,oE,AS.dx,aY,List.getElem?_replicate]
   split <;> simp
 have Rl:(start fn args ez).env w g β=(oE ez).env w g β:=by simp only[AS.env,eP]
 refine⟨rfl,by simp[start,hl],λi=> ?_,by rw[Rl];exact ho,Trans.refl _ _,by rw[Rl];exact ed.refl _⟩
 rw[Rl]
 have h1:(start fn args ez).slot i=args.getD i .undef:=by
  simp only[start,AS.slot,aY,List.getElem?_append,List.getElem?_replicate]
  split
  ·rfl
  ·rw[ik (l:=args) (by omega)]
   split <;> rfl
 have h2:(mS.toArray++Array.replicate (fn.ntmps - mS.toArray.size) undef).getD i undef=mS.getD i undef:=by
  simp only[fL,aY,Array.getElem?_append,Array.getElem?_replicate]
  simp only[jZ,List.getElem?_toArray]
  split
  ·rfl
  ·rw[ik (l:=mS) (by omega)]
   split <;> rfl
 rw[h1,h2]
 exact hv.get i
theorem qq.zX(hm:P.follows .mixedOrders=true)(hΓ:Sound P Γ){f:FuncId}{fn:Func}(hf:P.funcs[f]? =some fn)(hb:fn.body.isSome=true)(vS:(fn.name== "runtime.NumGoroutine")=false){en:Entry}{an:fR}{N:Nat}(hL:∀c,fn.body=some c->F2 P Γ an N (mP c))
  (h:∀args ez x,en.run args ez=some x->OL P Γ an N fn args ez some=some (en.out args ez x)):qq P f en:=by
 intro w g β args ez mS x hv ho hx
 left
 obtain⟨c,hc⟩:=dj.1 hb
 refine⟨?_,?_⟩
 ·unfold callFunc
  have hname':¬fn.name= "runtime.NumGoroutine" :=by simpa using vS
  simp[hf,hname',hc]
 ·have hN:=h args ez x hx
  unfold OL at hN
  rw[hc]at hN
  simp only at hN
  have hC:∀i j,((oE ez).env w g β).s (.new i j)=none:=λi j=>by simp[AS.env,oE,AS.dx]
  refine calls_of_wp hf hc (oR (C:=⟨(oE ez).env w g β⟩) hm hΓ hC c (hL c hc) _ _ w _ _ ⟨g,β,LN hv ho⟩ hN λe s' a' w' hs' hk'=> ?_)
  have fin:(finish P an fn s').run (λv=>some v)=some (en.out args ez x)->a'.defers=[]/\∃v,(results fn a'.tmps).run P w'= .ok v w'/\∃u,Ending.returned v= .returned u/\vu ((oE ez).env w g β) (en.out args ez x) u w':=λhr=>by
   obtain⟨G,h1,h2⟩:=mr.1 hr
   simp only[aD]at h2
   subst h2
   unfold finish at h1
   obtain⟨sd,U0,h1⟩:=aw.1 h1
   obtain⟨s2,h3,h4⟩:=aw.1 h1
   obtain⟨s3,Xz,h4⟩:=aw.1 h4
   obtain⟨y,h5,h6⟩:=aw.1 h4
   obtain⟨g0,β0,Ro⟩:=uE _ hs' U0
   obtain⟨g',β',hi⟩:=De _ (oZ hC _ ⟨g0,β0,Ro.drop _⟩ h3) Xz
   obtain⟨z,g2,h7,h8,h9⟩:=DX hi h5
   refine⟨hi.defers,z,h7,z,rfl,?_⟩
   rw[<-aB.1 h6]
   exact KZ h8 hC h9
  cases e with
  |normal=>exact fin hk'
  |ret=>exact fin hk'
  |_=>cases hk'
end
end Go.Ab
namespace Go.Ab
def fa(k:IntKind)(n:Int):Int:=k.wrap n
def bV(k:IntKind)(x y:Int):Int:=k.wrap (x+y)
def cY(k:IntKind)(x y:Int):Int:=k.wrap (x - y)
def gY(k:IntKind)(x y:Int):Int:=k.wrap (x*y)
def qs(k:IntKind)(x y:Int):Int:=k.wrap (x.tdiv y)
def iN(x y:Int):Int:=x.tmod y
def oC(k:IntKind)(x y:Int):Int:=k.wrap (x*2^(min y.toNat k.bits))
def cX(k:IntKind)(x y:Int):Int:=x.fdiv (2^(min y.toNat k.bits))
def RF(k:IntKind)(x:Int):Int:=k.wrap (0 - x)
def Pp(k:IntKind)(x:Int):Int:=dD .xor k (if k.signed then -1 else k.max) x
def mV(x y:Int):Bool:=x==y
def tc(x y:Int):Bool:=x !=y
def jM(x y:Int):Bool:=decide (x < y)
def F6(x y:Int):Bool:=decide (x<=y)
def sh(x y:Int):Bool:=decide (x > y)
def qu(x y:Int):Bool:=decide (x>=y)
def seq(x y:ByteArray):Bool:=x.toList==y.toList
def HH(a:ByteArray)(i:Int):Int:=((a.data.toList.getD i.toNat 0).toNat:Int)
def imax(x y:Int):Int:=if x < y then y else x
def fB(i n:Int):Bool:=decide (0<=i/\i < n)
def inc(i n:Int):Bool:=decide (0<=i/\i<=n)
def nr(y:Int):Bool:=decide (0<=y)
def mQ(y:Int):Bool:= !(decide (y=0))
open Classical in
def cU.of{D X:Type}(st:D->AS)(az:D->Prop)(F:D->X)(out:X->Out (Exit×AS)):cU:=
 {X,run:=λs=>if h:∃d,st d=s/\az d then some (F h.choose) else none,out}
open Classical in
theorem cU.zX{D X:Type}{st:D->AS}{az:D->Prop}{F:D->X}{out:X->Out (Exit×AS)}(Cd:∀d d',st d=st d'->d=d'){d:D}(h:az d):(cU.of st az F out).run (st d)=some (F d):=by
 have hex:∃d',st d'=st d/\az d':=⟨d,rfl,h⟩
 show(if h:∃d',st d'=st d/\az d' then some (F h.choose) else none)=_
 rw[dif_pos hex,Cd _ _ hex.choose_spec.1]
open Classical in
def BE.of{X:Type}(an:nu)(st:X->AS):BE:=
 {an,X,SJ:=λe s=>if h:e= .normal/\∃x,st x=s then some h.2.choose else none,out:=λx=> .ok (.normal,st x),
  ok:=λe s x h=>by
   by_cases h1:e= .normal/\∃x,st x=s
   ·rw[dif_pos h1]at h
    have h2:=h1.2.choose_spec
    rw[cI h]at h2
    rw[h1.1,<-h2]
    rfl
   ·rw[dif_neg h1]at h;cases h}
open Classical in
theorem BE.RT{X:Type}{an:nu}{st:X->AS}(Cd:∀d d',st d=st d'->d=d')(x:X):(BE.of an st).SJ .normal (st x)=some x:=by
 have hex:Exit.normal= .normal/\∃y,st y=st x:=⟨rfl,x,rfl⟩
 show(if h:Exit.normal= .normal/\∃y,st y=st x then some h.2.choose else none)=_
 rw[dif_pos hex,Cd _ _ hex.2.choose_spec]
open Classical in
theorem LV.of{P:Program}{Γ:fD}{an:fR}{N:Nat}{fn:Func}{i:Nat}{D X:Type}{st:D->AS}{az:D->Prop}{F:D->X}{out:X->Out (Exit×AS)}
  (hle:an.jo (gf (pv fn i))=some (cU.of st az F out)) (h:∀d,az d->∃n,G3 P Γ an N fn i n (st d) (λe s=>some (e,s))=(out (F d)).eval):LV P Γ an N (pv fn i):=by
 intro le hle'
 rw[hle]at hle'
 simp only[aD]at hle'
 subst hle'
 refine⟨λ_ s x hx=> ?_,λS hS=>by cases hS⟩
 change (if h:∃d',st d'=s/\az d' then some (F h.choose) else none)=some x at hx
 split at hx
 ·rename_i hex
  obtain rfl:=cI hx
  obtain⟨h1,h2⟩:=hex.choose_spec
  obtain⟨n,hn⟩:=h _ h2
  refine⟨n,?_⟩
  show G3 P Γ an N fn i n s _=_
  rw[h1]at hn
  exact hn
 ·cases hx
theorem Et(P:Program)(Γ:fD)(an:fR)(N:Nat)(fn:Func)(i:Nat){R:Type}(n:Nat)(s:AS)(k:Exit->AS->Option R):
  G3 P Γ an N fn i (n+1) s k=zT P Γ an N fn i s (λs1=>G3 P Γ an N fn i n s1 k) k:=rfl
theorem J5{P:Program}{Γ:fD}{an:fR}{N:Nat}{fn:Func}{i:Nat}{D X:Type}{st:D->AS}{az:D->Prop}{F:D->X}{out:X->Out (Exit×AS)}(μ:D->Nat)
  (h:∀d,az d->(∃d',az d'/\μ d' < μ d/\F d'=F d/\∀ {R:Type} (kn:AS->Option R) (kx:Exit->AS->Option R),zT P Γ an N fn i (st d) kn kx=kn (st d'))\/
   (∃r,(out (F d)).eval=some r/\∀ {R:Type} (kn:AS->Option R) (kx:Exit->AS->Option R),zT P Γ an N fn i (st d) kn kx=kx r.1 r.2)):
  ∀d,az d->∃n,G3 P Γ an N fn i n (st d) (λe s=>some (e,s))=(out (F d)).eval:=by
 have key:∀m d,μ d=m->az d->∃n,G3 P Γ an N fn i n (st d) (λe s=>some (e,s))=(out (F d)).eval:=by
  intro m
  induction m using Nat.strongRecOn with
  |_ m ih=>
   intro d hm hp
   rcases h d hp with⟨d',hp',mw,hF,hr⟩ | ⟨r,hr,hx⟩
   ·obtain⟨n,hn⟩:=ih (μ d') (by omega) d' rfl hp'
    exact⟨n+1,by rw[Et,hr,hn,hF]⟩
   ·exact⟨1,by rw[Et,hx,hr]⟩
 exact λd hp=>key _ d rfl hp
open Classical in
theorem Nn{P:Program}{Γ:fD}{an:fR}{N:Nat}{fn:Func}{i:Nat}{D X:Type}{st:D->AS}{az:D->Prop}{F:D->X}{ex:X->Exit×AS}(μ:D->Nat)
  (h:∀d,az d->(∃d',az d'/\μ d' < μ d/\F d'=F d/\∀ {R:Type} (kn:AS->Option R) (kx:Exit->AS->Option R),zT P Γ an N fn i (st d) kn kx=kn (st d'))\/
   (∀ {R:Type} (kn:AS->Option R) (kx:Exit->AS->Option R),zT P Γ an N fn i (st d) kn kx=kx (ex (F d)).1 (ex (F d)).2)):
  ∀d,az d->∃n,G3 P Γ an N fn i n (st d) (λe s=>some (e,s))=(Out.ok (ex (F d))).eval:=
 J5 (out:=λx=> .ok (ex x)) μ λd hp=>(h d hp).imp id λh=>⟨_,rfl,h⟩
open Classical in
def Entry.of{D X:Type}(params:List (Option Ty))(st:D->List aH×List gT)(az:D->Prop)(F:D->X)(out:X->aX):Entry:=
 {params,X,run:=λargs ez=>if h:∃d,st d=(args,ez)/\az d then some (F h.choose) else none,out:=λ_ _=>out}
open Classical in
theorem Entry.zX{D X:Type}{params:List (Option Ty)}{st:D->List aH×List gT}{az:D->Prop}{F:D->X}{out:X->aX}(Cd:∀d d',st d=st d'->d=d'){d:D}(h:az d):
  (Entry.of params st az F out).run (st d).1 (st d).2=some (F d):=by
 have hex:∃d',st d'=((st d).1,(st d).2)/\az d':=⟨d,rfl,h⟩
 show(if h:∃d',st d'=((st d).1,(st d).2)/\az d' then some (F h.choose) else none)=_
 rw[dif_pos hex,Cd _ _ hex.choose_spec.1]
open Classical in
theorem qq.of{P:Program}{Γ:fD}(hm:P.follows .mixedOrders=true)(hΓ:Sound P Γ){f:FuncId}{fn:Func}(hf:P.funcs[f]? =some fn)(hb:fn.body.isSome=true)(vS:(fn.name== "runtime.NumGoroutine")=false){an:fR}{N:Nat}
  (hL:∀c,fn.body=some c->F2 P Γ an N (mP c)) {D X:Type} {params:List (Option Ty)} {st:D->List aH×List gT} {az:D->Prop} {F:D->X} {out:X->aX}
  (h:∀d,az d->OL P Γ an N fn (st d).1 (st d).2 some=some (out (F d))):qq P f (Entry.of params st az F out):=by
 refine qq.zX hm hΓ hf hb vS hL λargs ez x hx=> ?_
 change (if h:∃d',st d'=(args,ez)/\az d' then some (F h.choose) else none)=some x at hx
 split at hx
 ·rename_i hex
  obtain rfl:=cI hx
  obtain⟨h1,h2⟩:=hex.choose_spec
  have:=h _ h2
  rw[h1]at this
  exact this
 ·cases hx
def Sl(P:Program)(Γ:fD)(an:fR)(N:Nat)(fn:Func):Nat->Nat->Prop
 | 0,_=>True
 |n+1,i=>LV P Γ an N (pv fn i)/\Sl P Γ an N fn n (i+1)
theorem Sl.get{P:Program}{Γ:fD}{an:fR}{N:Nat}{fn:Func}:∀ {n i:Nat},Sl P Γ an N fn n i->∀j,j < n->LV P Γ an N (pv fn (i+j))
 | 0,_,_,j,hj=>by omega
 |n+1,i,h,0,_=>h.1
 |n+1,i,h,j+1,hj=>by
  have:=Sl.get h.2 j (by omega)
  rwa[show i+1+j=i+(j+1) by omega]at this
theorem F2.NA{P:Program}{Γ:fD}{an:fR}{N:Nat}:∀(l:List Code),(∀j,j < l.length->LV P Γ an N (l.getD j .skip))->F2 P Γ an N l
 |[],_=>trivial
 |b::l,h=>⟨h 0 (by simp),F2.NA l λj hj=>by have:=h (j+1) (by simpa using hj);simpa using this⟩
theorem F2.fn{P:Program}{Γ:fD}{an:fR}{N:Nat}{fn:Func}(n:Nat)(hn:(match fn.body with | some c=>(mP c).length | none=>0)=n)(h:Sl P Γ an N fn n 0):∀c,fn.body=some c->F2 P Γ an N (mP c):=by
 intro c hc
 refine F2.NA _ λj hj=> ?_
 rw[hc]at hn
 simp only at hn
 have:=h.get j (by omega)
 unfold pv at this
 rw[hc]at this
 simpa using this
theorem LV.none{P:Program}{Γ:fD}{an:fR}{N:Nat}{fn:Func}{i:Nat}(h:an.jo (gf (pv fn i))=none):LV P Γ an N (pv fn i):=λle hle=>by
 rw[h]at hle;cases hle
def S8:fD:=λ_ _=>none
theorem Sound.nil(P:Program):Sound P S8:=λ_ _ _ h=>by cases h
def MS(f:FuncId)(p:List aH->Bool)(en:Entry)(Γ:fD):fD:=λg vs=>match Nat.beq g f with | true=>(match p vs with | true=>some en | false=>Γ g vs) | false=>Γ g vs
theorem Sound.cons{P:Program}{f:FuncId}{p:List aH->Bool}{en:Entry}{Γ:fD}(h:qq P f en)(hΓ:Sound P Γ):Sound P (MS f p en Γ):=λg vs e hg=>by
 unfold MS at hg
 split at hg
 ·rename_i he
  have:g=f:=Nat.eq_of_beq_eq_true he
  split at hg
  ·simp only[aD]at hg
   subst hg this
   exact h
  ·exact hΓ g vs e hg
 ·exact hΓ g vs e hg
theorem PW{t:Ty}{x y:t.den}(h:aH.d t x=aH.d t y):x=y:=by
 injection h with _ h
def aP:List aH->Bool:=λ_=>true
def Lu:List aH->Bool | .eU::_=>true | _=>false
def LM:List aH->Bool | .di .. ::_=>true | _=>false
@[simp] theorem ae{α:Type}(x y:Option α):aJ true x y=x:=rfl
@[simp] theorem ai{α:Type}(x y:Option α):aJ false x y=y:=rfl
@[simp] theorem ab{α β:Type}(x:α)(f:α->Option β):ah (some x) f=f x:=rfl
@[simp] theorem wR{α:Type}(x:Option α):nd x x=x:=by simp[nd]
structure SG(P:Program) where
 f:FuncId
 p:List aH->Bool
 e:Entry
 h:qq P f e
def gr{P:Program}:List (SG P)->fD
 |[]=>S8
 |a::l=>MS a.f a.p a.e (gr l)
theorem Sound.gr{P:Program}:∀l:List (SG P),Sound P (gr l)
 |[]=>Sound.nil P
 |a::l=>Sound.cons a.h (Sound.gr l)
abbrev SA:=List aH×List gT
def dm(P:Program)(G:fD)(an:fR)(N:Nat)(fn:Func){D:Type}(st:D->SA){R:Type}(d:D)(k:aX->Option R):Option R:=OL P G an N fn (st d).1 (st d).2 k
def dr(P:Program)(G:fD)(an:fR)(N:Nat)(fn:Func)(i:Nat){D:Type}(st:D->AS){R:Type}(d:D)(kn:AS->Option R)(kx:Exit->AS->Option R):Option R:=zT P G an N fn i (st d) kn kx
abbrev dn{D X Y:Type}(A: {R:Type}->D->(aX->Option R)->Option R)(az:D->Prop)(add:D->Y->X)(F:D->Y)(out:X->aX):Prop:=
 ∀d,az d->A d some=some (out (add d (F d)))
abbrev gz(P:Program)(G:fD)(an:fR)(N:Nat)(fn:Func)(i:Nat){D X Y:Type}(st:D->AS)(az:D->Prop)(add:D->Y->X)(F:D->Y)(out:X->Out (Exit×AS)):Prop:=
 ∀d,az d->∃n,G3 P G an N fn i n (st d) (λe s=>some (e,s))=(out (add d (F d))).eval
abbrev jl{D X Y:Type}(R: {R:Type}->D->(AS->Option R)->(Exit->AS->Option R)->Option R)(st:D->AS)(az:D->Prop)(add:D->Y->X)(F:D->Y)(ex:X->Exit×AS)(C:Prop):Prop:=
 ∀μ:D->Nat,(∀d,az d->(∃d',az d'/\μ d' < μ d/\add d' (F d')=add d (F d)/\∀ {T:Type} (kn:AS->Option T) (kx:Exit->AS->Option T),R d kn kx=kn (st d'))\/
  (∀ {T:Type} (kn:AS->Option T) (kx:Exit->AS->Option T),R d kn kx=kx (ex (add d (F d))).1 (ex (add d (F d))).2))->C
abbrev rV{D X Y:Type}(R: {R:Type}->D->(AS->Option R)->(Exit->AS->Option R)->Option R)(st:D->AS)(az:D->Prop)(add:D->Y->X)(F:D->Y)(out:X->Out (Exit×AS))(C:Prop):Prop:=
 ∀μ:D->Nat,(∀d,az d->(∃d',az d'/\μ d' < μ d/\add d' (F d')=add d (F d)/\∀ {T:Type} (kn:AS->Option T) (kx:Exit->AS->Option T),R d kn kx=kn (st d'))\/
  (∃r,(out (add d (F d))).eval=some r/\∀ {T:Type} (kn:AS->Option T) (kx:Exit->AS->Option T),R d kn kx=kx r.1 r.2))->C
theorem js{P:Program}{G:fD}{an:fR}{N:Nat}{fn:Func}{i:Nat}{D X Y:Type}{st:D->AS}{az:D->Prop}{add:D->Y->X}{F:D->Y}{ex:X->Exit×AS}:
  jl (dr P G an N fn i st) st az add F ex (gz P G an N fn i st az add F λx=> .ok (ex x)):=λ μ h=>Nn (F:=λd=>add d (F d)) μ h
theorem sy{P:Program}{G:fD}{an:fR}{N:Nat}{fn:Func}{i:Nat}{D X Y:Type}{st:D->AS}{az:D->Prop}{add:D->Y->X}{F:D->Y}{out:X->Out (Exit×AS)}:
  rV (dr P G an N fn i st) st az add F out (gz P G an N fn i st az add F out):=λ μ h=>J5 (F:=λd=>add d (F d)) (out:=out) μ h
def om:List (Nat×nu)->Nat->nu
 |[],_=> {}
 |a::l,r=>bif Nat.beq r a.1 then a.2 else om l r
def oh:List (Nat×nu×nu)->Nat->Bool->nu
 |[],_,_=> {}
 |a::l,r,b=>bif Nat.beq r a.1 then(bif b then a.2.2 else a.2.1) else oh l r b
def pb{α:Type 1}:List (Nat×α)->Nat->Option α
 |[],_=>none
 |a::l,r=>bif Nat.beq r a.1 then some a.2 else pb l r
inductive Lf where
 |d (t:Ty)
 |n
@[reducible] def Lf.den:Lf->Type
 | .d t=>t.den
 | .n=>Nat
@[reducible] def Lf.Se:List Lf->Type
 |[]=>Unit
 |[a]=>a.den
 |a::b::l=>a.den×Lf.Se (b::l)
abbrev SP:=List (Sigma Lf.den)
def Lf.mk:(ts:List Lf)->Lf.Se ts->SP
 |[],_=> []
 |[a],x=> [⟨a,x⟩]
 |a::b::l,x=>⟨a,x.1⟩::Lf.mk (b::l) x.2
theorem Lf.mk_inj:∀(ts:List Lf) (x y:Lf.Se ts),Lf.mk ts x=Lf.mk ts y->x=y
 |[],_,_,_=>rfl
 |[a],x,y,h=>by
  injection h with h _
  injection h
 |a::b::l,(x,u),(y,v),h=>by
  injection h with h h2
  injection h with _ h
  have h:x=y:=h
  rw[h,Lf.mk_inj (b::l) u v h2]
def aH.leaves:aH->SP
 | .d .unit _=> []
 | .d (.arr _ t) l=> [⟨.d (.slice t),l⟩]
 | .d t x=> [⟨.d t,x⟩]
 | .gE t x=> [⟨.d t,x⟩]
 | .vec _ t l=> [⟨.d (.slice t),l⟩]
 | .mp k v l=> [⟨.d (.slice (.pair k v)),l⟩]
 | .p9 _ _ k v l _=> [⟨.d (.slice (.pair k v)),l⟩]
 | .di _ _ _ _ _ n=> [⟨.n,n⟩]
 | .pr a b=>a.leaves++b.leaves
 | .cons a b=>a.leaves++b.leaves
 | .fn _ c=>c.leaves
 | .bx _ _ c=>c.leaves
 |_=> []
def gT.leaves:gT->SP
 | .obj _ _ c=>c.leaves
 | .dead=> []
def SA.leaves(s:SA):SP:=s.1.flatMap aH.leaves++s.2.flatMap gT.leaves
def AS.leaves(s:AS):SP:=s.dW.flatMap aH.leaves++(s.ez.flatMap gT.leaves++s.news.flatMap (·.flatMap gT.leaves))
theorem du(ts:List Lf){st:Lf.Se ts->SA}(h:∀d,SA.leaves (st d)=Lf.mk ts d)(d d':Lf.Se ts)(e:st d=st d'):d=d':=Lf.mk_inj ts d d' (by rw[<-h,<-h,e])
theorem gJ(ts:List Lf){st:Lf.Se ts->AS}(h:∀d,AS.leaves (st d)=Lf.mk ts d)(d d':Lf.Se ts)(e:st d=st d'):d=d':=Lf.mk_inj ts d d' (by rw[<-h,<-h,e])
def Entry.dp{D X Y:Type}(params:List (Option Ty))(st:D->SA)(az:D->Prop)(add:D->Y->X)(F:D->Y)(out:X->aX):Entry:=Entry.of params st az (λd=>add d (F d)) out
def Xi{X Y:Type}(x:X⊕Y):Out (X⊕Y):= .br x.isLeft (.get x.getLeft? λa=> .ok (.inl a)) (.get x.getRight? λb=> .ok (.inr b))
theorem R9{X Y:Type}(x y:X⊕Y)(h:(Xi x).eval=some y):y=x:=by
 cases x <;> exact(cI h).symm
def Entry.Pu{D X X' Y:Type}(params:List (Option Ty))(st:D->SA)(az:D->Prop)(add:D->Y->X⊕X')(F:D->Y)(out:X⊕X'->aX):Entry:=
 {Entry.dp params st az add F out with sp:=Xi,N9:=R9}
theorem qq.Xj{P:Program}{f:FuncId}{D X X' Y:Type}{params:List (Option Ty)}{st:D->SA}{az:D->Prop}{add:D->Y->X⊕X'}{F:D->Y}{out:X⊕X'->aX}(h:qq P f (Entry.dp params st az add F out)):qq P f (Entry.Pu params st az add F out):=h
def cU.dp{D X Y:Type}(st:D->AS)(az:D->Prop)(add:D->Y->X)(F:D->Y)(out:X->Out (Exit×AS)):cU:=cU.of st az (λd=>add d (F d)) out
def bX{D:Type}(E:Entry)(st:D->SA):D->Option E.X:=λd=>E.run (st d).1 (st d).2
def eI{D:Type}(E:cU)(st:D->AS):D->Option E.X:=λd=>E.run (st d)
abbrev b8{D X Y:Type}(call:D->Option X)(az:D->Prop)(add:D->Y->X)(F:D->Y):Prop:=∀ {d:D},az d->call d=some (add d (F d))
theorem dv{D X Y:Type}{params:List (Option Ty)}{st:D->SA}{az:D->Prop}{add:D->Y->X}{F:D->Y}{out:X->aX}(Cd:∀d d',st d=st d'->d=d'):
  b8 (bX (Entry.dp params st az add F out) st) az add F:=λh=>Entry.zX Cd h
theorem QC{D X X' Y:Type}{params:List (Option Ty)}{st:D->SA}{az:D->Prop}{add:D->Y->X⊕X'}{F:D->Y}{out:X⊕X'->aX}(Cd:∀d d',st d=st d'->d=d'){d:D}(h:az d):
  (Entry.Pu params st az add F out).run (st d).1 (st d).2=some (add d (F d)):=dv (params:=params) (out:=out) Cd h
theorem gR{D X Y:Type}{st:D->AS}{az:D->Prop}{add:D->Y->X}{F:D->Y}{out:X->Out (Exit×AS)}(Cd:∀d d',st d=st d'->d=d'):
  b8 (eI (cU.dp st az add F out) st) az add F:=λh=>cU.zX Cd h
def S4(P:Program)(fn:Func):Bool:=P.follows .mixedOrders && fn.body.isSome && !(fn.name== "runtime.NumGoroutine")
def UY(fn:Func):Nat:=match fn.body with | some c=>(mP c).length | none=>0
theorem qq.fn{P:Program}{l:List (SG P)}{f:FuncId}{fn:Func}{an:fR}{N:Nat}{D X Y:Type}{params:List (Option Ty)}{st:D->SA}{az:D->Prop}{add:D->Y->X}{F:D->Y}{out:X->aX}(n:Nat)
  (hc:(P.funcs[f]?,S4 P fn,UY fn)=(some fn,true,n))
  (h:dn (@dm P (gr l) an N fn D st) az add F out)
  (hL:Sl P (gr l) an N fn n 0):qq P f (Entry.dp params st az add F out):=by
 injection hc with h1 h2
 injection h2 with h2 h3
 unfold S4 at h2
 simp only[ak,dI]at h2
 exact qq.of h2.1.1 (Sound.gr l) h1 h2.1.2 h2.2 (F2.fn n h3 hL) h
theorem LV.dp{P:Program}{Γ:fD}{an:fR}{N:Nat}{fn:Func}{i:Nat}{D X Y:Type}{st:D->AS}{az:D->Prop}{add:D->Y->X}{F:D->Y}{out:X->Out (Exit×AS)}
  (h:gz P Γ an N fn i st az add F out) (hle:an.jo (gf (pv fn i))=some (cU.dp st az add F out)):LV P Γ an N (pv fn i):=LV.of hle h
abbrev tu:Ty:=(.int .u64)
abbrev ti:Ty:=(.int .i64)
abbrev tb:Ty:=(.int .u8)
abbrev tB:Ty:=(.slice tb)
abbrev Bs:=(List Int)
abbrev tH:Ty:=(.arr 32 tb)
abbrev tU:Ty:=(.slice tu)
abbrev ir:Ty:=(.pair tH (.pair ti .unit))
abbrev iF:=(Bs×(Int×Unit))
abbrev Ak:Ty:=(.pair tu (.pair tu .unit))
abbrev Sg:=(Int×(Int×Unit))
abbrev OC:Ty:=(.pair ti (.pair (.slice Ak) (.pair tu .unit)))
abbrev Du:=(Int×((List Sg)×(Int×Unit)))
abbrev kW:Ty:=(.pair ir (.pair OC .unit))
abbrev kX:=(iF×(Du×Unit))
abbrev mC:Ty:=(.pair tU (.pair ti (.pair ti (.pair tu .unit))))
abbrev ov:=(Bs×(Int×(Int×(Int×Unit))))
abbrev qS:Ty:=(.pair (.slice mC) .unit)
abbrev Lk:=((List ov)×Unit)
abbrev lH:Ty:=(.pair ti (.pair qS .unit))
abbrev kI:=(Int×(Lk×Unit))
abbrev lS:Ty:=(.pair (.slice kW) (.pair (.slice lH) (.pair ti .unit)))
abbrev je:=((List kX)×((List kI)×(Int×Unit)))
end Go.Ab
namespace Go.Ab
theorem qW{n:Int}(h1: -9223372036854775808<=n)(h2:n<=9223372036854775807):IntKind.i64.wrap n=n:=by
 simp[IntKind.wrap,IntKind.bits,IntKind.signed]
 split <;> omega
theorem ff{x y:Int}(h1: -9223372036854775808<=x+y)(h2:x+y<=9223372036854775807):bV .i64 x y=x+y:=qW h1 h2
theorem gQ{x y:Int}(h1: -9223372036854775808<=x - y)(h2:x - y<=9223372036854775807):cY .i64 x y=x - y:=qW h1 h2
theorem na{x y:Int}(h1: -9223372036854775808<=x*y)(h2:x*y<=9223372036854775807):gY .i64 x y=x*y:=qW h1 h2
theorem o8{x:Int}(h1: -9223372036854775808<=x)(h2:x<=9223372036854775807):fa .i64 x=x:=qW h1 h2
def vw{n:Nat}(w:BitVec n):Int:=(w.toNat:Int)
theorem kP(n:Nat)(x:Int):vw (BitVec.ofInt n x)=x%((2^n:Nat):Int):=by
 unfold vw
 rw[pe]
 have:0<=x%((2^n:Nat):Int):=kU _ (by have:=Nat.two_pow_pos n;omega)
 omega
theorem Am{n:Nat}(w:BitVec n):0<=vw w:=pg _
theorem On{n:Nat}(w:BitVec n):vw w < ((2^n:Nat):Int):=by have:=w.isLt;unfold vw;omega
theorem qg{n:Nat}(w:BitVec n):BitVec.ofInt n (vw w)=w:=by
 apply BitVec.eq_of_toNat_eq
 have:=kP n (vw w)
 unfold vw at this ⊢
 have h:=w.isLt
 rw[jq (pg _) (by omega)]at this
 omega
theorem wrap_u32(x:Int):IntKind.u32.wrap x=vw (BitVec.ofInt 32 x):=by rw[kP];simp[IntKind.wrap,IntKind.bits,IntKind.signed]
theorem wrap_u64(x:Int):IntKind.u64.wrap x=vw (BitVec.ofInt 64 x):=by rw[kP];simp[IntKind.wrap,IntKind.bits,IntKind.signed]
theorem wrap_u8(x:Int):IntKind.u8.wrap x=vw (BitVec.ofInt 8 x):=by rw[kP];simp[IntKind.wrap,IntKind.bits,IntKind.signed]
theorem ofInt_add(n:Nat)(x y:Int):BitVec.ofInt n (x+y)=BitVec.ofInt n x+BitVec.ofInt n y:=BitVec.ofInt_add ..
theorem ua(x y:BitVec 32):bV .u32 (vw x) (vw y)=vw (x+y):=by rw[bV,wrap_u32,BitVec.ofInt_add,qg,qg]
theorem JW(x:Int):fa .u32 x=vw (BitVec.ofInt 32 x):=wrap_u32 x
theorem Fo(x:Int):fa .u64 x=vw (BitVec.ofInt 64 x):=wrap_u64 x
theorem Cj(x:Int):fa .u8 x=vw (BitVec.ofInt 8 x):=wrap_u8 x
theorem Nu{n:Nat}(x:BitVec n):BitVec.ofInt n ((x.toNat:Nat):Int)=x:=qg x
theorem oe(op:BinOp)(x y:BitVec 32):dD op .u32 (vw x) (vw y)=vw (match op with | .and=>x &&& y | .or=>x ||| y | .xor=>x^^^y | _=>x &&& ~~~y):=by
 unfold dD
 split <;> (simp only[IntKind.bits,qg,wrap_u32,Nu];rfl)
theorem KJ(op:BinOp)(x y:BitVec 64):dD op .u64 (vw x) (vw y)=vw (match op with | .and=>x &&& y | .or=>x ||| y | .xor=>x^^^y | _=>x &&& ~~~y):=by
 unfold dD
 split <;> (simp only[IntKind.bits,qg,wrap_u64,Nu];rfl)
theorem MM(x y:Nat):Int.fdiv (x:Int) (y:Int)=((x / y:Nat):Int):=by
 rw[lD _ (pg _)]
 rfl
theorem zf(k:Nat):(2:Int)^k=((2^k:Nat):Int):=by simp
theorem R5{n:Nat}(w:BitVec n)(k:Nat):Int.fdiv (vw w) (2^(min k n))=vw (w >>> k):=by
 rw[zf]
 unfold vw
 rw[MM,BitVec.toNat_ushiftRight,Nat.shiftRight_eq_div_pow]
 congr 1
 rcases Nat.le_total k n with hk | hk
 ·rw[jJ hk]
 ·rw[Nat.min_eq_right hk,Nat.div_eq_of_lt w.isLt,Nat.div_eq_of_lt]
  exact Nat.lt_of_lt_of_le w.isLt (Nat.pow_le_pow_right (by omega) hk)
theorem vV(w:BitVec 32)(k:Int):cX .u32 (vw w) k=vw (w >>> k.toNat):=R5 w k.toNat
theorem R4{n:Nat}(w:BitVec n)(k:Nat):BitVec.ofInt n (vw w*2^(min k n))=w <<< k:=by
 apply BitVec.eq_of_toNat_eq
 rw[pe,BitVec.toNat_shiftLeft,Nat.shiftLeft_eq]
 unfold vw
 rw[zf]
 have e:((w.toNat:Int)*((2^min k n:Nat):Int))=((w.toNat*2^min k n:Nat):Int):=by simp
 rw[e]
 have:(((w.toNat*2^min k n:Nat):Int)%((2^n:Nat):Int)).toNat=(w.toNat*2^min k n)%2^n:=by omega
 rw[this]
 rcases Nat.le_total k n with hk | hk
 ·rw[jJ hk]
 ·rw[Nat.min_eq_right hk,Nat.mul_mod_left]
  obtain⟨m,rfl⟩:=Nat.exists_eq_add_of_le hk
  rw[nG,<-Nat.mul_assoc,Nat.mul_right_comm,Nat.mul_mod_left]
theorem yC(w:BitVec 32)(k:Int):oC .u32 (vw w) k=vw (w <<< k.toNat):=by rw[oC,wrap_u32];congr 1;exact R4 w k.toNat
theorem bF{i n:Int}(h1:0<=i)(h2:i < n):fB i n=true:=by simp[fB,h1,h2]
theorem pZ{i n:Int}(h1:0<=i)(h2:i<=n):inc i n=true:=by simp[inc,h1,h2]
theorem bI{x y:Int}(h:x < y):jM x y=true:=by simp[jM,h]
theorem bp{x y:Int}(h:¬x < y):jM x y=false:=by simp[jM];omega
theorem vT{x y:Int}(h:x<=y):F6 x y=true:=by simp[F6,h]
theorem qC{x y:Int}(h:¬x<=y):F6 x y=false:=by simp[F6];omega
theorem fE{x y:Int}(h:x > y):sh x y=true:=by simp[sh];omega
theorem dY{x y:Int}(h:¬x > y):sh x y=false:=by simp[sh];omega
theorem la{x y:Int}(h:x>=y):qu x y=true:=by simp[qu];omega
theorem jg{x y:Int}(h:¬x>=y):qu x y=false:=by simp[qu];omega
theorem fA{x y:Int}(h:x=y):mV x y=true:=by simp[mV,h]
theorem fJ{x y:Int}(h:¬x=y):mV x y=false:=by simp[mV,h]
theorem jE{x y:Int}(h:¬x=y):tc x y=true:=by simp[tc,h]
theorem gZ{x y:Int}(h:x=y):tc x y=false:=by simp[tc,h]
theorem tj{x:Int}(h:0<=x):nr x=true:=by simp[nr,h]
theorem aM{p:Prop} [Decidable p] (h:p):decide p=true:=by simp[h]
theorem cq{p:Prop} [Decidable p] (h:¬p):decide p=false:=by simp[h]
theorem gk{n b:Nat}(h:n*b<=140737488355328)(h2:n<=9223372036854775807):fq n b=true:=by simp[fq,h,h2]
def from_{α:Type}(f:Nat->α->α)(t:Nat)(l:List α):List α:=l.mapIdx λi x=>if i < t then x else f i x
theorem wH{α:Type}(f:Nat->α->α)(l:List α)(t:Nat)(h:t < l.length):from_ f (t+1) (l.set t (f t l[t]))=from_ f t l:=by
 unfold from_
 apply List.ext_getElem (by simp)
 intro i h1 h2
 simp only[List.getElem_mapIdx,List.getElem_set]
 by_cases hi:t=i
 ·subst hi;simp
 ·simp only[if_neg hi]
  by_cases h3:i < t
  ·rw[if_pos (by omega),if_pos h3]
  ·rw[if_neg (by omega),if_neg h3]
theorem yu{α:Type}(f:Nat->α->α)(l:List α)(t:Nat)(h:l.length<=t):from_ f t l=l:=by
 unfold from_
 apply List.ext_getElem (by simp)
 intro i h1 h2
 simp only[List.getElem_mapIdx]
 rw[if_pos (by omega)]
theorem B5{α:Type}(f:Nat->α->α)(n:Nat)(x:α):from_ f 0 (List.replicate n x)=(List.range n).map λi=>f i x:=by
 unfold from_
 apply List.ext_getElem (by simp)
 intro i h1 h2
 simp
theorem dQ{t:Ty}{l:List t.den}{i:Nat}(h:i < l.length):nth t l i=l[i]:=by simp[nth,h]
end Go.Ab
namespace Go.Ab.N
section
variable {α:Type} {x y:Option α} {a b n:Nat} {i j:Int}
theorem lt:aJ (jM i j) x y=if i < j then x else y:=by unfold jM;split <;> rename_i h <;> simp[h]
theorem le:aJ (F6 i j) x y=if i<=j then x else y:=by unfold F6;split <;> rename_i h <;> simp[h]
theorem gt:aJ (sh i j) x y=if j < i then x else y:=by unfold sh;split <;> rename_i h <;> simp[h]
theorem ge:aJ (qu i j) x y=if j<=i then x else y:=by unfold qu;split <;> rename_i h <;> simp[h]
theorem eq:aJ (mV i j) x y=if i=j then x else y:=by
 by_cases h:i=j
 ·rw[fA h,if_pos h];rfl
 ·rw[fJ h,if_neg h];rfl
theorem ne:aJ (tc i j) x y=if i=j then y else x:=by
 by_cases h:i=j
 ·rw[gZ h,if_pos h];rfl
 ·rw[jE h,if_neg h];rfl
theorem ib:aJ (fB i j) x y=if 0<=i/\i < j then x else y:=by unfold fB;split <;> rename_i h <;> simp[h]
theorem ic:aJ (inc i j) x y=if 0<=i/\i<=j then x else y:=by unfold inc;split <;> rename_i h <;> simp[h]
theorem nn:aJ (nr i) x y=if 0<=i then x else y:=by unfold nr;split <;> rename_i h <;> simp[h]
theorem nz:aJ (mQ i) x y=if i=0 then y else x:=by unfold mQ;split <;> rename_i h <;> simp[h]
theorem dc{p:Prop} [Decidable p]:aJ (decide p) x y=if p then x else y:=by split <;> rename_i h <;> simp[h]
theorem rm:aJ (fq n b) x y=if n*b<=140737488355328/\n<=9223372036854775807 then x else y:=by unfold fq;exact dc
theorem an{c d:Bool}:aJ (c && d) x y=aJ c (aJ d x y) y:=by cases c <;> rfl
theorem or{c d:Bool}:aJ (c || d) x y=aJ c x (aJ d x y):=by cases c <;> rfl
theorem no{c:Bool}:aJ (!c) x y=aJ c y x:=by cases c <;> rfl
theorem Us(h:a+b<=9223372036854775807):bV .i64 (a:Int) (b:Int)=((a+b:Nat):Int):=by rw[ff (by omega) (by omega)];omega
theorem pF(h:a+OfNat.ofNat n<=9223372036854775807):bV .i64 (a:Int) (no_index (OfNat.ofNat n))=((a+OfNat.ofNat n:Nat):Int):=Us h
theorem WH(h:OfNat.ofNat n+a<=9223372036854775807):bV .i64 (no_index (OfNat.ofNat n)) (a:Int)=((OfNat.ofNat n+a:Nat):Int):=Us h
theorem UM(h:b<=a)(h2:a<=9223372036854775807):cY .i64 (a:Int) (b:Int)=((a - b:Nat):Int):=by rw[gQ (by omega) (by omega)];omega
theorem UL(h:OfNat.ofNat n<=a)(h2:a<=9223372036854775807):cY .i64 (a:Int) (no_index (OfNat.ofNat n))=((a - OfNat.ofNat n:Nat):Int):=UM h h2
theorem Xh(h:a<=OfNat.ofNat n)(h2:(OfNat.ofNat n:Nat)<=9223372036854775807):cY .i64 (no_index (OfNat.ofNat n)) (a:Int)=((OfNat.ofNat n - a:Nat):Int):=UM h h2
theorem UJ(h:a*b<=9223372036854775807):gY .i64 (a:Int) (b:Int)=((a*b:Nat):Int):=by
 have e:(a:Int)*(b:Int)=((a*b:Nat):Int):=by simp
 rw[na (by omega) (by omega),e]
theorem Xe(h:a*OfNat.ofNat n<=9223372036854775807):gY .i64 (a:Int) (no_index (OfNat.ofNat n))=((a*OfNat.ofNat n:Nat):Int):=UJ h
theorem UI(h:OfNat.ofNat n*a<=9223372036854775807):gY .i64 (no_index (OfNat.ofNat n)) (a:Int)=((OfNat.ofNat n*a:Nat):Int):=UJ h
theorem Wk(h:a<=9223372036854775807):qs .i64 (a:Int) (b:Int)=((a / b:Nat):Int):=by
 have:(a:Int).tdiv (b:Int)=((a / b:Nat):Int):=by rw[lE (by omega)];simp
 have hl:a / b<=a:=Nat.div_le_self a b
 unfold qs
 rw[this]
 generalize a / b=c at hl
 exact qW (by omega) (by omega)
theorem Xf(h:a<=9223372036854775807):qs .i64 (a:Int) (no_index (OfNat.ofNat n))=((a / OfNat.ofNat n:Nat):Int):=Wk h
theorem Wl:iN (a:Int) (b:Int)=((a%b:Nat):Int):=by
 unfold iN
 rw[jX (by omega)]
 simp
theorem Xg:iN (a:Int) (no_index (OfNat.ofNat n))=((a%OfNat.ofNat n:Nat):Int):=Wl
theorem cN(h:a<=9223372036854775807):fa .i64 (a:Int)=(a:Int):=o8 (by omega) (by omega)
theorem cL(h:(OfNat.ofNat n:Nat)<=9223372036854775807):fa .i64 (no_index (OfNat.ofNat n))=OfNat.ofNat n:=cN h
theorem tL:Int.toNat (no_index (OfNat.ofNat n))=OfNat.ofNat n:=rfl
end
end Go.Ab.N
namespace Go.Ab
section
variable {P:Program}
theorem MJ{E E':Env}(h1:E'.w=E.w)(h2:E'.g=E.g)(h3:E'.β=E.β)(h4:E'.s=E.s):E'=E:=by
 obtain⟨a,b,c,d⟩:=E
 obtain⟨a',b',c',d'⟩:=E'
 simp only at h1 h2 h3 h4
 subst h1 h2 h3 h4
 rfl
theorem vu.same{w:World}{g:Nat->nZ}{β:Id->Option Pl}{ez:List gT}{a:aH}{v:Value}(hv:VS ((oE ez).env w g β) a v)(ho:lO ((oE ez).env w g β)):
  vu ((oE ez).env w g β) ⟨a,ez,[]⟩ v w:=by
 have hE:(aX.st ⟨a,ez,[]⟩).env w g β=(oE ez).env w g β:=by
  refine MJ rfl rfl rfl ?_
  funext id
  cases id with
  |ew k=>rfl
  |new i j=>
   show([([]:List gT)].getD i [])[j]? =(([]:List (List gT)).getD i [])[j]?
   cases i <;> rfl
 refine⟨g,β,?_⟩
 rw[hE]
 exact⟨hv,ho,Trans.refl w g,ed.refl _⟩
theorem qq.extern{f:FuncId}{fn:Func}{e:Array Value->Sem Value}(hf:P.funcs[f]? =some fn)(vS:(fn.name== "runtime.NumGoroutine")=false)(hb:fn.body.isNone=true)(hn:Extern.findNext fn=none)(he:Extern.find fn=some e){en:Entry}
  (h:∀w g β args ez mS x,yg ((oE ez).env w g β) args mS->lO ((oE ez).env w g β)->en.run args ez=some x->∃v,(e mS.toArray).run P w= .ok v w/\vu ((oE ez).env w g β) (en.out args ez x) v w):qq P f en:=by
 intro w g β args ez mS x h1 h2 h3
 obtain⟨v,h4,h5⟩:=h w g β args ez mS x h1 h2 h3
 refine .inr ⟨v,w,?_,h5⟩
 rw[run_callFunc_extern hf vS hb hn he,h4]
 rfl
def Qw.E:Entry:= {params:=[none],X:=Unit,run:=λargs _=>match args with | [_]=>some () | _=>none,out:=λargs ez _=>⟨args.headD .undef,ez,[]⟩}
theorem Qw.of{f:FuncId}{fn:Func}(hf:P.funcs[f]? =some fn)(vS:(fn.name== "runtime.NumGoroutine")=false)(hb:fn.body.isNone=true)(hn:Extern.findNext fn=none)(he:Extern.find fn=some Extern.AbiNoEscape.same):qq P f Qw.E:=by
 refine qq.extern hf vS hb hn he λw g β args ez mS x h1 h2 h3=> ?_
 cases args with
 |nil=>cases h3
 |cons a as=>
  cases as with
  |cons _ _=>cases h3
  |nil=>
   cases mS with
   |nil=>exact h1.elim
   |cons v vs=>
    obtain⟨h4,h5⟩:=h1
    cases vs with
    |cons _ _=>exact h5.elim
    |nil=>exact⟨v,rfl,vu.same h4 h2⟩
theorem EH{w:World}:∀(xs:List Int) (a:Addr) (acc:ByteArray),(∀j x,xs[j]? =some x->w.cell? (a.add j)=some (.int .u8 x))->
  (Extern.Bytes.loadBytes a xs.length acc).run P w= .ok ⟨acc.data++(xs.map λn=>UInt8.ofNat n.toNat).toArray⟩ w
 |[],a,acc,_=>by simp[Extern.Bytes.loadBytes]
 |x::l,a,acc,h=>by
  have h0:w.cell? a=some (.int .u8 x):=by
   have:=h 0 x rfl
   simpa[Addr.add]using this
  have ih:=EH l (a.add 1) (acc.push x.toNat.toUInt8) (λj y hy=>by
   have:=h (j+1) y (by simpa using hy)
   have e:(a.add 1).add j=a.add (j+1):=by
    unfold Addr.add
    by_cases hj:j=0
    ·subst hj;simp
    ·simp[hj];omega
   rw[e];exact this)
  simp only[aO,Extern.Bytes.loadBytes,Sem.run_bind,run_load,h0,Result.andThen]
  rw[ih]
  congr 1
  apply ByteArray.ext
  simp[ByteArray.push]
theorem CY{E:Env}{l:List Int}{y:Value}(h:VS E (.d (.slice (.int .u8)) l) y):(Extern.Bytes.bytesOf y).run P E.w= .ok (kF l) E.w:=by
 obtain⟨a,cap,vs,rfl,_,hs,mZ,fI⟩:=qm h
 have Ch:=qV (k:= .u8) (vs:=vs) (l:=l) fI
 cases a with
 |none=>
  have hl:l=[]:=by
   cases l with
   |nil=>rfl
   |cons _ _=>simp at hs
  subst hl
  rfl
 |some ad=>
  have MY:=EH (P:=P) (w:=E.w) l ad .empty λj x hx=>by
   obtain⟨b,off,e,hh⟩:=mZ j (.int .u8 x) (by rw[Ch];simp[hx])
   have e:ad=⟨b,off,none⟩:=by simpa using e
   subst e
   have h1:=hh.1
   unfold Addr.add
   by_cases hj:j=0
   ·subst hj;simpa using h1
   ·simpa[hj]using h1
  show(Extern.Bytes.loadBytes ad l.length .empty).run P E.w=_
  rw[MY]
  congr 1
  apply ByteArray.ext
  simp[kF]
def Iv(a b:List Int):Int:=Extern.BytealgCompare.cmp (kF a) (kF b)
def JD.E:Entry:=Entry.of (D:=List Int×List Int) (X:=Int) [some (.slice (.int .u8)),some (.slice (.int .u8))] (λd=>([.d (.slice (.int .u8)) d.1,.d (.slice (.int .u8)) d.2],[])) (λ_=>True) (λd=>Iv d.1 d.2) (λx=>⟨.d (.int .i64) x,[],[]⟩)
theorem JD.inj:∀d d':List Int×List Int,(([aH.d (.slice (.int .u8)) d.1,aH.d (.slice (.int .u8)) d.2],([]:List gT)):List aH×List gT)=([.d (.slice (.int .u8)) d'.1,.d (.slice (.int .u8)) d'.2],[])->d=d':=by
 rintro⟨a,b⟩ ⟨a',b'⟩ h
 have e1:a=a':=PW (t:= .slice (.int .u8)) (congrArg (λs:List aH×List gT=>s.1.getD 0 .undef) h)
 have e2:b=b':=PW (t:= .slice (.int .u8)) (congrArg (λs:List aH×List gT=>s.1.getD 1 .undef) h)
 rw[e1,e2]
def JD.call:List Int×List Int->Option Int:=λd=>JD.E.run [.d (.slice (.int .u8)) d.1,.d (.slice (.int .u8)) d.2] []
theorem JD.run(d:List Int×List Int):JD.call d=some (Iv d.1 d.2):=Entry.zX (d:=d) JD.inj trivial
theorem JD.of{f:FuncId}{fn:Func}(hf:P.funcs[f]? =some fn)(vS:(fn.name== "runtime.NumGoroutine")=false)(hb:fn.body.isNone=true)(hn:Extern.findNext fn=none)(he:Extern.find fn=some Extern.BytealgCompare.compare):qq P f JD.E:=by
 refine qq.extern hf vS hb hn he λw g β args ez mS x h1 h2 h3=> ?_
 have hx:∃d:List Int×List Int,(([aH.d (.slice (.int .u8)) d.1,aH.d (.slice (.int .u8)) d.2],([]:List gT)):List aH×List gT)=(args,ez):=by
  by_cases hh:∃d:List Int×List Int,(([aH.d (.slice (.int .u8)) d.1,aH.d (.slice (.int .u8)) d.2],([]:List gT)):List aH×List gT)=(args,ez)
  ·exact hh
  ·exfalso
   have hn:JD.E.run args ez=none:=dif_neg λ⟨d,h,_⟩=>hh ⟨d,h⟩
   rw[hn]at h3
   cases h3
 obtain⟨d,hd⟩:=hx
 simp only[eN]at hd
 obtain⟨rfl,rfl⟩:=hd
 have hr:=JD.run d
 have hx:x=Iv d.1 d.2:=cI (h3.symm.trans hr)
 subst hx
 match mS,h1 with
 |[u,v],⟨h4,h5,_⟩=>
  refine⟨.int .i64 (Iv d.1 d.2),?_,vu.same (mJ _ _) h2⟩
  have e1:=CY (P:=P) h4
  have e2:=CY (P:=P) h5
  have e1:(Extern.Bytes.bytesOf u).run P w= .ok (kF d.1) w:=e1
  have e2:(Extern.Bytes.bytesOf v).run P w= .ok (kF d.2) w:=e2
  have Rj:Extern.BytealgCompare.compare [u,v].toArray=(do let a <-Extern.Bytes.bytesOf u;let b <-Extern.Bytes.bytesOf v;pure (goInt (Extern.BytealgCompare.cmp a b))):=rfl
  rw[Rj]
  simp[e1,e2,goInt,Iv]
def Ik{X Y:Type} [Inhabited Y] (x:Option X):Option (X×Y):=ah x λy=>some (y,default)
def ym{X Y:Type} [Inhabited X] (x:Option Y):Option (X×Y):=ah x λy=>some (default,y)
@[simp] theorem So{X Y:Type} [Inhabited Y] (x:X):Ik (Y:=Y) (some x)=some (x,default):=rfl
@[simp] theorem Sp{X Y:Type} [Inhabited X] (x:Y):ym (X:=X) (some x)=some (default,x):=rfl
def Entry.alt(p:List aH->List gT->Bool)(params:List (Option Ty)){X Y:Type} [Inhabited X] [Inhabited Y] (r1:List aH->List gT->Option X) (r2:List aH->List gT->Option Y) (o1:List aH->List gT->X->aX) (o2:List aH->List gT->Y->aX):Entry:=
 {params,X:=X×Y,run:=λa o=>match p a o with | true=>Ik (r1 a o) | false=>ym (r2 a o),out:=λa o x=>match p a o with | true=>o1 a o x.1 | false=>o2 a o x.2}
theorem qq.alt{f:FuncId}{p:List aH->List gT->Bool}{params:List (Option Ty)}{X Y:Type} [Inhabited X] [Inhabited Y] {r1:List aH->List gT->Option X} {r2:List aH->List gT->Option Y} {o1:List aH->List gT->X->aX} {o2:List aH->List gT->Y->aX}
  (h1:qq P f {params,X,run:=r1,out:=o1}) (h2:qq P f {params,X:=Y,run:=r2,out:=o2}):qq P f (Entry.alt p params r1 r2 o1 o2):=by
 intro w g β args ez mS x h3 h4 h5
 have h5:(match p args ez with | true=>Ik (r1 args ez) | false=>ym (r2 args ez))=some x:=h5
 cases hp:p args ez with
 |true=>
  rw[hp]at h5
  cases hr:r1 args ez with
  |none=>rw[hr]at h5;cases h5
  |some y=>
   rw[hr]at h5
   obtain rfl:(y,default)=x:=cI h5
   have:=h1 w g β args ez mS y h3 h4 hr
   have e:(Entry.alt p params r1 r2 o1 o2).out args ez (y,default)=o1 args ez y:=by show(match p args ez with | true=>o1 args ez y | false=>o2 args ez default)=_;rw[hp]
   rw[e]
   exact this
 |false=>
  rw[hp]at h5
  cases hr:r2 args ez with
  |none=>rw[hr]at h5;cases h5
  |some y=>
   rw[hr]at h5
   obtain rfl:(default,y)=x:=cI h5
   have:=h2 w g β args ez mS y h3 h4 hr
   have e:(Entry.alt p params r1 r2 o1 o2).out args ez (default,y)=o2 args ez y:=by show(match p args ez with | true=>o1 args ez default | false=>o2 args ez y)=_;rw[hp]
   rw[e]
   exact this
def RU:List aH->List gT->Bool:=λ_ ez=>match ez with | [_]=>true | _=>false
end
theorem S1:(type_of% @N.lt)/\(type_of% @N.le)/\(type_of% @N.gt)/\(type_of% @N.ge)/\(type_of% @N.eq)/\(type_of% @N.ne)/\(type_of% @N.ib)/\(type_of% @N.ic)/\(type_of% @N.nn)/\(type_of% @N.nz)/\(type_of% @N.dc)/\(type_of% @N.rm)/\(type_of% @N.an)/\(type_of% @N.or)/\(type_of% @N.no)/\(type_of% @ae)/\(type_of% @ai)/\(type_of% @ab):=⟨@N.lt,@N.le,@N.gt,@N.ge,@N.eq,@N.ne,@N.ib,@N.ic,@N.nn,@N.nz,@N.dc,@N.rm,@N.an,@N.or,@N.no,@ae,@ai,@ab⟩
theorem S2:(type_of% @ab)/\(type_of% @N.Us)/\(type_of% @N.pF)/\(type_of% @N.WH)/\(type_of% @N.UM)/\(type_of% @N.UL)/\(type_of% @N.Xh)/\(type_of% @N.UJ)/\(type_of% @N.Xe)/\(type_of% @N.UI)/\(type_of% @N.Wk)/\(type_of% @N.Xf)/\(type_of% @N.Wl)/\(type_of% @N.Xg)/\(type_of% @N.cN)/\(type_of% @N.cL)/\(type_of% @N.tL)/\(type_of% @aa)/\(type_of% @and_self)/\(type_of% @true_and)/\(type_of% @and_true):=⟨@ab,@N.Us,@N.pF,@N.WH,@N.UM,@N.UL,@N.Xh,@N.UJ,@N.Xe,@N.UI,@N.Wk,@N.Xf,@N.Wl,@N.Xg,@N.cN,@N.cL,@N.tL,@aa,@and_self,@true_and,@and_true⟩
end Go.Ab
end
