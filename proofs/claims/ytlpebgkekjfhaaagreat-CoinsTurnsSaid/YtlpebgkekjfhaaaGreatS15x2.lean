/-
  Made short by a program of mine (wip/tools/mini.py).
-/
import Derived.Test.YtlpebgkekjfhaaaGreatS15x1
import Derived.Lib.Builder
import Derived.Lib.UnsafeStr
import Derived.Lib.AppendZeros
import Derived.Maps.RangeRun
import Derived.Scope
set_option linter.unusedVariables false
set_option linter.unusedSimpArgs false
namespace Go.Ab
section
variable {P:Program} {C:Ctx} {g:Nat→gq} {β:Id→Option Pl} {s:AS} {a:Act} {w:World} {o:Oper}
theorem xM:∀(c:aq) (f off:Nat) (v:aq),partOf c f=some (off,v)→(loc c (fT f)).eval=some (off,v):=by
 intro c f
 induction f generalizing c with
 |zero=>
  intro off v h
  cases c with
  |d t y=>
   cases t <;> simp only[partOf,reduceCtorEq]at h
   simp only[Option.some.injEq,Prod.mk.injEq]at h
   obtain⟨rfl,rfl⟩:=h
   rfl
  |pr b c=>
   simp only[partOf,Option.some.injEq,Prod.mk.injEq]at h
   obtain⟨rfl,rfl⟩:=h
   simp only[fT,loc]
   cases b <;> rfl
  |_=>simp only[partOf,reduceCtorEq]at h
 |succ f ih=>
  intro off v h
  cases c with
  |d t y=>
   cases t with
   |pair ta tb=>
    simp only[partOf]at h
    cases hp:partOf (.d tb y.2) f with
    |none=>rw[hp]at h;cases h
    |some r=>
     rw[hp]at h
     simp only[Option.some.injEq,Prod.mk.injEq]at h
     obtain⟨rfl,rfl⟩:=h
     simp only[fT,loc,ai]
     exact⟨_,ih _ _ _ hp,rfl⟩
   |_=>simp only[partOf,reduceCtorEq]at h
  |pr b c=>
   simp only[partOf]at h
   cases hp:partOf c f with
   |none=>rw[hp]at h;cases h
   |some r=>
    rw[hp]at h
    simp only[Option.some.injEq,Prod.mk.injEq]at h
    obtain⟨rfl,rfl⟩:=h
    simp only[fT,loc,ai]
    exact⟨_,ih _ _ _ hp,rfl⟩
  |_=>simp only[partOf,reduceCtorEq]at h
theorem wj(a b:aq):(oE a b).agg=true:=by unfold oE;split <;> rfl
theorem sW{v x v':aq}{i:Nat}(h:(kS v (fT i) x).eval=some v'):v'.agg=true:=by
 have fin:∀ {o:Out aq} {f:aq→aq},(∀a,(f a).agg=true)→(o.bind fun a=>Out.ok (f a)).eval=some v'→v'.agg=true:=by
  intro o f hf hh
  obtain⟨_,_,h2⟩:=ai.1 hh
  obtain rfl:=aj.1 h2
  exact hf _
 cases i <;> simp only[fT]at h
 all_goals
  cases v with
  |d t y=>cases t <;> first | (simp only[kS,ae]at h;done) | (simp only[kS]at h;exact fin (fun _=>wj _ _) h)
  |pr b c=>simp only[kS]at h;exact fin (fun _=>wj _ _) h
  |_=>simp only[kS,ae]at h
theorem mw{E:Env}(hev:∀x,VS E (s.ev x) (a.eval x)){fs:Array Field}{places:Array (Nat×Nat)}(hpl:∀(i:Nat) (f:Field),fs[i]? =some f→places[i]? =some (f.offset,P.cellsOf f.type)):
  ∀(ps:List (Nat×Operand)) (v v':aq) (cells:Array Value),(gD P fs s ps v).eval=some v'→V E v cells.toList→v.agg=true→
   ∃cells',Instr.fill (places[·]?) cells (ps.map fun(i,x)=>(i,a.eval x))=some cells'∧V E v' cells'.toList∧v'.agg=true
 |[],v,v',cells,h,hV,hag=>by
  obtain rfl:=aj.1 h
  exact⟨cells,rfl,hV,hag⟩
 | (i,x)::ps,v,v',cells,h,hV,hag=>by
  simp only[gD]at h
  split at h
  ·rename_i f off cz hf hp
   obtain⟨h1,h2⟩:=av.1 h
   obtain⟨v1,h3,h4⟩:=ai.1 h2
   simp only[Bool.and_eq_true,beq_iff_eq]at h1
   obtain⟨⟨rfl,hfo⟩,hfx⟩:=h1
   obtain⟨hcel,_⟩:=hP hfx
   obtain⟨cs,hVx,hO⟩:=(hev x).dv hcel
   have hcells:=hO.cells hVx.one
   have hloc:=xM _ _ _ _ hp
   obtain⟨u1,u2,u3⟩:=gE (fT i) v cells.toList f.offset cz (s.ev x) v1 cs (VO.of hV) hloc hVx h3
   have hnv:v1.eB=false:=u3.iD hV.iD
   have hsz:P.cellsOf f.type=cs.length:=by rw[(mh hfx).2.1];exact hVx.size.symm
   obtain⟨cells',q1,q2,q3⟩:=mw hev hpl ps v1 v' (cn cells.toList f.offset cs).toArray h4 (by simpa using u2.to hnv) (sW h3)
   refine⟨cells',?_,q2,q3⟩
   rw[List.map_cons,tj (by rw[hpl i f hf,hsz]) hcells (by simpa using u1)]
   exact q1
  ·simp only[ae]at h
theorem wI{α γ:Type}(f:α→Sem γ)(r:α→γ):∀(l:List α),(∀x∈l,(f x).run P w= .ok (r x) w)→(l.mapM f).run P w= .ok (l.map r) w
 |[],_=>by simp
 |x::xs,h=>by
  rw[List.mapM_cons]
  simp only[Sem.run_bind,h x (by simp),Result.andThen_ok,wI f r xs (fun y hy=>h y (by simp[hy])),Sem.run_pure,List.map_cons]
theorem xk(h:Inv C g β s a w){T:TypeId}{parts:Array (Nat×Operand)}(ho:o.op= .build T parts){s':AS}(he:(mc P s o.dst T parts.toList).eval=some s'):dK P o a w (eJ C s'):=by
 unfold mc at he
 split at he
 ·rename_i fs hT
  split at he
  ·rename_i z hzo
   obtain⟨h1,h2⟩:=av.1 he
   obtain⟨v,h3,h4⟩:=ai.1 h2
   obtain rfl:=aj.1 h4
   simp only[Bool.and_eq_true,List.all_eq_true]at h1
   obtain⟨⟨hz,hag⟩,hinf⟩:=h1
   obtain⟨i,zv,hi,hzv,hV,hO⟩:=iY hz (s.env w g β)
   let places:Array (Nat×Nat):=fs.map fun f=>(f.offset,P.cellsOf f.type)
   have hpl:∀(i:Nat) (f:Field),fs[i]? =some f→places[i]? =some (f.offset,P.cellsOf f.type):=by
    intro i f hf
    simp[places,hf]
   obtain⟨cells',q1,q2,q3⟩:=mw (a:=a) h.ev hpl parts.toList z v zv.cells h3 hV hag
   have hm:(fs.mapM fun f=>(do pure (f.offset,←sizeOf f.type):Sem (Nat×Nat))).run P w= .ok places w:=by
    rw[Array.mapM_eq_mapM_toList]
    have:=wI (P:=P) (w:=w) (fun f=>(do pure (f.offset,←sizeOf f.type):Sem (Nat×Nat))) (fun f=>(f.offset,P.cellsOf f.type)) fs.toList (by
     intro f hf
     obtain⟨j,hj⟩:=Option.isSome_iff_exists.1 (hinf f hf)
     rw[Sem.run_bind,run_sizeOf hj,fH hj]
     rfl)
    rw[Sem.run_map,this]
    show Result.ok _ w=Result.ok _ w
    congr 1
    apply Array.ext'
    simp[places]
   refine h.value (x:= .agg cells') (VS.of q2 (by rw[q3];simp[dO])) (cE (f:=Instr.build T (parts.map fun(i,x)=>(i,a.eval x))) (by simp only[execOp,ho]) ?_)
   have q1':Instr.fill (places[·]?) zv.cells (parts.map fun(i,x)=>(i,a.eval x)).toList=some cells':=by rw[pz];exact q1
   simp only[Instr.build,Sem.run_bind,zeroValue,typeInfo,run_program,hi,Result.andThen_ok,Sem.run_pure,hzv,run_underlying hT,hm,q1']
  ·simp only[ae]at he
 ·rename_i n e hT
  split at he
  ·rename_i t ht
   obtain⟨h1,h2⟩:=av.1 he
   obtain⟨r,h3,h4⟩:=ai.1 h2
   obtain rfl:=aj.1 h4
   simp only[Bool.and_eq_true,beq_iff_eq]at h1
   obtain⟨hsz,hz⟩:=h1
   obtain⟨g1,i1,e1,t1,f1⟩:=ej r.2 h
   obtain⟨i,zv,hi,hzv,hV,hO⟩:=iY hz ((s.aR r.2).env w g1 β)
   simp only[V,bY]at hV
   obtain⟨cells',q1,q2⟩:=kQ (a:=a) rfl h.bj e1 h.ev parts.toList _ r zv.cells h3 f1 hV.2
   have hlr:r.1.length=n:=by
    have:∀(ps:List (Nat×Operand)) (l:List t.den) (r:List t.den×List Id),(eR t s ps l).eval=some r→r.1.length=l.length:=by
     intro ps
     induction ps with
     |nil=>intro l r hh;obtain rfl:=aj.1 hh;rfl
     |cons p ps ih=>
      intro l r hh
      obtain⟨i,x⟩:=p
      simp only[eR]at hh
      obtain⟨_,h2⟩:=av.1 hh
      obtain⟨y,h3,h4⟩:=ai.1 h2
      obtain⟨r',h5,h6⟩:=ai.1 h4
      obtain rfl:=aj.1 h6
      have:=ih _ _ h5
      simpa using this
    rw[this _ _ _ h3]
    simp
   refine .inl ⟨.agg cells',w,cE (f:=Instr.build T (parts.map fun(i,x)=>(i,a.eval x))) (by simp only[execOp,ho]) ?_,g1,β,i1.put o.dst ⟨cells'.toList,?_,by simp[dO,aq.agg,Ty.agg]⟩⟩
   ·have q1':Instr.fill (fun i=>some (i*t.size,t.size)) zv.cells (parts.map fun(i,x)=>(i,a.eval x)).toList=some cells':=by rw[pz];exact q1
    cases hie:P.info? e with
    |none=>
     exfalso
     unfold wX tQ at ht
     simp only[depth]at ht
     have:P.underlying e=none:=by simp[Program.underlying,hie]
     rw[this]at ht
     cases ht
    |some ie=>
     have hse:=run_sizeOf hie w
     rw[←fH hie,hsz]at hse
     simp only[Instr.build,Sem.run_bind,zeroValue,typeInfo,run_program,hi,Result.andThen_ok,Sem.run_pure,hzv,run_underlying hT,hse,q1']
   ·simp only[V,bY]
    exact⟨hlr,q2⟩
  ·simp only[ae]at he
 ·simp only[ae]at he
theorem pF{T X ty e:TypeId}{i:TypeInfo}(hT:P.underlying T=some (.slice e))(hX:P.underlying X=some .string∨∃e',P.underlying X=some (.slice e'))(hi:P.info? e=some i)
  {b sLen sCap:Nat} {cur:Array Value} (hg:w.heap[b]? =some (.cells cur e (0,0))) {x:Value} {n:Nat} {news:List Value} (h1:∀u∈news,u.oneCell'=true)
  (hlen:(Builtin.lenOf x).run P w= .ok n w) (hf:(Builtin.firstCells i.size n x).run P w= .ok news.toArray w) (hroom:sLen+n≤sCap) (hfit:sLen*i.size+news.length≤cur.size):
  (Builtin.append_ #[T,X] ty #[.slice (some ⟨b,0,none⟩) sLen sCap,x]).run P w= .ok (.slice (some ⟨b,0,none⟩) (sLen+n) sCap) (w.setRow b (cn cur.toList (sLen*i.size) news).toArray):=by
 have hst:=run_storeCells_at P b (sLen*i.size) e news 0 cur w hg (by simpa using hfit) h1
 simp only[Nat.add_zero]at hst
 rcases hX with hX | ⟨e',hX⟩ <;> simp[Builtin.append_,run_underlying hT,run_underlying hX,sizeOf,typeInfo,hi,hlen,hroom,hf,Addr.add_lit,hst,cn]
theorem lU{T X ty e:TypeId}{i:TypeInfo}(hT:P.underlying T=some (.slice e))(hX:P.underlying X=some .string∨∃e',P.underlying X=some (.slice e'))(hi:P.info? e=some i)
  {x:Value} (hlen:(Builtin.lenOf x).run P w= .ok 0 w) (hf:(Builtin.firstCells i.size 0 x).run P w= .ok #[] w):
  (Builtin.append_ #[T,X] ty #[.slice none 0 0,x]).run P w= .ok (.slice none 0 0) w:=by
 rcases hX with hX | ⟨e',hX⟩ <;> simp[Builtin.append_,run_underlying hT,run_underlying hX,sizeOf,typeInfo,hi,hlen,hf]
theorem pE{T X ty e:TypeId}{i:TypeInfo}{zv:Value}(hT:P.underlying T=some (.slice e))(hX:P.underlying X=some .string∨∃e',P.underlying X=some (.slice e'))(hi:P.info? e=some i)(hzv:i.zero=some zv)
  {ad:Option Addr} {sLen sCap:Nat} {ch:List Value} (ho:(Builtin.firstCells i.size sLen (.slice ad sLen sCap)).run P w.drew= .ok ch.toArray w.drew) {x:Value} {n:Nat} {news:List Value}
  (hlen:(Builtin.lenOf x).run P w= .ok n w) (hf:(Builtin.firstCells i.size n x).run P w.drew= .ok news.toArray w.drew) (hroom:sCap < sLen+n)
  (h63:((sLen+n:Nat):Int)≤9223372036854775807) (hfit:(sLen+n)*i.bytes≤140737488355328):
  (Builtin.append_ #[T,X] ty #[.slice ad sLen sCap,x]).run P w= .ok (.slice (some ⟨w.heap.size,0,none⟩) (sLen+n) (grownCap w (sLen+n) sCap e))
   (w.drew.alloc (.cells (ch.toArray++news.toArray++Builtin.zeroCells zv.cells (grownCap w (sLen+n) sCap e - (sLen+n))) e)):=by
 have hn:¬(sLen+n≤sCap):=by omega
 have h63':¬(9223372036854775807 < ((sLen:Int)+(n:Int))):=by omega
 have hfit':=growslice_fits (bytes:=i.bytes) hroom hfit
 have h48':¬(281474976710656 < Builtin.nextslicecap (sLen+n) sCap*i.bytes):=by omega
 rcases hX with hX | ⟨e',hX⟩
 all_goals
  simp[Builtin.append_,run_underlying hT,run_underlying hX,sizeOf,typeInfo,zeroValue,hi,hzv,hlen,hn,h63',h48',Question.forced,hf,ho,newRow,grownCap]
  congr 2
  apply Array.ext'
  simp[List.append_assoc]
end
end Go.Ab
namespace Go.Ab
section
variable {P:Program} {C:Ctx} {g:Nat→gq} {β:Id→Option Pl} {s:AS} {a:Act} {w:World} {o:Oper}
theorem Bw(h:Inv C g β s a w){v:aq}{y:Value}(hv:VS (s.env w g β) v y){t:Ty}{m:List t.den}(he:(s.xN (.slice t) v).eval=some m):
  ∃ad cap vs,y= .slice ad m.length cap∧(0 < m.length→ad.isSome=true)∧(∀j u,vs[j]? =some u→∃bb off,ad=some ⟨bb,off,none⟩∧w.cell? ⟨bb,off+j,none⟩=some u)∧aP (bY (s.env w g β) t) vs m:=by
 have hp:(s.eL (.slice t) v).eval=some m:=he
 cases v <;> first | (simp only[AS.eL,ae]at hp;done) | skip
 case dq=>
  simp only[AS.eL,aj]at hp
  subst hp
  exact⟨none,0,[],fk hv,by simp,fun j u hj=>by simp at hj,rfl⟩
 case d t' x=>
  simp only[AS.eL]at hp
  have hp:=fc.1 hp
  have ha:(aq.d t' x).agg=false:=te hp
  have hV:=hv.single rfl ha
  simp only[V]at hV
  have hv:VS (s.env w g β) (.d (.slice t) m) y:=VS.of (cs:=[y]) (by simp only[V];exact lq hp hV) rfl
  obtain⟨ad,cap,vs,hy,_,hs,hr,hc⟩:=iG hv
  exact⟨ad,cap,vs,hy,hs,fun j u hj=>let⟨bb,off,e,hh⟩:=hr j u hj;⟨bb,off,e,hh.1⟩,hc⟩
 case bt id ver p c i len=>
  simp only[AS.eL]at hp
  obtain⟨⟨n,t',l⟩,h1,h2⟩:=ai.1 hp
  obtain⟨h3,h4⟩:=ba.1 h2
  obtain⟨hml,hmc⟩:=zi (E:=s.env w g β) (fc.1 h4)
  rw[hml]
  simp only[decide_eq_true_eq]at h3
  obtain⟨hc,hlen⟩:=h3
  suffices hg:∃ad cap vs,y= .slice ad (cut l i len).length cap∧(0 < (cut l i len).length→ad.isSome=true)∧(∀j u,vs[j]? =some u→∃bb off,ad=some ⟨bb,off,none⟩∧w.cell? ⟨bb,off+j,none⟩=some u)∧aP (bY (s.env w g β) t') vs (cut l i len) by
   obtain⟨ad,cap,vs,e1,e2,e3,e4⟩:=hg
   exact⟨ad,cap,vs,e1,e2,e3,hmc _ e4⟩
  obtain⟨fr,c0,hent,hrow⟩:=pD rfl h.bj h1
  obtain⟨ad,cap,hy,hle,hsome,hb,hcur⟩:=gW hv
  have hcur:=hcur ⟨fr,c0,hent⟩
  have hxl:(cut l i len).length=len:=lr hlen
  rcases hrow with⟨hp,hl,_⟩ | ⟨pl,cur,e,hp,hh,hsz,hch,hbound⟩
  ·rw[hp]at hcur
   simp only at hcur
   obtain⟨rfl,rfl,rfl⟩:=hcur
   have:cut l i 0=[]:=by simp[cut]
   refine⟨none,0,[],by rw[hxl];exact hy,by rw[hxl];omega,fun _ _ hh=>by simp at hh,?_⟩
   rw[this];rfl
  ·rw[hp]at hcur
   simp only at hcur
   have hmul:(i+len)*t'.size≤l.length*t'.size:=Nat.mul_le_mul_right _ hlen
   rw[Nat.add_mul]at hmul
   refine⟨ad,cap,_,by rw[hxl];exact hy,by rw[hxl];exact hsome,?_,nr hch i len⟩
   rw[rO _ _ _ _ _ hmul]
   intro j v hj
   rw[List.getElem?_take]at hj
   split at hj
   ·rename_i hjl
    rw[List.getElem?_drop,hc]at hj
    have hlp:0 < len:=by
     rcases Nat.eq_zero_or_pos len with h0 | h0
     ·subst h0;simp at hjl
     ·exact h0
    refine⟨pl.b,c,hcur.1 (.inl hlp),?_⟩
    have hh':w.heap[pl.b]? =some (.cells cur e (0,0)):=hh
    rw[cell_of_row w pl.b (c+j) cur e (0,0) hh']
    simpa using hj
   ·cases hj
theorem pU(h:Inv C g β s a w){t:Ty}{X:TypeId}{x:aq}{y:Value}(hx:VS (s.env w g β) x y){m:List t.den}(he:(mm P s t X x).eval=some m):
  (P.underlying X=some .string∨∃e',P.underlying X=some (.slice e'))∧∃news:List Value,aP (bY (s.env w g β) t) news m∧(Builtin.lenOf y).run P w= .ok m.length w∧
   ∀w',w'.heap=w.heap→(Builtin.firstCells t.size m.length y).run P w'= .ok news.toArray w':=by
 have sl:∀(x:aq),VS (s.env w g β) x y→(match P.underlying X with
   |some (.slice _)=>s.xN (.slice t) x
   |_=> .fail).eval=some m→(P.underlying X=some .string∨∃e',P.underlying X=some (.slice e'))∧∃news:List Value,aP (bY (s.env w g β) t) news m∧(Builtin.lenOf y).run P w= .ok m.length w∧
   ∀w',w'.heap=w.heap→(Builtin.firstCells t.size m.length y).run P w'= .ok news.toArray w':=by
  intro x hx he
  split at he
  ·rename_i e' hX
   refine⟨.inr ⟨e',hX⟩,?_⟩
   obtain⟨ad,cap,vs,rfl,hsome,hrow,hch⟩:=Bw h hx he
   have hlen:=aP.length (fun _ _ hx=>bY.size hx) hch
   refine⟨vs,hch,rfl,fun w' hw'=> ?_⟩
   cases ad with
   |none=>
    have hm0:m.length=0:=by
     rcases Nat.eq_zero_or_pos m.length with h0 | h0
     ·exact h0
     ·have:=hsome h0;simp at this
    have:vs=[]:=List.eq_nil_of_length_eq_zero (by rw[hlen,hm0,Nat.zero_mul])
    subst this
    rfl
   |some ad=>
    refine run_firstCells_some (P:=P) w' t.size _ ad _ _ vs hlen (fun j v hj=> ?_)
    obtain⟨bb,off,e1,hh⟩:=hrow j v hj
    simp only[Option.some.injEq]at e1
    subst e1
    rw[Addr.add_lit]
    simpa[World.cell?,hw']using hh
  ·simp only[ae]at he
 unfold mm at he
 split at he
 ·rename_i st
  split at he
  ·rename_i hX
   refine⟨.inl hX,?_⟩
   obtain⟨e,hm⟩:=eV (fc.1 he)
   have e':Ty.int .u8=t:=by simpa using e
   subst e'
   simp only at hm
   subst hm
   have hy:=mA hx
   subst hy
   have hlen:(bp st).length=st.size:=by simp only[bp,List.length_map,Array.length_toList];rfl
   refine⟨(bp st).map (Value.int .u8),jh _,by rw[hlen];rfl,fun w' _=> ?_⟩
   rw[hlen]
   simp only[Builtin.firstCells,Sem.run_pure]
   congr 1
   apply Array.ext'
   rw[ByteArray.extract_zero_size]
   simp[bp]
  ·simp only[ae]at he
 ·exact sl _ hx he
theorem kj(z:Array Value)(n:Nat):(Builtin.zeroCells z n).size=n*z.size:=by simp[Builtin.zeroCells]
theorem zj(h:Inv C g β s a w){c:Call}{x y:Operand}{T X:TypeId}(ho:o.op= .call c)(hc:c.callee= .builtin .copy)(ha:c.args.toList=[x,y])(ht:c.argTypes.toList=[T,X]){s':AS}
  (he:(qQ P s o.dst T X (s.ev x) (s.ev y)).eval=some s'):dK P o a w (eJ C s'):=by
 obtain⟨cal,args,tys⟩:=c
 simp only at hc ha ht
 have ha':args= #[x,y]:=by apply Array.ext';simpa using ha
 have ht':tys= #[T,X]:=by apply Array.ext';simpa using ht
 subst hc ha' ht'
 have hx:=h.ev x
 have hy:=h.ev y
 have fin:∀z w',(Builtin.copy_ #[T,X] 0 #[a.eval x,a.eval y]).run P w= .ok z w'→(∃g' β',Inv C g' β' s' (a.put o.dst z) w')→dK P o a w (eJ C s'):=by
  intro z w' h1 h2
  refine .inl ⟨z,w',kG ho (f:=Builtin.copy_ #[T,X] 0 #[a.eval x,a.eval y]) (fun ty cs xs hxs=> ?_) h1,h2⟩
  subst hxs
  have e1:Builtin.copy_ #[T,X] 0 #[a.eval x,a.eval y]=Builtin.copy_ #[T,X] ty #[a.eval x,a.eval y]:=rfl
  rw[e1]
  simp[builtin]
 unfold qQ at he
 split at he
 ·rename_i e t b id ver len hel hxs
  obtain⟨hT,hz,i,zv,hi,his,hib,hzv,hzr⟩:=kI hel
  obtain⟨m,hm,he⟩:=ai.1 he
  obtain⟨hX,news,hch,hlen,hfc⟩:=pU h hy hm
  have hnl:=hch.length (fun _ _ hx=>bY.size hx)
  have h1news:∀u∈news,u.oneCell'=true:=aP.all (fun _ _ hx=>hx.one) hch
  rw[←his]at hfc
  split at he
  ·rename_i ve n t' l hob
   obtain⟨h1,he1⟩:=av.1 he
   simp only[Bool.and_eq_true,beq_iff_eq]at h1
   obtain⟨hve,hln⟩:=h1
   subst hve hln
   obtain⟨l',hl',he2⟩:=ai.1 he1
   obtain⟨et,hl'⟩:=eV (fc.1 hl')
   have et':t'=t:=by simpa using et
   subst et'
   simp only at hl'
   subst hl'
   obtain⟨hml,he3⟩:=ba.1 he2
   have hml:m.length≤len:=by simpa using hml
   obtain rfl:=aj.1 he3
   have hent:=da hob
   rw[hxs]at hx
   obtain⟨ad,cap,hxv,hlc,hsome,hbnd,hcur⟩:=gW hx
   have hcur:=hcur ⟨false,_,hent⟩
   obtain⟨pl,cur,e0,hp,hh,hg,hk,hV⟩:=(h.bj id ve false _ hent).box rfl
   have hp:β id=some pl:=hp
   have hh:w.heap[pl.b]? =some (.cells cur e0 (0,0)):=hh
   have hg:g pl.b= .own (.id id) 0:=hg
   have hcur':(match β id with
    |some pl=>(0 < len∨0=0→ad=some ⟨pl.b,0,none⟩)∧(([.arr]:List nk)=[]→0=0→cap=pl.cap)
    |none=>ad=none∧len=0∧cap=0):=hcur
   rw[hp]at hcur'
   simp only at hcur'
   have had:=hcur'.1 (.inr trivial)
   subst had
   have hV:V (s.env w g β) (.d (.arr len t') l) (cur.toList.take cur.size):=hV
   rw[←Array.length_toList,List.take_length]at hV
   simp only[V,bY]at hV
   obtain⟨hll,hVc⟩:=hV
   have hcl:=hVc.length (fun _ _ hx=>bY.size hx)
   have hfit:news.length≤cur.size:=by
    rw[hnl]
    have:cur.size=l.length*t'.size:=by simpa using hcl
    rw[this,hll]
    exact Nat.mul_le_mul_right _ hml
   have hst:=run_storeCells_at P pl.b 0 e0 news 0 cur w hh (by simpa using hfit) h1news
   have hrun:(Builtin.copy_ #[T,X] 0 #[a.eval x,a.eval y]).run P w= .ok (goInt m.length) (w.setRow pl.b (cn cur.toList 0 news).toArray):=by
    have hmin:Nat.min m.length len=m.length:=Nat.min_eq_left hml
    rw[hxv]
    simp only[Nat.add_zero,Nat.zero_add]at hst
    simp[Builtin.copy_,run_underlying hT,hlen,sizeOf,typeInfo,hi,hmin,hfc w rfl,hst,cn]
   have htr:=Trans.setRow w hg (cn cur.toList 0 news).toArray
   have hle:bH (s.env w g β) ((s.aI id (.obj ve false (.d (.arr len t') (m++l.drop m.length)))).env (w.setRow pl.b (cn cur.toList 0 news).toArray) g β):=bH.aI hent (Nat.le_refl _) htr (fun _ _=>rfl) (fun _=>rfl)
   have i1:=h.step (cj _ _ _) htr hle (e7.aI (hlk:=gA hent fun k v1 l e=>by cases e) h.bj (by rw[hent];simp) hle (fun _ _=>rfl) (fun i ver fr c pl2 hi hs2 hp2=>⟨setRow_other w pl.b pl2.b _ (h.apart hg hi hs2 hp2),rfl⟩) (o9.obj ⟨pl,_,e0,hp,setRow_heap w pl.b cur _ e0 (0,0) hh,hg,trivial,by
    show V _ (.d (.arr len t') (m++l.drop m.length)) ((cn cur.toList 0 news).toArray.toList.take (cn cur.toList 0 news).toArray.size)
    rw[←Array.length_toList,List.take_length]
    simp only[V,bY]
    refine⟨by rw[List.length_append,List.length_drop];omega,?_⟩
    have e2:cn cur.toList 0 news=news++cur.toList.drop (m.length*t'.size):=by
     simp[cn,hnl]
    have q:aP (bY (s.env w g β) t') (cn cur.toList 0 news) (m++l.drop m.length):=by
     rw[e2]
     exact aP.append hch (aP.drop (fun _ _ hx=>bY.size hx) m.length hVc)
    exact q.mono fun _ _ hx=>hx.mono hle.mem⟩))
   exact fin _ _ hrun ⟨g,β,i1.put o.dst ⟨[.int .i64 (m.length:Int)],by simp only[V,bY],rfl⟩⟩
  ·exact(ae.1 he).elim
 ·exact(ae.1 he).elim
theorem vn(h:Inv C g β s a w){c:Call}{x y:Operand}{T X:TypeId}(ho:o.op= .call c)(hc:c.callee= .builtin .append)(ha:c.args.toList=[x,y])(ht:c.argTypes.toList=[T,X]){s':AS}
  {nl dt:Bool} (he:(jI P s nl dt o.dst T X (s.ev x) (s.ev y)).eval=some s'):dK P o a w (eJ C s'):=by
 obtain⟨cal,args,tys⟩:=c
 simp only at hc ha ht
 have ha':args= #[x,y]:=by apply Array.ext';simpa using ha
 have ht':tys= #[T,X]:=by apply Array.ext';simpa using ht
 subst hc ha' ht'
 have hx:=h.ev x
 have hy:=h.ev y
 have fin:∀z w',(Builtin.append_ #[T,X] 0 #[a.eval x,a.eval y]).run P w= .ok z w'→(∃g' β',Inv C g' β' s' (a.put o.dst z) w')→dK P o a w (eJ C s'):=by
  intro z w' h1 h2
  refine .inl ⟨z,w',kG ho (f:=Builtin.append_ #[T,X] 0 #[a.eval x,a.eval y]) (fun ty cs xs hxs=> ?_) h1,h2⟩
  subst hxs
  have e1:Builtin.append_ #[T,X] 0 #[a.eval x,a.eval y]=Builtin.append_ #[T,X] ty #[a.eval x,a.eval y]:=rfl
  rw[e1]
  simp[builtin]
 unfold jI at he
 split at he
 ·rename_i e t b q hel hd
  obtain⟨hT,hz,i,zv,hi,his,hib,hzv,hzr⟩:=gN hel
  obtain⟨m,hm,he⟩:=ai.1 he
  obtain⟨hX,news,hch,hlen,hfc⟩:=pU h hy hm
  have hnl:=hch.length (fun _ _ hx=>bY.size hx)
  have h1news:∀u∈news,u.oneCell'=true:=aP.all (fun _ _ hx=>hx.one) hch
  rw[←his]at hfc
  have hzc:zv.cells.size=t.size:=by have:=(hzr (s.env w g β)).size;simpa using this
  have hzcc:∀n,(Builtin.zeroCells zv.cells n).size=n*t.size:=fun n=>by rw[kj,hzc]
  have grow:∀(ad:Option Addr) (sLen sCap:Nat) (ch:List Value) (l0:List t.den),a.eval x= .slice ad sLen sCap→ch.length=sLen*t.size→l0.length=sLen→aP (bY (s.env w g β) t) ch l0→
    (Builtin.firstCells i.size sLen (.slice ad sLen sCap)).run P w.drew= .ok ch.toArray w.drew→sCap < sLen+m.length→dr (sLen+m.length) b=true→
    ∃(cur:Array Value) (cap:Nat),(Builtin.append_ #[T,X] 0 #[a.eval x,a.eval y]).run P w= .ok (.slice (some ⟨w.heap.size,0,none⟩) (sLen+m.length) cap) (w.drew.alloc (.cells cur e))∧
     cur.size=cap*t.size∧sLen+m.length≤cap∧cap≤maxLen∧cur.toList.take ((sLen+m.length)*t.size)=ch++news:=by
   intro ad sLen sCap ch l0 hxv hlo hl0 hco hfo hroom hra
   simp only[dr,decide_eq_true_eq]at hra
   have hr:=pE (P:=P) (w:=w) (ty:=0) hT hX hi hzv hfo hlen (hfc w.drew rfl) hroom (by omega) (by rw[hib];exact hra.1)
   rw[hxv]
   refine⟨_,_,hr,?_,grownCap_ge _ _ _ _,grownCap_le_maxLen _ _ _ _ (by unfold maxLen;omega),?_⟩
   ·have hge:=grownCap_ge w (sLen+m.length) sCap e
    simp only[Array.size_append,List.size_toArray,hzcc,hlo,hnl,←Nat.add_mul]
    congr 1
    omega
   ·have hl2:(ch++news).length=(sLen+m.length)*t.size:=by rw[List.length_append,hlo,hnl,Nat.add_mul]
    simp only[Array.toList_append]
    rw[←hl2]
    exact List.take_left
  split at he
  ·rename_i hxn
   rw[hxn]at hx
   have hxv:=fk hx
   cases dt with
   |true=>
    simp only at he
    obtain⟨hra,he⟩:=ba.1 he
    obtain rfl:=aj.1 he
    simp only[Bool.and_eq_true,decide_eq_true_eq]at hra
    obtain⟨hra,hm0⟩:=hra
    obtain⟨cur,cap,hr,q1,q2,q3,q4⟩:=grow none 0 0 [] [] hxv (by simp) rfl rfl rfl (by omega) (by simpa using hra)
    simp only[Nat.zero_add,List.nil_append]at hr q2 q4
    have hch1:aP (bY (s.env w.drew g β) t) news m:=hch.mono fun _ _ hx=>hx.mono (bH.same (s:=s) (β:=β) (Trans.drew w g)).mem
    refine fin _ _ hr ⟨gH g w.heap.size .free,β,(h.drew.mD (.cells cur e)).put o.dst ⟨[.slice (some ⟨w.heap.size,0,none⟩) m.length cap],?_,rfl⟩⟩
    simp only[V,bY]
    refine⟨fun h0=>(by cases h0),fun m' hm'=> ?_⟩
    obtain rfl:m=m':=Option.some.inj hm'
    refine⟨_,cap,cur.toList.take (m.length*t.size),rfl,q2,fun _=>rfl,fun j v hj=>⟨_,_,rfl,?_,?_⟩,?_⟩
    ·show(w.drew.alloc (.cells cur e)).cell? ⟨w.drew.heap.size,0+j,none⟩=some v
     rw[World.cell?_alloc_new,Nat.zero_add]
     rw[List.getElem?_take]at hj
     split at hj
     ·simpa using hj
     ·cases hj
    ·show iO (gH g w.heap.size .free) w.heap.size (0+j)
     unfold iO;rw[dM];trivial
    ·rw[q4]
     exact hch1.mono fun _ _ hx=>hx.mono (Trans.mem (E:=s.env w.drew g β) (E':=s.env (w.drew.alloc (.cells cur e)) (gH g w.drew.heap.size .free) β) (Trans.alloc w.drew g (.cells cur e) .free))
   |false=>
   simp only at he
   obtain⟨hq,he⟩:=av.1 he
   obtain⟨hra,he⟩:=ba.1 he
   obtain rfl:=aj.1 he
   by_cases hm0:m.length=0
   ·have hmn:m=[]:=List.eq_nil_of_length_eq_zero hm0
    subst hmn
    have hnn:news=[]:=List.eq_nil_of_length_eq_zero (by rw[hnl];simp)
    subst hnn
    obtain⟨β',i1,e1,v1⟩:=h.Bm hq (e:=e) hz
    refine fin (.slice none 0 0) w ?_ ⟨g,β',?_⟩
    ·rw[hxv]
     exact lU (P:=P) hT hX hi hlen (hfc w rfl)
    ·exact i1.put o.dst v1
   ·obtain⟨cur,cap,hr,q1,q2,q3,q4⟩:=grow none 0 0 [] [] hxv (by simp) rfl rfl rfl (by omega) (by simpa using hra)
    simp only[Nat.zero_add,List.nil_append]at hr q2 q4
    obtain⟨g2,β2,i2,v2⟩:=(h.drew).uH hq (e:=e) (l:=m) (cur:=cur) (cap:=cap) hz (by rw[q4];exact hch.mono fun _ _ hx=>hx.mono (bH.same (s:=s) (β:=β) (Trans.drew w g)).mem) q1 q2 q3
    refine fin _ _ hr ⟨g2,β2,?_⟩
    exact i2.put o.dst v2
  ·rename_i id ver len hxs
   rw[hxs]at hx
   obtain⟨ad,cap,hxv,hlc,hsome,hbnd,hcur⟩:=gW hx
   split at he
   ·rename_i v fr e' t' l hob
    obtain⟨h1,he1⟩:=av.1 he
    clear he
    simp only[Bool.and_eq_true,beq_iff_eq]at h1
    obtain⟨hve,hee⟩:=h1
    subst hve hee
    obtain⟨l',hl',he2⟩:=ai.1 he1
    obtain⟨et,hl'⟩:=eV (fc.1 hl')
    have et':t'=t:=by simpa using et
    subst et'
    simp only at hl'
    subst hl'
    obtain⟨hll0,he2b⟩:=ba.1 he2
    have hll0:len≤l.length:=by simpa using hll0
    obtain⟨hfl,he3⟩:=ba.1 he2b
    obtain⟨hra,he4⟩:=ba.1 he3
    obtain rfl:=aj.1 he4
    clear he1 he2 he2b he3 he4
    have hent:=da hob
    have hcur:=hcur ⟨fr,_,hent⟩
    obtain⟨_,hO⟩:=h.bj id v fr _ hent
    have hO':(match β id with
     |none=>l=[]
     |some pl=>∃cur k,w.heap[pl.b]? =some (.cells cur e (0,0))∧cur.size=pl.cap*t'.size∧l.length≤pl.cap∧pl.cap≤maxLen∧g pl.b= .own (.id id) k∧
       k≤l.length*t'.size∧(fr=false→k=0)∧aP (bY (s.env w g β) t') (cur.toList.take (l.length*t'.size)) l):=hO
    have hcur':(match β id with
     |some pl=>(0 < len∨0=0→ad=some ⟨pl.b,0,none⟩)∧(([]:List nk)=[]→0=0→cap=pl.cap)
     |none=>ad=none∧len=0∧cap=0):=hcur
    have hfr:fr=false∨len=l.length:=by
     simp only[Bool.or_eq_true,Bool.not_eq_true',decide_eq_true_eq]at hfl
     exact hfl
    have hne:s.bk id≠none:=by rw[hent];simp
    have fresh:∀(cur:Array Value) (cp:Nat) (g0:Nat→gq),Trans w (w.drew.alloc (.cells cur e)) g (gH g0 w.heap.size (.own (.id (id)) 0))→
      (∀i ver fr c pl,i≠id→s.bk i=some (.obj ver fr c)→β i=some pl→g0 pl.b=g pl.b)→cur.size=cp*t'.size→len+m.length≤cp→cp≤maxLen→
      aP (bY (s.env w g β) t') (cur.toList.take ((len+m.length)*t'.size)) (l.take len++m)→len≤l.length→
      ∃g' β',Inv C g' β' ((s.aI id (.obj (v+1) fr (.vec e t' (l.take len++m)))).put o.dst (.bt id (v+1) [] 0 0 (len+m.length))) (a.put o.dst (.slice (some ⟨w.heap.size,0,none⟩) (len+m.length) cp)) (w.drew.alloc (.cells cur e)):=by
     intro cur cp g0 ht hg0 q1 q2 q3 q4 q5
     have hll:(l.take len++m).length=len+m.length:=by simp;omega
     have hle:bH (s.env w g β) ((s.aI id (.obj (v+1) fr (.vec e t' (l.take len++m)))).env (w.drew.alloc (.cells cur e)) (gH g0 w.heap.size (.own (.id id) 0)) (mY β id (some ⟨w.heap.size,cp⟩))):=
      bH.aI hent (by omega) ht (fun i hi=>kh _ _ _ hi) (fun hh=>by omega)
     have i1:=h.step (cj _ _ _) ht hle (e7.aI (hlk:=gA hent fun k v1 l e=>by cases e) h.bj hne hle (fun i hi=>kh _ _ _ hi) (fun i ver fr' c' pl hi hs2 hp2=>by
       have hlt:pl.b < w.heap.size:=((h.bj i ver fr' c' hs2).label (pl:=pl) hp2).1
       exact⟨jf w.drew _ hlt,by rw[dL _ _ _ (by omega)];exact hg0 i ver fr' c' pl hi hs2 hp2⟩) (by
      refine⟨hz,?_⟩
      show(match mY β id (some ⟨w.heap.size,cp⟩) id with
       |none=>(l.take len++m)=[]
       |some pl=>_)
      rw[fB]
      refine⟨cur,0,jX w.drew _,q1,by rw[hll];exact q2,q3,dM _ _ _,Nat.zero_le _,fun _=>rfl,?_⟩
      rw[hll]
      exact q4.mono fun _ _ hx=>hx.mono hle.mem))
     refine⟨_,_,i1.put o.dst ⟨_,?_,rfl⟩⟩
     simp only[V]
     have hself:=dg s id (.obj (v+1) fr (.vec e t' (l.take len++m))) hne
     refine⟨_,_,rfl,q2,fun _=>rfl,⟨by show(s.aI id _).bk id≠none;rw[hself];simp,fun v' fr' c' hh=> ?_⟩,fun _=> ?_⟩
     ·have hh':(s.aI id (.obj (v+1) fr (.vec e t' (l.take len++m)))).bk id=some (.obj v' fr' c'):=hh
      rw[hself]at hh'
      simp only[Option.some.injEq,cV.obj.injEq]at hh'
      omega
     ·show(match mY β id (some ⟨w.heap.size,cp⟩) id with
       |some pl=>_
       |none=>_)
      rw[fB]
      exact⟨fun _=>rfl,fun _ _=>rfl⟩
    cases hp:β id with
    |none=>
     rw[hp]at hO' hcur'
     simp only at hO' hcur'
     obtain⟨rfl,rfl,rfl⟩:=hcur'
     subst hO'
     by_cases hm0:m.length=0
     ·have hmn:m=[]:=List.eq_nil_of_length_eq_zero hm0
      subst hmn
      have hnn:news=[]:=List.eq_nil_of_length_eq_zero (by rw[hnl];simp)
      subst hnn
      have ht:=Trans.refl w g
      have hle:bH (s.env w g β) ((s.aI id (.obj (v+1) fr (.vec e t' []))).env w g β):=bH.aI hent (by omega) ht (fun _ _=>rfl) (fun _=>rfl)
      have i1:=h.step (cj _ _ _) ht hle (e7.aI (hlk:=gA hent fun k v1 l e=>by cases e) h.bj hne hle (fun _ _=>rfl) (fun _ _ _ _ _ _ _ _=>⟨rfl,rfl⟩) (by
       refine⟨hz,?_⟩
       show(match β id with
        |none=>([]:List t'.den)=[]
        |some pl=>_)
       rw[hp]))
      refine fin (.slice none 0 0) w ?_ ⟨g,β,i1.put o.dst ⟨_,?_,rfl⟩⟩
      ·rw[hxv]
       exact lU (P:=P) hT hX hi hlen (hfc w rfl)
      ·simp only[V]
       have hself:=dg s id (.obj (v+1) fr (.vec e t' [])) hne
       refine⟨_,_,rfl,Nat.le_refl _,fun hh=>by simp at hh,⟨by show(s.aI id _).bk id≠none;rw[hself];simp,fun v' fr' c' hh=> ?_⟩,fun _=> ?_⟩
       ·have hh':(s.aI id (.obj (v+1) fr (.vec e t' []))).bk id=some (.obj v' fr' c'):=hh
        rw[hself]at hh'
        simp only[Option.some.injEq,cV.obj.injEq]at hh'
        omega
       ·show(match β id with
         |some pl=>_
         |none=>_)
        rw[hp]
        exact⟨rfl,by simp,rfl⟩
     ·obtain⟨cur,cp,hr,q1,q2,q3,q4⟩:=grow none 0 0 [] [] hxv (by simp) rfl rfl rfl (by omega) hra
      refine fin _ _ hr (fresh cur cp g (Trans.trans (Trans.drew w g) (Trans.alloc w.drew g _ _)) (fun _ _ _ _ _ _ _ _=>rfl) q1 q2 q3 ?_ (by simp))
      rw[q4]
      simpa using hch
    |some pl=>
     rw[hp]at hO' hcur'
     simp only at hO' hcur'
     obtain⟨had,hcap⟩:=hcur'
     have had:=had (.inr trivial)
     have hcap:=hcap trivial trivial
     subst had hcap
     obtain⟨cur,k,p1,p2,p3,p4,p5,p6,p7,p8⟩:=hO'
     have hk:k≤len*t'.size:=by
      rcases hfr with hf | hf
      ·rw[p7 hf];exact Nat.zero_le _
      ·rw[hf];exact p6
     have hmul:len*t'.size≤l.length*t'.size:=Nat.mul_le_mul_right _ hll0
     have hmulc:l.length*t'.size≤cur.size:=by rw[p2];exact Nat.mul_le_mul_right _ p3
     have htk:=aP.take (fun _ _ hx=>bY.size hx) len p8
     rw[List.take_take,Nat.min_eq_left hmul]at htk
     have hlo:(cur.toList.take (len*t'.size)).length=len*t'.size:=by simp;omega
     by_cases hroom:len+m.length≤pl.cap
     ·have hrm:(len+m.length)*t'.size≤cur.size:=by rw[p2];exact Nat.mul_le_mul_right _ hroom
      have hfit:len*i.size+news.length≤cur.size:=by rw[his,hnl,←Nat.add_mul];exact hrm
      have hr:=pF (P:=P) (w:=w) (ty:=0) hT hX hi p1 h1news hlen (hfc w rfl) hroom hfit
      rw[his]at hr hfit
      have ht:Trans w (w.setRow pl.b (cn cur.toList (len*t'.size) news).toArray) g g:=by
       refine⟨by simp,by simp,by simp,by simp,fun b' hb=> ?_⟩
       by_cases hbe:b'=pl.b
       ·subst hbe
        rw[p5]
        refine⟨.inr ⟨id,k,rfl,Nat.le_refl _⟩,fun off u hoff hu=> ?_⟩
        rw[cell_of_row w pl.b off cur e (0,0) p1]at hu
        rw[cell_setRow_same w pl.b off cur _ e (0,0) p1]
        simp only[cn,List.append_assoc,List.getElem?_toArray]
        rw[List.getElem?_append_left (by rw[hlo];omega),List.getElem?_take,if_pos (by omega)]
        simpa using hu
       ·rw[setRow_other w pl.b b' _ hbe]
        cases hgb:g b' with
        |free=>exact⟨rfl,rfl⟩
        |own o' k=>cases o' with
         |dC=>exact⟨rfl,rfl⟩
         |id i'=>exact⟨.inr ⟨i',k,rfl,Nat.le_refl _⟩,fun off v _ hv=>by rw[cell_setRow_other w pl.b _ _ hbe];exact hv⟩
      have hle:bH (s.env w g β) ((s.aI id (.obj (v+1) fr (.vec e t' (l.take len++m)))).env (w.setRow pl.b (cn cur.toList (len*t'.size) news).toArray) g β):=
       bH.aI hent (by omega) ht (fun _ _=>rfl) (fun _=>rfl)
      have hll:(l.take len++m).length=len+m.length:=by simp;omega
      have hspl:(cn cur.toList (len*t'.size) news).length=cur.toList.length:=eW (by simpa using hfit)
      have i1:=h.step (cj _ _ _) ht hle (e7.aI (hlk:=gA hent fun k v1 l e=>by cases e) h.bj hne hle (fun _ _=>rfl) (fun i ver fr c pl2 hi hs2 hp2=>⟨setRow_other w pl.b pl2.b _ (h.apart p5 hi hs2 hp2),rfl⟩) (by
       refine⟨hz,?_⟩
       show(match β id with
        |none=>(l.take len++m)=[]
        |some pl=>_)
       rw[hp]
       refine⟨_,k,setRow_heap w pl.b cur _ e (0,0) p1,by rw[List.size_toArray,hspl];simpa using p2,by rw[hll];exact hroom,p4,p5,?_,p7,?_⟩
       ·rw[hll,Nat.add_mul];omega
       ·rw[hll,show(cn cur.toList (len*t'.size) news).toArray.toList=cn cur.toList (len*t'.size) news from rfl]
        have e1:(cn cur.toList (len*t'.size) news).take ((len+m.length)*t'.size)=cur.toList.take (len*t'.size)++news:=by
         unfold cn
         have hl2:(cur.toList.take (len*t'.size)++news).length=(len+m.length)*t'.size:=by rw[List.length_append,hlo,hnl,Nat.add_mul]
         rw[←hl2]
         exact List.take_left
        rw[e1]
        exact(aP.append htk hch).mono fun _ _ hx=>hx.mono hle.mem))
      rw[←hxv]at hr
      refine fin _ _ hr ⟨g,β,i1.put o.dst ⟨_,?_,rfl⟩⟩
      simp only[V]
      have hself:=dg s id (.obj (v+1) fr (.vec e t' (l.take len++m))) hne
      refine⟨_,_,rfl,hroom,fun _=>rfl,⟨by show(s.aI id _).bk id≠none;rw[hself];simp,fun v' fr' c' hh=> ?_⟩,fun _=> ?_⟩
      ·have hh':(s.aI id (.obj (v+1) fr (.vec e t' (l.take len++m)))).bk id=some (.obj v' fr' c'):=hh
       rw[hself]at hh'
       simp only[Option.some.injEq,cV.obj.injEq]at hh'
       omega
      ·show(match β id with
        |some pl=>_
        |none=>_)
       rw[hp]
       exact⟨fun _=>rfl,fun _ _=>rfl⟩
     ·have hfo:(Builtin.firstCells i.size len (.slice (some ⟨pl.b,0,none⟩) len pl.cap)).run P w.drew= .ok (cur.toList.take (len*t'.size)).toArray w.drew:=by
       refine run_firstCells_some (P:=P) w.drew i.size _ _ _ _ _ (by rw[hlo,his]) (fun j u hj=> ?_)
       rw[Addr.add_lit,Nat.zero_add]
       show w.cell? ⟨pl.b,j,none⟩=some u
       rw[cell_of_row w pl.b j cur e (0,0) p1]
       rw[List.getElem?_take]at hj
       split at hj
       ·simpa using hj
       ·cases hj
      obtain⟨cur2,cp,hr,q1,q2,q3,q4⟩:=grow (some ⟨pl.b,0,none⟩) len pl.cap (cur.toList.take (len*t'.size)) (l.take len) hxv hlo (by simp;omega) htk hfo (by omega) hra
      have hlt:pl.b < w.heap.size:=(Array.getElem?_eq_some_iff.1 p1).1
      have hfree:Trans w w.drew g (gH g pl.b .free):=by
       refine⟨rfl,rfl,⟨rfl,Nat.le_succ _⟩,Nat.le_refl _,fun b' hb=> ?_⟩
       by_cases hbe:b'=pl.b
       ·subst hbe
        rw[p5,dM]
        exact⟨.inl rfl,fun _ _ _ hh=>hh⟩
       ·rw[dL _ _ _ hbe]
        exact(Trans.drew w g).qa b' hb
      refine fin _ _ hr (fresh cur2 cp (gH g pl.b .free) (Trans.trans hfree (Trans.alloc w.drew _ _ _)) (fun i ver fr c pl2 hi hs2 hp2=>dL _ _ _ (h.apart p5 hi hs2 hp2)) q1 q2 q3 ?_ hll0)
      rw[q4]
      exact aP.append htk hch
   ·simp only[ae]at he
  ·simp only[ae]at he
 ·simp only[ae]at he
end
end Go.Ab
namespace Go.Ab
abbrev Ren:=Id→Nat→Option (Id×Nat)
structure lQ(ρ:Ren)(E E':Env):Prop where
 mem:iP E E'
 ref:∀id ver r,ρ id ver=some r→E.mR id ver→E'.mR r.1 r.2∧(E'.cur r.1 r.2→E.cur id ver∧E'.β r.1=E.β id)
theorem yP(ρ:Ren)(a:aq):(a.fm ρ).agg=a.agg:=by
 cases a with
 |ptr id v p n=>simp only[aq.fm];cases ρ id v <;> rfl
 |bt id v p c i l=>simp only[aq.fm];cases ρ id v <;> rfl
 |dy id v=>simp only[aq.fm];cases ρ id v <;> rfl
 |_=>rfl
mutual
theorem u9{ρ:Ren}{E E':Env}(h:lQ ρ E E'):∀ {a:aq} {cs:List Value},V E a cs→V E' (a.fm ρ) cs
 | .undef,_,hv=>by simp only[V]at hv
 | .gone,_,hv=>by simpa only[aq.fm,V]using hv
 | .dq,_,hv=>by simpa only[aq.fm,V]using hv
 | .iB,_,hv=>by simpa only[aq.fm,V]using hv
 | .jy,_,hv=>by simpa only[aq.fm,V]using hv
 | .lg,_,hv=>by simpa only[aq.fm,V]using hv
 | .sb l,_,hv=>by
  simp only[aq.fm,V]at hv ⊢
  obtain⟨b,cap,arr,e,h1,h2,h3,h4,h5⟩:=hv
  obtain⟨h6,h7⟩:=h.mem.fz b _ h3 h4
  exact⟨b,cap,arr,e,h1,h2,h6,h7,h5⟩
 | .d t x,_,hv=>by simp only[aq.fm,V]at hv ⊢;exact hv.mono h.mem
 | .pr a b,_,hv=>by
  simp only[aq.fm,V]at hv ⊢
  obtain⟨ca,cb,e,ha,hb⟩:=hv
  exact⟨ca,cb,e,u9 h ha,u9 h hb⟩
 | .ptr id ver p n,_,hv=>by
  have h1:=hv.one
  simp only[aq.fm]
  cases hr:ρ id ver with
  |none=>
   simp only[V]at hv ⊢
   obtain⟨a,e,_⟩:=hv
   exact⟨_,e,h1 _ (by simp[e])⟩
  |some r=>
   simp only[V]at hv ⊢
   obtain⟨a,e,hb,hc⟩:=hv
   obtain⟨b1,b2⟩:=h.ref id ver r hr hb
   refine⟨a,e,b1,fun c=> ?_⟩
   obtain⟨c1,e1⟩:=b2 c
   rw[e1];exact hc c1
 | .dZ t x,_,hv=>by
  simp only[aq.fm,V]at hv ⊢
  obtain⟨b,off,vs,e,hr,hx⟩:=hv
  exact⟨b,off,vs,e,hr.mono h.mem,hx.mono h.mem⟩
 | .bt id ver p c i len,_,hv=>by
  have h1:=hv.one
  simp only[aq.fm]
  cases hr:ρ id ver with
  |none=>
   simp only[V]at hv ⊢
   obtain⟨a,cap,e,_⟩:=hv
   exact⟨_,e,h1 _ (by simp[e])⟩
  |some r=>
   simp only[V]at hv ⊢
   obtain⟨a,cap,e,hl,hs,hb,hc⟩:=hv
   obtain⟨b1,b2⟩:=h.ref id ver r hr hb
   refine⟨a,cap,e,hl,hs,b1,fun c=> ?_⟩
   obtain⟨c1,e1⟩:=b2 c
   rw[e1];exact hc c1
 | .fn f c,_,hv=>by
  simp only[aq.fm,V]at hv ⊢
  obtain⟨vs,e,hc⟩:=hv
  exact⟨vs,e,w5 h hc⟩
 | .cons _ _,_,hv=>by simp only[V]at hv
 | .nil,_,hv=>by simp only[V]at hv
 | .vec ..,_,hv=>by simp only[V]at hv
 | .bx ..,_,hv=>by simp only[V]at hv
 | .dy id ver,_,hv=>by
  have h1:=hv.one
  simp only[aq.fm]
  cases hr:ρ id ver with
  |none=>
   simp only[V]at hv ⊢
   obtain⟨b,e,_⟩:=hv
   exact⟨_,e,h1 _ (by simp[e])⟩
  |some r=>
   simp only[V]at hv ⊢
   obtain⟨b,e,hb,hc⟩:=hv
   obtain⟨b1,b2⟩:=h.ref id ver r hr hb
   refine⟨b,e,b1,fun c=> ?_⟩
   obtain⟨c1,e1⟩:=b2 c
   rw[e1];exact hc c1
 | .mp ..,_,hv | .im ..,_,hv=>by simp only[V]at hv
theorem w5{ρ:Ren}{E E':Env}(h:lQ ρ E E'):∀ {a:aq} {vs:List Value},VC E a vs→VC E' (a.fm ρ) vs
 | .nil,_,hv=>by simpa only[aq.fm,VC]using hv
 | .cons a b,_,hv=>by
  simp only[aq.fm,VC]at hv ⊢
  obtain⟨v,vs',cs,e,ha,ho,hb⟩:=hv
  exact⟨v,vs',cs,e,u9 h ha,by rw[yP];exact ho,w5 h hb⟩
 | .undef,_,hv=>by simp only[VC]at hv
 | .gone,_,hv=>by simp only[VC]at hv
 | .dq,_,hv=>by simp only[VC]at hv
 | .iB,_,hv=>by simp only[VC]at hv
 | .jy,_,hv=>by simp only[VC]at hv
 | .lg,_,hv=>by simp only[VC]at hv
 | .sb _,_,hv=>by simp only[VC]at hv
 | .d t x,_,hv=>by simp only[VC]at hv
 | .pr a b,_,hv=>by simp only[VC]at hv
 | .ptr ..,_,hv=>by simp only[VC]at hv
 | .dZ ..,_,hv=>by simp only[VC]at hv
 | .bt ..,_,hv=>by simp only[VC]at hv
 | .fn ..,_,hv=>by simp only[VC]at hv
 | .vec ..,_,hv=>by simp only[VC]at hv
 | .bx ..,_,hv=>by simp only[VC]at hv
 | .dy ..,_,hv=>by simp only[VC]at hv
 | .mp ..,_,hv | .im ..,_,hv=>by simp only[VC]at hv
end
theorem qE{ρ:Ren}{E E':Env}(h:lQ ρ E E'){a:aq}{v:Value}(hv:VS E a v):VS E' (a.fm ρ) v:=by
 by_cases hc:a.dv=true
 ·obtain⟨cs,h1,h2⟩:=hv.dv hc
  exact VS.of (u9 h h1) (by rw[yP];exact h2)
 ·cases a <;> first | (exact absurd rfl hc) | skip
  ·trivial
  ·obtain⟨vs,e,hvc⟩:=hv
   have:=w5 h hvc
   simp only[aq.fm]at this ⊢
   exact⟨vs,e,this⟩
  ·exact hv
  ·obtain⟨cs,h1,_⟩:=hv
   simp only[V]at h1
  ·obtain⟨cs,h1,_⟩:=hv
   simp only[V]at h1
  ·obtain⟨cs,h1,_⟩:=hv
   simp only[V]at h1
  ·obtain⟨cs,h1,_⟩:=hv
   simp only[V]at h1
theorem zR(ρ:Ren)(c:aq):(c.fm ρ).strip=c.strip.fm ρ:=by
 cases c <;> first
  |rfl
  | (rename_i id ver p n;simp only[aq.strip,aq.fm];cases ρ id ver <;> rfl)
  | (rename_i id ver p c i len;simp only[aq.strip,aq.fm];cases ρ id ver <;> rfl)
  | (rename_i i v;simp only[aq.strip,aq.fm];cases ρ i v <;> rfl)
theorem o3(ρ:Ren):∀c:aq,(c.fm ρ).size=c.size
 | .pr a b=>by simp only[aq.fm,aq.size,o3 ρ a,o3 ρ b]
 | .ptr id ver p n=>by simp only[aq.fm];cases ρ id ver <;> rfl
 | .bt id ver p c i len=>by simp only[aq.fm];cases ρ id ver <;> rfl
 | .dy id ver=>by simp only[aq.fm];cases ρ id ver <;> rfl
 | .undef | .gone | .dq | .iB | .jy | .lg | .d _ _ | .dZ _ _ | .fn _ _ | .cons _ _ | .nil | .vec .. | .sb _ | .bx .. | .mp .. | .im .. =>rfl
theorem Ar(ρ:Ren){c:aq}(n:Nat):(c.fm ρ).jx n=c.jx n:=by
 cases c with
 |bx e z c=>cases z with
  |zero=>rfl
  |succ z=>exact o3 ρ c
 |_=>first | rfl | (simp only[aq.fm];split <;> rfl)
theorem y9(ρ:Ren){c:aq}{pl:Pl}{n:Nat}{e:TypeId}(h:c.ma pl n e):(c.fm ρ).ma pl n e:=by
  cases c <;> first
    | (rename_i e' z c;cases z with
       |zero=>exact h
       |succ z=>exact⟨h.1,h.2.1,h.2.2.1,by rw[o3];exact h.2.2.2⟩)
    |exact h
    |trivial
    | (rename_i id ver p n;simp only[aq.fm];cases ρ id ver <;> trivial)
    | (rename_i id ver p c i len;simp only[aq.fm];cases ρ id ver <;> trivial)
    | (rename_i i v;simp only[aq.fm];cases ρ i v <;> trivial)
theorem kU{ρ:Ren}{E E':Env}(h:lQ ρ E E'){id id':Id}{fr:Bool}{c:aq}(ho:jw E id fr c)(hβ:E'.β id'=E.β id)
  (hb:∀pl,E.β id=some pl→E'.w.heap[pl.b]? =E.w.heap[pl.b]? ∧(∀k,E.g pl.b= .own (.id id) k→E'.g pl.b= .own (.id id') k)∧(E.g pl.b= .free→E'.g pl.b= .free)):jw E' id' fr (c.fm ρ):=by
 by_cases hn:c.eB=false
 ·obtain⟨pl,cur,e,h1,h2,h3,h5,h4⟩:=ho.box hn
  obtain⟨b1,b2,b3⟩:=hb pl h1
  have h6:=u9 h h4
  refine o9.obj ⟨pl,cur,e,by rw[hβ,h1],by rw[b1,h2],?_,y9 ρ h5,by rw[zR,Ar];exact h6⟩
  cases fr with
  |true=>exact b3 h3
  |false=>exact b2 0 h3
 ·cases c <;> first
   | (exact absurd rfl hn)
   |skip
  rotate_left
  rotate_left
  ·obtain⟨pl,mb,since,seen,c0,h1,h2,h3,_⟩:=ho
   obtain⟨b1,b2,_⟩:=hb pl h1
   exact⟨pl,mb,since,seen,c0,by rw[hβ,h1],by rw[b1,h2],b2 0 h3,fun vr hvr=>by cases hvr⟩
  rotate_left
  ·obtain⟨pl,es,clock,h1,h2,h3,h4⟩:=ho
   obtain⟨b1,b2,_⟩:=hb pl h1
   exact⟨pl,es,clock,by rw[hβ,h1],by rw[b1,h2],b2 0 h3,⟨h4.1.1.mono h.mem,h4.1.2⟩,h4.2⟩
  rename_i e t l
  obtain⟨hz,ho⟩:=ho
  refine⟨hz,?_⟩
  rw[hβ]
  cases hp:E.β id with
  |none=>rw[hp]at ho;exact ho
  |some pl=>
   rw[hp]at ho
   simp only at ho ⊢
   obtain⟨b1,b2,_⟩:=hb pl hp
   obtain⟨cur,k,h1,h2,h3,h4,h5,h6,h7,h8⟩:=ho
   exact⟨cur,k,by rw[b1,h1],h2,h3,h4,b2 k h5,h6,h7,h8.mono fun c x hx=>hx.mono h.mem⟩
def nT(E:Env):List aq→List Value→Prop
 |[],[]=>True
 |a::as,v::vs=>VS E a v∧nT E as vs
 |_,_=>False
def aW.st(G:aW):AS:= {bE:=[],ch:=G.ch,news:=[G.news]}
def eP(ch:List cV):AS:= {bE:=[],ch,news:=[]}
def km(E:Env)(G:aW)(v:Value)(w':World):Prop:=
 ∃g' β',VS (G.st.env w' g' β') G.val v∧e7 (G.st.env w' g' β')∧Trans E.w w' E.g g'∧bH E (G.st.env w' g' β')
def jv(P:Program)(f:FuncId)(en:Entry):Prop:=
 ∀w g β args ch fP x,nT ((eP ch).env w g β) args fP→e7 ((eP ch).env w g β)→en.run args ch=some x→
  ((callFunc f fP.toArray).run P w= .ok (.enter f fP.toArray) w∧
   Calls P f fP.toArray w fun e w'=>∃v,e= .returned v∧km ((eP ch).env w g β) (en.out args ch x) v w')∨
  (∃v w',(callFunc f fP.toArray).run P w= .ok (.value v) w'∧km ((eP ch).env w g β) (en.out args ch x) v w')
def Sound(P:Program)(Γ:dH):Prop:=∀f vs en,Γ f vs=some en→jv P f en
theorem nT.mono{E E':Env}(h:bH E E'):∀ {as:List aq} {vs:List Value},nT E as vs→nT E' as vs
 |[],[],_=>trivial
 |_::_,_::_,⟨h1,h2⟩=>⟨h1.mono h,nT.mono h h2⟩
theorem nT.fm{ρ:Ren}{E E':Env}(h:lQ ρ E E'):∀ {as:List aq} {vs:List Value},nT E as vs→nT E' (as.map (aq.fm ρ)) vs
 |[],[],_=>trivial
 |_::_,_::_,⟨h1,h2⟩=>⟨qE h h1,nT.fm h h2⟩
theorem nT.append{E:Env}:∀ {as:List aq} {vs:List Value} {bs:List aq} {us:List Value},nT E as vs→nT E bs us→nT E (as++bs) (vs++us)
 |[],[],_,_,_,h=>h
 |_::_,_::_,_,_,⟨h1,h2⟩,h=>⟨h1,nT.append h2 h⟩
theorem Aj{E:Env}:∀ {c:aq} {vs:List Value},VC E c vs→nT E c.list vs
 | .cons a b,vs,h=>by
  simp only[VC]at h
  obtain⟨v,vs',cs,rfl,ha,ho,hb⟩:=h
  exact⟨VS.of ha ho,Aj hb⟩
 | .nil,vs,h=>by
  simp only[VC]at h
  subst h
  trivial
 | .undef,_,hv=>by simp only[VC]at hv
 | .gone,_,hv=>by simp only[VC]at hv
 | .dq,_,hv=>by simp only[VC]at hv
 | .iB,_,hv=>by simp only[VC]at hv
 | .jy,_,hv=>by simp only[VC]at hv
 | .lg,_,hv=>by simp only[VC]at hv
 | .sb _,_,hv=>by simp only[VC]at hv
 | .d t x,_,hv=>by simp only[VC]at hv
 | .pr a b,_,hv=>by simp only[VC]at hv
 | .ptr ..,_,hv=>by simp only[VC]at hv
 | .dZ ..,_,hv=>by simp only[VC]at hv
 | .bt ..,_,hv=>by simp only[VC]at hv
 | .fn ..,_,hv=>by simp only[VC]at hv
 | .vec ..,_,hv=>by simp only[VC]at hv
 | .bx ..,_,hv=>by simp only[VC]at hv
 | .dy ..,_,hv=>by simp only[VC]at hv
 | .mp ..,_,hv | .im ..,_,hv=>by simp only[VC]at hv
theorem Inv.F4{C:Ctx}{g:Nat→gq}{β:Id→Option Pl}{s:AS}{a:Act}{w:World}(h:Inv C g β s a w):∀l:List Operand,nT (s.env w g β) (l.map s.ev) (l.map a.eval)
 |[]=>trivial
 |x::l=>⟨h.ev x,h.F4 l⟩
theorem qP{E E':Env}{s:AS}(hs:E.s=s.bk)(ho:e7 E)(he:bH E E'):∀(ps:List (Option Ty)) (vs:List aq) (ys:List Value) (r:List aq×List Id),nT E vs ys→(s.conv ps vs).eval=some r→Ew E E' r.2→nT E' r.1 ys
 |[],[],ys,r,hv,h,_=>by
  simp only[AS.conv,aj]at h
  subst h
  cases ys with
  |nil=>trivial
  |cons _ _=>exact hv.elim
 |some t::ps,v::vs,y::ys,r,⟨hv,hvs⟩,h,hf=>by
  simp only[AS.conv]at h
  obtain⟨x,h1,h2⟩:=ai.1 h
  obtain⟨r',h3,h4⟩:=ai.1 h2
  obtain rfl:=aj.1 h4
  obtain⟨cs,hV,hO⟩:=hv.dv (kE h1)
  refine⟨VS.of (cs:=cs) ?_ ?_,qP hs ho he ps vs ys r' hvs h3 fun id hid=>hf id (List.mem_append.2 (.inr hid))⟩
  ·simp only[V]
   exact ju hs ho he v t x cs hV h1 fun id hid=>hf id (List.mem_append.2 (.inl hid))
  ·show dO t.agg cs y
   rw[←sk h1];exact hO
 |none::ps,v::vs,y::ys,r,⟨hv,hvs⟩,h,hf=>by
  simp only[AS.conv]at h
  obtain⟨r',h3,h4⟩:=ai.1 h
  obtain rfl:=aj.1 h4
  exact⟨hv.mono he,qP hs ho he ps vs ys r' hvs h3 hf⟩
 |[],_::_,_,_,_,h,_=>by simp only[AS.conv,ae]at h
 |some _::_,[],_,_,_,h,_=>by simp only[AS.conv,ae]at h
 |none::_,[],_,_,_,h,_=>by simp only[AS.conv,ae]at h
end Go.Ab
namespace Go.Ab
theorem hZ{id:Id}:∀ {ids:List Id} {k:Nat},idxOf id ids=some k→ids[k]? =some id
 |[],_,h=>by simp[idxOf]at h
 |x::xs,k,h=>by
  simp only[idxOf]at h
  split at h
  ·rename_i e
   simp only[Option.some.injEq]at h
   subst h e
   rfl
  ·simp only[Option.map_eq_some_iff]at h
   obtain⟨j,hj,rfl⟩:=h
   simpa using hZ hj
theorem kr{id:Id}:∀ {ids:List Id} {k:Nat},ids.Nodup→ids[k]? =some id→idxOf id ids=some k
 |[],_,_,h=>by simp at h
 |x::xs,0,hn,h=>by
  simp only[List.getElem?_cons_zero,Option.some.injEq]at h
  simp[idxOf,h]
 |x::xs,k+1,hn,h=>by
  simp only[List.getElem?_cons_succ]at h
  obtain⟨h1,h2⟩:=List.nodup_cons.1 hn
  have hne:x≠id:=fun e=>h1 (e▸List.mem_of_getElem? h)
  simp[idxOf,hne,kr h2 h]
theorem kR(s0:AS)(all:List Id)(t:Nat):∀(ids:List Id) (es:List cV) (s:AS),(AS.eU s0 all t s ids es).bE=s.bE
 |[],_,_=>by simp[AS.eU]
 |_::_,[],_=>by simp[AS.eU]
 |id::ids,e::es,s=>by rw[AS.eU,kR s0 all t ids es,cj]
theorem r9(s:AS)(ids:List Id)(t:Nat)(es:List cV):(s.made ids t es).bE=s.bE:=by cases es <;> rfl
theorem mg(s0:AS)(all:List Id)(t:Nat):∀(ids:List Id) (es:List cV) (s:AS),ids.Nodup→es.length=ids.length→(∀id∈ids,s.bk id≠none)→
  (∀id,id ∉ ids→(AS.eU s0 all t s ids es).bk id=s.bk id)∧
  ∀(k:Nat) (id:Id) (e:cV),ids[k]? =some id→es[k]? =some e→(AS.eU s0 all t s ids es).bk id=some (s0.hJ all t (s0.kF id) e)
 |[],es,s,_,_,_=>⟨fun _ _=>by simp[AS.eU],fun k id e h=>by simp at h⟩
 |_::_,[],s,_,hl,_=>by simp at hl
 |i::ids,e::es,s,hn,hl,hp=>by
  obtain⟨h1,h2⟩:=List.nodup_cons.1 hn
  have hp':∀id∈ids,(s.aI i (s0.hJ all t (s0.kF i) e)).bk id≠none:=fun id hid=>by
   rw[bJ s i id _ (fun e=>h1 (e▸hid))]
   exact hp id (List.mem_cons_of_mem _ hid)
  obtain⟨r1,r2⟩:=mg s0 all t ids es (s.aI i (s0.hJ all t (s0.kF i) e)) h2 (by simpa using hl) hp'
  rw[AS.eU]
  refine⟨fun id hid=> ?_,fun k id e' hk he=> ?_⟩
  ·simp only[List.mem_cons,not_or]at hid
   rw[r1 id hid.2,bJ s i id _ hid.1]
  ·cases k with
   |zero=>
    simp only[List.getElem?_cons_zero,Option.some.injEq]at hk he
    subst hk he
    rw[r1 i h1,dg s i _ (hp i (List.mem_cons_self ..))]
   |succ k=>
    simp only[List.getElem?_cons_succ]at hk he
    exact r2 k id e' hk he
theorem vI(s:AS)(ids:List Id)(t:Nat)(es:List cV)(hv:es=[]∨s.cK t=true):
  (∀id,(es=[]∨∀j,id≠ .new t j)→(s.made ids t es).bk id=s.bk id)∧(es≠ []→∀j,(s.made ids t es).bk (.new t j)=(es[j]?).map (s.hJ ids t 0)):=by
 cases es with
 |nil=>exact⟨fun _ _=>rfl,fun h=>absurd rfl h⟩
 |cons e es=>
  have hv:s.cK t=true:=by
   rcases hv with h | h
   ·cases h
   ·exact h
  refine⟨fun id h=> ?_,fun _ j=> ?_⟩
  ·rcases h with h | h
   ·cases h
   ·exact eK _ h
  ·rw[AS.made,jM (ff hv).2,List.getElem?_map]
def gj(ids:List Id):gq→gq
 | .free=> .free
 | .own .dC n=> .own .dC n
 | .own (.id i) n=>match idxOf i ids with | some k=> .own (.id (.cz k)) n | none=> .own .dC n
def mO(β:Id→Option Pl)(ids:List Id):Id→Option Pl
 | .cz k=>(ids[k]?).bind β
 | .new _ _=>none
def fW(g:Nat→gq)(size:Nat)(ids:List Id)(t:Nat)(b:Nat):gq→gq
 | .free=> .free
 | .own .dC n=>if b < size then g b else .own .dC n
 | .own (.id i) n=> .own (.id (Db ids t i)) n
def jm(β β':Id→Option Pl)(ids:List Id)(t:Nat)(some?:Bool)(id:Id):Option Pl:=
 match idxOf id ids with
 |some k=>β' (.cz k)
 |none=>match id with
  | .new i j=>if i=t∧some?=true then β' (.new 0 j) else β (.new i j)
  |id=>β id
theorem A9{ids:List Id}{l:gq}{off:Nat}(h:iO (fun _=>l) 0 off):iO (fun _=>gj ids l) 0 off:=by
 cases l with
 |free=>trivial
 |own o k=>cases o with
  |dC=>exact h
  |id i=>simp only[gj];cases idxOf i ids <;> exact h
section
variable {P:Program} {C:Ctx} {g:Nat→gq} {β:Id→Option Pl} {s:AS} {a:Act} {w:World} {o:Oper}
theorem Dc(ids:List Id):
  lQ (s.jF ids) (s.env w g β) ((eP (ids.map (s.gf ids))).env w (fun b=>gj ids (g b)) (mO β ids)):=by
 refine⟨⟨fun b off v ⟨h1,h2⟩=>⟨h1,?_⟩,fun b ob h1 h2=>⟨by show gj ids (g b)= .free;have h1:g b= .free:=h1;rw[h1];rfl,h2⟩⟩,fun id ver r hr _=> ?_⟩
 ·exact A9 (l:=g b) h2
 ·unfold AS.jF at hr
  split at hr
  ·rename_i k v fr c hk ho
   split at hr
   ·rename_i hver
    simp only[Option.some.injEq]at hr
    subst hr hver
    have hid:=hZ hk
    have hent:=da ho
    refine⟨⟨?_,fun _ _ _ _=>Nat.zero_le _⟩,fun _=>⟨⟨fr,c,hent⟩,?_⟩⟩
    ·show(ids.map (s.gf ids))[k]? ≠none
     simp[hid]
    ·show(ids[k]?).bind β=β id
     rw[hid];rfl
   ·cases hr
  ·cases hr
theorem Cx(ids:List Id)(hn:ids.Nodup)(h:e7 (s.env w g β)):e7 ((eP (ids.map (s.gf ids))).env w (fun b=>gj ids (g b)) (mO β ids)):=by
 intro id ver fr c hid
 have hid:(eP (ids.map (s.gf ids))).bk id=some (.obj ver fr c):=hid
 cases id with
 |new i j=>simp[eP,AS.bk]at hid
 |cz k=>
  simp only[eP,AS.bk,List.getElem?_map,Option.map_eq_some_iff]at hid
  obtain⟨id1,hk,he⟩:=hid
  unfold AS.gf at he
  split at he
  ·rename_i v fr1 c1 hent
   simp only[cV.obj.injEq]at he
   obtain⟨rfl,rfl,rfl⟩:=he
   refine kU (Dc ids) (h id1 v fr1 c1 hent) (by show(ids[k]?).bind β=β id1;rw[hk];rfl) fun pl hp=>⟨rfl,fun n hg=> ?_,fun hg=> ?_⟩
   ·have hg:g pl.b= .own (.id id1) n:=hg
    show gj ids (g pl.b)=_
    rw[hg]
    simp[gj,kr hn hk]
   ·have hg:g pl.b= .free:=hg
    show gj ids (g pl.b)=_
    rw[hg];rfl
  ·cases he
theorem qH(h:Inv C g β s a w){ids:List Id}(hn:ids.Nodup)(hp:∀id∈ids,∃r,s.obj id=some r)(hlo:∀id∈ids,s.rA id=true){G:aW}{t:Nat}(hl:G.ch.length=ids.length)(hv:G.news=[]∨s.cK t=true){v:Value}{w':World}
  (ha:km ((eP (ids.map (s.gf ids))).env w (fun b=>gj ids (g b)) (mO β ids)) G v w'):
  ∃g' β',Inv C g' β' (AS.eU s ids t (s.made ids t G.news) ids G.ch) a w'∧VS ((AS.eU s ids t (s.made ids t G.news) ids G.ch).env w' g' β') (G.val.fm (s.iV ids t)) v:=by
 obtain⟨g1,β1,hval,hobjs,htr,hle⟩:=ha
 have htr:Trans w w' (fun b=>gj ids (g b)) g1:=htr
 obtain⟨m1,m2⟩:=vI s ids t G.news hv
 have hpe:∀id∈ids,s.bk id≠none:=fun id hid=>by
  obtain⟨⟨v,fr,c⟩,hr⟩:=hp id hid
  rw[da hr];simp
 have hnew:∀id,s.bk id≠none→G.news=[]∨∀j,id≠ .new t j:=fun id hid=>by
  rcases hv with hv | hv
  ·exact .inl hv
  ·exact .inr fun j e=>hid (by rw[e];exact(ff hv).1 j)
 obtain⟨n1,n2⟩:=mg s ids t ids G.ch (s.made ids t G.news) hn hl (fun id hid=>by rw[m1 id (hnew id (hpe id hid))];exact hpe id hid)
 have hvt:∀j,G.news≠ []→Id.new t j ∉ ids:=fun j hne hid=>by
  rcases hv with hv | hv
  ·exact hne hv
  ·exact hpe _ hid ((ff hv).1 j)
 generalize hs2:AS.eU s ids t (s.made ids t G.news) ids G.ch=s2 at*
 have hgO:∀(k:Nat) (id:Id),ids[k]? =some id→∃e,G.ch[k]? =some e∧s2.bk id=some (s.hJ ids t (s.kF id) e):=fun k id hk=>by
  have hlt:k < G.ch.length:=by rw[hl];exact(List.getElem?_eq_some_iff.1 hk).1
  exact⟨_,List.getElem?_eq_getElem hlt,n2 k id _ hk (List.getElem?_eq_getElem hlt)⟩
 have hgN:G.news≠ []→∀j,s2.bk (.new t j)=(G.news[j]?).map (s.hJ ids t 0):=fun hne j=>by
  rw[n1 _ (hvt j hne),m2 hne j]
 have hgS:∀id,id ∉ ids→(G.news=[]∨∀j,id≠ .new t j)→s2.bk id=s.bk id:=fun id h1 h2=>by
  rw[n1 id h1,m1 id h2]
 have hverOf:∀id∈ids,∃fr c,s.bk id=some (.obj (s.kF id) fr c):=fun id hid=>by
  obtain⟨⟨v,fr,c⟩,hr⟩:=hp id hid
  refine⟨fr,c,?_⟩
  rw[da hr]
  simp[AS.kF,hr]
 have hfor:∀b n,b < w.heap.size→g1 b= .own .dC n→(g b= .own .dC n∨∃i,g b= .own (.id i) n∧idxOf i ids=none):=fun b n hb hg=>by
  have h1:=htr.qa b hb
  cases hgb:g b with
  |free=>simp only[hgb,gj]at h1;rw[h1.1]at hg;cases hg
  |own o k=>cases o with
   |dC=>simp only[hgb,gj]at h1;rw[h1.1]at hg;left;exact hg
   |id i=>
    cases hi:idxOf i ids with
    |none=>
     simp only[hgb,gj,hi]at h1
     rw[h1.1]at hg
     simp only[gq.own.injEq,true_and]at hg
     subst hg
     exact .inr ⟨i,rfl,hi⟩
    |some k'=>
     simp only[hgb,gj,hi]at h1
     rcases h1.1 with h2 | ⟨_,_,h2,_⟩ <;> (rw[h2]at hg;cases hg)
 let g2:Nat→gq:=fun b=>fW g w.heap.size ids t b (g1 b)
 let β2:Id→Option Pl:=jm β β1 ids t (!G.news.isEmpty)
 have hβO:∀k id,ids[k]? =some id→β2 id=β1 (.cz k):=fun k id hk=>by
  show jm _ _ _ _ _ id=_
  simp[jm,kr hn hk]
 have hβN:G.news≠ []→∀j,β2 (.new t j)=β1 (.new 0 j):=fun hne j=>by
  show jm _ _ _ _ _ _=_
  have:idxOf (.new t j) ids=none:=by
   cases hi:idxOf (.new t j) ids with
   |none=>rfl
   |some k=>exact absurd (List.mem_of_getElem? (hZ hi)) (hvt j hne)
  have hne':G.news.isEmpty=false:=by cases hh:G.news with
   |nil=>exact absurd hh hne
   |cons _ _=>rfl
  simp[jm,this,hne']
 have hβS:∀id,id ∉ ids→(G.news=[]∨∀j,id≠ .new t j)→β2 id=β id:=fun id h1 h2=>by
  show jm _ _ _ _ _ _=_
  have:idxOf id ids=none:=by
   cases hi:idxOf id ids with
   |none=>rfl
   |some k=>exact absurd (List.mem_of_getElem? (hZ hi)) h1
  cases id with
  |cz k=>simp[jm,this]
  |new i j=>
   have:¬(i=t∧(!G.news.isEmpty)=true):=by
    rintro⟨rfl,h3⟩
    rcases h2 with h2 | h2
    ·rw[h2]at h3;cases h3
    ·exact h2 j rfl
   simp only[jm, *,if_false]
 have htr2:Trans w w' g g2:=by
  refine⟨htr.os,htr.tape,htr.output,htr.size,fun b hb=> ?_⟩
  have h1:=htr.qa b hb
  show match g b with | .free=>fW g w.heap.size ids t b (g1 b)= .free∧_ | .own .dC k=>fW g w.heap.size ids t b (g1 b)= .own .dC k∧_ | .own (.id _) k=>(fW g w.heap.size ids t b (g1 b)= .free∨∃i k',fW g w.heap.size ids t b (g1 b)= .own (.id i) k'∧k≤k')∧_
  cases hgb:g b with
  |free=>simp only[hgb,gj]at h1 ⊢;rw[h1.1];exact⟨rfl,h1.2⟩
  |own o k=>cases o with
   |dC=>simp only[hgb,gj]at h1 ⊢;rw[h1.1];simp only[fW,hb,if_true,hgb];exact⟨trivial,h1.2⟩
   |id i=>
    cases hi:idxOf i ids with
    |none=>
     simp only[hgb,gj,hi]at h1 ⊢
     rw[h1.1]
     simp only[fW,hb,if_true,hgb]
     exact⟨.inr ⟨i,k,rfl,Nat.le_refl _⟩,fun off v _ hv=>by simpa only[World.cell?,h1.2]using hv⟩
    |some k'=>
     simp only[hgb,gj,hi]at h1 ⊢
     refine⟨?_,h1.2⟩
     rcases h1.1 with h2 | ⟨i',k'',h2,h3⟩
     ·rw[h2];exact .inl rfl
     ·rw[h2];exact .inr ⟨_,k'',rfl,h3⟩
 have hmem:iP (G.st.env w' g1 β1) (s2.env w' g2 β2):=by
  refine⟨fun b off v ⟨h1,h2⟩=> ?_,fun b ob h1 h2=>⟨by show fW g w.heap.size ids t b (g1 b)= .free;have h1:g1 b= .free:=h1;rw[h1];rfl,h2⟩⟩
  refine⟨h1,?_⟩
  have h2:iO g1 b off:=h2
  show iO g2 b off
  unfold iO at h2 ⊢
  show match fW g w.heap.size ids t b (g1 b) with | .free=>True | .own _ k=>off < k
  cases hgb:g1 b with
  |free=>simp[fW]
  |own o k=>
   rw[hgb]at h2
   cases o with
   |dC=>
    simp only[fW]
    by_cases hb:b < w.heap.size
    ·rw[if_pos hb]
     rcases hfor b k hb hgb with h3 | ⟨i,h3,_⟩ <;> (rw[h3];exact h2)
    ·rw[if_neg hb];exact h2
   |id i=>exact h2
 have hentOut:∀(base:Nat) (e:cV) (ver:Nat) (fr:Bool) (c:aq),s.hJ ids t base e= .obj ver fr c→∃v0 c0,e= .obj v0 fr c0∧ver=base+v0∧c=c0.fm (s.iV ids t):=fun base e ver fr c he=>by
  cases e with
  |dead=>cases he
  |obj v0 fr0 c0=>
   simp only[AS.hJ,cV.obj.injEq]at he
   obtain⟨rfl,rfl,rfl⟩:=he
   exact⟨v0,c0,rfl,rfl,rfl⟩
 have hout:lQ (s.iV ids t) (G.st.env w' g1 β1) (s2.env w' g2 β2):=by
  refine⟨hmem,fun id ver r hr hb=> ?_⟩
  cases id with
  |cz k=>
   obtain⟨hb1,hb2⟩:=hb
   have hb1:G.ch[k]? ≠none:=hb1
   have hk:k < ids.length:=by
    rcases Nat.lt_or_ge k ids.length with h' | h'
    ·exact h'
    ·exact absurd (List.getElem?_eq_none (by omega)) hb1
   have hid:ids[k]? =some ids[k]:=List.getElem?_eq_getElem hk
   simp only[AS.iV,hid,Option.some.injEq]at hr
   subst hr
   obtain⟨e,he1,he2⟩:=hgO k _ hid
   refine⟨⟨by show s2.bk _≠none;rw[he2];simp,fun v fr c hh=> ?_⟩,fun⟨fr,c,hh⟩=>⟨?_,hβO k _ hid⟩⟩
   ·have hh:s2.bk ids[k]=some (.obj v fr c):=hh
    rw[he2,Option.some.injEq]at hh
    obtain⟨v0,c0,rfl,rfl,_⟩:=hentOut _ _ _ _ _ hh
    have:=hb2 v0 fr c0 he1
    omega
   ·have hh:s2.bk ids[k]=some (.obj (s.kF ids[k]+ver) fr c):=hh
    rw[he2,Option.some.injEq]at hh
    obtain⟨v0,c0,rfl,hv0,_⟩:=hentOut _ _ _ _ _ hh
    obtain rfl:ver=v0:=by omega
    exact⟨fr,c0,he1⟩
  |new i j=>
   simp only[AS.iV,Option.some.injEq]at hr
   subst hr
   obtain⟨hb1,hb2⟩:=hb
   have hb1:([G.news].getD i [])[j]? ≠none:=hb1
   have hb2:∀v fr c,([G.news].getD i [])[j]? =some (.obj v fr c)→ver≤v:=hb2
   cases i with
   |succ i=>simp at hb1
   |zero=>
    simp only[List.getD_cons_zero]at hb1 hb2
    have hne:G.news≠ []:=fun e=>by rw[e]at hb1;simp at hb1
    obtain⟨e,he⟩:=Option.ne_none_iff_exists'.1 hb1
    have he2:=hgN hne j
    rw[he,Option.map_some]at he2
    refine⟨⟨by show s2.bk (.new t j)≠none;rw[he2];simp,fun v fr c hh=> ?_⟩,fun⟨fr,c,hh⟩=>⟨?_,hβN hne j⟩⟩
    ·have hh:s2.bk (.new t j)=some (.obj v fr c):=hh
     rw[he2,Option.some.injEq]at hh
     obtain⟨v0,c0,rfl,rfl,_⟩:=hentOut _ _ _ _ _ hh
     have:=hb2 v0 fr c0 he
     simp only
     omega
    ·have hh:s2.bk (.new t j)=some (.obj ver fr c):=hh
     rw[he2,Option.some.injEq]at hh
     obtain⟨v0,c0,rfl,hv0,_⟩:=hentOut _ _ _ _ _ hh
     obtain rfl:ver=v0:=by omega
     exact⟨fr,c0,he⟩
 have hle2:bH (s.env w g β) (s2.env w' g2 β2):=by
  refine⟨Trans.mem htr2,fun id ver hb=> ?_,fun id ver hb hc=> ?_⟩
  ·obtain⟨hb1,hb2⟩:=hb
   have hb1:s.bk id≠none:=hb1
   have hb2:∀v fr c,s.bk id=some (.obj v fr c)→ver≤v:=hb2
   by_cases hid:id∈ids
   ·obtain⟨k,hk⟩:=List.mem_iff_getElem?.1 hid
    obtain⟨e,he1,he2⟩:=hgO k id hk
    obtain⟨fr1,c1,hs1⟩:=hverOf id hid
    refine⟨by show s2.bk _≠none;rw[he2];simp,fun v fr c hh=> ?_⟩
    have hh:s2.bk id=some (.obj v fr c):=hh
    rw[he2,Option.some.injEq]at hh
    obtain⟨v0,c0,rfl,rfl,_⟩:=hentOut _ _ _ _ _ hh
    have:=hb2 _ _ _ hs1
    omega
   ·have:=hgS id hid (hnew id hb1)
    exact⟨by show s2.bk _≠none;rw[this];exact hb1,fun v fr c hh=>hb2 v fr c (this.symm.trans hh)⟩
  ·obtain⟨hb1,hb2⟩:=hb
   have hb1:s.bk id≠none:=hb1
   have hb2:∀v fr c,s.bk id=some (.obj v fr c)→ver≤v:=hb2
   obtain⟨fr,c,hh⟩:=hc
   have hh:s2.bk id=some (.obj ver fr c):=hh
   by_cases hid:id∈ids
   ·obtain⟨k,hk⟩:=List.mem_iff_getElem?.1 hid
    obtain⟨e,he1,he2⟩:=hgO k id hk
    obtain⟨fr1,c1,hs1⟩:=hverOf id hid
    rw[he2,Option.some.injEq]at hh
    obtain⟨v0,c0,rfl,hv0,_⟩:=hentOut _ _ _ _ _ hh
    have hver:=hb2 _ _ _ hs1
    obtain rfl:v0=0:=by omega
    have hver':ver=s.kF id:=by omega
    refine⟨⟨fr1,c1,by rw[hver'];exact hs1⟩,?_⟩
    show β2 id=β id
    rw[hβO k id hk]
    have hin:s.gf ids id= .obj 0 fr1 (c1.fm (s.jF ids)):=by simp[AS.gf,hs1]
    have h0:((eP (ids.map (s.gf ids))).env w (fun b=>gj ids (g b)) (mO β ids)).mR (.cz k) 0:=by
     refine⟨?_,fun _ _ _ _=>Nat.zero_le _⟩
     show(ids.map (s.gf ids))[k]? ≠none
     simp[hk]
    have:=(hle.cur (.cz k) 0 h0 ⟨fr,c0,he1⟩).2
    have this:β1 (.cz k)=(ids[k]?).bind β:=this
    rw[this,hk];rfl
   ·have:=hgS id hid (hnew id hb1)
    exact⟨⟨fr,c,this.symm.trans hh⟩,hβS id hid (hnew id hb1)⟩
 have hobj2:e7 (s2.env w' g2 β2):=by
  intro id ver fr c hh
  have hh:s2.bk id=some (.obj ver fr c):=hh
  by_cases hid:id∈ids
  ·obtain⟨k,hk⟩:=List.mem_iff_getElem?.1 hid
   obtain⟨e,he1,he2⟩:=hgO k id hk
   rw[he2,Option.some.injEq]at hh
   obtain⟨v0,c0,rfl,_,rfl⟩:=hentOut _ _ _ _ _ hh
   refine kU hout (hobjs (.cz k) v0 fr c0 he1) (hβO k id hk) fun pl _=>⟨rfl,fun n hg=> ?_,fun hg=> ?_⟩
   ·have hg:g1 pl.b= .own (.id (.cz k)) n:=hg
    show fW g w.heap.size ids t pl.b (g1 pl.b)=_
    rw[hg]
    simp[fW,Db,List.getD_eq_getElem?_getD,hk]
   ·have hg:g1 pl.b= .free:=hg
    show fW g w.heap.size ids t pl.b (g1 pl.b)=_
    rw[hg];rfl
  ·by_cases hne:G.news≠ []∧∃j,id= .new t j
   ·obtain⟨hne,j,rfl⟩:=hne
    rw[hgN hne j,Option.map_eq_some_iff]at hh
    obtain⟨e,he,hh⟩:=hh
    obtain⟨v0,c0,rfl,_,rfl⟩:=hentOut _ _ _ _ _ hh
    refine kU hout (hobjs (.new 0 j) v0 fr c0 (by show([G.news].getD 0 [])[j]? =_;simpa using he)) (hβN hne j) fun pl _=>⟨rfl,fun n hg=> ?_,fun hg=> ?_⟩
    ·have hg:g1 pl.b= .own (.id (.new 0 j)) n:=hg
     show fW g w.heap.size ids t pl.b (g1 pl.b)=_
     rw[hg]
     rfl
    ·have hg:g1 pl.b= .free:=hg
     show fW g w.heap.size ids t pl.b (g1 pl.b)=_
     rw[hg];rfl
   ·have hor:G.news=[]∨∀j,id≠ .new t j:=by
     by_cases hh:G.news=[]
     ·exact .inl hh
     ·exact .inr fun j e=>hne ⟨hh,j,e⟩
    rw[hgS id hid hor]at hh
    have same:∀id,id ∉ ids→∀ver fr c,s.bk id=some (.obj ver fr c)→∀pl,β id=some pl→w'.heap[pl.b]? =w.heap[pl.b]? ∧fW g w.heap.size ids t pl.b (g1 pl.b)=g pl.b:=by
     intro id hid ver fr c hh pl hpl
     obtain⟨hb,hlab⟩:=(h.bj id ver fr c hh).label (pl:=pl) hpl
     have hb:pl.b < w.heap.size:=hb
     have h1:=htr.qa pl.b hb
     have hidx:idxOf id ids=none:=by
      cases hi:idxOf id ids with
      |none=>rfl
      |some k=>exact absurd (List.mem_of_getElem? (hZ hi)) hid
     rcases hlab with⟨k,hk⟩ | ⟨_,hk⟩
     ·have hk:g pl.b= .own (.id id) k:=hk
      simp only[hk,gj,hidx]at h1
      rw[h1.1]
      simp only[fW,hb,if_true]
      exact⟨h1.2,trivial⟩
     ·have hk:g pl.b= .free:=hk
      simp only[hk,gj]at h1
      rw[h1.1,hk]
      exact⟨h1.2,rfl⟩
    have ho:=h.bj id ver fr c hh
    refine ho.mono hle2 (hβS id hid hor) (fun pl hpl=>same id hid ver fr c hh pl hpl) fun q2 vq k2 v2 l2 hq2 _=> ?_
    have hq2:s.bk q2=some (.obj vq true (.mp k2 v2 l2)):=hq2
    have hn2:q2 ∉ ids:=fun hm=>by
     have:=hlo q2 hm
     have e:s.obj q2=some (vq,true,.mp k2 v2 l2):=by simp[AS.obj,hq2]
     unfold AS.rA at this
     rw[e]at this
     cases this
    refine⟨⟨k2,v2,l2,?_⟩,fun pl hpl=>same q2 hn2 vq true _ hq2 pl hpl⟩
    show s2.bk q2=_
    rw[hgS q2 hn2 (hnew q2 (by rw[hq2];simp))]
    exact hq2
 have hsl:s2.bE=s.bE:=by rw[←hs2,kR,r9]
 exact⟨g2,β2,h.step hsl htr2 hle2 hobj2,qE hout hval⟩
end
end Go.Ab
namespace Go.Ab
theorem jo(s:AS):∀(n:Nat) (todo acc:List Id),acc.Nodup→(s.reach n todo acc).Nodup
 | 0,_,acc,h=>by simpa[AS.reach]using h
 |_+1,[],acc,h=>by simpa[AS.reach]using h
 |n+1,id::todo,acc,h=>by
  rw[AS.reach]
  split
  ·exact jo s n todo acc h
  ·rename_i hc
   refine jo s n _ _ ?_
   rw[List.nodup_append]
   refine⟨h,by simp,fun x hx y hy e=> ?_⟩
   simp only[List.mem_singleton]at hy
   subst hy e
   exact hc (by simpa using hx)
theorem v7(s:AS)(vs:List aq):(s.yD vs).Nodup:=jo s _ _ _ (by simp)
section
variable {P:Program} {C:Ctx} {g:Nat→gq} {β:Id→Option Pl} {s:AS} {a:Act} {w:World} {o:Oper}
theorem xv(h:Inv C g β s a w){f:FuncId}{en:Entry}(hd:jv P f en){ids:List Id}(hn:ids.Nodup){vs:List aq}{ys:List Value}(hv:nT (s.env w g β) vs ys)
  (hr:(execOp a.eval o).run P w=(callFunc f ys.toArray).run P w) {s':AS} (he:(s.enter en o.dst ids vs).eval=some s'):dK P o a w (eJ C s'):=by
 unfold AS.enter at he
 obtain⟨hall,he⟩:=av.1 he
 obtain⟨x,hx,he⟩:=qV.1 he
 obtain⟨x0,hx0,he⟩:=ai.1 he
 rw[en.BO _ _ hx0]at he
 have hp:∀id∈ids,∃r,s.obj id=some r:=fun id hid=>by
  have:=List.all_eq_true.1 hall id hid
  rw[Bool.and_eq_true]at this
  exact Option.isSome_iff_exists.1 this.1
 have hlo:∀id∈ids,s.rA id=true:=fun id hid=>by
  have:=List.all_eq_true.1 hall id hid
  rw[Bool.and_eq_true]at this
  exact this.2
 have hdo:=hd w (fun b=>gj ids (g b)) (mO β ids) (vs.map (aq.fm (s.jF ids))) (ids.map (s.gf ids)) ys x (nT.fm (Dc ids) hv) (Cx ids hn h.bj) hx
 have key:∀v w',km ((eP (ids.map (s.gf ids))).env w (fun b=>gj ids (g b)) (mO β ids)) (en.out (vs.map (aq.fm (s.jF ids))) (ids.map (s.gf ids)) x) v w'→eJ C s' (a.put o.dst v) w':=by
  intro v w' ha
  unfold AS.back at he
  cases hdst:o.dst with
  |some t=>
   rw[hdst]at he
   obtain⟨hg,he⟩:=av.1 he
   obtain rfl:=aj.1 he
   simp only[Bool.and_eq_true,beq_iff_eq,Bool.or_eq_true]at hg
   obtain⟨hl,hg⟩:=hg
   have hvir:(en.out (vs.map (aq.fm (s.jF ids))) (ids.map (s.gf ids)) x).news=[]∨s.cK t=true:=by
    rcases hg with hg | hg
    ·exact .inl (by simpa using hg)
    ·exact .inr hg
   obtain⟨g2,β2,h1,h2⟩:=qH h hn hp hlo hl hvir ha
   exact⟨g2,β2,h1.put (some t) h2⟩
  |none=>
   rw[hdst]at he
   obtain⟨hg,he⟩:=av.1 he
   obtain rfl:=aj.1 he
   simp only[Bool.and_eq_true,beq_iff_eq]at hg
   obtain⟨hl,hg⟩:=hg
   have hnew:(en.out (vs.map (aq.fm (s.jF ids))) (ids.map (s.gf ids)) x).news=[]:=by simpa using hg
   obtain⟨g2,β2,h1,_⟩:=qH (t:=0) h hn hp hlo hl (.inl hnew) ha
   rw[hnew]at h1
   exact⟨g2,β2,h1⟩
 rcases hdo with⟨hen,hc⟩ | ⟨v,w',hva,ha⟩
 ·exact .inr (.inr ⟨f,ys.toArray,w,hr.trans hen,hc.mono fun e w' ⟨v,he,ha⟩=>⟨v,he,key v w' ha⟩⟩)
 ·exact .inl ⟨v,w',hr.trans hva,key v w' ha⟩
theorem ze(h:Inv C g β s a w){c:Call}{F:Operand}{f:FuncId}{caps:aq}{en:Entry}(ho:o.op= .call c)(hc:c.callee= .value F)(hF:s.ev F= .fn f caps)(hd:jv P f en){s':AS}
  (he:(s.call en o.dst (c.args.toList.map s.ev++caps.list)).eval=some s'):dK P o a w (eJ C s'):=by
 obtain⟨cal,args,tys⟩:=c
 simp only at hc he
 subst hc
 obtain⟨vs,hy,hvc⟩:=yw (hF▸h.ev F)
 have hargs:=(h.F4 args.toList).append (Aj hvc)
 have hr:(execOp a.eval o).run P w=(callFunc f (args.toList.map a.eval++vs).toArray).run P w:=by
  have e1:execOp a.eval o=(do let d ←resolve a.eval {callee:= .value F,args,argTypes:=tys} o.type;invoke d.target d.args):=by simp only[execOp,ho]
  rw[e1]
  simp only[resolve,hy,Deferred.ofValue,Sem.run_bind,Sem.run_pure,Result.andThen_ok,invoke]
  congr 2
  simp
 unfold AS.call at he
 obtain⟨r,h1,h2⟩:=ai.1 he
 obtain⟨g',i1,e1,_,f1⟩:=ej r.2 h
 exact xv i1 hd (v7 _ _) (qP rfl h.bj e1 _ _ _ r hargs h1 f1) hr h2
end
end Go.Ab
namespace Go.Ab
section
variable {P:Program} {C:Ctx} {g:Nat→gq} {β:Id→Option Pl} {s:AS} {a:Act} {w:World} {o:Oper}
theorem fG{b:Builtin}{args:Array Operand}{ts:Array TypeId}{F:TypeId→Array Value→Sem Value}{x:Value}{w':World}{s':AS}(ho:o.op= .call {callee:= .builtin b,args,argTypes:=ts})
  (hb:∀ty cs xs,builtin b ts ty cs xs=(do pure (.value (←F ty xs)))) (hf:∀ty,(F ty (args.map a.eval)).run P w= .ok x w') (h2:∃g' β',Inv C g' β' s' (a.put o.dst x) w'):dK P o a w (eJ C s'):=by
 refine .inl ⟨x,w',?_,h2⟩
 simp only[execOp,ho,resolve,Sem.run_bind,Sem.run_pure,Result.andThen_ok,invoke]
 rw[hb,Sem.run_bind,hf]
 rfl
theorem xq(h:Inv C g β s a w){src dst:TypeId}{x:Operand}(ho:o.op= .convert src dst x){id:Id}{ver:Nat}(hx:s.ev x= .ptr id ver [] 0){v:aq}(he:(tg P s src dst id ver).eval=some v):dK P o a w (eJ C (s.put o.dst v)):=by
 have hv:=h.ev x
 rw[hx]at hv
 obtain⟨ad,hy,hb,hc⟩:=iU hv
 have fin:v= .ptr id ver [] 0→(convert src dst (a.eval x)).run P w= .ok (a.eval x) w→dK P o a w (eJ C (s.put o.dst v)):=by
  intro h1 h2
  subst h1
  exact h.value hv (cE (f:=convert src dst (a.eval x)) (by simp only[execOp,ho]) h2)
 unfold tg at he
 split at he
 ·rename_i v0 fr e c hob
  have hent:=da hob
  obtain⟨pl',cur,e',hp',hh,hg,hk,hV⟩:=(h.bj id v0 fr _ hent).box rfl
  have hk:e'=e:=hk
  subst hk
  have hV:V (s.env w g β) c (cur.toList.take cur.size):=hV
  rw[←Array.length_toList,List.take_length]at hV
  have hh:w.heap[pl'.b]? =some (.cells cur e' (0,0)):=hh
  have hsz:=hV.size
  have hsz:cur.toList.length=c.size:=hsz
  have hsh:w.shape? pl'.b=some (e',c.size):=by simp only[World.shape?,hh];rw[←hsz];simp
  have hp':β id=some pl':=hp'
  split at he
  ·rename_i t hS hD
   obtain⟨h1,h2⟩:=av.1 he
   have h2:=aj.1 h2
   simp only[Bool.and_eq_true,beq_iff_eq,Bool.not_eq_true',beq_eq_false_iff_ne]at h1
   obtain⟨⟨rfl,h3⟩,h4⟩:=h1
   obtain⟨pl,hp,rfl⟩:=hc ⟨fr,_,hent⟩
   have hp:β id=some pl:=hp
   rw[hp']at hp
   obtain rfl:pl'=pl:=by simpa using hp
   refine fin h2.symm ?_
   rw[hy]
   cases hi:P.info? t with
   |none=>exact absurd (by simp[Program.cellsOf,hi]) h3
   |some j=>
    have hj:j.size≠0:=by rw[←fH hi]at*;exact h3
    exact Go.Lib.run_to_unsafe w _ hS hD hi hj hsh (by show 0 < c.size;omega)
  ·rename_i u hS hD
   obtain⟨h1,h2⟩:=av.1 he
   have h2:=aj.1 h2
   simp only[Bool.and_eq_true,beq_iff_eq,Bool.not_eq_true',beq_eq_false_iff_ne]at h1
   obtain⟨⟨rfl,h3⟩,h4⟩:=h1
   obtain⟨pl,hp,rfl⟩:=hc ⟨fr,_,hent⟩
   have hp:β id=some pl:=hp
   rw[hp']at hp
   obtain rfl:pl'=pl:=by simpa using hp
   refine fin h2.symm ?_
   rw[hy]
   cases hi:P.info? u with
   |none=>exact absurd (by simp[Program.cellsOf,hi]) h3
   |some j=>exact Go.Lib.run_from_unsafe w _ hS hD hi hsh h4
  ·simp only[ae]at he
 ·simp only[ae]at he
theorem AK(h:Inv C g β s a w){T U:TypeId}{op:BinOp}{x y:Operand}(ho:o.op= .binOp op T x y U){i j:Id}{v1 v2:Nat}(hx:s.ev x= .ptr i v1 [] 0)(hy:s.ev y= .ptr j v2 [] 0){v:aq}(he:(Er P s T op i v1 j v2).eval=some v):
  dK P o a w (eJ C (s.put o.dst v)):=by
 unfold Er at he
 split at he
 ·rename_i v' fr c hob
  obtain⟨h1,h2⟩:=av.1 he
  simp only[Bool.and_eq_true,beq_iff_eq,decide_eq_true_eq]at h1
  obtain⟨⟨⟨rfl,rfl⟩,rfl⟩,hpt⟩:=h1
  have hent:=da hob
  have hvx:=h.ev x
  have hvy:=h.ev y
  rw[hx]at hvx
  rw[hy]at hvy
  obtain⟨ad,hax,_,hc⟩:=iU hvx
  obtain⟨ad',hay,_,hc'⟩:=iU hvy
  obtain⟨pl,hp,rfl⟩:=hc ⟨fr,c,hent⟩
  obtain⟨pl',hp',rfl⟩:=hc' ⟨fr,c,hent⟩
  rw[hp]at hp'
  obtain rfl:pl=pl':=by simpa using hp'
  have hT:∃t j,P.underlying T=some (.pointer t)∧P.info? t=some j:=by
   unfold E2 at hpt
   split at hpt
   ·rename_i t ht
    obtain⟨j,hj⟩:=Option.isSome_iff_exists.1 hpt
    exact⟨t,j,ht,hj⟩
   ·cases hpt
  obtain⟨t,j,hT,hj⟩:=hT
  have hq:(Op.equal T (.pointer (some ⟨pl.b,0,none⟩)) (.pointer (some ⟨pl.b,0,none⟩))).run P w= .ok true w:=
   dS fun d=>by simp[Op.equalIn,run_underlying hT,sizeOf,typeInfo,hj,run_sameAddr_same]
  have hgd:(eqGuard op T x y (a.eval x) (a.eval y)).run P w= .ok () w:=by rw[hax,hay];exact fS (by simp) rfl
  have fin:∀z,(binOp op T (a.eval x) (a.eval y)).run P w= .ok z w→VS (s.env w g β) v z→dK P o a w (eJ C (s.put o.dst v)):=by
   intro z h1 h3
   refine h.value h3 ?_
   simp[execOp,ho,h1,hgd]
  split at h2
  ·obtain rfl:=aj.1 h2
   refine fin (.bool true) ?_ (jH true)
   rw[hax,hay]
   simp[binOp,hq]
  ·obtain rfl:=aj.1 h2
   refine fin (.bool false) ?_ (jH false)
   rw[hax,hay]
   simp[binOp,hq]
  ·simp only[ae]at h2
 ·simp only[ae]at he
theorem C5{c:Call}{b:Builtin}{x:Operand}(hc:c.callee= .builtin b)(ha:c.args.toList=[x]):c= {callee:= .builtin b,args:= #[x],argTypes:=c.argTypes}:=by
 obtain⟨cal,args,tys⟩:=c
 simp only at hc ha
 have ha':args= #[x]:=by apply Array.ext';simpa using ha
 subst hc ha'
 rfl
theorem yn{c:Call}{b:Builtin}{x y:Operand}(hc:c.callee= .builtin b)(ha:c.args.toList=[x,y]):c= {callee:= .builtin b,args:= #[x,y],argTypes:=c.argTypes}:=by
 obtain⟨cal,args,tys⟩:=c
 simp only at hc ha
 have ha':args= #[x,y]:=by apply Array.ext';simpa using ha
 subst hc ha'
 rfl
theorem F0{ts:Array TypeId}{T:TypeId}(h:ts.toList=[T]):ts= #[T]:=by apply Array.ext';simpa using h
theorem Ef{ts:Array TypeId}{T U:TypeId}(h:ts.toList=[T,U]):ts= #[T,U]:=by apply Array.ext';simpa using h
theorem Ax(h:Inv C g β s a w){c:Call}{x:Operand}{T e:TypeId}(ho:o.op= .call c)(hc:c.callee= .builtin .cap)(ha:c.args.toList=[x])(ht:c.argTypes.toList=[T])(hx:s.ev x= .dq)(hT:P.underlying T=some (.slice e)):
  dK P o a w (eJ C (s.put o.dst (.d (.int .i64) (0:Int)))):=by
 rw[C5 hc ha,F0 ht]at ho
 have hv:=h.ev x
 rw[hx]at hv
 have hy:=fk hv
 refine fG ho (F:=fun ty xs=>Builtin.cap_ #[T] ty xs) (fun ty cs xs=>rfl) (x:= .int .i64 0) (w':=w) (fun ty=> ?_) ⟨g,β,h.put o.dst (fF _ _)⟩
 simp[Builtin.cap_,run_underlying hT,hy,goInt]
theorem wN(h:Inv C g β s a w){c:Call}{x:Operand}{id:Id}{ver len:Nat}(ho:o.op= .call c)(hc:c.callee= .builtin .unsafeSliceData)(ha:c.args.toList=[x])(hx:s.ev x= .bt id ver [] 0 0 len)(hl:0 < len):
  dK P o a w (eJ C (s.put o.dst (.ptr id ver [.idx 0] 0))):=by
 rw[C5 hc ha]at ho
 have hv:=h.ev x
 rw[hx]at hv
 obtain⟨ad,cap,hy,hcap,hs,hb,hcur⟩:=gW hv
 obtain⟨ad,rfl⟩:=Option.isSome_iff_exists.1 (hs hl)
 refine fG ho (F:=fun ty xs=>Builtin.unsafeSliceData_ c.argTypes ty xs) (fun ty cs xs=>rfl) (x:= .pointer (some ad)) (w':=w) (fun ty=> ?_) ⟨g,β,h.put o.dst ?_⟩
 ·rw[show(#[x].map a.eval)= #[a.eval x] by simp,hy]
  exact Go.Lib.run_unsafeSliceData_row w _ _ _ _ _ (by omega)
 ·refine⟨[.pointer (some ad)],?_,rfl⟩
  simp only[V]
  refine⟨ad,rfl,hb,fun hc=> ?_⟩
  have h1:=hcur hc
  cases hp:(s.env w g β).β id with
  |none=>rw[hp]at h1;simp only at h1;cases h1.1
  |some pl=>
   rw[hp]at h1
   simp only at h1
   exact⟨pl,rfl,by simpa using h1.1 (.inl hl)⟩
theorem wi(h:Inv C g β s a w){c:Call}{mx:Bool}(ho:o.op= .call c)(hc:c.callee= .builtin (if mx then .max else .min)){v:aq}(he:(zD mx (c.args.toList.map s.ev)).eval=some v):dK P o a w (eJ C (s.put o.dst v)):=by
 unfold zD at he
 split at he
 ·rename_i k x k' y hxy
  obtain⟨h1,h2⟩:=av.1 he
  obtain rfl:=aj.1 h2
  have h1:k=k':=by simpa using h1
  subst h1
  have hal:∃p q,c.args.toList=[p,q]∧s.ev p= .d (.int k) x∧s.ev q= .d (.int k) y:=by
   match hh:c.args.toList,hxy with
   |[p,q],hxy=>simp only[List.map_cons,List.map_nil,List.cons.injEq]at hxy;exact⟨p,q,rfl,hxy.1,hxy.2.1⟩
   |[],hxy=>simp at hxy
   |[_],hxy=>simp at hxy
   |_::_::_::_,hxy=>simp at hxy
  obtain⟨p,q,ha,hp,hq⟩:=hal
  rw[yn hc ha]at ho
  have hvp:=h.ev p
  have hvq:=h.ev q
  rw[hp]at hvp
  rw[hq]at hvq
  have ep:=kJ hvp
  have eq:=kJ hvq
  cases mx with
  |true=>
   refine fG ho (F:=fun ty xs=>Builtin.max_ c.argTypes ty xs) (fun ty cs xs=>rfl) (x:= .int k (if x < y then y else x)) (w':=w) (fun ty=> ?_) ⟨g,β,h.put o.dst (fF _ _)⟩
   rw[show(#[p,q].map a.eval)= #[a.eval p,a.eval q] by simp,ep,eq]
   simp[Builtin.max_,Builtin.max2]
  |false=>
   refine fG ho (F:=fun ty xs=>Builtin.min_ c.argTypes ty xs) (fun ty cs xs=>rfl) (x:= .int k (if y < x then y else x)) (w':=w) (fun ty=> ?_) ⟨g,β,h.put o.dst (fF _ _)⟩
   rw[show(#[p,q].map a.eval)= #[a.eval p,a.eval q] by simp,ep,eq]
   simp[Builtin.min_,Builtin.min2]
 ·simp only[ae]at he
theorem sx(z:Array Value)(n:Nat):Builtin.zeroCells z n=madeCells z (n*z.size):=rfl
theorem zr(h:Inv C g β s a w){c:Call}{x y:Operand}{T X:TypeId}{k:IntKind}{n:Int}(ho:o.op= .call c)(hc:c.callee= .builtin .append)(ha:c.args.toList=[x,y])(ht:c.argTypes.toList=[T,X])(hx:s.ev x= .dq)(hy:s.ev y= .d (.int k) n){s':AS}
  (he:(vS P s o.dst T X n).eval=some s'):dK P o a w (eJ C s'):=by
 rw[yn hc ha,Ef ht]at ho
 have hvx:=h.ev x
 have hvy:=h.ev y
 rw[hx]at hvx
 rw[hy]at hvy
 have ex:=fk hvx
 have ey:=kJ hvy
 unfold vS at he
 split at he
 ·rename_i e t b q kn hel hd hX
  obtain⟨hT,hz,i,zv,hi,his,hib,hzv,hzr⟩:=kI hel
  obtain⟨hq,h2⟩:=av.1 he
  obtain⟨h3,h4⟩:=ba.1 h2
  obtain rfl:=aj.1 h4
  simp only[Bool.and_eq_true,decide_eq_true_eq,dr]at h3
  obtain⟨h5,h7,h8⟩:=h3
  obtain⟨m,rfl⟩:=Int.eq_ofNat_of_zero_le (Int.le_of_lt h5)
  simp only[Int.toNat_natCast]at h7 h8 ⊢
  have hzc:zv.cells.size=t.size:=by have:=(hzr (s.env w g β)).size;simpa using this
  have hr:=fun ty=>Go.Lib.run_append_nil_zeros (P:=P) w T X ty e i zv k kn hT hX hi hzv m (by omega) (by rw[his];exact hz) (by omega) (by rw[hib];omega)
  obtain⟨cap,hcap⟩:∃cap,grownCap w m 0 e=cap:=⟨_,rfl⟩
  have c1:m≤cap:=by rw[←hcap];exact grownCap_ge _ _ _ _
  have c2:cap≤maxLen:=by rw[←hcap];exact grownCap_le_maxLen _ _ _ _ (by unfold maxLen;omega)
  rw[hcap]at hr
  obtain⟨cur,hcur⟩:∃cur,Builtin.zeroCells zv.cells m++Builtin.zeroCells zv.cells (cap - m)=cur:=⟨_,rfl⟩
  rw[hcur]at hr
  have s1:cur.size=cap*t.size:=by
   rw[←hcur,Array.size_append,kj,kj,hzc,←Nat.add_mul]
   congr 1
   omega
  have hall:=iE (hzr (s.env w.drew g β)) m
  have s2:cur.toList.take (m*t.size)=(madeCells zv.cells (m*t.size)).toList:=by
   rw[←hcur,Array.toList_append,sx,hzc]
   have hl:(madeCells zv.cells (m*t.size)).toList.length=m*t.size:=by simp[size_madeCells]
   rw[List.take_append_of_le_length (by omega),List.take_of_length_le (by omega)]
  obtain⟨g2,β2,i2,hv2⟩:=(h.drew).uH hq (e:=e) (l:=List.replicate m t.zero) (cur:=cur) (cap:=cap) hz (by rw[List.length_replicate,s2];exact hall) s1 (by rw[List.length_replicate];exact c1) c2
  rw[List.length_replicate]at hv2
  refine fG ho (F:=fun ty xs=>Builtin.append_ #[T,X] ty xs) (fun ty cs xs=>rfl) (fun ty=> ?_) ⟨g2,β2,i2.put o.dst hv2⟩
  rw[show(#[x,y].map a.eval)= #[a.eval x,a.eval y] by simp,ex,ey]
  exact hr ty
 ·simp only[ae]at he
theorem tI:∀(xs:List Int) (a:Addr) (acc:ByteArray),(∀j x,xs[j]? =some x→w.cell? (a.add j)=some (.int .u8 x))→
  (loadBytes a acc xs.length).run P w= .ok ⟨acc.data++(xs.map fun n=>UInt8.ofNat n.toNat).toArray⟩ w
 |[],a,acc,_=>by simp[loadBytes]
 |x::l,a,acc,h=>by
  have h0:w.cell? a=some (.int .u8 x):=by
   have:=h 0 x rfl
   simpa[Addr.add]using this
  have ih:=tI l (a.add 1) (acc.push x.toNat.toUInt8) (fun j y hy=>by
   have:=h (j+1) y (by simpa using hy)
   have e:(a.add 1).add j=a.add (j+1):=by
    unfold Addr.add
    by_cases hj:j=0
    ·subst hj;simp
    ·simp[hj];omega
   rw[e];exact this)
  simp only[List.length_cons,loadBytes,Sem.run_bind,run_load,h0,Result.andThen]
  rw[ih]
  congr 1
  apply ByteArray.ext
  simp[ByteArray.push]
theorem z6(h:Inv C g β s a w){c:Call}{x y:Operand}{T U:TypeId}{id:Id}{ver:Nat}{n:Int}(ho:o.op= .call c)(hc:c.callee= .builtin .unsafeString)(ha:c.args.toList=[x,y])(ht:c.argTypes.toList=[T,U])
  (hx:s.ev x= .ptr id ver [.idx 0] 0) (hy:s.ev y= .d (.int .i64) n) {s':AS} (he:(wU P s o.dst T id ver n).eval=some s'):dK P o a w (eJ C s'):=by
 rw[yn hc ha,Ef ht]at ho
 have hvx:=h.ev x
 rw[hx]at hvx
 obtain⟨ad,hax,_,hcp⟩:=iU hvx
 have hvy:=h.ev y
 rw[hy]at hvy
 have hay:=kJ hvy
 unfold wU at he
 split at he
 ·rename_i v e l u hob hT
  obtain⟨h1,h2⟩:=av.1 he
  obtain⟨h3,h4⟩:=ba.1 h2
  obtain rfl:=aj.1 h4
  simp only[Bool.and_eq_true,beq_iff_eq]at h1
  obtain⟨⟨rfl,rfl⟩,hce⟩:=h1
  simp only[decide_eq_true_eq]at h3
  obtain⟨h5,h6⟩:=h3
  obtain⟨n,rfl⟩:=Int.eq_ofNat_of_zero_le (Int.le_of_lt h5)
  have h6:n≤(l:List Int).length:=by omega
  have hent:=da hob
  obtain⟨pl,hp,rfl⟩:=hcp ⟨false,_,hent⟩
  have hp:β id=some pl:=hp
  have hO:jw (s.env w g β) id false (.vec u (.int .u8) l):=h.bj id v false _ hent
  obtain⟨hz,hO⟩:=hO
  have hO:(match β id with
   |none=>l=[]
   |some pl=>∃cur k,w.heap[pl.b]? =some (.cells cur u (0,0))∧cur.size=pl.cap*(Ty.int .u8).size∧(l:List Int).length≤pl.cap∧pl.cap≤maxLen∧g pl.b= .own (.id id) k∧
     k≤(l:List Int).length*(Ty.int .u8).size∧(false=false→k=0)∧aP (bY (s.env w g β) (.int .u8)) (cur.toList.take ((l:List Int).length*(Ty.int .u8).size)) l):=hO
  rw[hp]at hO
  obtain⟨cur,k,q1,q2,q3,q4,q5,q6,q7,q8⟩:=hO
  have hk:=q7 rfl
  subst hk
  have hone:(Ty.int .u8).size=1:=rfl
  rw[hone,Nat.mul_one]at q2 q8
  have hvs:=jg q8
  have hsh:w.shape? pl.b=some (u,cur.size):=by simp only[World.shape?,q1]
  have hcell:∀j z,((l:List Int).take n)[j]? =some z→w.cell? ((⟨pl.b,0,none⟩:Addr).add j)=some (.int .u8 z):=fun j z hj=>by
   rw[List.getElem?_take]at hj
   split at hj
   ·rename_i hjn
    have hjl:j < (l:List Int).length:=by omega
    rw[Addr.add_lit,Nat.zero_add]
    simp only[World.cell?,q1]
    have:(cur.toList.take (l:List Int).length)[j]? =some (.int .u8 z):=by rw[hvs,List.getElem?_map,hj];rfl
    rw[List.getElem?_take,if_pos hjl]at this
    simpa using this
   ·cases hj
  have hlen:((l:List Int).take n).length=n:=by rw[List.length_take];omega
  have hlb:=tI (P:=P) (w:=w) ((l:List Int).take n) ⟨pl.b,0,none⟩ .empty hcell
  rw[hlen]at hlb
  have hlies:=Go.Lib.liesAt_bytes (P:=P) (e:=u) (by simpa using hce) (cur.size / P.cellsOf u) n (by
   rw[show P.cellsOf u=1 by simpa using hce,Nat.div_one];omega)
  have hfz:∃w',w.freeze ⟨pl.b,0,none⟩ n=w'∧w'.os=w.os∧w'.tape=w.tape∧(w'.output=w.output∧w.drawn≤w'.drawn)∧w'.heap.size=w.heap.size∧∀b',b'≠pl.b→w'.heap[b']? =w.heap[b']? :=by
   refine⟨_,rfl,?_⟩
   unfold World.freeze
   rw[if_neg (by omega)]
   refine⟨rfl,rfl,⟨rfl,Nat.le_refl _⟩,by simp,fun b' hb'=> ?_⟩
   simp only[Array.getElem?_modify]
   rw[if_neg (fun e=>hb' e.symm)]
  obtain⟨w',hw',f1,f2,f3,f4,f5⟩:=hfz
  have i1:=h.kill hent q5 f1 f2 f3 f4 f5
  have h63:¬(9223372036854775807:Int) < (n:Int):=by unfold maxLen at q4;omega
  have hneg:¬(n:Int) < 0:=by omega
  have hn0:n≠0:=by omega
  have hmax:IntKind.i64.max=9223372036854775807:=rfl
  refine fG ho (F:=fun ty xs=>Builtin.unsafeString_ #[T,U] ty xs) (fun ty cs xs=>rfl) (x:= .string (dA ((l:List Int).take n))) (w':=w') (fun ty=> ?_) ⟨_,β,i1.put o.dst ⟨[.string (dA ((l:List Int).take n))],by simp only[V,bY];rfl,rfl⟩⟩
  rw[show(#[x,y].map a.eval)= #[a.eval x,a.eval y] by simp,hax,hay]
  have hdef:Builtin.unsafeString_ #[T,U] ty #[.pointer (some ⟨pl.b,0,none⟩),.int .i64 n]=
    (do
     let n ←Go.asInt (.int .i64 n)
     if n < 0 then runtimePanic (.error "unsafe.String: len out of range")
     if n > IntKind.i64.max then unsupported (.unsafePointer "String: a length above the largest int")
     if n=0 then pure (.string .empty)
     else if ←variablesAt ⟨pl.b,0,none⟩ (←elemOf T) n.toNat then do
      let s ←loadBytes ⟨pl.b,0,none⟩ .empty n.toNat
      freeze ⟨pl.b,0,none⟩ n.toNat
      pure (.string s)
     else unsupported (.unsafePointer "String: not so many bytes at ptr")):=rfl
  rw[hdef]
  simp[Go.asInt,asIntOf,hmax,h63,hneg,hn0,variablesAt,hsh,elemOf,run_underlying hT,hlies,hlb,hw',dA]
 ·simp only[ae]at he
end
end Go.Ab
namespace Go.Ab
section
variable {P:Program} {C:Ctx} {g:Nat→gq} {β:Id→Option Pl} {s:AS} {a:Act} {w:World} {o:Oper}
theorem we(h:Inv C g β s a w){c:Call}{T T2:TypeId}{m k:Operand}(hop:o.op= .call c)(hc:c.callee= .builtin .delete)(ha:c.args.toList=[m,k])(ht:c.argTypes.toList=[T,T2]){s':AS}(he:(lE P s T (s.ev m) (s.ev k)).eval=some s'):dK P o a w (eJ C (s'.put o.dst .nil)):=by
 have hop:o.op= .call {callee:= .builtin .delete,args:= #[m,k],argTypes:= #[T,T2]}:=by rw[hop,yn hc ha,Ef ht]
 unfold lE at he
 split at he
 ·rename_i K V' kt vt id ver hm hx
  obtain⟨l,h1,he⟩:=ai.1 he
  obtain⟨kx,h2,he⟩:=ai.1 he
  obtain⟨hul,he⟩:=av.1 he
  obtain rfl:=aj.1 he
  obtain⟨hT,hK,_⟩:=ku hm
  have hvx:=h.ev m
  rw[hx]at hvx
  obtain⟨fr,pl,es,clock,g1,g2,g3,g4,g5,g6,g7,gn⟩:=jR h h1 hvx
  obtain⟨l0,g6,gp⟩:=g6
  have hcomp:=j3 depth K kt hK
  have hk:=lK (h.ev k) h2
  have hck:=gb (P:=P) (w:=w) es.isEmpty depth K kt hK 10000 (by decide) _ _ hk
  obtain⟨r,hf,hr⟩:=nE (P:=P) (w:=w) hK hk g6
  have fin:∀(es':Array MapEntry) (clock':Nat),(∀ty,(Builtin.delete_ #[T,T2] ty (#[m,k].map a.eval)).run P w= .ok (.tuple #[]) {w with heap:=w.heap.setIfInBounds pl.b (.map es' clock')})→Alike (lk (s.env w g β) kt vt) es'.toList (fj kt kx l0)→fZ es'.toList clock'→
    dK P o a w (eJ C ((s.aI id (.obj ver false (.mp kt vt (fj kt kx l)))).put o.dst .nil)):=fun es' clock' hrun hal hbo=>
   fG (F:=fun ty xs=>Builtin.delete_ #[T,T2] ty xs) hop (fun _ _ _=>rfl) hrun ⟨g,β,(h.BG g1 g2 g4 g5 ⟨_,hal,rJ hcomp gn gp⟩ (mn hcomp gn) hbo hul).put o.dst rfl⟩
  cases r with
  |none=>
   simp only at hr
   refine fin es clock (fun ty=> ?_) (by simp only[fj,hr];exact g6) g7
   simp[Builtin.delete_,run_underlying hT,g3,Go.MapKept.run_getObj_map g4,hck,hf,Go.MapKept.run_setObj_map _ g4]
  |some u=>
   obtain⟨j,u⟩:=u
   obtain⟨e,m1,m2,rfl⟩:=hr
   refine fin (es.eraseIdxIfInBounds j) clock (fun ty=> ?_) ?_ (by rw[Array.toList_eraseIdxIfInBounds];exact g7.erase j)
   ·simp[Builtin.delete_,run_underlying hT,g3,Go.MapKept.run_getObj_map g4,hck,hf,Go.MapKept.run_setObj_map _ g4]
   ·simp only[fj,m1,Array.toList_eraseIdxIfInBounds]
    exact g6.erase j
 ·simp only[ae]at he
theorem vm{Γ:dH}(hΓ:Sound P Γ){bj:List Nat}(h:Inv C g β s a w){s':AS}(he:(gM P Γ bj o s).eval=some s'):dK P o a w (eJ C s'):=by
 unfold gM at he
 split at he
 ·rename_i x hop
  obtain rfl:=aj.1 he
  exact tw h (.inl hop)
 ·rename_i x hop
  obtain rfl:=aj.1 he
  exact tw h (.inr hop)
 ·rename_i c x y hop
  obtain⟨v,h1,h2⟩:=ai.1 he
  obtain rfl:=aj.1 h2
  exact zP h hop h1
 ·rename_i T hop
  split at he
  ·rename_i z q hz hq
   obtain⟨h1,h2⟩:=av.1 he
   obtain rfl:=aj.1 h2
   simp only[Bool.and_eq_true]at h1
   exact xd h hop h1.1 h1.2
  ·exact(ae.1 he).elim
 ·rename_i T x hop
  exact As h hop he
 ·rename_i T parts hop
  exact xk h hop he
 ·rename_i T n parts hop
  exact qb h hop he
 ·rename_i T x hop
  obtain⟨v,h1,h2⟩:=ai.1 he
  obtain rfl:=aj.1 h2
  exact zA h hop h1
 ·rename_i T x v hop
  obtain⟨v,h1,h2⟩:=ai.1 he
  obtain rfl:=aj.1 h2
  exact yd h hop h1
 ·rename_i x hop
  exact sO h hop he
 ·rename_i op T x y U hop
  split at he
  ·rename_i i v1 j v2 hx hy
   obtain⟨v,h1,h2⟩:=ai.1 he
   obtain rfl:=aj.1 h2
   exact AK h hop hx hy h1
  ·obtain⟨v,h1,h2⟩:=ai.1 he
   obtain rfl:=aj.1 h2
   exact xh h hop h1
 ·rename_i op T x hop
  obtain⟨v,h1,h2⟩:=ai.1 he
  obtain rfl:=aj.1 h2
  exact z8 h hop h1
 ·rename_i T U x hop
  split at he
  ·rename_i id ver len hTU hx
   exact xp h hop hx he
  ·rename_i id ver hx
   obtain⟨v,h1,h2⟩:=ai.1 he
   obtain rfl:=aj.1 h2
   exact xq h hop hx h1
  ·obtain⟨v,h1,h2⟩:=ai.1 he
   obtain rfl:=aj.1 h2
   exact uf h hop h1
 ·rename_i T x hop
  exact yg h hop he
 ·rename_i f first caps hop
  obtain⟨h1,h2⟩:=av.1 he
  obtain rfl:=aj.1 h2
  simp only[Bool.and_eq_true]at h1
  exact sK h hop h1.1 h1.2
 ·rename_i T l c hop
  obtain⟨n,h1,h2⟩:=ai.1 he
  obtain⟨m,h3,h4⟩:=ai.1 h2
  exact rI h hop h1 h3 h4
 ·rename_i T x lo hi hop
  obtain⟨v,h1,h2⟩:=ai.1 he
  obtain rfl:=aj.1 h2
  exact xV h hop h1
 ·rename_i T x f hop
  obtain⟨v,h1,h2⟩:=ai.1 he
  obtain rfl:=aj.1 h2
  exact qW h hop h1
 ·rename_i T x f hop
  obtain⟨v,h1,h2⟩:=ai.1 he
  obtain rfl:=aj.1 h2
  exact xz h hop h1
 ·rename_i T x i hop
  obtain⟨n,h0,he⟩:=ai.1 he
  obtain⟨v,h1,h2⟩:=ai.1 he
  obtain rfl:=aj.1 h2
  exact rn h hop h0 h1
 ·rename_i T x i hop
  obtain⟨n,h0,he⟩:=ai.1 he
  obtain⟨v,h1,h2⟩:=ai.1 he
  obtain rfl:=aj.1 h2
  exact xD h hop h0 h1
 ·rename_i x i hop
  obtain⟨v,h1,h2⟩:=ai.1 he
  obtain rfl:=aj.1 h2
  exact uj h hop h1
 ·rename_i T hop
  exact uD h hop he
 ·rename_i T x i ok hop
  obtain⟨v,h1,h2⟩:=ai.1 he
  obtain rfl:=aj.1 h2
  exact wc h hop h1
 ·rename_i T m k x hop
  obtain⟨s1,h1,h2⟩:=ai.1 he
  obtain rfl:=aj.1 h2
  exact wh h hop h1
 ·rename_i c hop
  split at he
  ·rename_i hc
   split at he
   ·rename_i m k T T2 ha ht
    obtain⟨s1,h1,h2⟩:=ai.1 he
    obtain rfl:=aj.1 h2
    exact we h hop hc ha ht h1
   ·exact(ae.1 he).elim
  ·rename_i hc
   split at he
   ·rename_i x y T X ha ht
    exact zj h hop hc ha ht he
   ·exact(ae.1 he).elim
  ·rename_i hc
   split at he
   ·rename_i x T ha ht
    obtain⟨v,h1,h2⟩:=ai.1 he
    obtain rfl:=aj.1 h2
    exact Bb h hop hc ha ht h1
   ·exact(ae.1 he).elim
  ·rename_i hc
   split at he
   ·rename_i x y T X ha ht
    split at he
    ·rename_i k n hx hy
     exact zr h hop hc ha ht hx hy he
    ·exact vn h hop hc ha ht he
   ·exact(ae.1 he).elim
  ·rename_i hc
   split at he
   ·rename_i x T ha ht
    split at he
    ·rename_i e hx hT
     obtain rfl:=aj.1 he
     exact Ax h hop hc ha ht hx hT
    ·exact(ae.1 he).elim
   ·exact(ae.1 he).elim
  ·rename_i hc
   obtain⟨v,h1,h2⟩:=ai.1 he
   obtain rfl:=aj.1 h2
   exact wi (mx:=true) h hop hc h1
  ·rename_i hc
   obtain⟨v,h1,h2⟩:=ai.1 he
   obtain rfl:=aj.1 h2
   exact wi (mx:=false) h hop hc h1
  ·rename_i hc
   split at he
   ·rename_i x ha
    split at he
    ·rename_i id ver len hx
     obtain⟨h1,h2⟩:=ba.1 he
     obtain rfl:=aj.1 h2
     exact wN h hop hc ha hx (by simpa using h1)
    ·exact(ae.1 he).elim
   ·exact(ae.1 he).elim
  ·rename_i hc
   split at he
   ·rename_i x y T U ha ht
    split at he
    ·rename_i id ver n hx hy
     exact z6 h hop hc ha ht hx hy he
    ·exact(ae.1 he).elim
   ·exact(ae.1 he).elim
  ·rename_i F hc
   split at he
   ·rename_i f caps hF
    split at he
    ·rename_i en hen
     exact ze h hop hc hF (hΓ f _ en hen) he
    ·exact(ae.1 he).elim
   ·exact(ae.1 he).elim
  ·exact(ae.1 he).elim
 ·exact(ae.1 he).elim
end
end Go.Ab
namespace Go.Ab
def gK(P:Program)(ops:Array Oper)(o:Oper)(a:Act)(w:World)(K:Act→World→Prop):Prop:=
 if Region.wanted o (yielded ops a.tmps) then dK P o a w K else K (a.put o.dst undef) w
theorem gK.mono{P:Program}{ops:Array Oper}{o:Oper}{a:Act}{w:World}{K K':Act→World→Prop}(h:gK P ops o a w K)(hk:∀a w,K a w→K' a w):gK P ops o a w K':=by
 unfold gK at*
 split
 ·rename_i hw;rw[if_pos hw]at h;exact h.mono hk
 ·rename_i hw;rw[if_neg hw]at h;exact hk _ _ h
theorem dK.some{P:Program}{o:Oper}{a:Act}{w:World}{K:Act→World→Prop}(h:dK P o a w K):∃a' w',K a' w':=by
 rcases h with⟨x,w',_,h⟩ | ⟨w',_,h⟩ | ⟨f,args,w',_,h⟩
 ·exact⟨_,_,h⟩
 ·exact⟨_,_,h⟩
 ·obtain⟨e,w'',_,⟨x,_,hx⟩,_⟩:=h []
  exact⟨_,_,hx⟩
theorem gK.some{P:Program}{ops:Array Oper}{o:Oper}{a:Act}{w:World}{K:Act→World→Prop}(h:gK P ops o a w K):∃a' w',K a' w':=by
 unfold gK at h
 split at h
 ·exact h.some
 ·exact⟨_,_,h⟩
theorem gK.wpList{P:Program}{ops:Array Oper}{o:Oper}{a:Act}{w:World}{Q:Exit→Act→World→Prop}{l:List Oper}(h:gK P ops o a w (wpList P ops Q l)):Go.wpList P ops Q (o::l) a w:=by
 unfold gK at h
 unfold Go.wpList
 split
 ·rename_i hw;rw[if_pos hw]at h;exact .inl h.wp
 ·rename_i hw;rw[if_neg hw]at h;exact h
theorem gK.wpOp{P:Program}{ops:Array Oper}{o:Oper}{i:Nat}{a:Act}{w:World}{Q:Exit→Act→World→Prop}{K:Act→World→Prop}(ho:ops[i]? =Option.some o)(h:gK P ops o a w K):Go.wpOp P ops Q i K a w:=by
 unfold gK at h
 unfold Go.wpOp
 simp only[ho]
 split
 ·rename_i hw;rw[if_pos hw]at h;exact .inl h.wp
 ·rename_i hw;rw[if_neg hw]at h;exact h
theorem BA{s:AS}{q:Nat}{v:aq}(h:s.slot q=v)(hq:q < s.bE.length):s.put (some q) v=s:=by
 have hv:s.bE[q]=v:=by simpa[AS.slot,List.getD_eq_getElem?_getD,hq]using h
 simp only[AS.put]
 rw[←hv,List.set_getElem_self]
theorem yR{s:AS}{q:Nat}{t:Ty}{x:t.den}(h:s.slot q= .d t x):q < s.bE.length:=by
 rcases Nat.lt_or_ge q s.bE.length with h' | h'
 ·exact h'
 ·simp[AS.slot,List.getD_eq_getElem?_getD,List.getElem?_eq_none h']at h
def mU(P:Program)(Γ:dH)(bj:List Nat)(ops:Array Oper)(o:Oper)(s:AS):Option AS:=
 match o.guard with
 |none=>(gM P Γ bj o s).eval
 |some (j,want)=>match(ops[j]?).bind (·.dst) with
  |some q=>match s.slot q with
   | .d .bool b=>if b=want then(gM P Γ bj o s).eval else some (s.put o.dst .nil)
   | .nil=>some (s.put o.dst .nil)
   |_=>none
  |none=>none
theorem vR{R:Type}{P:Program}{Γ:dH}{bj:List Nat}{ops:Array Oper}{o:Oper}{s:AS}{k:AS→Option R}{r:R}(h:DN P Γ bj ops o s k=some r):∃s',mU P Γ bj ops o s=some s'∧k s'=some r:=by
 unfold DN at h
 unfold mU
 split at h
 ·rename_i hg
  simp only[hg]
  exact fy.1 h
 ·rename_i j want hg
  simp only[hg]
  split at h
  ·rename_i q hq
   simp only[hq]
   split at h
   ·rename_i b hb
    have e:=BA hb (yR hb)
    simp only[hb]
    cases want <;> cases b <;> simp only[aF]at h <;> rw[e]at h
    ·obtain⟨s',h1,h2⟩:=fy.1 h
     exact⟨s',by simpa using h1,h2⟩
    ·exact⟨_,by simp,h⟩
    ·exact⟨_,by simp,h⟩
    ·obtain⟨s',h1,h2⟩:=fy.1 h
     exact⟨s',by simpa using h1,h2⟩
   ·rename_i hb
    simp only[hb]
    exact⟨_,rfl,h⟩
   ·cases h
  ·cases h
section
variable {P:Program} {C:Ctx} {g:Nat→gq} {β:Id→Option Pl} {s:AS} {a:Act} {w:World} {o:Oper}
theorem yi(h:Inv C g β s a w){ops:Array Oper}{j q:Nat}{b:Bool}(hq:(ops[j]?).bind (·.dst)=some q)(hb:s.slot q= .d .bool b):yielded ops a.tmps j=some b:=by
 have hv:=h.bE q
 rw[hb]at hv
 have hv:=qm hv
 have hl:=yR hb
 rw[←h.size]at hl
 unfold yielded
 rw[hq,Option.bind_some]
 have:a.tmps[q]? =some (.bool b):=by
  rw[Array.getElem?_eq_getElem hl]
  simpa[Array.getD,hl]using hv
 rw[this]
theorem wZ(h:Inv C g β s a w){ops:Array Oper}{j q:Nat}(hq:(ops[j]?).bind (·.dst)=some q)(hb:s.slot q= .nil):yielded ops a.tmps j=none:=by
 have hv:=h.bE q
 rw[hb]at hv
 have hv:a.tmps.getD q undef= .tuple #[]:=hv
 unfold yielded
 rw[hq,Option.bind_some]
 split
 ·rename_i b hb
  rw[Array.getD_eq_getD_getElem?,hb]at hv
  cases hv
 ·rfl
theorem tq{Γ:dH}(hΓ:Sound P Γ){bj:List Nat}{ops:Array Oper}(h:eJ C s a w){s':AS}(he:mU P Γ bj ops o s=some s'):gK P ops o a w (eJ C s'):=by
 obtain⟨g,β,h⟩:=h
 unfold mU at he
 unfold gK
 split at he
 ·rename_i hg
  have:Region.wanted o (yielded ops a.tmps)=true:=by simp[Region.wanted,hg]
  rw[if_pos this]
  exact vm hΓ h he
 ·rename_i j want hg
  split at he
  ·rename_i q hq
   split at he
   ·rename_i b hb
    have hy:=yi h hq hb
    have hw:Region.wanted o (yielded ops a.tmps)=(b==want):=by simp[Region.wanted,hg,hy]
    rw[hw]
    by_cases e:b=want
    ·rw[if_pos e]at he
     rw[if_pos (by simp[e])]
     exact vm hΓ h he
    ·rw[if_neg e]at he
     rw[if_neg (by simp[e])]
     simp only[Option.some.injEq]at he
     subst he
     exact⟨g,β,h.put o.dst rfl⟩
   ·rename_i hb
    have hy:=wZ h hq hb
    have hw:Region.wanted o (yielded ops a.tmps)=false:=by simp[Region.wanted,hg,hy]
    rw[hw,if_neg (by simp)]
    simp only[Option.some.injEq]at he
    subst he
    exact⟨g,β,h.put o.dst rfl⟩
   ·cases he
  ·cases he
theorem yJ{R:Type}{x y:Option R}{r:R}(h:nd x y=some r):x=some r∧y=some r:=by
 unfold nd at h
 split at h
 ·rename_i e;exact⟨h,e▸h⟩
 ·cases h
theorem xL(h:Inv C g β s a w){x y:Operand}{n:Nat}(hn:rL s x y=some n){T:TypeId}(hT:kX.isSl P T=true):∃b,(0 < n→b=false)∧(Op.equal T (a.eval x) (a.eval y)).run P w= .ok b w∧
  ig (a.eval x)=false∧a.eval x≠ .nilIface∧∀op,binOp op T (a.eval x) (a.eval y)=(match op with | .eql=>do pure (.bool (←Op.equal T (a.eval x) (a.eval y))) | .neq=>do pure (.bool (!(←Op.equal T (a.eval x) (a.eval y)))) | _=>binOp op T (a.eval x) (a.eval y)):=by
 have hx:=h.ev x
 have hy:=h.ev y
 unfold kX.isSl at hT
 split at hT <;> try (cases hT;done)
 rename_i e hU
 unfold rL at hn
 split at hn
 ·rename_i t l h1 h2
  rw[h1]at hx;rw[h2]at hy
  obtain⟨ad,cap,vs,hv,_,hs,_⟩:=iG hx
  have hv2:=fk hy
  rw[hv,hv2]
  refine⟨ad.isNone,fun hp=> ?_,?_,rfl,by simp,fun op=>by cases op <;> rfl⟩
  ·obtain rfl:=Option.some.inj hn
   obtain⟨ad',rfl⟩:=Option.isSome_iff_exists.1 (hs hp)
   rfl
  ·cases ad with
   |none=>exact dS fun d=>by simp[Op.equalIn,run_underlying hU]
   |some ad=>exact dS fun d=>by simp[Op.equalIn,run_underlying hU]
 ·rename_i t l h1 h2
  rw[h1]at hx;rw[h2]at hy
  obtain⟨ad,cap,vs,hv,_,hs,_⟩:=iG hy
  have hv2:=fk hx
  rw[hv,hv2]
  refine⟨ad.isNone,fun hp=> ?_,?_,rfl,by simp,fun op=>by cases op <;> rfl⟩
  ·obtain rfl:=Option.some.inj hn
   obtain⟨ad',rfl⟩:=Option.isSome_iff_exists.1 (hs hp)
   rfl
  ·exact dS fun d=>by simp[Op.equalIn,run_underlying hU]
 ·rename_i id ver pp c i len h1 h2
  rw[h1]at hx;rw[h2]at hy
  obtain⟨ad,cap,hv,_,hs,_⟩:=gW hx
  have hv2:=fk hy
  rw[hv,hv2]
  refine⟨ad.isNone,fun hp=> ?_,?_,rfl,by simp,fun op=>by cases op <;> rfl⟩
  ·obtain rfl:=Option.some.inj hn
   obtain⟨ad',rfl⟩:=Option.isSome_iff_exists.1 (hs hp)
   rfl
  ·cases ad with
   |none=>exact dS fun d=>by simp[Op.equalIn,run_underlying hU]
   |some ad=>exact dS fun d=>by simp[Op.equalIn,run_underlying hU]
 ·rename_i id ver pp c i len h1 h2
  rw[h1]at hx;rw[h2]at hy
  obtain⟨ad,cap,hv,_,hs,_⟩:=gW hy
  have hv2:=fk hx
  rw[hv,hv2]
  refine⟨ad.isNone,fun hp=> ?_,?_,rfl,by simp,fun op=>by cases op <;> rfl⟩
  ·obtain rfl:=Option.some.inj hn
   obtain⟨ad',rfl⟩:=Option.isSome_iff_exists.1 (hs hp)
   rfl
  ·exact dS fun d=>by simp[Op.equalIn,run_underlying hU]
 ·cases hn
theorem oF(h:Inv C g β s a w){x y:Operand}{n:Nat}{T U:TypeId}(hn:rL s x y=some n)(hT:kX.isSl P T=true):
  (o.op= .binOp .eql T x y U→∃b,(0 < n→b=false)∧dK P o a w (eJ C (s.put o.dst (.d .bool b))))∧(o.op= .binOp .neq T x y U→∃b,(0 < n→b=true)∧dK P o a w (eJ C (s.put o.dst (.d .bool b)))):=by
 obtain⟨b,h1,h2,h3,h4,h5⟩:=xL (w:=w) h hn hT
 have hg:∀op,(eqGuard op T x y (a.eval x) (a.eval y)).run P w= .ok () w:=fun op=>fS h4 h3
 refine⟨fun ho=>⟨b,h1,h.value (jH b) ?_⟩,fun ho=>⟨!b,fun hp=>by rw[h1 hp];rfl,h.value (jH (!b)) ?_⟩⟩
 ·have h6:(binOp .eql T (a.eval x) (a.eval y)).run P w= .ok (.bool b) w:=by rw[h5 .eql];simp[h2]
  simp[execOp,ho,hg,h6]
 ·have h6:(binOp .neq T (a.eval x) (a.eval y)).run P w= .ok (.bool (!b)) w:=by rw[h5 .neq];simp[h2]
  simp[execOp,ho,hg,h6]
theorem oX{R:Type}{c:Bool}{x y:Option R}{r:R}(h:aF c x y=some r):(c=true∧x=some r)∨(c=false∧y=some r):=by
 cases c
 ·exact .inr ⟨rfl,h⟩
 ·exact .inl ⟨rfl,h⟩
theorem AF{R:Type}{n:Nat}{k:Nat→Option R}{r:R}(h:Ad n k=some r):0 < n∧∀j,j < n→k j=some r:=by
 unfold Ad at h
 split at h
 ·rename_i hx
  obtain rfl:=Option.some.inj h
  exact hx.choose_spec
 ·cases h
theorem AE{R:Type}{n:Nat}{k:Nat→Option R}{x:Option R}(hn:0 < n)(h:∀j,j < n→k j=x):Ad n k=x:=by
 unfold Ad
 cases x with
 |none=>exact dif_neg fun⟨r,_,hr⟩=>by have:=h 0 hn;rw[hr 0 hn]at this;cases this
 |some r=>
  have hx:∃r,0 < n∧∀j,j < n→k j=some r:=⟨r,hn,h⟩
  rw[dif_pos hx]
  have:=hx.choose_spec.2 0 hn
  rw[h 0 hn]at this
  exact this.symm
theorem sX{s:AS}{id:Id}{e:cV}{q:Nat}(hq:s.cK q=true)(hne:s.bk id≠none):(s.aI id e).cK q=true:=by
 cases id with
 |cz k=>exact hq
 |new i j=>
  by_cases hi:i=q
  ·subst hi;exact absurd ((ff hq).1 j) hne
  ·unfold AS.cK AS.aI
   simp only[List.getElem?_set_ne hi]
   exact hq
theorem Alike.len{α β:Type}{R:α→β→Prop}:∀ {xs:List α} {ys:List β},Alike R xs ys→xs.length=ys.length
 |[],[],_=>rfl
 |_::_,_::_,⟨_,h⟩=>by simp[h.len]
 |[],_::_,h=>h.elim
 |_::_,[],h=>h.elim
theorem xP{α:Type}:∀ {xs ys:List α} {i j:Nat} {x:α},xs.Perm ys→xs[i]? =some x→ys[j]? =some x→(xs.eraseIdx i).Perm (ys.eraseIdx j):=by
 have key:∀ {xs:List α} {i:Nat} {x:α},xs[i]? =some x→xs.Perm (x::xs.eraseIdx i):=by
  intro xs
  induction xs with
  |nil=>intro i x h;simp at h
  |cons y xs ih=>
   intro i x h
   cases i with
   |zero=>simp at h;subst h;exact List.Perm.refl _
   |succ i=>
    have h:xs[i]? =some x:=by simpa using h
    exact((ih h).cons y).trans (List.Perm.swap x y _)
 intro xs ys i j x hp hi hj
 exact((key hi).symm.trans (hp.trans (key hj))).cons_inv
theorem xS(h:Inv C g β s a w){T:TypeId}{m:Operand}(hop:o.op= .range T m){s':AS}(he:(xR P s o.dst T (s.ev m)).eval=some s'):dK P o a w (eJ C s'):=by
 unfold xR at he
 split at he
 ·rename_i K V' kt vt id ver q hm hx hd
  obtain⟨l,h1,he⟩:=ai.1 he
  obtain⟨hq,he⟩:=av.1 he
  obtain rfl:=aj.1 he
  rw[Bool.and_eq_true]at hq
  obtain⟨hT,_,_⟩:=ku hm
  have hvx:=h.ev m
  rw[hx]at hvx
  obtain⟨fr,pl,es,clock,g1,g2,g3,g4,g5,g6,g7,gn⟩:=jR h h1 hvx
  obtain rfl:=mC g1 hq.1
  have hne:s.bk id≠none:=by rw[g1];simp
  have Fk:=Trans.refl w g
  have hle0:bH (s.env w g β) ((s.aI id (.obj ver true (.mp kt vt l))).env w g β):=bH.aI g1 (Nat.le_refl _) Fk (fun _ _=>rfl) (fun _=>rfl)
  have i0:Inv C g β (s.aI id (.obj ver true (.mp kt vt l))) a w:=
   h.step (cj _ _ _) Fk hle0 (e7.aI h.bj hne hle0 (fun _ _=>rfl) (fun _ _ _ _ _ _ _ _=>⟨rfl,rfl⟩) ⟨pl,es,clock,g2,g4,g5,⟨g6.mono hle0.mem,gn⟩,g7⟩ (qs g1))
  have hent:=dg s id (.obj ver true (.mp kt vt l)) hne
  have hq':=sX (e:= .obj ver true (.mp kt vt l)) hq.2 hne
  generalize hs0:s.aI id (.obj ver true (.mp kt vt l))=s0 at i0 hent hq' hle0
  have hnew:∀j,id≠ .new q j:=fun j e=>by rw[e,(ff hq').1 j]at hent;cases hent
  have hlt:pl.b < w.heap.size:=(Array.getElem?_eq_some_iff.1 g4).1
  have ht:=Trans.alloc w g (.mapIter (some pl.b) clock #[] clock) (.own (.id (.new q 0)) 0)
  obtain⟨h3,h4⟩:=i0.qI hq' (c:= .im id (ver+1) kt vt l none) (p:=some ⟨w.heap.size,0⟩) ht (fun b hb=>⟨jf w _ hb,dL _ _ _ (by omega)⟩) (fun hE=>
   ⟨⟨w.heap.size,0⟩,pl.b,clock,#[],clock,fB _ _ _,jX w _,dM _ _ _,fun vr hvr=>by
    obtain rfl:ver=vr:=by omega
    have hb:(s0.env w g β).mR id ver:=⟨by show s0.bk id≠none;rw[hent];simp,fun v2 fr2 c2 h2=>by
     have h2:s0.bk id=some (.obj v2 fr2 c2):=h2
     rw[hent]at h2
     simp only[Option.some.injEq,cV.obj.injEq]at h2
     omega⟩
    refine⟨hE.mR _ _ hb,fun _=>⟨⟨kt,vt,l,?_⟩,pl,es,clock,?_,rfl,?_,?_,fun x hx=>g7.2 x hx,⟨Nat.le_refl _,Nat.le_refl _⟩,g7.1,?_,fun x hx=>by cases hx⟩⟩
    ·show(s0.born q _).bk id=_
     rw[eK _ hnew];exact hent
    ·show mY β (.new q 0) _ id=_
     rw[kh _ _ _ (hnew 0)];exact g2
    ·exact(jf w _ hlt).trans g4
    ·show gH g w.heap.size _ pl.b=_
     rw[dL _ _ _ (by omega)];exact g5
    ·have:es.toList.filter (fun e=> !(#[]:Array Nat).contains e.born)=es.toList:=List.filter_eq_self.2 fun x _=>by simp
     rw[this]
     exact(g6.mono hle0.mem).mono hE.mem⟩)
  refine .inl ⟨.pointer (some ⟨w.heap.size,0,none⟩),w.alloc (.mapIter (some pl.b) clock #[] clock),?_,_,_,h3.put o.dst (v:= .ptr (.new q 0) 0 [] 0) ⟨[.pointer (some ⟨w.heap.size,0,none⟩)],?_,rfl⟩⟩
  ·refine cE (f:=Instr.range T (a.eval m)) (by simp only[execOp,hop]) ?_
   rw[g3]
   exact run_range_map w T K V' pl.b es clock hT g4
  ·simp only[V]
   exact⟨_,rfl,iv hq' _ _ _ _,fun _=>⟨_,fB _ _ _,rfl⟩⟩
 ·simp only[ae]at he
theorem rz(h:Inv C g β s a w){x:Operand}{t:yY}(ht:s.A4 (s.ev x)=some t):
  s.bk t.i=some (.obj t.v t.fr (.im t.q (t.vr+1) t.kt t.vt t.rest t.cur))∧(∃k v l,s.bk t.q=some (.obj t.vr true (.mp k v l)))∧
  ∃pl plq since seen c0 es clock,a.eval x= .pointer (some ⟨pl.b,0,none⟩)∧β t.i=some pl∧w.heap[pl.b]? =some (.mapIter (some plq.b) since seen c0)∧g pl.b= .own (.id t.i) 0∧
   β t.q=some plq∧w.heap[plq.b]? =some (.map es clock)∧g plq.b= .own (.id t.q) 0∧(∀x∈es.toList,x.born < since)∧(since≤c0∧since≤clock)∧(es.toList.map (·.born)).Nodup∧
   tW (s.env w g β) t.kt t.vt (es.toList.filter fun e=> !seen.contains e.born) t.rest∧
   ∀x,t.cur=some x→∃(e:MapEntry) (seen':Array Nat),e∈es.toList∧seen=seen'.push e.born∧c0=clock∧lk (s.env w g β) t.kt t.vt e x:=by
 have hvx:=h.ev x
 generalize s.ev x=y at ht hvx
 unfold AS.A4 at ht
 split at ht
 ·rename_i i ver
  split at ht
  ·rename_i v fr q vr kt vt rest cur hob
   split at ht
   ·rename_i hv hl
    obtain rfl:=Option.some.inj ht
    have hv:v=ver:=by simpa using hv
    subst hv
    have hent:=da hob
    unfold AS.wb at hl
    split at hl
    ·rename_i v2 k2 t2 l2 hob2
     have hl:v2=vr:=by simpa using hl
     subst hl
     have hq:=da hob2
     refine⟨hent,⟨_,_,_,hq⟩,?_⟩
     obtain⟨pl,mb,since,seen,c0,h1,h2,h3,h4⟩:=h.bj i v fr _ hent
     obtain⟨h5,h6⟩:=h4 v2 rfl
     obtain⟨_,plq,es,clock,k1,k2,k3,k4,k5,k6,k7,k8,k9⟩:=h6 ⟨_,_,hq⟩
     subst k2
     obtain⟨ad,m1,m2,m3⟩:=iU hvx
     obtain⟨pl',m4,rfl⟩:=m3 ⟨_,_,hent⟩
     have h1:β i=some pl:=h1
     have m4:β i=some pl':=m4
     rw[h1]at m4
     obtain rfl:pl=pl':=by simpa using m4
     exact⟨pl,plq,since,seen,c0,es,clock,m1,h1,h2,h3,k1,k3,k4,k5,k6,k7,k8,k9⟩
    ·cases hl
   ·cases ht
  ·cases ht
 ·cases ht
theorem lk.Gj{E:Env}{kt vt:Ty}{e:MapEntry}{x:kt.den×vt.den}(h:lk E kt vt e x):VS E (.cons (.d kt x.1) (.cons (.d vt x.2) .nil)) (.tuple #[e.key,e.val]):=by
 obtain⟨⟨c1,a1,b1⟩,c2,a2,b2⟩:=h
 refine⟨[e.key,e.val],rfl,?_⟩
 simp only[VC]
 exact⟨_,_,c1,rfl,by simpa only[V]using a1,b1,_,_,c2,rfl,by simpa only[V]using a2,b2,rfl⟩
theorem lk.Gk{E:Env}{kt vt:Ty}{e:MapEntry}{x:kt.den×vt.den}(h:lk E kt vt e x):VS E (.cons (.d .bool true) (.cons (.d kt x.1) (.cons (.d vt x.2) .nil))) (.tuple #[.bool true,e.key,e.val]):=by
 obtain⟨⟨c1,a1,b1⟩,c2,a2,b2⟩:=h
 refine⟨[.bool true,e.key,e.val],rfl,?_⟩
 simp only[VC]
 exact⟨_,_,[.bool true],rfl,by simp only[V,bY],rfl,_,_,c1,rfl,by simpa only[V]using a1,b1,_,_,c2,rfl,by simpa only[V]using a2,b2,rfl⟩
theorem xx(h:Inv C g β s a w){x:Operand}(hop:o.op= .entry x){v:aq}(he:(xw s (s.ev x)).eval=some v):dK P o a w (eJ C (s.put o.dst v)):=by
 unfold xw at he
 split at he
 ·rename_i i v0 fr q vr kt vt rest c ht
  obtain rfl:=aj.1 he
  obtain⟨_,_,pl,plq,since,seen,c0,es,clock,m1,m2,m3,_,m5,m6,m7,_,_,m10,_,m12⟩:=rz h ht
  obtain⟨e,seen',n1,rfl,rfl,n4⟩:=m12 c rfl
  refine h.value n4.Gj (cE (f:=Instr.entry (a.eval x)) (by simp only[execOp,hop]) ?_)
  rw[m1]
  exact run_entry_at w pl.b plq.b since seen' es _ e m3 m6 n1 m10
 ·simp only[ae]at he
theorem heap_drew{w w1:World}(hw:w1=w∨w1=w.drew):w1.heap=w.heap∧w1.os=w.os∧w1.tape=w.tape∧(w1.output=w.output∧w.drawn≤w1.drawn):=by
 rcases hw with rfl | rfl
 ·exact⟨rfl,rfl,rfl,rfl,Nat.le_refl _⟩
 ·exact⟨rfl,rfl,rfl,rfl,Nat.le_succ _⟩
theorem Inv.E5(h:Inv C g β s a w){i q:Id}{v vr:Nat}{fr:Bool}{kt vt:Ty}{rest:List (kt.den×vt.den)}{cur:Option (kt.den×vt.den)}(hent:s.bk i=some (.obj v fr (.im q (vr+1) kt vt rest cur)))
  {k2 v2:Ty} {l2:List (k2.den×v2.den)} (hq:s.bk q=some (.obj vr true (.mp k2 v2 l2))) {pl plq:Pl} {m0:Option Nat} {since0 c00:Nat} {seen0:Array Nat} (hp:β i=some pl) (hb:w.heap[pl.b]? =some (.mapIter m0 since0 seen0 c00)) (hg:g pl.b= .own (.id i) 0)
  {w1:World} (hw:w1=w∨w1=w.drew) {es:Array MapEntry} {clock since c0:Nat} {seen:Array Nat} (hpq:β q=some plq) (hbq:w.heap[plq.b]? =some (.map es clock)) (hgq:g plq.b= .own (.id q) 0)
  (h1:∀x∈es.toList,x.born < since) (h2:since≤c0∧since≤clock) (h3:(es.toList.map (·.born)).Nodup) {rest':List (kt.den×vt.den)} {cur':Option (kt.den×vt.den)} (h4:tW (s.env w g β) kt vt (es.toList.filter fun e=> !seen.contains e.born) rest')
  (h5:∀x,cur'=some x→∃(e:MapEntry) (seen':Array Nat),e∈es.toList∧seen=seen'.push e.born∧c0=clock∧lk (s.env w g β) kt vt e x):
  Inv C g β (s.aI i (.obj v fr (.im q (vr+1) kt vt rest' cur'))) a (Go.ChangeMaps.setBlock w1 pl.b (.mapIter (some plq.b) since seen c0))∧
   iP (s.env w g β) ((s.aI i (.obj v fr (.im q (vr+1) kt vt rest' cur'))).env (Go.ChangeMaps.setBlock w1 pl.b (.mapIter (some plq.b) since seen c0)) g β):=by
 obtain⟨d1,d2,d3,d4⟩:=heap_drew hw
 have hlt:pl.b < w.heap.size:=(Array.getElem?_eq_some_iff.1 hb).1
 have hheap:(Go.ChangeMaps.setBlock w1 pl.b (.mapIter (some plq.b) since seen c0)).heap=w.heap.setIfInBounds pl.b (.mapIter (some plq.b) since seen c0):=by
  show w1.heap.setIfInBounds _ _=_
  rw[d1]
 have hos:(Go.ChangeMaps.setBlock w1 pl.b (.mapIter (some plq.b) since seen c0)).os=w.os∧(Go.ChangeMaps.setBlock w1 pl.b (.mapIter (some plq.b) since seen c0)).tape=w.tape∧((Go.ChangeMaps.setBlock w1 pl.b (.mapIter (some plq.b) since seen c0)).output=w.output∧w.drawn≤(Go.ChangeMaps.setBlock w1 pl.b (.mapIter (some plq.b) since seen c0)).drawn):=⟨d2,d3,d4⟩
 generalize Go.ChangeMaps.setBlock w1 pl.b (.mapIter (some plq.b) since seen c0)=w' at hheap hos
 have hother:∀b',b'≠pl.b→w'.heap[b']? =w.heap[b']? :=fun b' hne=>by
  rw[hheap,Array.getElem?_setIfInBounds,if_neg (fun e=>hne e.symm)]
 have hself:w'.heap[pl.b]? =some (.mapIter (some plq.b) since seen c0):=by
  rw[hheap,Array.getElem?_setIfInBounds,if_pos rfl,if_pos hlt]
 have ht:Trans w w' g g:=by
  refine⟨hos.1,hos.2.1,hos.2.2,by rw[hheap];simp,fun b' _=> ?_⟩
  by_cases he:b'=pl.b
  ·subst he
   rw[hg]
   exact⟨.inr ⟨i,0,rfl,Nat.le_refl _⟩,fun _ _ hh=>by omega⟩
  ·rw[hother b' he]
   cases hgb:g b' with
   |free=>exact⟨rfl,rfl⟩
   |own o' k=>cases o' with
    |dC=>exact⟨rfl,rfl⟩
    |id i'=>exact⟨.inr ⟨i',k,rfl,Nat.le_refl _⟩,fun off v _ hv=>by simpa only[World.cell?,hother b' he]using hv⟩
 have hle:bH (s.env w g β) ((s.aI i (.obj v fr (.im q (vr+1) kt vt rest' cur'))).env w' g β):=bH.aI hent (Nat.le_refl _) ht (fun _ _=>rfl) (fun _=>rfl)
 have hqi:q≠i:=fun e=>by rw[e,hent]at hq;cases hq
 have hpp:plq.b≠pl.b:=fun e=>by rw[e,hb]at hbq;cases hbq
 refine⟨h.step (cj _ _ _) ht hle (e7.aI h.bj (by rw[hent];simp) hle (fun _ _=>rfl) (fun i' ver' fr' c' pl2 hi hs2 hp2=>⟨hother _ (h.apart hg hi hs2 hp2),rfl⟩) ?_ (gA hent fun _ _ _ e=>by cases e)),hle.mem⟩
 refine⟨pl,plq.b,since,seen,c0,hp,hself,hg,fun vr' hvr=> ?_⟩
 obtain rfl:vr=vr':=by omega
 have hbd:(s.env w g β).mR q vr:=⟨by show s.bk q≠none;rw[hq];simp,fun v3 fr3 c3 h3=>by
  have h3:s.bk q=some (.obj v3 fr3 c3):=h3
  rw[hq]at h3
  simp only[Option.some.injEq,cV.obj.injEq]at h3
  omega⟩
 refine⟨hle.mR _ _ hbd,fun _=>⟨⟨k2,v2,l2,?_⟩,plq,es,clock,hpq,rfl,(hother _ hpp).trans hbq,hgq,h1,h2,h3,h4.mono hle.mem,fun x hx=> ?_⟩⟩
 ·show(s.aI i _).bk q=_
  rw[bJ s i q _ hqi];exact hq
 ·obtain⟨e,se,a1,a2,a3,a4⟩:=h5 x hx
  exact⟨e,se,a1,a2,a3,a4.mono hle.mem⟩
theorem Inv.Dd(h:Inv C g β s a w){i q:Id}{v ver ver':Nat}{fr:Bool}{kt vt:Ty}{rest rest':List (kt.den×vt.den)}{cur cur':Option (kt.den×vt.den)}(hent:s.bk i=some (.obj v fr (.im q ver kt vt rest cur)))
  (hk:ver'=0∨(ver'=ver∧rest'=rest∧cur'=none)):Inv C g β (s.aI i (.obj v fr (.im q ver' kt vt rest' cur'))) a w:=by
 have ht:=Trans.refl w g
 have hle:bH (s.env w g β) ((s.aI i (.obj v fr (.im q ver' kt vt rest' cur'))).env w g β):=bH.aI hent (Nat.le_refl _) ht (fun _ _=>rfl) (fun _=>rfl)
 refine h.step (cj _ _ _) ht hle (e7.aI h.bj (by rw[hent];simp) hle (fun _ _=>rfl) (fun _ _ _ _ _ _ _ _=>⟨rfl,rfl⟩) ?_ (gA hent fun _ _ _ e=>by cases e))
 obtain⟨pl,mb,since,seen,c0,h1,h2,h3,h4⟩:=h.bj i v fr _ hent
 refine⟨pl,mb,since,seen,c0,h1,h2,h3,fun vr hvr=> ?_⟩
 rcases hk with hk | ⟨rfl,rfl,rfl⟩
 ·omega
 ·obtain⟨h5,h6⟩:=h4 vr hvr
  refine⟨hle.mR _ _ h5,fun hc=> ?_⟩
  obtain⟨c1,_⟩:=hle.cur _ _ h5 hc
  obtain⟨⟨k,v1,l,hq⟩,plq,es,clock,k1,k2,k3,k4,k5,k6,k7,k8,_⟩:=h6 c1
  have hqi:q≠i:=fun e=>by
   have hq:s.bk q=_:=hq
   rw[e,hent]at hq;cases hq
  exact⟨⟨k,v1,l,by show(s.aI i _).bk q=_;rw[bJ s i q _ hqi];exact hq⟩,plq,es,clock,k1,k2,k3,k4,k5,k6,k7,k8.mono hle.mem,fun x hx=>by cases hx⟩
theorem xT{s:AS}{q i:Id}{e:cV}(h:s.rQ q=false)(hi:s.bk i=some e):e.A5 q=false:=by
 unfold AS.rQ at h
 rw[Bool.or_eq_false_iff]at h
 cases i with
 |cz k=>simpa using List.any_eq_false.1 h.1 _ (List.mem_of_getElem? hi)
 |new a b=>
  have hi:(s.news.getD a [])[b]? =some e:=hi
  by_cases ha:a < s.news.length
  ·have h2:(s.news.getD a []).any (cV.A5 q)=false:=by simpa using List.any_eq_false.1 h.2 (s.news.getD a []) (by simp[List.getD_eq_getElem?_getD,List.getElem?_eq_getElem ha])
   simpa using List.any_eq_false.1 h2 _ (List.mem_of_getElem? hi)
  ·simp[List.getD_eq_getElem?_getD,List.getElem?_eq_none (Nat.le_of_not_lt ha)]at hi
theorem Inv.unlock(h:Inv C g β s a w){q:Id}{vr:Nat}{k v:Ty}{l:List (k.den×v.den)}(hent:s.bk q=some (.obj vr true (.mp k v l)))(hr:s.rQ q=false):Inv C g β (s.aI q (.obj vr false (.mp k v l))) a w:=by
 have ht:=Trans.refl w g
 have hle:bH (s.env w g β) ((s.aI q (.obj vr false (.mp k v l))).env w g β):=bH.aI hent (Nat.le_refl _) ht (fun _ _=>rfl) (fun _=>rfl)
 refine h.step (cj _ _ _) ht hle fun i ver fr c hi=> ?_
 have hi:(s.aI q (.obj vr false (.mp k v l))).bk i=some (.obj ver fr c):=hi
 by_cases hiq:i=q
 ·subst hiq
  rw[dg s i _ (by rw[hent];simp)]at hi
  simp only[Option.some.injEq,cV.obj.injEq]at hi
  obtain⟨rfl,rfl,rfl⟩:=hi
  obtain⟨pl,es,clock,h1,h2,h3,h4,h5⟩:=h.bj i vr true _ hent
  exact⟨pl,es,clock,h1,h2,h3,⟨h4.1.mono hle.mem,h4.2⟩,h5⟩
 ·rw[bJ s q i _ hiq]at hi
  refine(h.bj i ver fr c hi).Dh hle rfl (fun _ _=>⟨rfl,rfl⟩) fun q2 v2 k2 v3 l2 hc hq2 _=>⟨⟨k2,v3,l2,?_⟩,fun _ _=>⟨rfl,rfl⟩⟩
  obtain⟨kt,vt,rest,cu,rfl⟩:=hc
  have hn:=xT hr hi
  have hne:q2≠q:=fun e=>by simp[cV.A5,e]at hn
  show(s.aI q _).bk q2=_
  rw[bJ s q q2 _ hne];exact hq2
theorem xG{es:List MapEntry}{seen:Array Nat}(hn:(es.map (·.born)).Nodup){j:Nat}{e:MapEntry}(hj:(es.filter fun e=> !seen.contains e.born)[j]? =some e):
  es.filter (fun x=> !(seen.push e.born).contains x.born)=(es.filter fun e=> !seen.contains e.born).eraseIdx j:=by
 have h1:es.filter (fun x=> !(seen.push e.born).contains x.born)=(es.filter fun e=> !seen.contains e.born).filter fun x=>x.born !=e.born:=by
  rw[List.filter_filter]
  refine List.filter_congr fun x _=> ?_
  rw[contains_push]
  cases seen.contains x.born <;> cases hb:x.born==e.born <;> simp[bne,hb]
 rw[h1]
 have hn2:((es.filter fun e=> !seen.contains e.born).map (·.born)).Nodup:=hn.sublist (List.filter_sublist.map _)
 generalize es.filter (fun e=> !seen.contains e.born)=L at hj hn2
 induction L generalizing j with
 |nil=>simp at hj
 |cons x L ih=>
  rw[List.map_cons,List.nodup_cons]at hn2
  cases j with
  |zero=>
   simp only[List.getElem?_cons_zero,Option.some.injEq]at hj
   subst hj
   have:L.filter (fun y=>y.born !=x.born)=L:=List.filter_eq_self.2 fun y hy=>by
    have:y.born≠x.born:=fun e=>hn2.1 (e▸List.mem_map.2 ⟨y,hy,rfl⟩)
    simpa using this
   simp[this]
  |succ j=>
   have hj:L[j]? =some e:=by simpa using hj
   have hx:(x.born !=e.born)=true:=by
    have:x.born≠e.born:=fun h=>hn2.1 (h▸List.mem_map.2 ⟨e,List.mem_of_getElem? hj,rfl⟩)
    simpa using this
   rw[List.filter_cons,hx,List.eraseIdx_cons_succ]
   simp only[if_true]
   rw[ih hj hn2.2]
theorem zJ(h:Inv C g β s a w){x:Operand}(hop:o.op= .next x false){t:yY}(ht:s.A4 (s.ev x)=some t){R:Type}{k:AS→Option R}{r:R}(he:Bl s o.dst t k=some r):
  dK P o a w fun a' w'=>∃s',eJ C s' a' w'∧k s'=some r:=by
 obtain⟨hi,⟨k2,v2,l2,hq⟩,pl,plq,since,seen,c0,es,clock,m1,m2,m3,m4,m5,m6,m7,m8,m9,m10,m11,_⟩:=rz h ht
 have hex:∀ {y:Value} {w':World},(Instr.next (a.eval x) false o.type).run P w= .ok y w'→(execOp a.eval o).run P w= .ok (.value y) w':=fun hr=>
  cE (f:=Instr.next (a.eval x) false o.type) (by simp only[execOp,hop]) hr
 have hlo:(leftOf es seen).toList=es.toList.filter fun e=> !seen.contains e.born:=by unfold leftOf;rw[Array.toList_filter]
 obtain⟨l',m11,hperm⟩:=m11
 have hlen:=m11.len
 rw[hperm.length_eq]at hlen
 rw[←hlo,Array.length_toList]at hlen
 unfold Bl at he
 rcases run_next_at (P:=P) w o.type pl.b plq.b since c0 seen es clock m3 m6 m8 m9.1 with⟨h0,hrun⟩ | ⟨e,hem,w1,hw,hrun⟩
 ·rcases oX he with⟨hc,_⟩ | ⟨_,he⟩
  ·have:0 < t.rest.length:=by simpa using hc
   omega
  ·unfold AS.CO at he
   have i1:=h.Dd (rest':=[]) (cur':=none) hi (.inl rfl)
   have hqi:t.q≠t.i:=fun e=>by rw[e,hi]at hq;simp at hq
   have hq1:(s.aI t.i (.obj t.v t.fr (.im t.q 0 t.kt t.vt [] none))).bk t.q=some (.obj t.vr true (.mp k2 v2 l2)):=by rw[bJ s t.i t.q _ hqi];exact hq
   generalize s.aI t.i (.obj t.v t.fr (.im t.q 0 t.kt t.vt [] none))=s1 at he i1 hq1
   cases hr:s1.rQ t.q with
   |true=>rw[hr]at he;cases he
   |false=>
    rw[hr]at he
    simp only at he
    have hun:s1.unlock t.q=s1.aI t.q (.obj t.vr false (.mp k2 v2 l2)):=by simp only[AS.unlock,AS.obj,hq1]
    rw[hun]at he
    rw[←m1]at hrun
    refine .inl ⟨_,w,hex hrun,_,⟨g,β,(i1.unlock hq1 hr).put o.dst (v:= .cons (.d .bool false) .nil) ⟨[.bool false],rfl,?_⟩⟩,he⟩
    simp only[VC]
    exact⟨_,_,[.bool false],rfl,by simp only[V,bY],rfl,rfl⟩
 ·rcases oX he with⟨hc,he⟩ | ⟨hc,_⟩
  ·obtain⟨_,hd⟩:=AF he
   rw[hlo]at hem
   obtain⟨i,hi0⟩:=List.getElem?_of_mem hem
   obtain⟨y,hy1,hy2⟩:=m11.get hi0
   obtain⟨j,hj⟩:=List.getElem?_of_mem (hperm.mem_iff.1 (List.mem_of_getElem? hy1))
   have hjl:j < t.rest.length:=(List.getElem?_eq_some_iff.1 hj).1
   have hy:jk t.kt t.vt t.rest j=y:=by simp[jk,List.getD_eq_getElem?_getD,hj]
   have hall:e∈es.toList:=(List.mem_filter.1 hem).1
   have i1:=h.E5 (rest':=t.rest.eraseIdx j) (cur':=some (jk t.kt t.vt t.rest j)) (since:=since) (c0:=clock) (seen:=seen.push e.born) hi hq m2 m3 m4 hw m5 m6 m7 m8 ⟨m9.2,m9.2⟩ m10 ?_ ?_
   rotate_left
   ·rw[xG m10 hi0];exact⟨_,m11.erase i,xP hperm hy1 hj⟩
   ·intro z hz
    obtain rfl:=Option.some.inj hz
    exact⟨e,seen,hall,rfl,rfl,by rw[hy];exact hy2⟩
   rw[←m1]at hrun
   have hVS:=(hy▸hy2:lk (s.env w g β) t.kt t.vt e (jk t.kt t.vt t.rest j))
   refine .inl ⟨_,_,hex hrun,_,⟨g,β,i1.1.put o.dst (v:= .cons (.d .bool true) (.cons (.d t.kt (jk t.kt t.vt t.rest j).1) (.cons (.d t.vt (jk t.kt t.vt t.rest j).2) .nil))) ?_⟩,hd j hjl⟩
   exact lk.Gk (hVS.mono i1.2)
  ·have hc:¬0 < t.rest.length:=by simpa using hc
   have:0 < (leftOf es seen).toList.length:=List.length_pos_of_mem hem
   rw[Array.length_toList]at this
   omega
theorem zq{Γ:dH}(hΓ:Sound P Γ){bj:List Nat}{ops:Array Oper}{R:Type}{k:AS→Option R}{r:R}(h:eJ C s a w)(he:Cp P Γ bj ops o s k=some r):
  gK P ops o a w fun a' w'=>∃s',eJ C s' a' w'∧k s'=some r:=by
 have plain:DN P Γ bj ops o s k=some r→gK P ops o a w fun a' w'=>∃s',eJ C s' a' w'∧k s'=some r:=fun he=>by
  obtain⟨s1,h1,h2⟩:=vR he
  exact(tq hΓ h h1).mono fun a' w' hs=>⟨s1,hs,h2⟩
 have stepK:∀(hg:o.guard=none),(dK P o a w fun a' w'=>∃s',eJ C s' a' w'∧k s'=some r)→gK P ops o a w fun a' w'=>∃s',eJ C s' a' w'∧k s'=some r:=fun hg hr=>by
  unfold gK
  have:Region.wanted o (yielded ops a.tmps)=true:=by simp[Region.wanted,hg]
  rw[if_pos this]
  exact hr
 have step:∀(hg:o.guard=none) (b:Bool),dK P o a w (eJ C (s.put o.dst (.d .bool b)))→k (s.put o.dst (.d .bool b))=some r→gK P ops o a w fun a' w'=>∃s',eJ C s' a' w'∧k s'=some r:=fun hg b hr hk=>by
  unfold gK
  have:Region.wanted o (yielded ops a.tmps)=true:=by simp[Region.wanted,hg]
  rw[if_pos this]
  exact hr.mono fun a' w' hs=>⟨_,hs,hk⟩
 unfold Cp at he
 split at he
 ·rename_i T x y U hg ho
  split at he
  ·rename_i n hn hT
   obtain⟨g,β,hi⟩:=h
   obtain⟨b,hb,hr⟩:=(oF (o:=o) (U:=U) hi hn hT).1 ho
   refine step hg b hr ?_
   rcases oX he with⟨hc,hk⟩ | ⟨_,hk⟩
   ·rw[hb (by simpa using hc)];exact hk
   ·obtain⟨k1,k2⟩:=yJ hk
    cases b
    ·exact k2
    ·exact k1
  ·exact plain he
 ·rename_i T x y U hg ho
  split at he
  ·rename_i n hn hT
   obtain⟨g,β,hi⟩:=h
   obtain⟨b,hb,hr⟩:=(oF (o:=o) (U:=U) hi hn hT).2 ho
   refine step hg b hr ?_
   rcases oX he with⟨hc,hk⟩ | ⟨_,hk⟩
   ·rw[hb (by simpa using hc)];exact hk
   ·obtain⟨k1,k2⟩:=yJ hk
    cases b
    ·exact k2
    ·exact k1
  ·exact plain he
 ·rename_i T m hg ho
  obtain⟨s1,h1,h2⟩:=fy.1 he
  obtain⟨g,β,hi⟩:=h
  exact stepK hg ((xS hi ho h1).mono fun _ _ hs=>⟨_,hs,h2⟩)
 ·rename_i x hg ho
  obtain⟨s1,h1,h2⟩:=fy.1 he
  obtain⟨v,h3,h4⟩:=ai.1 h1
  obtain rfl:=aj.1 h4
  obtain⟨g,β,hi⟩:=h
  exact stepK hg ((xx hi ho h3).mono fun _ _ hs=>⟨_,hs,h2⟩)
 ·rename_i x hg ho
  split at he
  ·rename_i t ht
   obtain⟨g,β,hi⟩:=h
   exact stepK hg (zJ hi ho ht he)
  ·cases he
 ·exact plain he
theorem pM{Γ:dH}(hΓ:Sound P Γ){bj:List Nat}{ops:Array Oper}{R:Type}{Q:Exit→Act→World→Prop}:∀(l:List Oper) {s:AS} {a:Act} {w:World} {k:AS→Option R} {r:R},eJ C s a w→Cq P Γ bj ops l s k=some r→
  (∀s' a' w',eJ C s' a' w'→k s'=some r→Q .normal a' w')→wpList P ops Q l a w
 |[],s,a,w,k,r,h,he,hk=>hk s a w h he
 |o::l,s,a,w,k,r,h,he,hk=>by
  have he:Cp P Γ bj ops o s (fun s'=>s'.seen fun s'=>Cq P Γ bj ops l s' k)=some r:=he
  simp only[AS.oW]at he
  exact((zq hΓ h he).mono fun a' w' ⟨s',hs,h2⟩=>pM hΓ l hs h2 hk).wpList
end
end Go.Ab
namespace Go.Ab
theorem AS.AM{s t:AS}(h1:s.bE=t.bE)(h2:s.news.length=t.news.length)(h3:∀id,s.bk id=t.bk id):s=t:=by
 obtain⟨a,b,c⟩:=s
 obtain⟨a',b',c'⟩:=t
 simp only at h1 h2
 subst h1
 have hb:b=b':=List.ext_getElem? fun k=>h3 (.cz k)
 subst hb
 have hc:c=c':=by
  apply List.ext_getElem h2
  intro i h h'
  apply List.ext_getElem?
  intro j
  have:=h3 (.new i j)
  simpa[AS.bk,List.getD_eq_getElem?_getD,h,h']using this
 rw[hc]
def cV.wL:cV→cV→Prop
 | .obj v _ c,.obj v' _ c'=>v=v'∧c=c'
 | .dead,.dead=>True
 |_,_=>False
def ke:Option cV→Option cV→Prop
 |some a,some b=>a.wL b
 |none,none=>True
 |_,_=>False
def cV.yx:cV→cV
 | .obj v _ c=> .obj v true c
 | .dead=> .dead
theorem cV.BM(a:cV):a.wL a:=by cases a <;> simp[cV.wL]
theorem zV(a:Option cV):ke a a:=by cases a <;> simp[ke,cV.BM]
theorem zU(a:Option cV):ke (a.map cV.yx) a:=by
 cases a with
 |none=>trivial
 |some x=>cases x <;> simp[ke,cV.wL,cV.yx]
theorem cV.Cl(a:cV):a.yx.yx=a.yx:=by cases a <;> rfl
structure fC(f:l5)(s t:AS):Prop where
 bE:∀i∈f.bE,t.slot i=s.slot i
 ws:∀id∈f.ws,t.bk id=s.bk id
 rs:∀id∈f.rs,ke (t.bk id) (s.bk id)
 cK:∀q,f.dst=some q→t.cK q=s.cK q
structure Ej where
 v:aq
 up:Id→Option cV
 fz:List Id
structure App(d:Option Tmp)(E:Ej)(s s':AS):Prop where
 bE:s'.bE=(s.put d E.v).bE
 len:s'.news.length=s.news.length
 bk:∀id,s'.bk id=match E.up id with | some e=>some e | none=>if id∈E.fz then(s.bk id).map cV.yx else s.bk id
theorem App.Dz{d:Option Tmp}{E:Ej}{s s1 s2:AS}(h1:App d E s s1)(h2:App d E s s2):s1=s2:=
 AS.AM (by rw[h1.bE,h2.bE]) (by rw[h1.len,h2.len]) fun id=>by rw[h1.bk,h2.bk]
structure tZ(f:l5)(s:AS)(E:Ej):Prop where
 up:∀id e,E.up id=some e→(id∈f.ws∧s.bk id≠none)∨∃q j,f.dst=some q∧id= .new q j
 fz:∀id∈E.fz,id∈f.rs
theorem nI(s:AS)(id:Id)(e:cV):(s.aI id e).news.length=s.news.length:=by cases id <;> simp[AS.aI]
theorem sH(s:AS)(id i:Id):(s.freeze id).bk i=if i=id then(s.bk i).map cV.yx else s.bk i:=by
 unfold AS.freeze
 cases hs:s.bk id with
 |none=>
  by_cases hi:i=id
  ·subst hi;simp[hs]
  ·simp[hi]
 |some e=>
  cases e with
  |dead=>
   by_cases hi:i=id
   ·subst hi;simp[hs,cV.yx]
   ·simp[hi]
  |obj v fr c=>
   simp only
   by_cases hi:i=id
   ·subst hi
    rw[dg s i _ (by rw[hs];simp)]
    simp[hs,cV.yx]
   ·rw[bJ s id i _ hi];simp[hi]
theorem dE(i:Id):∀(ids:List Id) (s:AS),(s.aR ids).bk i=if i∈ids then(s.bk i).map cV.yx else s.bk i
 |[],s=>by simp[AS.aR]
 |id::ids,s=>by
  rw[AS.aR,dE i ids,sH]
  by_cases h1:i=id
  ·subst h1
   by_cases h2:i∈ids
   ·simp[h2,Option.map_map,Function.comp_def,cV.Cl]
   ·simp[h2]
  ·simp[h1]
theorem xH(s:AS)(id:Id):(s.freeze id).news.length=s.news.length:=by
 unfold AS.freeze
 split
 ·exact nI _ _ _
 ·rfl
theorem gR:∀(ids:List Id) (s:AS),(s.aR ids).news.length=s.news.length
 |[],_=>rfl
 |id::ids,s=>by rw[AS.aR,gR ids,xH]
theorem ki{s:AS}{q:Nat}:s.cK q=true↔q < s.news.length∧∀j,s.bk (.new q j)=none:=by
 refine⟨fun h=>⟨(ff h).2,(ff h).1⟩,fun⟨h1,h2⟩=> ?_⟩
 unfold AS.cK
 rw[List.getElem?_eq_getElem h1]
 have h0:=h2 0
 simp only[AS.bk,List.getD_eq_getElem?_getD,List.getElem?_eq_getElem h1,Option.getD_some]at h0
 cases hh:s.news[q]with
 |nil=>rfl
 |cons x xs=>rw[hh]at h0;simp at h0
theorem App.pk(d:Option Tmp)(v:aq)(ids:List Id)(s:AS):App d ⟨v,fun _=>none,ids⟩ s ((s.aR ids).put d v):=by
 refine⟨?_,?_,fun id=> ?_⟩
 ·cases d <;> simp[AS.put,fN]
 ·cases d <;> simp[AS.put,gR]
 ·rw[mH,dE]
theorem App.mK(d:Option Tmp)(v:aq)(s:AS):App d ⟨v,fun _=>none,[]⟩ s (s.put d v):=App.pk d v [] s
def pa(q:Nat)(es:List cV):Id→Option cV
 | .new i j=>if i=q then es[j]? else none
 | .cz _=>none
theorem AI(s:AS){q:Nat}(hq:q < s.news.length)(es:List cV)(id:Id):(s.born q es).bk id=match id with | .new i j=>if i=q then es[j]? else s.bk (.new i j) | .cz k=>s.bk (.cz k):=by
 cases id with
 |cz k=>rfl
 |new i j=>
  simp only
  by_cases h:i=q
  ·subst h;rw[if_pos rfl];exact jM hq _ j
  ·rw[if_neg h];exact eK _ fun j' e=>by simp only[Id.new.injEq]at e;exact h e.1
theorem App.yq{s:AS}{q:Nat}(hv:s.cK q=true)(v:aq)(ids:List Id)(es:List cV):App (some q) ⟨v,pa q es,ids⟩ s (((s.aR ids).born q es).put (some q) v):=by
 obtain⟨h1,h2⟩:=ki.1 hv
 refine⟨?_,?_,fun id=> ?_⟩
 ·simp[AS.put,fN]
 ·simp[AS.put,AS.born,gR]
 ·rw[mH,AI _ (by rw[gR];exact h1)]
  cases id with
  |cz k=>simp only[pa];exact dE _ _ _
  |new i j=>
   simp only[pa]
   by_cases h:i=q
   ·subst h
    rw[if_pos rfl]
    cases he:es[j]? with
    |none=>simp[h2]
    |some e=>simp
   ·rw[if_neg h]
    simp only[if_neg h]
    exact dE _ _ _
theorem App.BH{s:AS}{id:Id}{e0:cV}(hs:s.bk id=some e0)(d:Option Tmp)(v:aq)(e:cV):App d ⟨v,fun i=>if i=id then some e else none,[]⟩ s ((s.aI id e).put d v):=by
 refine⟨?_,?_,fun i=> ?_⟩
 ·cases d <;> simp[AS.put]
 ·cases d <;> simp[AS.put,nI]
 ·rw[mH]
  by_cases hi:i=id
  ·subst hi
   rw[dg s i _ (by rw[hs];simp)]
   simp
  ·rw[bJ s id i _ hi];simp[hi]
section
variable {P:Program} {Γ:dH} {bj:List Nat} {ops:Array Oper} {o:Oper} {s t:AS}
def nU(P:Program)(Γ:dH)(bj:List Nat)(ops:Array Oper)(o:Oper)(s s':AS):Prop:=
 ∃E,App o.dst E s s'∧tZ (ea Γ ops s o) s E∧∀t,fC (ea Γ ops s o) s t→∃t',(gM P Γ bj o t).eval=some t'∧App o.dst E t t'
theorem pR{xs:Array Operand}{i:Nat}(h:Operand.tmp i∈xs.toList):i∈qB xs:=by
 unfold qB
 exact List.mem_filterMap.2 ⟨_,h,rfl⟩
theorem fC.ev(h:fC (ea Γ ops s o) s t){x:Operand}(hx:x∈o.op.operands.toList):t.ev x=s.ev x:=by
 cases x with
 |tmp i=>exact h.bE i (List.mem_append.2 (.inl (pR hx)))
 |_=>rfl
theorem wx(v:Value):(ofConst v).ids=[]:=by unfold ofConst;split <;> rfl
theorem nG{x:Operand}(hx:x∈o.op.operands.toList){id:Id}(hid:id∈(s.ev x).ids):id∈(ea Γ ops s o).rs:=by
 refine List.mem_append.2 (.inl ?_)
 unfold wy
 cases x with
 |tmp i=>exact List.mem_flatMap.2 ⟨i,pR hx,hid⟩
 |const v=>simp[AS.ev,wx]at hid
 |global _=>simp[AS.ev,aq.ids]at hid
 |func f=>simp[AS.ev,aq.ids]at hid
theorem fC.wL(h:fC (ea Γ ops s o) s t){x:Operand}(hx:x∈o.op.operands.toList){id:Id}(hid:id∈(s.ev x).ids):ke (t.bk id) (s.bk id):=
 h.rs id (nG hx hid)
theorem oZ{id:Id}(h:ke (t.bk id) (s.bk id)):(t.obj id=none∧s.obj id=none)∨∃v f f' c,t.obj id=some (v,f,c)∧s.obj id=some (v,f',c):=by
 unfold AS.obj
 revert h
 cases t.bk id with
 |none=>cases s.bk id with
  |none=>intro _;simp
  |some b=>intro h;exact h.elim
 |some a=>cases s.bk id with
  |none=>intro h;exact h.elim
  |some b=>cases a <;> cases b <;> intro h <;> first
    |exact h.elim
    | (left;exact⟨rfl,rfl⟩)
    | (obtain⟨rfl,rfl⟩:=h;right;exact⟨_,_,_,_,rfl,rfl⟩)
theorem pC{id:Id}(h:ke (t.bk id) (s.bk id))(ver:Nat)(p:List nk):t.row id ver p=s.row id ver p:=by
 unfold AS.row
 rcases oZ h with⟨h1,h2⟩ | ⟨v,f,f',c,h1,h2⟩ <;> rw[h1,h2]
theorem gl:∀(v:aq) (ty:Ty),(∀id∈v.ids,ke (t.bk id) (s.bk id))→t.eL ty v=s.eL ty v
 | .bt id ver p c i len,ty,h=>by
  cases ty <;> first
   |rfl
   | (simp only[AS.eL];rw[pC (h id (by simp[aq.ids]))])
 | .pr a b,ty,h=>by
  cases ty <;> first
   |rfl
   | (simp only[AS.eL];rw[gl a _ fun id hid=>h id (by simp[aq.ids,hid]),gl b _ fun id hid=>h id (by simp[aq.ids,hid])])
 | .undef,ty,_ | .gone,ty,_ | .dq,ty,_ | .iB,ty,_ | .jy,ty,_ | .lg,ty,_ | .d _ _,ty,_ | .ptr ..,ty,_ | .dZ ..,ty,_ | .fn ..,ty,_ | .cons ..,ty,_ | .nil,ty,_ | .vec ..,ty,_ | .bx ..,ty,_ | .dy ..,ty,_ | .mp ..,ty,_ | .im ..,ty,_ | .sb _,ty,_=>by
  cases ty <;> simp only[AS.eL]
theorem iW:∀(v:aq),∀id∈v.shared,id∈v.ids
 | .bt ..,id,h=>by simpa[aq.shared,aq.ids]using h
 | .pr a b,id,h=>by
  simp only[aq.shared,List.mem_append,aq.ids]at h ⊢
  rcases h with h | h
  ·exact .inl (iW a id h)
  ·exact .inr (iW b id h)
 | .undef,_,h | .gone,_,h | .dq,_,h | .iB,_,h | .jy,_,h | .lg,_,h | .d _ _,_,h | .ptr ..,_,h | .dZ ..,_,h | .fn ..,_,h | .cons ..,_,h | .nil,_,h | .vec ..,_,h | .bx ..,_,h | .dy ..,_,h | .mp ..,_,h | .im ..,_,h | .sb _,_,h=>by
  simp[aq.shared]at h
theorem wa{T:TypeId}{x:aq}(h:∀id∈x.ids,ke (t.bk id) (s.bk id)):oB P t T x=oB P s T x:=by
 unfold oB
 split
 ·rename_i id ver p n
  rcases oZ (h id (by simp[aq.ids])) with⟨h1,h2⟩ | ⟨v,f,f',c,h1,h2⟩ <;> rw[h1,h2]
 ·rfl
 ·rfl
theorem ue{n:Nat}{lo hi:Option Operand}(hl:∀x,lo=some x→t.ev x=s.ev x)(hh:∀x,hi=some x→t.ev x=s.ev x):bounds t n lo hi=bounds s n lo hi:=by
 unfold bounds
 cases lo <;> cases hi <;> simp only[] <;> first
  |rfl
  | (rw[hl _ rfl,hh _ rfl])
  |rw[hl _ rfl]
  |rw[hh _ rfl]
theorem uO{T:TypeId}{x:aq}{lo hi:Option Operand}(h:∀id∈x.ids,ke (t.bk id) (s.bk id))(hl:∀x,lo=some x→t.ev x=s.ev x)(hh:∀x,hi=some x→t.ev x=s.ev x):
  nN P t T x lo hi=nN P s T x lo hi:=by
 have hb:∀n,bounds t n lo hi=bounds s n lo hi:=fun n=>ue hl hh
 unfold nN
 split <;> first
  |rfl
  | (rw[pC (h _ (by simp[aq.ids]))];simp only[hb];done)
  | (simp only[hb];done)
theorem pq{T:TypeId}{x:aq}{i:Int}(h:∀id∈x.ids,ke (t.bk id) (s.bk id)):ia P t T x i=ia P s T x i:=by
 unfold ia
 split <;> first
  |rfl
  |rw[pC (h _ (by simp[aq.ids]))]
theorem vB{obj:Bool}{src dst:TypeId}{x:aq}(h:∀id∈x.ids,ke (t.bk id) (s.bk id)):tf P t obj src dst x=tf P s obj src dst x:=by
 unfold tf
 split
 ·rfl
 ·unfold AA
  split <;> first
   |rfl
   | (simp only[AS.xN,gl _ _ h])
theorem zl{T:TypeId}{op:BinOp}{i:Id}{v:Nat}{j:Id}{w:Nat}(h:ke (t.bk i) (s.bk i)):Er P t T op i v j w=Er P s T op i v j w:=by
 unfold Er
 rcases oZ h with⟨h1,h2⟩ | ⟨v,f,f',c,h1,h2⟩ <;> rw[h1,h2]
theorem vD{src dst:TypeId}{id:Id}{ver:Nat}(h:ke (t.bk id) (s.bk id)):tg P t src dst id ver=tg P s src dst id ver:=by
 unfold tg
 rcases oZ h with⟨h1,h2⟩ | ⟨v,f,f',c,h1,h2⟩
 ·rw[h1,h2]
 ·rw[h1,h2]
  cases c <;> first
   |rfl
   | (rename_i e z c;cases z <;> rfl)
theorem kc{ty:Ty}:∀(ps:List (Nat×Operand)) (l:List ty.den),(∀x∈ps,t.ev x.2=s.ev x.2∧∀id∈(s.ev x.2).ids,ke (t.bk id) (s.bk id))→eR ty t ps l=eR ty s ps l
 |[],_,_=>rfl
 | (i,x)::ps,l,h=>by
  obtain⟨h1,h2⟩:=h (i,x) (List.mem_cons_self ..)
  simp only[eR]
  simp only at h1 h2
  rw[h1,gl _ _ h2]
  congr 2
  funext y
  rw[kc ps _ fun z hz=>h z (List.mem_cons_of_mem _ hz)]
theorem jz{ty:Ty}:∀(ps:List (Nat×Operand)) (l:List ty.den) (r:List ty.den×List Id),(eR ty s ps l).eval=some r→∀id∈r.2,∃x∈ps,id∈(s.ev x.2).ids
 |[],l,r,h,id,hid=>by
  obtain rfl:=aj.1 h
  cases hid
 | (i,x)::ps,l,r,h,id,hid=>by
  simp only[eR]at h
  obtain⟨h1,h2⟩:=av.1 h
  obtain⟨y,h3,h4⟩:=ai.1 h2
  obtain⟨r',h5,h6⟩:=ai.1 h4
  obtain rfl:=aj.1 h6
  rcases List.mem_append.1 hid with hid | hid
  ·exact⟨(i,x),List.mem_cons_self ..,iW _ _ hid⟩
  ·obtain⟨z,hz,hz2⟩:=jz ps _ r' h5 id hid
   exact⟨z,List.mem_cons_of_mem _ hz,hz2⟩
theorem lW{fs:Array Field}:∀(ps:List (Nat×Operand)) (v:aq),(∀x∈ps,t.ev x.2=s.ev x.2)→gD P fs t ps v=gD P fs s ps v
 |[],_,_=>rfl
 | (i,x)::ps,v,h=>by
  have h1:=h (i,x) (List.mem_cons_self ..)
  simp only at h1
  simp only[gD,h1]
  have ih:∀v,gD P fs t ps v=gD P fs s ps v:=fun v=>lW ps v fun z hz=>h z (List.mem_cons_of_mem _ hz)
  simp only[ih]
theorem oc:∀(l:List Operand),(∀x∈l,t.ev x=s.ev x)→gZ t l=gZ s l
 |[],_=>rfl
 |x::l,h=>by
  simp only[gZ]
  rw[h x (List.mem_cons_self ..),oc l fun y hy=>h y (List.mem_cons_of_mem _ hy)]
theorem pT{ty:Ty}{X:TypeId}{x:aq}(h:∀id∈x.ids,ke (t.bk id) (s.bk id)):mm P t ty X x=mm P s ty X x:=by
 unfold mm
 split
 ·rfl
 ·simp only[AS.xN,gl _ _ h]
theorem fK{v:aq}(h:∀t,fC (ea Γ ops s o) s t→(gM P Γ bj o t).eval=some (t.put o.dst v)):nU P Γ bj ops o s (s.put o.dst v):=
 ⟨⟨v,fun _=>none,[]⟩,App.mK _ _ _,⟨fun _ _ h=>by simp at h,fun _ h=>by simp at h⟩,fun t ht=>⟨_,h t ht,App.mK _ _ _⟩⟩
theorem gB{F:AS→Out aq}(ho:∀t,gM P Γ bj o t=(F t).bind fun v=> .ok (t.put o.dst v))(hF:∀t,fC (ea Γ ops s o) s t→F t=F s){s':AS}(he:(gM P Γ bj o s).eval=some s'):nU P Γ bj ops o s s':=by
 rw[ho]at he
 obtain⟨v,h1,h2⟩:=ai.1 he
 obtain rfl:=aj.1 h2
 refine fK fun t ht=> ?_
 rw[ho,hF t ht,ai]
 exact⟨v,h1,rfl⟩
theorem qt{v:aq}{ids:List Id}(hi:∀id∈ids,id∈(ea Γ ops s o).rs)(h:∀t,fC (ea Γ ops s o) s t→(gM P Γ bj o t).eval=some ((t.aR ids).put o.dst v)):nU P Γ bj ops o s ((s.aR ids).put o.dst v):=
 ⟨⟨v,fun _=>none,ids⟩,App.pk _ _ _ _,⟨fun _ _ h=>by simp at h,hi⟩,fun t ht=>⟨_,h t ht,App.pk _ _ _ _⟩⟩
theorem j8{v:aq}{ids:List Id}{q:Nat}{es:List cV}(hd:o.dst=some q)(hv:s.cK q=true)(hi:∀id∈ids,id∈(ea Γ ops s o).rs)
  (h:∀t,fC (ea Γ ops s o) s t→t.cK q=true→(gM P Γ bj o t).eval=some (((t.aR ids).born q es).put o.dst v)):nU P Γ bj ops o s (((s.aR ids).born q es).put o.dst v):=by
 refine⟨⟨v,pa q es,ids⟩,by rw[hd];exact App.yq hv _ _ _,⟨fun id e h=> .inr ?_,hi⟩,fun t ht=> ?_⟩
 ·cases id with
  |cz _=>simp[pa]at h
  |new i j=>
   simp only[pa]at h
   split at h
   ·rename_i hq;exact⟨q,j,hd,by rw[hq]⟩
   ·cases h
 ·have hv':t.cK q=true:=by rw[ht.cK q hd];exact hv
  exact⟨_,h t ht hv',by rw[hd];exact App.yq hv' _ _ _⟩
theorem lB{v:aq}{id:Id}{e0 e:cV}(hs:s.bk id=some e0)(hw:id∈(ea Γ ops s o).ws)(h:∀t,fC (ea Γ ops s o) s t→t.bk id=s.bk id→(gM P Γ bj o t).eval=some ((t.aI id e).put o.dst v)):
  nU P Γ bj ops o s ((s.aI id e).put o.dst v):=by
 refine⟨⟨v,fun i=>if i=id then some e else none,[]⟩,App.BH hs _ _ _,⟨fun i e' h=> .inl ?_,fun _ h=>by simp at h⟩,fun t ht=> ?_⟩
 ·simp only at h
  split at h
  ·rename_i hi;subst hi;exact⟨hw,by rw[hs];simp⟩
  ·cases h
 ·have:=ht.ws id hw
  exact⟨_,h t ht this,App.BH (this.trans hs) _ _ _⟩
end
end Go.Ab
namespace Go.Ab
section
variable {P:Program} {Γ:dH} {bj:List Nat} {ops:Array Oper} {o:Oper} {s t:AS}
theorem uT{T:TypeId}{x v:aq}{s':AS}(h:(mz P s T x v).eval=some s'):
  ∃id e0 e,x.ids=[id]∧s.bk id=some e0∧s'=s.aI id e∧∀t:AS,t.bk id=s.bk id→(mz P t T x v).eval=some (t.aI id e):=by
 unfold mz at h
 split at h
 ·rename_i id ver p n
  cases hob:s.obj id with
  |none=>rw[hob]at h;simp only[ae]at h
  |some r=>
   obtain⟨ve,fr,c⟩:=r
   rw[hob]at h
   obtain⟨h1,h2⟩:=av.1 h
   obtain⟨r,h3,h4⟩:=ai.1 h2
   obtain⟨h5,h6⟩:=av.1 h4
   obtain⟨h7,h8⟩:=ba.1 h6
   obtain⟨c',h9,h10⟩:=ai.1 h8
   obtain rfl:=aj.1 h10
   refine⟨id,_,_,rfl,da hob,rfl,fun t ht=> ?_⟩
   have hob':t.obj id=some (ve,fr,c):=by simp only[AS.obj,ht];exact hob
   unfold mz
   simp only[hob']
   exact av.2 ⟨h1,ai.2 ⟨r,h3,av.2 ⟨h5,ba.2 ⟨h7,ai.2 ⟨c',h9,aj.2 rfl⟩⟩⟩⟩⟩
 ·simp only[ae]at h
theorem xr{c:Call}{x y:Operand}{T X:TypeId}(hop:o.op= .call c)(hc:c.callee= .builtin .copy)(ha:c.args.toList=[x,y])(ht:c.argTypes.toList=[T,X]){s':AS}
  (he:(qQ P s o.dst T X (s.ev x) (s.ev y)).eval=some s'):nU P Γ bj ops o s s':=by
 have hao:∀t:AS,gM P Γ bj o t=qQ P t o.dst T X (t.ev x) (t.ev y):=fun t=>by
  unfold gM
  rw[hop]
  simp only[hc,ha,ht]
 have hmem:∀z,z=x∨z=y→z∈o.op.operands.toList:=fun z hz=>by
  rw[hop]
  simp only[Op.operands,Call.operands,hc,List.nil_append,Array.toList_append,ha]
  simpa using hz
 have hx:∀t,fC (ea Γ ops s o) s t→t.ev x=s.ev x:=fun t h=>h.ev (hmem x (.inl rfl))
 have hy:∀t,fC (ea Γ ops s o) s t→t.ev y=s.ev y:=fun t h=>h.ev (hmem y (.inr rfl))
 have hm:∀t,fC (ea Γ ops s o) s t→∀ty,mm P t ty X (s.ev y)=mm P s ty X (s.ev y):=fun t h ty=>pT fun id hid=>h.wL (hmem y (.inr rfl)) hid
 unfold qQ at he
 split at he
 ·rename_i e t b id ver len hel hxs
  obtain⟨m,h1,he⟩:=ai.1 he
  split at he
  ·rename_i ve n t' l hob
   obtain⟨h2,he1⟩:=av.1 he
   obtain⟨l',h3,he2⟩:=ai.1 he1
   obtain⟨h4,he3⟩:=ba.1 he2
   obtain rfl:=aj.1 he3
   have hw:id∈(ea Γ ops s o).ws:=by
    show id∈writes Γ s o
    unfold writes
    rw[hop]
    simp only[hc,ha,hxs]
    simp[aq.ids]
   refine lB (da hob) hw fun t ht hte=> ?_
   rw[hao t,hx t ht,hy t ht]
   have hob':t.obj id=some (ve,false,.d (.arr n t') l):=by simp only[AS.obj,hte];exact hob
   unfold qQ
   simp only[hel,hxs]
   refine ai.2 ⟨m,by rw[hm t ht];exact h1,?_⟩
   simp only[hob']
   exact av.2 ⟨h2,ai.2 ⟨l',h3,ba.2 ⟨h4,aj.2 rfl⟩⟩⟩
  ·exact(ae.1 he).elim
 ·exact(ae.1 he).elim
theorem uc{c:Call}{x y:Operand}{T X:TypeId}(hop:o.op= .call c)(hc:c.callee= .builtin .append)(ha:c.args.toList=[x,y])(ht:c.argTypes.toList=[T,X])(hne:∀k n,s.ev x= .dq→s.ev y= .d (.int k) n→False){s':AS}
  (he:(jI P s (zs bj o.dst) (Cy bj o.dst) o.dst T X (s.ev x) (s.ev y)).eval=some s'):nU P Γ bj ops o s s':=by
 have hao:∀t:AS,t.ev x=s.ev x→t.ev y=s.ev y→gM P Γ bj o t=jI P t (zs bj o.dst) (Cy bj o.dst) o.dst T X (t.ev x) (t.ev y):=fun t e1 e2=>by
  unfold gM
  rw[hop]
  simp only[hc,ha,ht]
  split
  ·rename_i k n hx hy
   rw[e1]at hx
   rw[e2]at hy
   exact(hne k n hx hy).elim
  ·rfl
 have hmem:∀z,z=x∨z=y→z∈o.op.operands.toList:=fun z hz=>by
  rw[hop]
  simp only[Op.operands,Call.operands,hc,List.nil_append,Array.toList_append,ha]
  simpa using hz
 have hx:∀t,fC (ea Γ ops s o) s t→t.ev x=s.ev x:=fun t h=>h.ev (hmem x (.inl rfl))
 have hy:∀t,fC (ea Γ ops s o) s t→t.ev y=s.ev y:=fun t h=>h.ev (hmem y (.inr rfl))
 have hm:∀t,fC (ea Γ ops s o) s t→∀ty,mm P t ty X (s.ev y)=mm P s ty X (s.ev y):=fun t h ty=>pT fun id hid=>h.wL (hmem y (.inr rfl)) hid
 unfold jI at he
 split at he
 ·rename_i e ty b q hel hd
  obtain⟨m,h1,h2⟩:=ai.1 he
  split at h2
  ·rename_i hnx
   cases hdt:Cy bj o.dst with
   |true=>
    rw[hdt]at h2
    simp only at h2
    obtain⟨h5,h6⟩:=ba.1 h2
    obtain rfl:=aj.1 h6
    refine fK fun t ht=> ?_
    rw[hao t (hx t ht) (hy t ht),hx t ht,hy t ht]
    unfold jI
    simp only[hd]at hdt hel ⊢
    simp only[hel,hnx,hdt]
    refine ai.2 ⟨m,by rw[hm t ht];exact h1,?_⟩
    exact ba.2 ⟨h5,aj.2 rfl⟩
   |false=>
   rw[hdt]at h2
   simp only at h2
   obtain⟨h3,h4⟩:=av.1 h2
   obtain⟨h5,h6⟩:=ba.1 h4
   obtain rfl:=aj.1 h6
   refine j8 (ids:=[]) hd h3 (fun _ h=>by cases h) fun t ht hv=> ?_
   rw[hao t (hx t ht) (hy t ht),hx t ht,hy t ht]
   unfold jI
   simp only[hd]at hdt hel ⊢
   simp only[hel,hnx,hdt]
   refine ai.2 ⟨m,by rw[hm t ht];exact h1,?_⟩
   exact av.2 ⟨hv,ba.2 ⟨h5,aj.2 rfl⟩⟩
  ·rename_i id ver len hnx
   split at h2
   ·rename_i v fr e' t' l hob
    obtain⟨h3,h4⟩:=av.1 h2
    obtain⟨l',h5,h6⟩:=ai.1 h4
    obtain⟨h7,h8⟩:=ba.1 h6
    obtain⟨h9,h10⟩:=ba.1 h8
    obtain⟨h11,h12⟩:=ba.1 h10
    obtain rfl:=aj.1 h12
    have hw:id∈(ea Γ ops s o).ws:=by
     show id∈writes Γ s o
     unfold writes
     rw[hop]
     simp only[hc,ha,hnx]
     simp[aq.ids]
    refine lB (da hob) hw fun t ht hte=> ?_
    rw[hao t (hx t ht) (hy t ht),hx t ht,hy t ht]
    have hob':t.obj id=some (v,fr,.vec e' t' l):=by simp only[AS.obj,hte];exact hob
    unfold jI
    simp only[hd]at hel ⊢
    simp only[hel,hnx]
    refine ai.2 ⟨m,by rw[hm t ht];exact h1,?_⟩
    simp only[hob']
    exact av.2 ⟨h3,ai.2 ⟨l',h5,ba.2 ⟨h7,ba.2 ⟨h9,ba.2 ⟨h11,aj.2 rfl⟩⟩⟩⟩⟩
   ·simp only[ae]at h2
  ·simp only[ae]at h2
 ·simp only[ae]at he
theorem pB:∀(n:Nat) (todo acc:List Id),∀id∈acc,id∈s.reach n todo acc
 | 0,_,_,id,h=>h
 |_+1,[],_,id,h=>h
 |n+1,x::todo,acc,id,h=>by
  rw[AS.reach]
  split
  ·exact pB n todo acc id h
  ·exact pB n _ _ id (List.mem_append.2 (.inl h))
theorem jn:∀(n:Nat) (todo acc:List Id),(∀id∈s.reach n todo acc,((t.bk id).getD .dead).ids=((s.bk id).getD .dead).ids)→t.reach n todo acc=s.reach n todo acc
 | 0,_,_,_=>rfl
 |_+1,[],_,_=>rfl
 |n+1,x::todo,acc,h=>by
  rw[AS.reach]at h
  rw[AS.reach,AS.reach]
  split
  ·rename_i hc
   rw[if_pos hc]at h
   exact jn n todo acc h
  ·rename_i hc
   rw[if_neg hc]at h
   have hx:=h x (pB n _ _ x (List.mem_append.2 (.inr (List.mem_singleton.2 rfl))))
   rw[hx]
   exact jn n _ _ h
theorem Cv(e:Option cV):((e.map cV.yx).getD .dead).ids=(e.getD .dead).ids:=by
 cases e with
 |none=>rfl
 |some x=>cases x <;> rfl
theorem qh(ids:List Id)(n:Nat)(todo acc:List Id):(s.aR ids).reach n todo acc=s.reach n todo acc:=by
 refine jn n todo acc fun id _=> ?_
 rw[dE]
 split
 ·exact Cv _
 ·rfl
theorem nu:∀(ps:List (Option Ty)) (vs:List aq),(∀v∈vs,∀id∈v.ids,ke (t.bk id) (s.bk id))→t.conv ps vs=s.conv ps vs
 |[],[],_=>rfl
 |[],_::_,_=>rfl
 |some _::_,[],_=>rfl
 |none::_,[],_=>rfl
 |some ty::ps,v::vs,h=>by
  simp only[AS.conv]
  rw[gl v ty (h v (List.mem_cons_self ..)),nu ps vs fun x hx=>h x (List.mem_cons_of_mem _ hx)]
 |none::ps,v::vs,h=>by
  simp only[AS.conv]
  rw[nu ps vs fun x hx=>h x (List.mem_cons_of_mem _ hx)]
theorem nv:∀(ps:List (Option Ty)) (vs:List aq) (r:List aq×List Id),(s.conv ps vs).eval=some r→r.1.flatMap aq.ids=jc ps vs∧∀id∈r.2,∃v∈vs,id∈v.ids
 |[],[],r,h=>by
  simp only[AS.conv,aj]at h
  subst h
  exact⟨rfl,fun _ h=>by cases h⟩
 |some ty::ps,v::vs,r,h=>by
  simp only[AS.conv]at h
  obtain⟨x,h1,h2⟩:=ai.1 h
  obtain⟨r',h3,h4⟩:=ai.1 h2
  obtain rfl:=aj.1 h4
  obtain⟨i1,i2⟩:=nv ps vs r' h3
  refine⟨by simp[jc,i1,aq.ids],fun id hid=> ?_⟩
  rcases List.mem_append.1 hid with hid | hid
  ·exact⟨v,List.mem_cons_self ..,iW v id hid⟩
  ·obtain⟨u,hu,hu2⟩:=i2 id hid
   exact⟨u,List.mem_cons_of_mem _ hu,hu2⟩
 |none::ps,v::vs,r,h=>by
  simp only[AS.conv]at h
  obtain⟨r',h3,h4⟩:=ai.1 h
  obtain rfl:=aj.1 h4
  obtain⟨i1,i2⟩:=nv ps vs r' h3
  refine⟨by simp[jc,i1],fun id hid=> ?_⟩
  obtain⟨u,hu,hu2⟩:=i2 id hid
  exact⟨u,List.mem_cons_of_mem _ hu,hu2⟩
 |[],_::_,_,h=>by simp only[AS.conv,ae]at h
 |some _::_,[],_,h=>by simp only[AS.conv,ae]at h
 |none::_,[],_,h=>by simp only[AS.conv,ae]at h
theorem v8:∀(c:aq),∀v∈c.list,∀id∈v.ids,id∈c.ids
 | .cons a b,v,hv,id,hid=>by
  simp only[aq.list,List.mem_cons]at hv
  simp only[aq.ids,List.mem_append]
  rcases hv with rfl | hv
  ·exact .inl hid
  ·exact .inr (v8 b v hv id hid)
 | .sb _,_,h,_,_ | .undef,_,h,_,_ | .gone,_,h,_,_ | .dq,_,h,_,_ | .iB,_,h,_,_ | .jy,_,h,_,_ | .lg,_,h,_,_ | .d _ _,_,h,_,_ | .ptr ..,_,h,_,_ | .dZ ..,_,h,_,_
 | .fn ..,_,h,_,_ | .pr ..,_,h,_,_ | .nil,_,h,_,_ | .vec ..,_,h,_,_ | .bx ..,_,h,_,_ | .dy ..,_,h,_,_ | .mp ..,_,h,_,_ | .im ..,_,h,_,_ | .bt ..,_,h,_,_=>by simp[aq.list]at h
theorem pX{ids:List Id}(h:∀id∈ids,t.bk id=s.bk id):t.jF ids=s.jF ids:=by
 funext id ver
 unfold AS.jF
 cases hi:idxOf id ids with
 |none=>rfl
 |some k=>
  have:t.obj id=s.obj id:=by simp only[AS.obj,h id (List.mem_of_getElem? (hZ hi))]
  rw[this]
theorem pZ{id:Id}(h:t.bk id=s.bk id):t.kF id=s.kF id:=by simp only[AS.kF,AS.obj,h]
theorem oN{ids:List Id}(h:∀id∈ids,t.bk id=s.bk id)(q:Nat):t.iV ids q=s.iV ids q:=by
 funext id ver
 cases id with
 |new i j=>rfl
 |cz k=>
  simp only[AS.iV]
  cases hk:ids[k]? with
  |none=>rfl
  |some id=>simp only[pZ (h id (List.mem_of_getElem? hk))]
theorem oh{ids:List Id}(h:∀id∈ids,t.bk id=s.bk id)(q b:Nat):t.hJ ids q b=s.hJ ids q b:=by
 funext e
 cases e <;> simp only[AS.hJ,oN h]
theorem vH{ids:List Id}(h:∀id∈ids,t.bk id=s.bk id){id:Id}(hid:id∈ids):t.gf ids id=s.gf ids id:=by
 unfold AS.gf
 rw[h id hid,pX h]
def fV(s:AS)(ids:List Id)(d:Option Tmp)(G:aW):AS:=
 (AS.eU s ids (d.getD 0) (s.made ids (d.getD 0) G.news) ids G.ch).put d (G.val.fm (s.iV ids (d.getD 0)))
theorem s7{ids:List Id}{d:Option Tmp}{G:aW}{s':AS}:(s.back ids d G).eval=some s'↔(G.ch.length=ids.length∧(G.news=[]∨∃q,d=some q∧s.cK q=true))∧s'=fV s ids d G:=by
 unfold AS.back
 cases d with
 |none=>
  rw[av,aj]
  simp only[Bool.and_eq_true,beq_iff_eq,List.isEmpty_iff,fV,AS.put,Option.getD_none]
  constructor
  ·rintro⟨⟨h1,h2⟩,rfl⟩
   rw[h2];exact⟨⟨h1,.inl rfl⟩,rfl⟩
  ·rintro⟨⟨h1,h2⟩,rfl⟩
   rcases h2 with h2 | ⟨q,hq,_⟩
   ·rw[h2];exact⟨⟨h1,rfl⟩,rfl⟩
   ·cases hq
 |some q=>
  rw[av,aj]
  simp only[Bool.and_eq_true,beq_iff_eq,Bool.or_eq_true,List.isEmpty_iff,fV,Option.getD_some]
  constructor
  ·rintro⟨⟨h1,h2⟩,rfl⟩
   exact⟨⟨h1,h2.imp id fun h=>⟨q,rfl,h⟩⟩,rfl⟩
  ·rintro⟨⟨h1,h2⟩,rfl⟩
   refine⟨⟨h1,h2.imp id fun⟨q',hq,h⟩=> ?_⟩,rfl⟩
   obtain rfl:q=q':=by simpa using hq
   exact h
theorem pO(s0:AS)(all:List Id)(q:Nat):∀(ids:List Id) (es:List cV) (s:AS),(AS.eU s0 all q s ids es).news.length=s.news.length
 |[],_,_=>by simp[AS.eU]
 |_::_,[],_=>by simp[AS.eU]
 |id::ids,e::es,s=>by rw[AS.eU,pO s0 all q ids es,nI]
theorem Ba(s:AS)(ids:List Id)(q:Nat)(es:List cV):(s.made ids q es).news.length=s.news.length:=by
 cases es <;> simp[AS.made,AS.born]
def mP(ids:List Id)(d:Option Tmp)(G:aW)(id:Id):Prop:=id∈ids∨(G.news≠ []∧∃q j,d=some q∧id= .new q j)
theorem qG{ids:List Id}{d:Option Tmp}{G:aW}(hn:ids.Nodup)(hp:∀id∈ids,s.bk id≠none)(hl:G.ch.length=ids.length)(hv:G.news=[]∨∃q,d=some q∧s.cK q=true):
  (∀id,¬mP ids d G id→(fV s ids d G).bk id=s.bk id)∧
  (∀(k:Nat) (id:Id) (e:cV),ids[k]? =some id→G.ch[k]? =some e→(fV s ids d G).bk id=some (s.hJ ids (d.getD 0) (s.kF id) e))∧
  (∀q j,G.news≠ []→d=some q→(fV s ids d G).bk (.new q j)=(G.news[j]?).map (s.hJ ids q 0))∧
  (∀q j,G.news≠ []→d=some q→s.bk (.new q j)=none):=by
 have hv':G.news=[]∨s.cK (d.getD 0)=true:=by
  rcases hv with h | ⟨q,rfl,h⟩
  ·exact .inl h
  ·exact .inr h
 obtain⟨m1,m2⟩:=vI s ids (d.getD 0) G.news hv'
 have hnone:∀q j,G.news≠ []→d=some q→s.bk (.new q j)=none:=fun q j h1 h2=>by
  rcases hv' with h | h
  ·exact absurd h h1
  ·subst h2;exact(ki.1 h).2 j
 have hnew:∀id,s.bk id≠none→G.news=[]∨∀j,id≠ .new (d.getD 0) j:=fun id hid=>by
  rcases hv with h | ⟨q,rfl,h⟩
  ·exact .inl h
  ·exact .inr fun j e=>hid (by rw[e];exact(ki.1 h).2 j)
 obtain⟨n1,n2⟩:=mg s ids (d.getD 0) ids G.ch (s.made ids (d.getD 0) G.news) hn hl (fun id hid=>by rw[m1 id (hnew id (hp id hid))];exact hp id hid)
 refine⟨fun id hid=> ?_,fun k id e h1 h2=> ?_,fun q j h1 h2=> ?_,hnone⟩
 ·unfold mP at hid
  simp only[not_or]at hid
  rw[fV,mH,n1 id hid.1]
  refine m1 id ?_
  by_cases hne:G.news=[]
  ·exact .inl hne
  ·right
   intro j e
   rcases hv with h | ⟨q,hq,_⟩
   ·exact hne h
   ·exact hid.2 ⟨hne,q,j,hq,by rw[e,hq];rfl⟩
 ·rw[fV,mH,n2 k id e h1 h2]
 ·subst h2
  have hnot:Id.new q j ∉ ids:=fun hid=>hp _ hid (hnone q j h1 rfl)
  rw[fV,mH,n1 _ hnot]
  exact m2 h1 j
open Classical in
theorem xm{c:Call}{F:Operand}{f:FuncId}{caps:aq}{en:Entry}(hop:o.op= .call c)(hc:c.callee= .value F)(hF:s.ev F= .fn f caps)(hΓ:Γ f (c.args.toList.map s.ev++caps.list)=some en){s':AS}
  (he:(s.call en o.dst (c.args.toList.map s.ev++caps.list)).eval=some s'):nU P Γ bj ops o s s':=by
 have hmem:∀z,z=F∨z∈c.args.toList→z∈o.op.operands.toList:=fun z hz=>by
  rw[hop]
  simp only[Op.operands,Call.operands,hc,Array.toList_append,List.mem_append]
  rcases hz with rfl | hz
  ·exact .inl (by simp)
  ·exact .inr hz
 have hvids:∀v∈c.args.toList.map s.ev++caps.list,∀id∈v.ids,id∈(ea Γ ops s o).rs:=fun v hv id hid=>by
  rcases List.mem_append.1 hv with hv | hv
  ·obtain⟨x,hx,rfl⟩:=List.mem_map.1 hv
   exact nG (hmem x (.inr hx)) hid
  ·refine nG (hmem F (.inl rfl)) ?_
   rw[hF]
   exact v8 caps v hv id hid
 generalize hvs:c.args.toList.map s.ev++caps.list=vs at he hvids hΓ
 have hws:(ea Γ ops s o).ws=s.reach 64 (jc en.params vs) []:=by
  show writes Γ s o=_
  unfold writes
  rw[hop]
  simp only[hc,hF,hvs,hΓ]
 have hao:∀t,fC (ea Γ ops s o) s t→gM P Γ bj o t=t.call en o.dst vs:=fun t ht=>by
  unfold gM
  rw[hop]
  have h1:t.ev F= .fn f caps:=by rw[ht.ev (hmem F (.inl rfl)),hF]
  have h2:c.args.toList.map t.ev=c.args.toList.map s.ev:=List.map_congr_left fun x hx=>ht.ev (hmem x (.inr hx))
  obtain⟨cal,args,tys⟩:=c
  simp only at hc hvs h2
  subst hc
  simp only[h1,h2,hvs,hΓ]
 unfold AS.call at he
 obtain⟨r,h1,h2⟩:=ai.1 he
 obtain⟨hr1,hr2⟩:=nv _ _ r h1
 have hlends:∀t:AS,(t.aR r.2).yD r.1=t.reach 64 (jc en.params vs) []:=fun t=>by
  unfold AS.yD
  rw[qh,hr1]
 rw[hlends]at h2
 generalize hW:s.reach 64 (jc en.params vs) []=W at h2 hws
 have hWn:W.Nodup:=by rw[←hW];exact jo s _ _ _ (by simp)
 unfold AS.enter at h2
 obtain⟨hall,h3⟩:=av.1 h2
 obtain⟨x,hx,h4⟩:=qV.1 h3
 obtain⟨x0,hx0,h4⟩:=ai.1 h4
 have hxe:=en.BO _ _ hx0
 rw[hxe]at h4 hx0
 obtain⟨⟨hl,hv⟩,rfl⟩:=s7.1 h4
 generalize hG:en.out (r.1.map (aq.fm ((s.aR r.2).jF W))) (W.map ((s.aR r.2).gf W)) x=G at hl hv h4 ⊢
 have hp:∀id∈W,(s.aR r.2).bk id≠none:=fun id hid=>by
  have:=(Bool.and_eq_true _ _▸List.all_eq_true.1 hall id hid).1
  obtain⟨⟨v,fr,c⟩,hr⟩:=Option.isSome_iff_exists.1 this
  rw[da hr];simp
 obtain⟨b1,b2,b3,b4⟩:=qG (s:=s.aR r.2) (d:=o.dst) hWn hp hl hv
 have hfzent:∀(u:AS) id,u.bk id=none↔(u.aR r.2).bk id=none:=fun u id=>by
  rw[dE];split <;> simp
 let E:Ej:=⟨G.val.fm ((s.aR r.2).iV W (o.dst.getD 0)),fun id=>if mP W o.dst G id then(fV (s.aR r.2) W o.dst G).bk id else none,r.2⟩
 have hslots:∀u:AS,(fV (u.aR r.2) W o.dst G).bE=(u.put o.dst (G.val.fm ((u.aR r.2).iV W (o.dst.getD 0)))).bE:=fun u=>by
  unfold fV
  cases o.dst <;> simp[AS.put,kR,r9,fN]
 have hlen:∀u:AS,(fV (u.aR r.2) W o.dst G).news.length=u.news.length:=fun u=>by
  unfold fV
  cases o.dst <;> simp[AS.put,pO,Ba,gR]
 refine⟨E,⟨hslots s,hlen s,fun id=> ?_⟩,⟨fun id e hup=> ?_,fun id hid=> ?_⟩,fun t ht=> ?_⟩
 ·by_cases hto:mP W o.dst G id
  ·have hup:E.up id=(fV (s.aR r.2) W o.dst G).bk id:=if_pos hto
   rw[hup]
   cases hb:(fV (s.aR r.2) W o.dst G).bk id with
   |some e=>rfl
   |none=>
    rcases hto with hid | ⟨hne,q,j,hq,rfl⟩
    ·obtain⟨k,hk⟩:=List.mem_iff_getElem?.1 hid
     have hlt:k < G.ch.length:=by rw[hl];exact(List.getElem?_eq_some_iff.1 hk).1
     rw[b2 k id _ hk (List.getElem?_eq_getElem hlt)]at hb
     cases hb
    ·have:=(hfzent s _).2 (b4 q j hne hq)
     simp[this]
  ·have hup:E.up id=none:=if_neg hto
   rw[hup,b1 id hto,dE]
 ·by_cases hto:mP W o.dst G id
  ·rcases hto with hid | ⟨_,q,j,hq,rfl⟩
   ·left
    refine⟨by rw[hws];exact hid,fun h=>hp id hid ((hfzent s id).1 h)⟩
   ·exact .inr ⟨q,j,hq,rfl⟩
  ·have:E.up id=none:=if_neg hto
   rw[this]at hup;cases hup
 ·obtain⟨v,hv,hid⟩:=hr2 id hid
  exact hvids v hv id hid
 ·have hco:t.conv en.params vs=s.conv en.params vs:=nu _ _ fun v hv id hid=>ht.rs id (hvids v hv id hid)
  have hag:∀id∈W,t.bk id=s.bk id:=fun id hid=>ht.ws id (by rw[hws];exact hid)
  have hagf:∀id∈W,(t.aR r.2).bk id=(s.aR r.2).bk id:=fun id hid=>by
   rw[dE,dE,hag id hid]
  have hWt:t.reach 64 (jc en.params vs) []=W:=by
   rw[←hW]
   refine jn _ _ _ fun id hid=> ?_
   rw[hag id (by rw[←hW];exact hid)]
  have hvt:G.news=[]∨∃q,o.dst=some q∧(t.aR r.2).cK q=true:=hv.imp id fun⟨q,hq,h⟩=>⟨q,hq,by
   rw[iX]at h ⊢
   rw[ht.cK q hq];exact h⟩
  have hpt:∀id∈W,(t.aR r.2).bk id≠none:=fun id hid=>by rw[hagf id hid];exact hp id hid
  obtain⟨d1,d2,d3,d4⟩:=qG (s:=t.aR r.2) (d:=o.dst) hWn hpt hl hvt
  refine⟨fV (t.aR r.2) W o.dst G,?_,⟨?_,hlen t,fun id=> ?_⟩⟩
  ·rw[hao t ht]
   unfold AS.call
   rw[hco]
   refine ai.2 ⟨r,h1,?_⟩
   rw[hlends,hWt]
   unfold AS.enter
   have hA:(t.aR r.2).jF W=(s.aR r.2).jF W:=pX hagf
   have hO:W.map ((t.aR r.2).gf W)=W.map ((s.aR r.2).gf W):=List.map_congr_left fun id hid=>vH hagf hid
   refine av.2 ⟨?_,qV.2 ⟨x,?_,ai.2 ⟨x,hx0,?_⟩⟩⟩
   ·refine List.all_eq_true.2 fun id hid=> ?_
    have:=List.all_eq_true.1 hall id hid
    simp only[AS.obj,AS.rA]at this ⊢
    rw[hagf id hid]
    exact this
   ·rw[hA,hO,←hx]
   ·rw[hA,hO,hG]
    exact s7.2 ⟨⟨hl,hvt⟩,rfl⟩
  ·rw[hslots t,oN hagf]
  ·by_cases hto:mP W o.dst G id
   ·have hup:E.up id=(fV (s.aR r.2) W o.dst G).bk id:=if_pos hto
    rw[hup]
    rcases hto with hid | ⟨hne,q,j,hq,rfl⟩
    ·obtain⟨k,hk⟩:=List.mem_iff_getElem?.1 hid
     have hlt:k < G.ch.length:=by rw[hl];exact(List.getElem?_eq_some_iff.1 hk).1
     rw[b2 k id _ hk (List.getElem?_eq_getElem hlt),d2 k id _ hk (List.getElem?_eq_getElem hlt),oh hagf,pZ (hagf id hid)]
    ·rw[b3 q j hne hq,d3 q j hne hq,oh hagf]
     cases hn:G.news[j]? with
     |some e=>rfl
     |none=>
      have:=(hfzent t _).2 (d4 q j hne hq)
      simp[this]
   ·have hup:E.up id=none:=if_neg hto
    rw[hup,d1 id hto,dE]
end
end Go.Ab
namespace Go.Ab
section
variable {P:Program} {Γ:dH} {bj:List Nat} {ops:Array Oper} {o:Oper} {s t:AS}
theorem Out.bind_assoc{α β γ:Type}(o:Out α)(f:α→Out β)(g:β→Out γ):(o.bind f).bind g=o.bind fun a=>(f a).bind g:=by
 induction o with
 |ok a=>rfl
 |fail=>rfl
 |iQ c r ih=>simp only[Out.bind,ih]
 |get x h ih=>simp only[Out.bind,ih]
 |br c x y ih1 ih2=>simp only[Out.bind,ih1,ih2]
theorem wA{parts:Array (Nat×Operand)}{x:Nat×Operand}(h:x∈parts.toList):x.2∈(parts.toList.map (·.2)).toArray.toList:=List.mem_map.2 ⟨x,h,rfl⟩
theorem zb{T:TypeId}{x:Operand}(hop:o.op= .box T x){s':AS}(he:(vp P s (isObj bj o.dst) o.dst T (s.ev x)).eval=some s'):nU P Γ bj ops o s s':=by
 have hao:∀t,gM P Γ bj o t=vp P t (isObj bj o.dst) o.dst T (t.ev x):=fun t=>by unfold gM;rw[hop]
 have hm:x∈o.op.operands.toList:=by rw[hop];simp[Op.operands]
 unfold vp at he
 split at he
 ·rename_i q hd
  split at he
  ·rename_i ho
   obtain⟨h1,h2⟩:=av.1 he
   obtain rfl:=aj.1 h2
   simp only[Bool.and_eq_true]at h1
   refine j8 (ids:=[]) hd h1.1 (fun _ h=>by cases h) fun t ht hv=> ?_
   rw[hao,ht.ev hm]
   unfold vp
   simp only[hd]at ho ⊢
   simp only[ho]
   exact av.2 ⟨by simp[hv,h1.2],aj.2 rfl⟩
  ·rename_i ho
   split at he
   ·rename_i ty hty
    obtain⟨h1,h2⟩:=av.1 he
    obtain⟨y,h3,h4⟩:=ai.1 h2
    obtain rfl:=aj.1 h4
    refine qt (fun id hid=>nG hm (iW _ _ hid)) fun t ht=> ?_
    rw[hao,ht.ev hm]
    unfold vp
    simp only[hd]at ho ⊢
    simp only[ho,hty]
    refine av.2 ⟨h1,ai.2 ⟨y,?_,aj.2 rfl⟩⟩
    rw[gl _ _ fun id hid=>ht.wL hm hid];exact h3
   ·simp only[ae]at he
 ·simp only[ae]at he
theorem wV{T:TypeId}{x:Operand}(hop:o.op= .sliceToArrayPointer T x){s':AS}(he:(nQ P s o.dst T (s.ev x)).eval=some s'):nU P Γ bj ops o s s':=by
 have hao:∀t,gM P Γ bj o t=nQ P t o.dst T (t.ev x):=fun t=>by unfold gM;rw[hop]
 have hm:x∈o.op.operands.toList:=by rw[hop];simp[Op.operands]
 unfold nQ at he
 split at he
 ·rename_i n e hT
  split at he
  ·rename_i ty hty
   obtain⟨h1,h2⟩:=av.1 he
   obtain⟨l,h3,h4⟩:=ai.1 h2
   obtain⟨h5,h6⟩:=ba.1 h4
   obtain rfl:=aj.1 h6
   refine qt (fun id hid=>nG hm (iW _ _ hid)) fun t ht=> ?_
   rw[hao,ht.ev hm]
   unfold nQ
   simp only[hT,hty]
   refine av.2 ⟨h1,ai.2 ⟨l,?_,ba.2 ⟨h5,aj.2 rfl⟩⟩⟩
   rw[gl _ _ fun id hid=>ht.wL hm hid];exact h3
  ·simp only[ae]at he
 ·simp only[ae]at he
theorem vy{T:TypeId}{parts:Array (Nat×Operand)}(hop:o.op= .build T parts){s':AS}(he:(mc P s o.dst T parts.toList).eval=some s'):nU P Γ bj ops o s s':=by
 have hao:∀t,gM P Γ bj o t=mc P t o.dst T parts.toList:=fun t=>by unfold gM;rw[hop]
 have hm:∀x∈parts.toList,x.2∈o.op.operands.toList:=fun x hx=>by rw[hop];exact wA hx
 unfold mc at he
 split at he
 ·rename_i fs hT
  split at he
  ·rename_i z hz
   obtain⟨h1,h2⟩:=av.1 he
   obtain⟨v,h3,h4⟩:=ai.1 h2
   obtain rfl:=aj.1 h4
   refine fK fun t ht=> ?_
   rw[hao]
   unfold mc
   simp only[hT,hz]
   refine av.2 ⟨h1,ai.2 ⟨v,?_,aj.2 rfl⟩⟩
   rw[lW _ _ fun x hx=>ht.ev (hm x hx)];exact h3
  ·simp only[ae]at he
 ·rename_i n e hT
  split at he
  ·rename_i ty hty
   obtain⟨h1,h2⟩:=av.1 he
   obtain⟨r,h3,h4⟩:=ai.1 h2
   obtain rfl:=aj.1 h4
   refine qt (fun id hid=> ?_) fun t ht=> ?_
   ·obtain⟨x,hx,hi⟩:=jz _ _ _ h3 id hid
    exact nG (hm x hx) hi
   ·rw[hao]
    unfold mc
    simp only[hT,hty]
    refine av.2 ⟨h1,ai.2 ⟨r,?_,aj.2 rfl⟩⟩
    rw[kc _ _ fun x hx=>⟨ht.ev (hm x hx),fun id hid=>ht.wL (hm x hx) hid⟩];exact h3
  ·simp only[ae]at he
 ·simp only[ae]at he
theorem pd{T:TypeId}{n:Nat}{parts:Array (Nat×Operand)}(hop:o.op= .buildSlice T n parts){s':AS}(he:(fD P s (zs bj o.dst) (isObj bj o.dst) o.dst T n parts.toList).eval=some s'):nU P Γ bj ops o s s':=by
 have hao:∀t,gM P Γ bj o t=fD P t (zs bj o.dst) (isObj bj o.dst) o.dst T n parts.toList:=fun t=>by unfold gM;rw[hop]
 have hm:∀x∈parts.toList,x.2∈o.op.operands.toList:=fun x hx=>by rw[hop];exact wA hx
 unfold fD at he
 split at he
 ·rename_i e ty b q hel hd
  obtain⟨h1,h2⟩:=av.1 he
  obtain⟨r,h3,h4⟩:=ai.1 h2
  have hsh:∀id∈r.2,id∈(ea Γ ops s o).rs:=fun id hid=>by
   obtain⟨x,hx,hi⟩:=jz _ _ _ h3 id hid
   exact nG (hm x hx) hi
  have hco:∀t,fC (ea Γ ops s o) s t→∀l,eR ty t parts.toList l=eR ty s parts.toList l:=fun t ht l=>kc _ _ fun x hx=>⟨ht.ev (hm x hx),fun id hid=>ht.wL (hm x hx) hid⟩
  split at h4
  ·rename_i ho
   obtain⟨h5,h6⟩:=av.1 h4
   obtain rfl:=aj.1 h6
   refine j8 hd h5 hsh fun t ht hv=> ?_
   rw[hao]
   unfold fD
   simp only[hd]at ho hel ⊢
   simp only[hel,ho]
   refine av.2 ⟨h1,ai.2 ⟨r,by rw[hco t ht];exact h3,av.2 ⟨hv,aj.2 rfl⟩⟩⟩
  ·rename_i ho
   obtain rfl:=aj.1 h4
   refine qt hsh fun t ht=> ?_
   rw[hao]
   unfold fD
   simp only[hd]at ho hel ⊢
   simp only[hel,ho]
   exact av.2 ⟨h1,ai.2 ⟨r,by rw[hco t ht];exact h3,aj.2 rfl⟩⟩
 ·simp only[ae]at he
theorem qf{T:TypeId}{x y:Operand}(hop:o.op= .makeSlice T x y){len cap:Int}(hx:(asInt (s.ev x)).eval=some len)(hy:(asInt (s.ev y)).eval=some cap){s':AS}(he:(ij P s o.dst T len cap).eval=some s'):nU P Γ bj ops o s s':=by
 have hao:∀t,gM P Γ bj o t=(asInt (t.ev x)).bind fun l=>(asInt (t.ev y)).bind fun c=>ij P t o.dst T l c:=fun t=>by unfold gM;rw[hop]
 have hm:∀z,z=x∨z=y→z∈o.op.operands.toList:=fun z hz=>by rw[hop];simpa[Op.operands]using hz
 unfold ij at he
 split at he
 ·rename_i e ty b q hel hd
  obtain⟨h1,h2⟩:=av.1 he
  obtain⟨h3,h4⟩:=ba.1 h2
  obtain rfl:=aj.1 h4
  refine j8 (ids:=[]) hd h1 (fun _ h=>by cases h) fun t ht hv=> ?_
  rw[hao,ht.ev (hm x (.inl rfl)),ht.ev (hm y (.inr rfl))]
  refine ai.2 ⟨len,hx,ai.2 ⟨cap,hy,?_⟩⟩
  unfold ij
  simp only[hel,hd]
  exact av.2 ⟨hv,ba.2 ⟨h3,aj.2 rfl⟩⟩
 ·simp only[ae]at he
theorem uE{id:Id}{ver:Nat}{kt vt:Ty}(h:ke (t.bk id) (s.bk id)):t.iy id ver kt vt=s.iy id ver kt vt:=by
 unfold AS.iy
 rcases oZ h with⟨h1,h2⟩ | ⟨v,f,f',c,h1,h2⟩
 ·rw[h1,h2]
 ·rw[h1,h2]
  cases c <;> rfl
theorem sJ{T:TypeId}{m k:aq}{ok:Bool}(h:∀id∈m.ids,ke (t.bk id) (s.bk id)):lC P t T m k ok=lC P s T m k ok:=by
 unfold lC
 split
 ·rename_i id ver hm
  rw[uE (h id (by simp[aq.ids]))]
 ·rfl
theorem tv{id:Id}{ver:Nat}{kt vt:Ty}{l:List (kt.den×vt.den)}(h:(s.iy id ver kt vt).eval=some l):∃e,s.bk id=some e:=by
 unfold AS.iy at h
 split at h
 ·rename_i v fr k' v' l' hob
  exact⟨_,da hob⟩
 ·simp only[ae]at h
theorem pQ{id:Id}{ver:Nat}{kt vt:Ty}(h:t.bk id=s.bk id):t.iy id ver kt vt=s.iy id ver kt vt:=by
 unfold AS.iy AS.obj
 rw[h]
theorem nj{id:Id}(h:t.bk id=s.bk id):t.iI id=s.iI id:=by
 unfold AS.iI AS.obj
 rw[h]
theorem sN{T:TypeId}{m k v:aq}{s':AS}(h:(lF P s T m k v).eval=some s'):
  ∃id e0 e,m.ids=[id]∧s.bk id=some e0∧s'=s.aI id e∧∀t:AS,t.bk id=s.bk id→(lF P t T m k v).eval=some (t.aI id e):=by
 unfold lF at h
 split at h
 ·rename_i K V kt vt id ver hm
  obtain⟨l,h1,h⟩:=ai.1 h
  obtain⟨kx,h2,h⟩:=ai.1 h
  obtain⟨vx,h3,h⟩:=ai.1 h
  obtain⟨hu,h⟩:=av.1 h
  obtain rfl:=aj.1 h
  obtain⟨e0,he0⟩:=tv h1
  refine⟨id,e0,_,rfl,he0,rfl,fun t ht=> ?_⟩
  unfold lF
  simp only[hm]
  exact ai.2 ⟨l,by rw[pQ ht];exact h1,ai.2 ⟨kx,h2,ai.2 ⟨vx,h3,av.2 ⟨by rw[nj ht];exact hu,aj.2 rfl⟩⟩⟩⟩
 ·simp only[ae]at h
theorem sM{T:TypeId}{m k:aq}{s':AS}(h:(lE P s T m k).eval=some s'):
  ∃id e0 e,m.ids=[id]∧s.bk id=some e0∧s'=s.aI id e∧∀t:AS,t.bk id=s.bk id→(lE P t T m k).eval=some (t.aI id e):=by
 unfold lE at h
 split at h
 ·rename_i K V kt vt id ver hm
  obtain⟨l,h1,h⟩:=ai.1 h
  obtain⟨kx,h2,h⟩:=ai.1 h
  obtain⟨hu,h⟩:=av.1 h
  obtain rfl:=aj.1 h
  obtain⟨e0,he0⟩:=tv h1
  refine⟨id,e0,_,rfl,he0,rfl,fun t ht=> ?_⟩
  unfold lE
  simp only[hm]
  exact ai.2 ⟨l,by rw[pQ ht];exact h1,ai.2 ⟨kx,h2,av.2 ⟨by rw[nj ht];exact hu,aj.2 rfl⟩⟩⟩
 ·simp only[ae]at h
theorem s5{s':AS}(he:(gM P Γ bj o s).eval=some s'):nU P Γ bj ops o s s':=by
 have he0:=he
 have one:∀x,o.op.operands= #[x]→∀t,fC (ea Γ ops s o) s t→t.ev x=s.ev x∧∀id∈(s.ev x).ids,ke (t.bk id) (s.bk id):=fun x hx t ht=>
  have hm:x∈o.op.operands.toList:=by rw[hx];simp
  ⟨ht.ev hm,fun _ hid=>ht.wL hm hid⟩
 unfold gM at he
 split at he
 ·rename_i x hop
  obtain rfl:=aj.1 he
  refine fK fun t ht=> ?_
  unfold gM
  rw[hop]
  simp only
  rw[(one x (by rw[hop];rfl) t ht).1];rfl
 ·rename_i x hop
  obtain rfl:=aj.1 he
  refine fK fun t ht=> ?_
  unfold gM
  rw[hop]
  simp only
  rw[(one x (by rw[hop];rfl) t ht).1];rfl
 ·rename_i c x y hop
  refine gB (F:=fun t=>yL (t.ev c) (t.ev x) (t.ev y)) (fun t=>by unfold gM;rw[hop]) (fun t ht=> ?_) he0
  rw[ht.ev (by rw[hop];simp[Op.operands]),ht.ev (by rw[hop];simp[Op.operands]),ht.ev (by rw[hop];simp[Op.operands])]
 ·rename_i T hop
  split at he
  ·rename_i z q hz hq
   obtain⟨h1,h2⟩:=av.1 he
   obtain rfl:=aj.1 h2
   simp only[Bool.and_eq_true]at h1
   refine j8 (ids:=[]) hq h1.1 (fun _ h=>by cases h) fun t ht hv=> ?_
   unfold gM
   rw[hop]
   simp only[hz,hq]
   exact av.2 ⟨by simp[hv,h1.2],aj.2 rfl⟩
  ·exact(ae.1 he).elim
 ·rename_i T x hop
  exact zb hop he
 ·rename_i T parts hop
  exact vy hop he
 ·rename_i T n parts hop
  exact pd hop he
 ·rename_i T x hop
  refine gB (F:=fun t=>oB P t T (t.ev x)) (fun t=>by unfold gM;rw[hop]) (fun t ht=> ?_) he0
  obtain⟨h1,h2⟩:=one x (by rw[hop];rfl) t ht
  rw[h1,wa h2]
 ·rename_i T x v hop
  obtain⟨s1,h1,h2⟩:=ai.1 he
  obtain rfl:=aj.1 h2
  obtain⟨id,e0,e,hid,hs,rfl,hl⟩:=uT h1
  refine lB hs ?_ fun t ht hte=> ?_
  ·show id∈writes Γ s o
   unfold writes
   rw[hop]
   simp only[hid,List.mem_singleton]
  ·unfold gM
   rw[hop]
   simp only
   rw[ht.ev (x:=x) (by rw[hop];simp[Op.operands]),ht.ev (x:=v) (by rw[hop];simp[Op.operands])]
   exact ai.2 ⟨_,hl t hte,aj.2 rfl⟩
 ·rename_i x hop
  split at he
  ·rename_i id v p n hx
   obtain rfl:=aj.1 he
   refine fK fun t ht=> ?_
   unfold gM
   rw[hop]
   simp only[(one x (by rw[hop];rfl) t ht).1,hx];rfl
  ·rename_i ty y hx
   obtain rfl:=aj.1 he
   refine fK fun t ht=> ?_
   unfold gM
   rw[hop]
   simp only[(one x (by rw[hop];rfl) t ht).1,hx];rfl
  ·rename_i f c hx
   obtain rfl:=aj.1 he
   refine fK fun t ht=> ?_
   unfold gM
   rw[hop]
   simp only[(one x (by rw[hop];rfl) t ht).1,hx];rfl
  ·exact(ae.1 he).elim
 ·rename_i op T x y U hop
  have hmx:x∈o.op.operands.toList:=by rw[hop];simp[Op.operands]
  have hmy:y∈o.op.operands.toList:=by rw[hop];simp[Op.operands]
  split at he
  ·rename_i i v1 j v2 hx hy
   obtain⟨v,h1,h2⟩:=ai.1 he
   obtain rfl:=aj.1 h2
   refine fK fun t ht=> ?_
   unfold gM
   rw[hop]
   simp only[ht.ev hmx,ht.ev hmy,hx,hy]
   exact ai.2 ⟨v,by rw[zl (ht.wL hmx (by rw[hx];simp[aq.ids]))];exact h1,rfl⟩
  ·rename_i hne
   obtain⟨v,h1,h2⟩:=ai.1 he
   obtain rfl:=aj.1 h2
   refine fK fun t ht=> ?_
   unfold gM
   rw[hop]
   simp only[ht.ev hmx,ht.ev hmy]
   exact ai.2 ⟨v,h1,rfl⟩
 ·rename_i op T x hop
  refine gB (F:=fun t=>Fq op (t.ev x)) (fun t=>by unfold gM;rw[hop]) (fun t ht=> ?_) he0
  rw[(one x (by rw[hop];rfl) t ht).1]
 ·rename_i T U x hop
  split at he
  ·rename_i id ver len hTU hx
   unfold vC at he
   split at he
   ·rename_i v e0 l e hob hD
    split at he
    ·rename_i hE
     obtain⟨h1,h2⟩:=av.1 he
     obtain⟨h3,h4⟩:=ba.1 h2
     obtain rfl:=aj.1 h4
     refine lB (da hob) ?_ fun t ht hte=> ?_
     ·show id∈writes Γ s o
      unfold writes
      rw[hop]
      simp only[hTU,hx]
      simp[aq.ids]
     ·have hob':t.obj id=some (v,false,.vec e0 (.int .u8) l):=by simp only[AS.obj,hte];exact hob
      unfold gM
      rw[hop]
      simp only[hTU,(one x (by rw[hop];rfl) t ht).1,hx]
      unfold vC
      simp only[hob',hD,hE]
      exact av.2 ⟨h1,ba.2 ⟨h3,aj.2 rfl⟩⟩
    ·exact(ae.1 he).elim
   ·exact(ae.1 he).elim
  ·rename_i id ver hx
   obtain⟨v,h1,h2⟩:=ai.1 he
   obtain rfl:=aj.1 h2
   refine fK fun t ht=> ?_
   obtain⟨h3,h4⟩:=one x (by rw[hop];rfl) t ht
   unfold gM
   rw[hop]
   simp only[h3,hx]
   exact ai.2 ⟨v,by rw[vD (h4 _ (by rw[hx];simp[aq.ids]))];exact h1,rfl⟩
  ·rename_i hne
   obtain⟨v,h1,h2⟩:=ai.1 he
   obtain rfl:=aj.1 h2
   refine fK fun t ht=> ?_
   obtain⟨h3,h4⟩:=one x (by rw[hop];rfl) t ht
   unfold gM
   rw[hop]
   simp only[h3]
   exact ai.2 ⟨v,by rw[vB h4];exact h1,rfl⟩
 ·rename_i T x hop
  exact wV hop he
 ·rename_i f first caps hop
  obtain⟨h1,h2⟩:=av.1 he
  obtain rfl:=aj.1 h2
  refine fK fun t ht=> ?_
  have hc:gZ t caps.toList=gZ s caps.toList:=oc _ fun x hx=>ht.ev (by rw[hop];simp only[Op.operands,Array.toList_append];exact List.mem_append.2 (.inr hx))
  unfold gM
  rw[hop]
  simp only[hc]
  exact av.2 ⟨h1,aj.2 rfl⟩
 ·rename_i T l c hop
  obtain⟨n,h1,h2⟩:=ai.1 he
  obtain⟨m,h3,h4⟩:=ai.1 h2
  exact qf hop h1 h3 h4
 ·rename_i T x lo hi hop
  refine gB (F:=fun t=>nN P t T (t.ev x) lo hi) (fun t=>by unfold gM;rw[hop]) (fun t ht=> ?_) he0
  have hm:∀z,(z=x∨lo=some z∨hi=some z)→z∈o.op.operands.toList:=fun z hz=>by
   rw[hop]
   simp only[Op.operands,Array.toList_append,List.mem_append]
   rcases hz with rfl | rfl | rfl
   ·left;left;left;simp
   ·left;left;right;simp
   ·left;right;simp
  have hx:=hm x (.inl rfl)
  rw[ht.ev hx]
  exact uO (fun id hid=>ht.wL hx hid) (fun y hy=>ht.ev (hm y (.inr (.inl hy)))) (fun y hy=>ht.ev (hm y (.inr (.inr hy))))
 ·rename_i T x f hop
  refine gB (F:=fun t=>lA P T (t.ev x) f) (fun t=>by unfold gM;rw[hop]) (fun t ht=> ?_) he0
  rw[(one x (by rw[hop];rfl) t ht).1]
 ·rename_i T x f hop
  refine gB (F:=fun t=>uk P T (t.ev x) f) (fun t=>by unfold gM;rw[hop]) (fun t ht=> ?_) he0
  rw[(one x (by rw[hop];rfl) t ht).1]
 ·rename_i T x i hop
  refine gB (F:=fun t=>(asInt (t.ev i)).bind fun i=>ia P t T (t.ev x) i) (fun t=>by unfold gM;rw[hop,Out.bind_assoc]) (fun t ht=> ?_) he0
  have hx:x∈o.op.operands.toList:=by rw[hop];simp[Op.operands]
  rw[ht.ev (x:=i) (by rw[hop];simp[Op.operands]),ht.ev hx]
  congr 1
  funext i
  exact pq fun id hid=>ht.wL hx hid
 ·rename_i T x i hop
  refine gB (F:=fun t=>(asInt (t.ev i)).bind fun i=>uw P T (t.ev x) i) (fun t=>by unfold gM;rw[hop,Out.bind_assoc]) (fun t ht=> ?_) he0
  rw[ht.ev (x:=i) (by rw[hop];simp[Op.operands]),ht.ev (x:=x) (by rw[hop];simp[Op.operands])]
 ·rename_i x i hop
  refine gB (F:=fun t=>Out.opt ((t.ev x).list[i]?)) (fun t=>by unfold gM;rw[hop]) (fun t ht=> ?_) he0
  rw[(one x (by rw[hop];rfl) t ht).1]
 ·rename_i T hop
  have he1:=he
  unfold ml at he1
  split at he1
  ·rename_i K V kt vt q hm hd
   obtain⟨h1,h2⟩:=av.1 he1
   obtain rfl:=aj.1 h2
   refine j8 (ids:=[]) hd h1 (fun _ h=>by cases h) fun t ht hv=> ?_
   unfold gM
   rw[hop]
   simp only
   unfold ml
   simp only[hm,hd]
   exact av.2 ⟨hv,aj.2 rfl⟩
  ·exact(ae.1 he1).elim
 ·rename_i T x i ok hop
  refine gB (F:=fun t=>lC P t T (t.ev x) (t.ev i) ok) (fun t=>by unfold gM;rw[hop]) (fun t ht=> ?_) he0
  have hx:x∈o.op.operands.toList:=by rw[hop];simp[Op.operands]
  rw[ht.ev (x:=i) (by rw[hop];simp[Op.operands]),ht.ev hx]
  exact sJ fun id hid=>ht.wL hx hid
 ·rename_i T m k x hop
  obtain⟨s1,h1,h2⟩:=ai.1 he
  obtain rfl:=aj.1 h2
  obtain⟨id,e0,e,hid,hs,rfl,hl⟩:=sN h1
  refine lB hs ?_ fun t ht hte=> ?_
  ·show id∈writes Γ s o
   unfold writes
   rw[hop]
   simp only[hid,List.mem_singleton]
  ·unfold gM
   rw[hop]
   simp only
   rw[ht.ev (x:=m) (by rw[hop];simp[Op.operands]),ht.ev (x:=k) (by rw[hop];simp[Op.operands]),ht.ev (x:=x) (by rw[hop];simp[Op.operands])]
   exact ai.2 ⟨_,hl t hte,aj.2 rfl⟩
 ·rename_i c hop
  obtain⟨cal,args,tys⟩:=c
  simp only at he
  split at he
  ·split at he
   ·rename_i m k T T2 ha ht'
    have hmm:m∈o.op.operands.toList:=by rw[hop];simp only[Op.operands,Call.operands,List.nil_append,Array.toList_append,ha];simp
    have hmk:k∈o.op.operands.toList:=by rw[hop];simp only[Op.operands,Call.operands,List.nil_append,Array.toList_append,ha];simp
    obtain⟨s1,h1,h2⟩:=ai.1 he
    obtain rfl:=aj.1 h2
    obtain⟨id,e0,e,hid,hs,rfl,hl⟩:=sM h1
    refine lB hs ?_ fun t ht hte=> ?_
    ·show id∈writes Γ s o
     unfold writes
     rw[hop]
     simp only[ha,hid,List.mem_singleton]
    ·unfold gM
     rw[hop]
     simp only[ha,ht']
     rw[ht.ev hmm,ht.ev hmk]
     exact ai.2 ⟨_,hl t hte,aj.2 rfl⟩
   ·exact(ae.1 he).elim
  ·split at he
   ·rename_i x y T X ha ht'
    exact xr hop rfl ha ht' he
   ·exact(ae.1 he).elim
  ·split at he
   ·rename_i x T ha ht'
    refine gB (F:=fun t=>CA P T (t.ev x)) (fun t=>by unfold gM;rw[hop];simp only[ha,ht']) (fun t ht=> ?_) he0
    rw[ht.ev (by rw[hop];simp only[Op.operands,Call.operands,List.nil_append,Array.toList_append,ha];simp)]
   ·exact(ae.1 he).elim
  ·split at he
   ·rename_i x y T X ha ht'
    have hmx:x∈o.op.operands.toList:=by rw[hop];simp only[Op.operands,Call.operands,List.nil_append,Array.toList_append,ha];simp
    have hmy:y∈o.op.operands.toList:=by rw[hop];simp only[Op.operands,Call.operands,List.nil_append,Array.toList_append,ha];simp
    split at he
    ·rename_i k n hx hy
     have he1:=he
     unfold vS at he1
     split at he1
     ·rename_i e t0 b q kn hel hd hX
      obtain⟨h1,h2⟩:=av.1 he1
      obtain⟨h3,h4⟩:=ba.1 h2
      obtain rfl:=aj.1 h4
      refine j8 (ids:=[]) hd h1 (fun _ h=>by cases h) fun t ht hv=> ?_
      unfold gM
      rw[hop]
      simp only[ha,ht',ht.ev hmx,ht.ev hmy,hx,hy]
      unfold vS
      simp only[hel,hd,hX]
      exact av.2 ⟨hv,ba.2 ⟨h3,aj.2 rfl⟩⟩
     ·exact(ae.1 he1).elim
    ·rename_i hne
     exact uc hop rfl ha ht' hne he
   ·exact(ae.1 he).elim
  ·split at he
   ·rename_i x T ha ht'
    have hmx:x∈o.op.operands.toList:=by rw[hop];simp only[Op.operands,Call.operands,List.nil_append,Array.toList_append,ha];simp
    split at he
    ·rename_i e hx hT
     obtain rfl:=aj.1 he
     refine fK fun t ht=> ?_
     unfold gM
     rw[hop]
     simp only[ha,ht',ht.ev hmx,hx,hT];rfl
    ·exact(ae.1 he).elim
   ·exact(ae.1 he).elim
  ·refine gB (F:=fun t=>zD true (args.toList.map t.ev)) (fun t=>by unfold gM;rw[hop]) (fun t ht=> ?_) he0
   congr 1
   exact List.map_congr_left fun x hx=>ht.ev (by rw[hop];simp only[Op.operands,Call.operands,List.nil_append,Array.toList_append];exact hx)
  ·refine gB (F:=fun t=>zD false (args.toList.map t.ev)) (fun t=>by unfold gM;rw[hop]) (fun t ht=> ?_) he0
   congr 1
   exact List.map_congr_left fun x hx=>ht.ev (by rw[hop];simp only[Op.operands,Call.operands,List.nil_append,Array.toList_append];exact hx)
  ·split at he
   ·rename_i x ha
    have hmx:x∈o.op.operands.toList:=by rw[hop];simp only[Op.operands,Call.operands,List.nil_append,Array.toList_append,ha];simp
    split at he
    ·rename_i id ver len hx
     obtain⟨h1,h2⟩:=ba.1 he
     obtain rfl:=aj.1 h2
     refine fK fun t ht=> ?_
     unfold gM
     rw[hop]
     simp only[ha,ht.ev hmx,hx]
     exact ba.2 ⟨h1,rfl⟩
    ·exact(ae.1 he).elim
   ·exact(ae.1 he).elim
  ·split at he
   ·rename_i x y T U ha ht'
    have hmx:x∈o.op.operands.toList:=by rw[hop];simp only[Op.operands,Call.operands,List.nil_append,Array.toList_append,ha];simp
    have hmy:y∈o.op.operands.toList:=by rw[hop];simp only[Op.operands,Call.operands,List.nil_append,Array.toList_append,ha];simp
    split at he
    ·rename_i id ver n hx hy
     have he1:=he
     unfold wU at he1
     split at he1
     ·rename_i v e l u hob hT
      obtain⟨h1,h2⟩:=av.1 he1
      obtain⟨h3,h4⟩:=ba.1 h2
      obtain rfl:=aj.1 h4
      refine lB (da hob) ?_ fun t ht hte=> ?_
      ·show id∈writes Γ s o
       unfold writes
       rw[hop]
       simp only[ha,hx]
       simp[aq.ids]
      ·have hob':t.obj id=some (v,false,.vec e (.int .u8) l):=by simp only[AS.obj,hte];exact hob
       unfold gM
       rw[hop]
       simp only[ha,ht',ht.ev hmx,ht.ev hmy,hx,hy]
       unfold wU
       simp only[hob',hT]
       exact av.2 ⟨h1,ba.2 ⟨h3,aj.2 rfl⟩⟩
     ·exact(ae.1 he1).elim
    ·exact(ae.1 he).elim
   ·exact(ae.1 he).elim
  ·rename_i F _
   split at he
   ·rename_i f caps hF
    split at he
    ·rename_i en hen
     exact xm hop rfl hF hen he
    ·exact(ae.1 he).elim
   ·exact(ae.1 he).elim
  ·exact(ae.1 he).elim
 ·exact(ae.1 he).elim
end
end Go.Ab
namespace Go.Ab
section
variable {P:Program} {Γ:dH} {bj:List Nat} {ops:Array Oper} {o:Oper} {s t:AS}
def Loc(P:Program)(Γ:dH)(bj:List Nat)(ops:Array Oper)(o:Oper)(s s':AS):Prop:=
 ∃E,App o.dst E s s'∧tZ (ea Γ ops s o) s E∧∀t,fC (ea Γ ops s o) s t→∃t',mU P Γ bj ops o t=some t'∧App o.dst E t t'
theorem rf{s':AS}(he:mU P Γ bj ops o s=some s'):Loc P Γ bj ops o s s':=by
 unfold mU at he
 split at he
 ·rename_i hg
  obtain⟨E,h1,h2,h3⟩:=s5 (ops:=ops) he
  refine⟨E,h1,h2,fun t ht=> ?_⟩
  obtain⟨t',h4,h5⟩:=h3 t ht
  exact⟨t',by unfold mU;simp only[hg];exact h4,h5⟩
 ·rename_i j want hg
  split at he
  ·rename_i q hq
   split at he
   ·rename_i b hb
    have hsl:∀t,fC (ea Γ ops s o) s t→t.slot q= .d .bool b:=fun t ht=>by
     rw[ht.bE q (List.mem_append.2 (.inr (by unfold pn;simp only[hg,hq];simp)))];exact hb
    by_cases e:b=want
    ·rw[if_pos e]at he
     obtain⟨E,h1,h2,h3⟩:=s5 (ops:=ops) he
     refine⟨E,h1,h2,fun t ht=> ?_⟩
     obtain⟨t',h4,h5⟩:=h3 t ht
     exact⟨t',by unfold mU;simp only[hg,hq,hsl t ht,if_pos e];exact h4,h5⟩
    ·rw[if_neg e]at he
     simp only[Option.some.injEq]at he
     subst he
     exact⟨⟨.nil,fun _=>none,[]⟩,App.mK _ _ _,⟨fun _ _ h=>by simp at h,fun _ h=>by simp at h⟩,fun t ht=>⟨_,by unfold mU;simp only[hg,hq,hsl t ht,if_neg e],App.mK _ _ _⟩⟩
   ·rename_i hb
    have hsl:∀t,fC (ea Γ ops s o) s t→t.slot q= .nil:=fun t ht=>by
     rw[ht.bE q (List.mem_append.2 (.inr (by unfold pn;simp only[hg,hq];simp)))];exact hb
    simp only[Option.some.injEq]at he
    subst he
    exact⟨⟨.nil,fun _=>none,[]⟩,App.mK _ _ _,⟨fun _ _ h=>by simp at h,fun _ h=>by simp at h⟩,fun t ht=>⟨_,by unfold mU;simp only[hg,hq,hsl t ht],App.mK _ _ _⟩⟩
   ·cases he
  ·cases he
theorem uX(h:fC (ea Γ ops s o) s t):writes Γ t o=writes Γ s o:=by
 have hws:∀id∈writes Γ s o,t.bk id=s.bk id:=h.ws
 unfold writes at hws ⊢
 split
 ·rename_i x v hop
  rw[h.ev (by rw[hop];simp[Op.operands])]
 ·rename_i m k v hop
  rw[h.ev (by rw[hop];simp[Op.operands])]
 ·rename_i T U x hop
  rw[h.ev (by rw[hop];simp[Op.operands])]
 ·rename_i c hop
  obtain⟨cal,args,tys⟩:=c
  simp only[hop]at hws
  simp only
  split
  ·split
   ·rename_i x l ha
    rw[h.ev (by rw[hop];simp only[Op.operands,Call.operands,List.nil_append,Array.toList_append,ha];simp)]
   ·rfl
  ·split
   ·rename_i x l ha
    rw[h.ev (by rw[hop];simp only[Op.operands,Call.operands,List.nil_append,Array.toList_append,ha];simp)]
   ·rfl
  ·split
   ·rename_i x l ha
    rw[h.ev (by rw[hop];simp only[Op.operands,Call.operands,List.nil_append,Array.toList_append,ha];simp)]
   ·rfl
  ·split
   ·rename_i x l ha
    rw[h.ev (by rw[hop];simp only[Op.operands,Call.operands,List.nil_append,Array.toList_append,ha];simp)]
   ·rfl
  ·rename_i F
   simp only at hws
   have hm:∀z,z=F∨z∈args.toList→z∈o.op.operands.toList:=fun z hz=>by
    rw[hop]
    simp only[Op.operands,Call.operands,Array.toList_append,List.mem_append]
    rcases hz with rfl | hz
    ·exact .inl (by simp)
    ·exact .inr hz
   have h1:t.ev F=s.ev F:=h.ev (hm F (.inl rfl))
   have h2:args.toList.map t.ev=args.toList.map s.ev:=List.map_congr_left fun x hx=>h.ev (hm x (.inr hx))
   rw[h1]
   split
   ·rename_i f caps hF
    simp only[hF]at hws
    rw[h2]
    split
    ·rename_i en hen
     simp only[hen]at hws
     exact jn _ _ _ fun id hid=>by rw[hws id hid]
    ·rfl
   ·rfl
  ·rfl
 ·rfl
theorem qX(h:fC (ea Γ ops s o) s t):ea Γ ops t o=ea Γ ops s o:=by
 have h1:=uX h
 have h2:wy t o=wy s o:=by
  unfold wy
  unfold List.flatMap
  congr 1
  exact List.map_congr_left fun i hi=>by rw[h.bE i (List.mem_append.2 (.inl hi))]
 unfold ea
 rw[h1,h2]
theorem jj{xs ys:List Id}(h:meets xs ys=false){id:Id}(hx:id∈xs):id ∉ ys:=by
 intro hy
 have:meets xs ys=true:=by
  unfold meets
  exact List.any_eq_true.2 ⟨id,hx,List.any_eq_true.2 ⟨id,hy,by simp⟩⟩
 rw[h]at this;cases this
theorem iF{d:Option Tmp}{ids:List Id}(h:rZ d ids=false){q:Nat}(hd:d=some q)(j:Nat):Id.new q j ∉ ids:=by
 intro hy
 have:rZ d ids=true:=by
  subst hd
  exact List.any_eq_true.2 ⟨_,hy,by simp⟩
 rw[h]at this;cases this
theorem mI{f g:l5}(h:f.ER g=false){q:Nat}(hd:f.dst=some q):q ∉ g.bE∧g.dst≠some q:=by
 unfold l5.ER at h
 rw[hd]at h
 simp only[Bool.or_eq_false_iff,List.any_eq_false,decide_eq_true_eq,decide_eq_false_iff_not]at h
 exact⟨fun hx=>h.1 q hx rfl,h.2⟩
theorem wO(s:AS)(d:Option Tmp)(v:aq)(i:Nat)(h:d≠some i):(s.put d v).slot i=s.slot i:=by
 cases d with
 |none=>rfl
 |some q=>rw[r0,if_neg];rintro⟨rfl,_⟩;exact h rfl
theorem App.slot{d:Option Tmp}{E:Ej}{s s':AS}(h:App d E s s')(i:Nat)(hi:d≠some i):s'.slot i=s.slot i:=by
 rw[←wO s d E.v i hi]
 simp only[AS.slot,h.bE]
theorem vd{f f':l5}{E:Ej}{s s1:AS}(ha:App f.dst E s s1)(hw:tZ f s E)(hsub:∀id∈f'.ws,id∈f'.rs)(h1:f.ER f'=false)(h2:meets f.ws f'.rs=false)(h3:meets f'.ws f.rs=false)
  (h4:rZ f.dst f'.rs=false):(∀i∈f'.bE,s1.slot i=s.slot i)∧(∀id∈f'.ws,s1.bk id=s.bk id)∧(∀id∈f'.rs,ke (s1.bk id) (s.bk id))∧∀q,f'.dst=some q→s1.cK q=s.cK q:=by
 have hup:∀id∈f'.rs,E.up id=none:=fun id hid=>by
  cases hu:E.up id with
  |none=>rfl
  |some e=>
   rcases hw.up id e hu with⟨h,_⟩ | ⟨q,j,hd,rfl⟩
   ·exact absurd hid (jj h2 h)
   ·exact absurd hid (iF h4 hd j)
 refine⟨fun i hi=>ha.slot i fun hd=>(mI h1 hd).1 hi,fun id hid=> ?_,fun id hid=> ?_,fun q hq=> ?_⟩
 ·rw[ha.bk,hup id (hsub id hid)]
  have:id ∉ E.fz:=fun hz=>jj h3 hid (hw.fz id hz)
  simp only[if_neg this]
 ·rw[ha.bk,hup id hid]
  simp only
  split
  ·exact zU _
  ·exact zV _
 ·have hne:∀j,(s1.bk (.new q j)=none↔s.bk (.new q j)=none):=fun j=>by
   rw[ha.bk]
   cases hu:E.up (.new q j) with
   |none=>
    simp only
    split <;> simp
   |some e=>
    rcases hw.up _ e hu with⟨_,h⟩ | ⟨q',j',hd,he⟩
    ·simp[h]
    ·simp only[Id.new.injEq]at he
     obtain⟨rfl,_⟩:=he
     exact absurd hq (mI h1 hd).2
  rw[Bool.eq_iff_iff,ki,ki,ha.len]
  exact and_congr Iff.rfl (forall_congr' hne)
theorem mi(s:AS)(o:Oper):∀id∈(ea Γ ops s o).ws,id∈(ea Γ ops s o).rs:=fun _ hid=>List.mem_append.2 (.inr hid)
theorem swap{o':Oper}{s1 s2:AS}(h1:mU P Γ bj ops o s=some s1)(h2:mU P Γ bj ops o' s1=some s2)(hi:(ea Γ ops s o).indep (ea Γ ops s1 o')=true):
  ∃t1,mU P Γ bj ops o' s=some t1∧mU P Γ bj ops o t1=some s2∧ea Γ ops s o'=ea Γ ops s1 o'∧ea Γ ops t1 o=ea Γ ops s o:=by
 unfold l5.indep at hi
 simp only[Bool.and_eq_true,Bool.not_eq_true']at hi
 obtain⟨⟨⟨⟨⟨i1,i2⟩,i3⟩,i4⟩,i5⟩,i6⟩:=hi
 obtain⟨E,a1,w1,l1⟩:=rf h1
 obtain⟨E',a2,w2,l2⟩:=rf h2
 obtain⟨g1,g2,g3,g4⟩:=vd (f:=ea Γ ops s o) (f':=ea Γ ops s1 o') a1 w1 (mi _ _) i1 i3 i4 i5
 have hag:fC (ea Γ ops s1 o') s1 s:=⟨fun i hi=>(g1 i hi).symm,fun id hid=>(g2 id hid).symm,fun id hid=>by
  have:=g3 id hid
  revert this
  cases s1.bk id <;> cases s.bk id <;> simp only[ke] <;> intro h <;> first | trivial | exact h | skip
  rename_i a b
  cases a <;> cases b <;> simp_all [cV.wL],fun q hq=>(g4 q hq).symm⟩
 obtain⟨t1,k1,k2⟩:=l2 s hag
 have hf':=qX hag
 have w2':tZ (ea Γ ops s1 o') s E':=⟨fun id e hu=>by
  rcases w2.up id e hu with⟨h,hn⟩ | h
  ·exact .inl ⟨h,by rw[←g2 id h];exact hn⟩
  ·exact .inr h,w2.fz⟩
 obtain⟨m1,m2,m3,m4⟩:=vd (f:=ea Γ ops s1 o') (f':=ea Γ ops s o) k2 w2' (mi _ _) i2 i4 i3 i6
 have hag2:fC (ea Γ ops s o) s t1:=⟨m1,m2,m3,m4⟩
 obtain⟨t2,k3,k4⟩:=l1 t1 hag2
 refine⟨t1,k1,?_,hf',qX hag2⟩
 rw[k3]
 congr 1
 have hup1:∀id e,E.up id=some e→E'.up id=none∧id ∉ E'.fz:=fun id e hu=>by
  rcases w1.up id e hu with⟨h,hn⟩ | ⟨q,j,hd,rfl⟩
  ·refine⟨?_,fun hz=>jj i3 h (w2.fz id hz)⟩
   cases hu':E'.up id with
   |none=>rfl
   |some e'=>
    rcases w2.up id e' hu' with⟨h',_⟩ | ⟨q,j,hd,rfl⟩
    ·exact absurd (mi _ _ id h') (jj i3 h)
    ·exact absurd (mi _ _ _ h) (iF i6 hd j)
  ·refine⟨?_,fun hz=>iF i5 hd j (w2.fz _ hz)⟩
   cases hu':E'.up (.new q j) with
   |none=>rfl
   |some e'=>
    rcases w2.up _ e' hu' with⟨h',_⟩ | ⟨q',j',hd',he⟩
    ·exact absurd (mi _ _ _ h') (iF i5 hd j)
    ·simp only[Id.new.injEq]at he
     obtain⟨rfl,_⟩:=he
     exact absurd hd' (mI i1 hd).2
 have hup2:∀id e,E'.up id=some e→E.up id=none∧id ∉ E.fz:=fun id e hu=>by
  have hn:E.up id=none:=by
   cases hu1:E.up id with
   |none=>rfl
   |some e1=>rw[(hup1 id e1 hu1).1]at hu;cases hu
  refine⟨hn,fun hz=> ?_⟩
  rcases w2.up id e hu with⟨h,_⟩ | ⟨q,j,hd,rfl⟩
  ·exact jj i4 h (w1.fz id hz)
  ·exact iF i6 hd j (w1.fz _ hz)
 refine AS.AM ?_ (by rw[k4.len,k2.len,a2.len,a1.len]) fun id=> ?_
 ·have e1:∀(u u':AS) (d:Option Tmp) (v:aq),u.bE=u'.bE→(u.put d v).bE=(u'.put d v).bE:=fun u u' d v h=>by cases d <;> simp[AS.put,h]
  rw[k4.bE,a2.bE,e1 t1 (s.put o'.dst E'.v) _ _ k2.bE,e1 s1 (s.put o.dst E.v) _ _ a1.bE]
  cases hd:o.dst with
  |none=>cases o'.dst <;> rfl
  |some q=>
   cases hd':o'.dst with
   |none=>rfl
   |some q'=>
    have hne:q'≠q:=fun e=>(mI (f:=ea Γ ops s o) i1 hd).2 (by show o'.dst=some q;rw[hd',e])
    simp only[AS.put]
    exact List.set_comm _ _ hne
 ·rw[k4.bk,k2.bk,a2.bk,a1.bk]
  cases hu:E.up id with
  |some e=>
   obtain⟨h3,h4⟩:=hup1 id e hu
   simp only[h3,if_neg h4]
  |none=>
   simp only
   cases hu':E'.up id with
   |some e=>
    obtain⟨_,h4⟩:=hup2 id e hu'
    simp only[if_neg h4]
   |none=>
    simp only
    by_cases z1:id∈E.fz <;> by_cases z2:id∈E'.fz <;> simp only[if_pos,if_neg,z1,z2,not_false_eq_true]
end
end Go.Ab
namespace Go.Ab
section
variable {P:Program} {Γ:dH} {bj:List Nat} {ops:Array Oper}
def u7(P:Program)(Γ:dH)(bj:List Nat)(ops:Array Oper)(fs:Nat→l5):List Nat→AS→AS→Prop
 |[],s,sn=>s=sn
 |i::l,s,sn=>∃o,ops[i]? =some o∧ea Γ ops s o=fs i∧∃s',mU P Γ bj ops o s=some s'∧u7 P Γ bj ops fs l s' sn
theorem u7.Av{fs:Nat→l5}{i:Nat}{l2:List Nat}{sn:AS}:∀(l1:List Nat) {s:AS},u7 P Γ bj ops fs (l1++i::l2) s sn→(∀j∈l1,(fs j).indep (fs i)=true)→u7 P Γ bj ops fs (i::(l1++l2)) s sn
 |[],_,h,_=>h
 |j::l1,s,h,hi=>by
  obtain⟨oj,h1,h2,s1,h3,h4⟩:=h
  obtain⟨oi,h5,h6,s2,h7,h8⟩:=u7.Av l1 h4 fun j hj=>hi j (List.mem_cons_of_mem _ hj)
  have hd:=hi j (List.mem_cons_self ..)
  rw[←h2,←h6]at hd
  obtain⟨t1,k1,k2,k3,k4⟩:=swap h3 h7 hd
  exact⟨oi,h5,by rw[k3,h6],t1,k1,oj,h1,by rw[k4,h2],s2,k2,h8⟩
theorem tt{R:Type}{anc:List Nat}{k:AS→Option R}{r:R}:∀(l:List Oper) (i:Nat) (acc:List (Nat×l5)) (s:AS) (f0:Nat→l5),(∀n o,l[n]? =some o→ops[i+n]? =some o)→(∀x∈acc,f0 x.1=x.2∧x.1 < i)→
  tr P Γ bj ops anc i l acc s k=some r→∃fs sn,(∀j,j < i→fs j=f0 j)∧u7 P Γ bj ops fs (List.range' i l.length) s sn∧k sn=some r∧
   (∀x∈acc,∀m,i≤m→m < i+l.length→(anc.getD m 0).testBit x.1=true∨x.2.indep (fs m)=true)∧(∀m1 m2,i≤m1→m1 < m2→m2 < i+l.length→(anc.getD m2 0).testBit m1=true∨(fs m1).indep (fs m2)=true)
 |[],i,acc,s,f0,_,_,h=>⟨f0,s,fun _ _=>rfl,rfl,h,fun _ _ m h1 h2=>by simp at h2;omega,fun _ _ h1 h2 h3=>by simp at h3;omega⟩
 |o::l,i,acc,s,f0,ho,hf,h=>by
  unfold tr at h
  split at h
  ·rename_i hall
   simp only[AS.oW]at h
   obtain⟨s',h1,h2⟩:=vR (k:=fun s'=>tr P Γ bj ops anc (i+1) l ((i,ea Γ ops s o)::acc) s' k) h
   have hacc:∀x∈(i,ea Γ ops s o)::acc,(if x.1=i then ea Γ ops s o else f0 x.1)=x.2∧x.1 < i+1:=fun x hx=>by
    rcases List.mem_cons.1 hx with rfl | hx
    ·simp
    ·obtain⟨q1,q2⟩:=hf x hx
     rw[if_neg (by omega)]
     exact⟨q1,by omega⟩
   obtain⟨fs,sn,g1,g2,g3,g4,g5⟩:=tt l (i+1) ((i,ea Γ ops s o)::acc) s' (fun n=>if n=i then ea Γ ops s o else f0 n)
    (fun n o' hn=>by have:=ho (n+1) o' (by simpa using hn);rw[←this];congr 1;omega) hacc h2
   have gi:fs i=ea Γ ops s o:=by rw[g1 i (by omega),if_pos rfl]
   refine⟨fs,sn,fun j hj=>by rw[g1 j (by omega),if_neg (by omega)],?_,g3,fun x hx m h3 h4=> ?_,fun m1 m2 h3 h4 h5=> ?_⟩
   ·rw[List.length_cons,List.range'_succ]
    exact⟨o,ho 0 o rfl,gi.symm,s',h1,g2⟩
   ·rcases Nat.eq_or_lt_of_le h3 with rfl | h3
    ·have:=List.all_eq_true.1 hall x hx
     simp only[Bool.or_eq_true]at this
     rcases this with h | h
     ·exact .inl h
     ·right;rw[gi];exact h
    ·exact g4 x (List.mem_cons_of_mem _ hx) m (by omega) (by simp only[List.length_cons]at h4;omega)
   ·rcases Nat.eq_or_lt_of_le h3 with rfl | h3
    ·rw[gi]
     exact g4 (i,ea Γ ops s o) (List.mem_cons_self ..) m2 (by omega) (by simp only[List.length_cons]at h5;omega)
    ·exact g5 m1 m2 (by omega) h4 (by simp only[List.length_cons]at h5;omega)
  ·cases h
theorem vj{acc:List Nat}{j:Nat}:∀ {l:List Edge},(l.foldr (fun e m=>Nat.lor (Nat.lor (Nat.pow 2 e.on) (acc.getD e.on 0)) m) 0).testBit j=true→∃e∈l,j=e.on∨(acc.getD e.on 0).testBit j=true
 |[],h=>by simp at h
 |e::l,h=>by
  rw[List.foldr_cons,show ∀x y,Nat.lor x y=x ||| y from fun _ _=>rfl,show ∀x y,Nat.lor x y=x ||| y from fun _ _=>rfl,Nat.testBit_or,Nat.testBit_or,show Nat.pow 2 e.on=2^e.on from rfl,Nat.testBit_two_pow]at h
  simp only[Bool.or_eq_true,decide_eq_true_eq]at h
  rcases h with(h | h) | h
  ·exact⟨e,List.mem_cons_self ..,.inl h.symm⟩
  ·exact⟨e,List.mem_cons_self ..,.inr h⟩
  ·obtain⟨e',h1,h2⟩:=vj h
   exact⟨e',List.mem_cons_of_mem _ h1,h2⟩
theorem sZ:∀(l:List Oper) (acc:List Nat),(∀i,i < acc.length→(l.foldl (fun acc o=>acc++ [ua acc o]) acc)[i]? =acc[i]?)∧
  ∀i o,l[i]? =some o→(l.foldl (fun acc o=>acc++ [ua acc o]) acc)[acc.length+i]? =some (ua ((l.foldl (fun acc o=>acc++ [ua acc o]) acc).take (acc.length+i)) o)
 |[],acc=>⟨fun _ _=>rfl,fun i o h=>by simp at h⟩
 |x::l,acc=>by
  obtain⟨h1,h2⟩:=sZ l (acc++ [ua acc x])
  simp only[List.foldl_cons]
  refine⟨fun i hi=> ?_,fun i o hi=> ?_⟩
  ·rw[h1 i (by simp;omega),List.getElem?_append_left hi]
  ·cases i with
   |zero=>
    simp only[List.getElem?_cons_zero,Option.some.injEq]at hi
    subst hi
    rw[Nat.add_zero,h1 _ (by simp)]
    have:(l.foldl (fun acc o=>acc++ [ua acc o]) (acc++ [ua acc x])).take acc.length=acc:=by
     apply List.ext_getElem?
     intro j
     rw[List.getElem?_take]
     split
     ·rename_i hj
      rw[h1 j (by simp;omega),List.getElem?_append_left hj]
     ·rename_i hj
      rw[List.getElem?_eq_none (by omega)]
    rw[this]
    simp
   |succ i=>
    have:=h2 i o (by simpa using hi)
    simp only[List.length_append,List.length_cons,List.length_nil,Nat.zero_add]at this
    rw[show acc.length+(i+1)=acc.length+1+i by omega]
    exact this
theorem Aq{l:List Oper}{i:Nat}{o:Oper}(hi:l[i]? =some o){j:Nat}(hj:((vk l).getD i 0).testBit j=true):∃e∈o.after.toList,Region.binds .any e=true∧(j=e.on∨((vk l).getD e.on 0).testBit j=true):=by
 have h:=(sZ l []).2 i o hi
 have e:vk l=l.foldl (fun acc o=>acc++ [ua acc o]) []:=rfl
 rw[←e]at h
 simp only[List.length_nil,Nat.zero_add]at h
 rw[List.getD_eq_getElem?_getD,h]at hj
 obtain⟨e,h1,h3⟩:=vj hj
 obtain⟨h1,h2⟩:=List.mem_filter.1 h1
 refine⟨e,h1,h2,h3.imp id fun h4=> ?_⟩
 rw[List.getD_eq_getElem?_getD,List.getElem?_take]at h4
 split at h4
 ·rw[List.getD_eq_getElem?_getD];exact h4
 ·simp at h4
def tS(n:Nat)(listed:Array Bool):List Nat:=(List.range n).filter fun i=> !listed.getD i true
theorem oD{n:Nat}{listed:Array Bool}{i:Nat}:i∈tS n listed↔i < n∧listed.getD i true=false:=by simp[tS]
theorem nR(n:Nat)(listed:Array Bool):(tS n listed).Pairwise (· < ·):=(List.pairwise_lt_range).filter _
theorem re{listed:Array Bool}{i j:Nat}(d:Bool)(hi:i < listed.size):(listed.setIfInBounds i true).getD j d=if j=i then true else listed.getD j d:=by
 simp only[Array.getD_eq_getD_getElem?,Array.getElem?_setIfInBounds]
 by_cases h:i=j
 ·subst h;simp[hi]
 ·simp[h,Ne.symm h]
theorem C0{listed:Array Bool}{i:Nat}(hi:i < listed.size){l1 l2:List Nat}(h:tS listed.size listed=l1++i::l2):tS listed.size (listed.setIfInBounds i true)=l1++l2:=by
 have hs:=nR listed.size listed
 rw[h]at hs
 obtain⟨p1,p2,p3⟩:=List.pairwise_append.1 hs
 obtain⟨p4,_⟩:=List.pairwise_cons.1 p2
 have e:tS listed.size (listed.setIfInBounds i true)=(tS listed.size listed).filter fun j=>decide (j≠i):=by
  unfold tS
  rw[List.filter_filter]
  refine List.filter_congr fun j _=> ?_
  rw[re true hi]
  by_cases hj:j=i
  ·simp[hj]
  ·simp[hj]
 rw[e,h,List.filter_append,List.filter_cons]
 have f1:l1.filter (fun j=>decide (j≠i))=l1:=List.filter_eq_self.2 fun j hj=>by
  have:=p3 j hj i (List.mem_cons_self ..)
  simp;omega
 have f2:l2.filter (fun j=>decide (j≠i))=l2:=List.filter_eq_self.2 fun j hj=>by
  have:=p4 j hj
  simp;omega
 rw[f1,f2]
 simp
theorem y5{C:Ctx}(hΓ:Sound P Γ){fs:Nat→l5}{sn:AS}{Q:Exit→Act→World→Prop}(hE:ug ops.toList=true)
  (hind:∀m1 m2,m1 < m2→m2 < ops.size→((vk ops.toList).getD m2 0).testBit m1=true∨(fs m1).indep (fs m2)=true) (hQ:∀a w,eJ C sn a w→Q .normal a w):
  ∀(fuel:Nat) (listed:Array Bool) (s:AS) (a:Act) (w:World),listed.size=ops.size→(tS ops.size listed).length=fuel→
   (∀i,i < ops.size→listed.getD i true=true→∀j,((vk ops.toList).getD i 0).testBit j=true→listed.getD j false=true)→u7 P Γ bj ops fs (tS ops.size listed) s sn→eJ C s a w→wpAny P .any ops Q fuel listed a w:=by
 have hedge:∀i o,ops[i]? =some o→∀e∈o.after.toList,Region.binds .any e=true→e.on < i:=fun i o hi e he hb=>by
  have:=List.all_eq_true.1 hE (o,i) (List.mem_zipIdx_iff_getElem?.2 (by simpa using hi))
  have:=List.all_eq_true.1 this e he
  simpa[hb]using this
 have hrdy:∀(listed:Array Bool),listed.size=ops.size→∀i,i∈Region.ready .any ops listed↔i∈tS ops.size listed∧∀o,ops[i]? =some o→∀e∈o.after.toList,Region.binds .any e=true→listed.getD e.on false=true:=fun listed _ i=>by
  rw[oD]
  unfold Region.ready
  simp only[List.mem_filter,List.mem_range,Bool.and_eq_true,Bool.not_eq_true']
  constructor
  ·rintro⟨h1,h2,h3⟩
   refine⟨⟨h1,h2⟩,fun o ho e he hb=> ?_⟩
   rw[ho]at h3
   simp only[Option.map_some,Option.getD_some,Array.all_eq_true',Bool.or_eq_true,Bool.not_eq_true']at h3
   rcases h3 e (by simpa using he) with h | h
   ·rw[hb]at h;cases h
   ·exact h
  ·rintro⟨⟨h1,h2⟩,h3⟩
   refine⟨h1,h2,?_⟩
   obtain⟨o,ho⟩:∃o,ops[i]? =some o:=⟨ops[i],by simp[h1]⟩
   rw[ho]
   simp only[Option.map_some,Option.getD_some,Array.all_eq_true',Bool.or_eq_true,Bool.not_eq_true']
   intro e he
   cases hb:Region.binds .any e with
   |false=>exact .inl rfl
   |true=>exact .inr (h3 o ho e (by simpa using he) hb)
 have hsome:∀(listed:Array Bool),listed.size=ops.size→Region.ready .any ops listed=[]→tS ops.size listed=[]:=fun listed hs hr=>by
  cases hu:tS ops.size listed with
  |nil=>rfl
  |cons i l=>
   exfalso
   have hi:i∈tS ops.size listed:=by rw[hu];exact List.mem_cons_self ..
   have hso:=nR ops.size listed
   rw[hu]at hso
   have:i∈Region.ready .any ops listed:=(hrdy listed hs i).2 ⟨hi,fun o ho e he hb=>by
    have hlt:=hedge i o ho e he hb
    have hin:=(oD.1 hi).1
    cases hl:listed.getD e.on true with
    |false=>
     have hm:e.on∈tS ops.size listed:=oD.2 ⟨by omega,hl⟩
     rw[hu]at hm
     rcases List.mem_cons.1 hm with h | h
     ·omega
     ·have:=(List.pairwise_cons.1 hso).1 _ h;omega
    |true=>
     have:e.on < listed.size:=by omega
     simp only[Array.getD_eq_getD_getElem?,Array.getElem?_eq_getElem this,Option.getD_some]at hl ⊢
     exact hl⟩
   rw[hr]at this
   cases this
 intro fuel
 induction fuel with
 |zero=>
  intro listed s a w hs hl _ hr hst
  have hn:tS ops.size listed=[]:=List.eq_nil_of_length_eq_zero hl
  refine⟨?_,?_⟩
  ·cases hre:Region.ready .any ops listed with
   |nil=>rfl
   |cons i l=>
    have:i∈Region.ready .any ops listed:=by rw[hre];exact List.mem_cons_self ..
    have:=((hrdy listed hs i).1 this).1
    rw[hn]at this;cases this
  ·rw[hn]at hr
   have:s=sn:=hr
   subst this
   exact hQ a w hst
 |succ fuel ih=>
  intro listed s a w hs hl hcl hr hst
  refine⟨fun hre=> ?_,fun i hi=> ?_⟩
  ·have:=hsome listed hs hre
   rw[this]at hl;simp at hl
  ·obtain⟨hu,hdep⟩:=(hrdy listed hs i).1 hi
   obtain⟨hin,hli⟩:=oD.1 hu
   obtain⟨o,ho⟩:∃o,ops[i]? =some o:=⟨ops[i],by simp[hin]⟩
   obtain⟨l1,l2,hsp⟩:=List.append_of_mem hu
   have hso:=nR ops.size listed
   rw[hsp]at hso
   have hanc:∀j,((vk ops.toList).getD i 0).testBit j=true→listed.getD j false=true:=fun j hj=>by
    obtain⟨e,he,hb,h | h⟩:=Aq (by simpa using ho) hj
    ·rw[h];exact hdep o ho e he hb
    ·have h1:=hdep o ho e he hb
     have h2:=hedge i o ho e he hb
     refine hcl e.on (by omega) ?_ j h
     have:e.on < listed.size:=by omega
     simp only[Array.getD_eq_getD_getElem?,Array.getElem?_eq_getElem this,Option.getD_some]at h1 ⊢
     exact h1
   rw[hsp]at hr
   have hb:=u7.Av l1 hr fun j hj=>by
    have hlt:j < i:=(List.pairwise_append.1 hso).2.2 j hj i (List.mem_cons_self ..)
    rcases hind j i hlt hin with h | h
    ·have h1:=hanc j h
     have hju:j∈tS ops.size listed:=by rw[hsp];exact List.mem_append.2 (.inl hj)
     have h2:=(oD.1 hju).2
     have:j < listed.size:=by omega
     simp only[Array.getD_eq_getD_getElem?,Array.getElem?_eq_getElem this,Option.getD_some]at h1 h2
     rw[h1]at h2;cases h2
    ·exact h
   obtain⟨o',ho',hf,s',hg,hrun⟩:=hb
   obtain rfl:o=o':=by rw[ho]at ho';simpa using ho'
   have hset:tS ops.size (listed.setIfInBounds i true)=l1++l2:=by
    rw[←hs]at hsp ⊢
    exact C0 (by omega) hsp
   refine((tq hΓ hst hg).mono fun a' w' hst'=>ih (listed.setIfInBounds i true) s' a' w' (by simpa using hs) ?_ ?_ (by rw[hset];exact hrun) hst').wpOp ho
   ·rw[hset]
    rw[hsp]at hl
    simp only[List.length_append,List.length_cons]at hl ⊢
    omega
   ·intro m hm hlm j hj
    rw[re false (by omega)]
    split
    ·rfl
    ·rw[re true (by omega)]at hlm
     split at hlm
     ·rename_i hmi
      subst hmi
      exact hanc j hj
     ·exact hcl m hm hlm j hj
theorem wH{C:Ctx}(hm:P.follows .mixedOrders=true)(hΓ:Sound P Γ){id:Nat}{R:Type}{Q:Exit→Act→World→Prop}{s:AS}{a:Act}{w:World}{k:AS→Option R}{r:R}(h:eJ C s a w)(hE:ug ops.toList=true)
  (he:tr P Γ bj ops (vk ops.toList) 0 ops.toList [] s k=some r) (hk:∀s' a' w',eJ C s' a' w'→k s'=some r→Q .normal a' w'):(Code.region id ops true).wp P Q a w:=by
 obtain⟨fs,sn,_,g2,g3,_,g5⟩:=tt ops.toList 0 [] s (fun _=>⟨none,[],[],[]⟩) (fun n o hn=>by simpa using hn) (fun _ hx=>by cases hx) he
 refine wp_region_any hm ?_
 obtain⟨g,β,h⟩:=h
 have hu:tS ops.size (Array.replicate ops.size false)=List.range' 0 ops.toList.length:=by
  unfold tS
  rw[List.filter_eq_self.2]
  ·simp[List.range_eq_range']
  ·intro i hi
   have hi:i < ops.size:=by simpa using hi
   simp[Array.getD_eq_getD_getElem?,hi]
 refine y5 (bj:=bj) hΓ hE (fs:=fs) (sn:=sn) (fun m1 m2 h1 h2=>g5 m1 m2 (Nat.zero_le _) h1 (by simpa using h2)) (fun a' w' hs=>hk sn a' w' hs g3) ops.size _ s a _ (by simp) (by rw[hu];simp) (fun i hi hl=> ?_) (by rw[hu];exact g2) ⟨g,β,h.drew⟩
 simp[Array.getD_eq_getD_getElem?,hi]at hl
end
end Go.Ab
namespace Go.Ab
theorem kb{ρ:Ren}{s:AS}(h:∀id,(s.obj id).isSome=true→∀ver,ρ id ver=some (id,ver)):∀(v:aq),v.there s=true→v.fm ρ=v
 | .ptr id ver p n,ht=>by simp only[aq.fm];rw[h id ht]
 | .bt id ver p c i len,ht=>by simp only[aq.fm];rw[h id ht]
 | .pr a b,ht=>by
  simp only[aq.there,Bool.and_eq_true]at ht
  simp only[aq.fm];rw[kb h a ht.1,kb h b ht.2]
 | .cons a b,ht=>by
  simp only[aq.there,Bool.and_eq_true]at ht
  simp only[aq.fm];rw[kb h a ht.1,kb h b ht.2]
 | .fn f c,ht=>by simp only[aq.fm];rw[kb h c ht]
 | .bx e z c,ht=>by simp only[aq.fm];rw[kb h c ht]
 | .dy id ver,ht=>by simp only[aq.fm];rw[h id ht]
 | .im ..,ht=>by cases ht
 | .undef,_ | .gone,_ | .dq,_ | .iB,_ | .jy,_ | .lg,_ | .d _ _,_ | .dZ _ _,_ | .nil,_ | .vec ..,_ | .mp ..,_ | .sb _,_=>rfl
theorem Ek.bn{E E':Env}(hm:iP E E')(hh:∀b:Nat,E'.w.heap[b]? =E.w.heap[b]?){i q:Id}{ver:Nat}{kt vt:Ty}{rest:List (kt.den×vt.den)}{cur:Option (kt.den×vt.den)}(h:Ek E i q ver kt vt rest cur)(hβ:E'.β i=E.β i)
  (hg:∀pl,E.β i=some pl→E.g pl.b= .own (.id i) 0→E'.g pl.b= .own (.id i) 0)
  (hq:∀vr,ver=vr+1→(E.mR q vr→E'.mR q vr∧(E'.cur q vr→E.cur q vr∧E'.β q=E.β q))∧(∀k v l,E.s q=some (.obj vr true (.mp k v l))→E'.s q=some (.obj vr true (.mp k v l)))∧
   ∀pl,E.β q=some pl→E.g pl.b= .own (.id q) 0→E'.g pl.b= .own (.id q) 0):Ek E' i q ver kt vt rest cur:=by
 obtain⟨pl,mb,since,seen,c0,h1,h2,h3,h4⟩:=h
 refine⟨pl,mb,since,seen,c0,by rw[hβ,h1],by rw[hh,h2],hg pl h1 h3,fun vr hvr=> ?_⟩
 obtain⟨h5,h6⟩:=h4 vr hvr
 obtain⟨q1,q2,q3⟩:=hq vr hvr
 obtain⟨b1,b2⟩:=q1 h5
 refine⟨b1,fun hc=> ?_⟩
 obtain⟨c1,c2⟩:=b2 hc
 obtain⟨⟨k,v,l,k0⟩,plq,es,clock,k1,k2,k3,k4,k5,k6,k7,k8,k9⟩:=h6 c1
 exact⟨⟨k,v,l,q2 _ _ _ k0⟩,plq,es,clock,by rw[c2,k1],k2,by rw[hh,k3],q3 _ k1 k4,k5,k6,k7,k8.mono hm,fun x hx=>
  let⟨e,se,a1,a2,a3,a4⟩:=k9 x hx
  ⟨e,se,a1,a2,a3,a4.mono hm⟩⟩
theorem A6(c:aq):(∃q ver k v l cu,c= .im q ver k v l cu)∨(∀ρ kp,c.DZ ρ kp=c.fm ρ)∧∀s v fr,cV.there s (.obj v fr c)=c.there s:=by
 cases c <;> first | exact .inl ⟨_,_,_,_,_,_,rfl⟩ | exact .inr ⟨fun _ _=>rfl,fun _ _ _=>rfl⟩
section
variable {P:Program} {C:Ctx} {g:Nat→gq} {β:Id→Option Pl} {s:AS} {a:Act} {w:World}
theorem Inv.tE(h:Inv C g β s a w)(hC:∀i j,C.E.s (.new i j)=none){s1:AS}{g1:Nat→gq}{β1:Id→Option Pl}(ρ:Ren)(hlen:s1.bE.length=s.bE.length)(ht:Trans w w g g1)(hle:lQ ρ (s.env w g β) (s1.env w g1 β1))
  (hslot:∀i,VS (s1.env w g1 β1) (s1.slot i) (a.tmps.getD i undef))
  (hent:∀id ver fr c,s1.bk id=some (.obj ver fr c)→jw (s1.env w g1 β1) id fr c∨∃id0 v0 c0,s.bk id0=some (.obj v0 fr c0)∧c0.fm ρ=c∧β1 id=β id0∧∀pl,β id0=some pl→(∀k,g pl.b= .own (.id id0) k→g1 pl.b= .own (.id id) k)∧(g pl.b= .free→g1 pl.b= .free))
  (hold:∀k,(s.bk (.cz k)≠none→s1.bk (.cz k)≠none)∧(∀v fr c,s1.bk (.cz k)=some (.obj v fr c)→∃c0,s.bk (.cz k)=some (.obj v fr c0))∧β1 (.cz k)=β (.cz k)):Inv C g1 β1 s1 a w:=by
 refine⟨h.defers,by rw[hlen];exact h.size,hslot,fun id ver fr c hid=> ?_,h.trans.trans ht,?_⟩
 ·rcases hent id ver fr c hid with ho | ⟨id0,v0,c0,h1,h2,h3,h4⟩
  ·exact ho
  have:=kU hle (h.bj id0 v0 fr c0 h1) (id':=id) h3 fun pl hp=>⟨rfl,(h4 pl hp).1,(h4 pl hp).2⟩
  rw[h2]at this
  exact this
 ·have hl:=h.le
  have ho:∀id ver,C.E.mR id ver→∃k,id= .cz k:=fun id ver hb=>by
   cases id with
   |cz k=>exact⟨k,rfl⟩
   |new i j=>exact absurd (hC i j) hb.1
  refine⟨hl.mem.trans (Trans.mem (E:=s.env w g β) (E':=s1.env w g1 β1) ht),fun id ver hb=> ?_,fun id ver hb hc=> ?_⟩
  ·obtain⟨k,rfl⟩:=ho id ver hb
   obtain⟨h1,h2⟩:=hl.mR _ ver hb
   obtain⟨e1,e2,_⟩:=hold k
   exact⟨e1 h1,fun v fr c hh=>let⟨c0,hc0⟩:=e2 v fr c hh;h2 v fr c0 hc0⟩
  ·obtain⟨k,rfl⟩:=ho id ver hb
   obtain⟨fr,c,hc⟩:=hc
   obtain⟨_,e2,e3⟩:=hold k
   obtain⟨c0,hc0⟩:=e2 _ _ _ hc
   obtain⟨h1,h2⟩:=hl.cur _ ver hb ⟨fr,c0,hc0⟩
   exact⟨h1,e3.trans h2⟩
theorem Inv.renamed(h:Inv C g β s a w)(hC:∀i j,C.E.s (.new i j)=none){s1:AS}{β1:Id→Option Pl}(ρ:Ren)(hlen:s1.bE.length=s.bE.length)(hle:lQ ρ (s.env w g β) (s1.env w g β1))
  (hslot:∀i,VS (s1.env w g β1) (s1.slot i) (a.tmps.getD i undef)) (hent:∀id ver fr c,s1.bk id=some (.obj ver fr c)→jw (s1.env w g β1) id fr c∨∃v0,s.bk id=some (.obj v0 fr c)∧c.fm ρ=c∧β1 id=β id)
  (hold:∀k,s1.bk (.cz k)=s.bk (.cz k)∧β1 (.cz k)=β (.cz k)):Inv C g β1 s1 a w:=
 h.tE hC ρ hlen (Trans.refl w g) hle hslot (fun id ver fr c hid=>(hent id ver fr c hid).imp (fun h=>h) fun⟨v0,h1,h2,h3⟩=>⟨id,v0,c,h1,h2,h3,fun _ _=>⟨fun _ h=>h,fun h=>h⟩⟩)
  fun k=>⟨fun hh=>by rw[(hold k).1];exact hh,fun v fr c hh=>⟨c,(hold k).1.symm.trans hh⟩,(hold k).2⟩
theorem Inv.E4(h:Inv C g β s a w)(j:Nat){v:aq}(hv:VS (s.env w g β) v (a.tmps.getD j undef)):Inv C g β (s.put (some j) v) a w:=by
 refine⟨h.defers,by simpa[AS.put]using h.size,fun i=> ?_,by simpa using h.bj,h.trans,by simpa using h.le⟩
 rw[yu,r0]
 split
 ·rename_i hij;rw[hij.1];exact hv
 ·exact h.bE i
theorem pH(bn:List Nat):∀(l:List aq) (n i:Nat),(eZ bn n l).getD i .undef= .undef∨(eZ bn n l).getD i .undef=l.getD i .undef
 |[],n,i=>by simp[eZ]
 |v::l,n,0=>by
  simp only[eZ,List.getD_cons_zero]
  split
  ·exact .inr rfl
  ·exact .inl rfl
 |v::l,n,i+1=>by
  simp only[eZ,List.getD_cons_succ]
  exact pH bn l (n+1) i
theorem kM(bn:List Nat):∀(l:List aq) (n:Nat),(eZ bn n l).length=l.length
 |[],n=>rfl
 |v::l,n=>by simp[eZ,kM bn l]
theorem tK(bn:List Nat):∀(l:List (List cV)) (n i:Nat),(fU bn n l).getD i []=[]∨(fU bn n l).getD i []=l.getD i []
 |[],n,i=>by simp[fU]
 |v::l,n,0=>by
  simp only[fU,List.getD_cons_zero]
  split
  ·exact .inr rfl
  ·exact .inl rfl
 |v::l,n,i+1=>by
  simp only[fU,List.getD_cons_succ]
  exact tK bn l (n+1) i
theorem zC{s:AS}(i:Nat):s.slot i= .undef∨s.slot i∈s.bE:=by
 unfold AS.slot
 rw[List.getD_eq_getElem?_getD]
 cases h:s.bE[i]? with
 |none=>exact .inl rfl
 |some v=>exact .inr (List.mem_of_getElem? h)
theorem Ck{s:AS}{id:Id}{e:cV}(h:s.bk id=some e):e∈s.ch∨∃es∈s.news,e∈es:=by
 cases id with
 |cz k=>exact .inl (List.mem_of_getElem? h)
 |new i j=>
  simp only[AS.bk,List.getD_eq_getElem?_getD]at h
  cases hi:s.news[i]? with
  |none=>rw[hi]at h;simp at h
  |some es=>rw[hi]at h;exact .inr ⟨es,List.mem_of_getElem? hi,List.mem_of_getElem? h⟩
theorem Inv.bn(h:Inv C g β s a w)(hC:∀i j,C.E.s (.new i j)=none){an:gr}(ht:(oz an s).vg=true):Inv C g β (oz an s) a w:=by
 obtain⟨ks,kt,_,_,_⟩:=an
 obtain⟨s1,hs1⟩:∃s1:AS,s1= {bE:=eZ ks 0 s.bE,ch:=s.ch,news:=fU kt 0 s.news}:=⟨_,rfl⟩
 have e1:s1.bE=eZ ks 0 s.bE:=by rw[hs1]
 have e2:s1.ch=s.ch:=by rw[hs1]
 have e3:s1.news=fU kt 0 s.news:=by rw[hs1]
 have ht:(s1.bE.all (aq.there s1) && s1.ch.all (cV.there s1) && s1.news.all fun es=>es.all (cV.there s1))=true:=by rw[hs1];exact ht
 show Inv C g β {bE:=eZ ks 0 s.bE,ch:=s.ch,news:=fU kt 0 s.news} a w
 rw[←hs1]
 rw[Bool.and_eq_true,Bool.and_eq_true]at ht
 obtain⟨⟨t1,t2⟩,t3⟩:=ht
 have hent:∀id,s1.bk id=none∨s1.bk id=s.bk id:=fun id=>by
  cases id with
  |cz k=>right;simp only[AS.bk,e2]
  |new i j=>
   simp only[AS.bk,e3]
   rcases tK kt s.news 0 i with h | h
   ·rw[h];exact .inl rfl
   ·rw[h];exact .inr rfl
 have hobj:∀id,(s1.obj id).isSome=true→s1.bk id=s.bk id:=fun id hi=>by
  rcases hent id with h | h
  ·simp[AS.obj,h]at hi
  ·exact h
 let ρ:Ren:=fun id ver=>if(s1.obj id).isSome=true then some (id,ver) else none
 have hρ:∀v:aq,v.there s1=true→v.fm ρ=v:=kb fun id hid ver=>if_pos hid
 have hle:lQ ρ (s.env w g β) (s1.env w g β):=by
  refine⟨⟨fun _ _ _ h=>h,fun _ _ h h'=>⟨h,h'⟩⟩,fun id ver r hr hb=> ?_⟩
  by_cases hi:(s1.obj id).isSome=true
  ·have:ρ id ver=some (id,ver):=if_pos hi
   rw[this,Option.some.injEq]at hr
   subst hr
   have e:=hobj id hi
   obtain⟨b1,b2⟩:=hb
   exact⟨⟨by show s1.bk id≠none;rw[e];exact b1,fun v fr c hh=>b2 v fr c (e.symm.trans hh)⟩,fun⟨fr,c,hc⟩=>⟨⟨fr,c,e.symm.trans hc⟩,rfl⟩⟩
  ·have:ρ id ver=none:=if_neg hi
   rw[this]at hr;cases hr
 refine h.renamed hC ρ (by rw[e1,kM]) hle (fun i=> ?_) (fun id ver fr c hid=> ?_) fun k=>⟨by simp only[AS.bk,e2],rfl⟩
 ·rcases zC (s:=s1) i with hi | hi
  ·rw[hi];exact VS.undef
  ·have hth:=List.all_eq_true.1 t1 _ hi
   rcases pH ks s.bE 0 i with h1 | h1
   ·have:s1.slot i= .undef:=by simp only[AS.slot,e1,h1]
    rw[this];exact VS.undef
   ·have:s1.slot i=s.slot i:=by simp only[AS.slot,e1,h1]
    have hv:=qE hle (h.bE i)
    rw[←this,hρ _ hth]at hv
    exact hv
 ·have:s1.bk id=s.bk id:=by
   rcases hent id with h | h
   ·rw[h]at hid;cases hid
   ·exact h
  have hc:cV.there s1 (.obj ver fr c)=true:=by
   rcases Ck hid with h | ⟨es,h1,h2⟩
   ·exact List.all_eq_true.1 t2 _ h
   ·exact List.all_eq_true.1 (List.all_eq_true.1 t3 _ h1) _ h2
  rcases A6 c with⟨q,vq,k,v,l,cu,rfl⟩ | ⟨_,hth⟩
  ·have e:=hobj q hc
   refine .inl (Ek.bn hle.mem (fun _=>rfl) (h.bj id ver fr _ (this.symm.trans hid)) rfl (fun _ _ h=>h) fun vr _=>⟨fun hb=>hle.ref q vr (q,vr) (if_pos hc) hb,fun k v l hk=>e.trans hk,fun _ _ h=>h⟩)
  ·rw[hth]at hc
   exact .inr ⟨ver,this.symm.trans hid,hρ c hc,rfl⟩
theorem Inv.drop(h:Inv C g β s a w)(ks:List Nat):Inv C g β (s.drop ks) a w:=by
 refine⟨h.defers,by simpa[AS.drop,kM]using h.size,fun i=> ?_,h.bj,h.trans,h.le⟩
 rcases pH ks s.bE 0 i with h1 | h1
 ·have:(s.drop ks).slot i= .undef:=h1
  rw[this];exact VS.undef
 ·have:(s.drop ks).slot i=s.slot i:=h1
  rw[this];exact h.bE i
def lM(b q:Nat):gq→gq
 | .own (.id (.new x j)) k=>if x=b then .own (.id (.new q j)) k else .own (.id (.new x j)) k
 |l=>l
theorem Trans.E3(w:World)(g:Nat→gq)(b q:Nat):Trans w w g fun x=>lM b q (g x):=by
 refine⟨rfl,rfl,⟨rfl,Nat.le_refl _⟩,Nat.le_refl _,fun y _=> ?_⟩
 cases hg:g y with
 |free=>exact⟨by simp[lM],rfl⟩
 |own o k=>cases o with
  |dC=>exact⟨by simp[lM],rfl⟩
  |id x=>
   refine⟨.inr ?_,fun _ _ _ h=>h⟩
   cases x with
   |cz m=>exact⟨_,_,rfl,Nat.le_refl _⟩
   |new x j=>
    simp only[lM]
    split
    ·exact⟨_,_,rfl,Nat.le_refl _⟩
    ·exact⟨_,_,rfl,Nat.le_refl _⟩
theorem BN(f:aq→aq)(hf:f .undef= .undef)(l:List aq)(i:Nat):(l.map f).getD i .undef=f (l.getD i .undef):=by
 simp only[List.getD_eq_getElem?_getD,List.getElem?_map]
 cases l[i]? <;> simp[hf]
theorem Inv.mu(h:Inv C g β s a w)(hC:∀i j,C.E.s (.new i j)=none){b q:Nat}(hbl:b < s.news.length)(hql:q < s.news.length):
  ∃g1 β1,Inv C g1 β1 (s.mu b q (s.news.getD b [])) a w:=by
 generalize hes:s.news.getD b []=es
 have hesj:∀j,s.bk (.new b j)=es[j]? :=fun j=>by rw[←hes];rfl
 let ρ:Ren:=oO es b q
 let s1:=s.mu b q es
 have hself:∀j',s1.bk (.new q j')=(es[j']?).map (cV.CQ ρ):=fun j'=>by
  simp[s1,AS.mu,AS.bk,List.getD_eq_getElem?_getD,hql,ρ]
 have hgone:b≠q→∀j',s1.bk (.new b j')=none:=fun hbq j'=>by
  have hbq':¬q=b:=fun e=>hbq e.symm
  simp only[s1,AS.mu,AS.bk,List.getD_eq_getElem?_getD]
  rw[List.getElem?_set_ne hbq',List.getElem?_set,if_pos rfl]
  split <;> simp
 have hoth:∀i,(∀j',i≠ .new q j')→(∀j',i≠ .new b j')→s1.bk i=(s.bk i).map (cV.sS ρ (mL b q)):=fun i hi hi'=>by
  cases i with
  |cz k=>simp[s1,AS.mu,AS.bk,ρ]
  |new x y=>
   have h1:¬q=x:=fun e=>hi y (by rw[e])
   have h2:¬b=x:=fun e=>hi' y (by rw[e])
   simp only[s1,AS.mu,AS.bk,List.getD_eq_getElem?_getD]
   rw[List.getElem?_set_ne h1,List.getElem?_set_ne h2,List.getElem?_map]
   cases s.news[x]? <;> simp[ρ]
 let g1:Nat→gq:=fun x=>lM b q (g x)
 let β1:Id→Option Pl:=fun i=>match i with | .new x j=>if x=q then β (.new b j) else β (.new x j) | .cz k=>β (.cz k)
 have hβ1:∀i,(∀j',i≠ .new q j')→β1 i=β i:=fun i hi=>by
  cases i with
  |cz k=>rfl
  |new x y=>exact if_neg fun e=>hi y (by rw[e])
 have ht:Trans w w g g1:=Trans.E3 w g _ _
 have hρ:∀i ver r,ρ i ver=some r→(∃j fr c,i= .new b j∧es[j]? =some (.obj ver fr c)∧r=(.new q j,0))∨((∀j',i≠ .new q j')∧(∀j',i≠ .new b j')∧r=(i,ver)):=fun i ver r hr=>by
  replace hr:oO es b q i ver=some r:=hr
  cases i with
  |cz k=>exact .inr ⟨fun _=>by simp,fun _=>by simp,(Option.some.inj hr).symm⟩
  |new x j=>
   unfold oO at hr
   simp only at hr
   split at hr
   ·rename_i hx
    have hx:x=b:=by simpa using hx
    subst hx
    split at hr
    ·rename_i v fr c he
     split at hr
     ·rename_i hv
      have hv:ver=v:=by simpa using hv
      subst hv
      exact .inl ⟨j,fr,c,rfl,he,(Option.some.inj hr).symm⟩
     ·cases hr
    ·cases hr
   ·rename_i hx
    have hx:¬x=b:=by simpa using hx
    split at hr
    ·cases hr
    ·rename_i hx'
     have hx':¬x=q:=by simpa using hx'
     exact .inr ⟨fun _ e=>hx' (by injection e),fun _ e=>hx (by injection e),(Option.some.inj hr).symm⟩
 have hle:lQ ρ (s.env w g β) (s1.env w g1 β1):=by
  refine⟨Trans.mem (E:=s.env w g β) (E':=s1.env w g1 β1) ht,fun i ver r hr hbd=> ?_⟩
  rcases hρ i ver r hr with⟨j,fr,c,rfl,he,rfl⟩ | ⟨hi,hi',rfl⟩
  ·refine⟨⟨by show s1.bk (.new q j)≠none;rw[hself,he];simp,fun _ _ _ _=>Nat.zero_le _⟩,fun _=>⟨⟨fr,c,(hesj j).trans he⟩,if_pos rfl⟩⟩
  ·obtain⟨k1,k2⟩:=hbd
   have k1:s.bk i≠none:=k1
   have e:s1.bk i=(s.bk i).map (cV.sS ρ (mL b q)):=hoth i hi hi'
   have back:∀v' fr' c',s1.bk i=some (.obj v' fr' c')→∃c0,s.bk i=some (.obj v' fr' c0):=fun v' fr' c' hh=>by
    rw[e]at hh
    cases hs:s.bk i with
    |none=>exact absurd hs k1
    |some en=>
     rw[hs]at hh
     cases en with
     |dead=>simp[cV.sS]at hh
     |obj v0 fr0 c0=>
      simp only[Option.map_some,cV.sS,Option.some.injEq,cV.obj.injEq]at hh
      obtain⟨rfl,rfl,_⟩:=hh
      exact⟨c0,rfl⟩
   refine⟨⟨by
    show s1.bk i≠none
    rw[e]
    cases hs:s.bk i with
    |none=>exact absurd hs k1
    |some en=>simp,fun v' fr' c' hh=> ?_⟩,fun⟨fr',c',hh⟩=> ?_⟩
   ·obtain⟨c0,hc0⟩:=back v' fr' c' hh
    exact k2 v' fr' c0 hc0
   ·obtain⟨c0,hc0⟩:=back ver fr' c' hh
    exact⟨⟨fr',c0,hc0⟩,hβ1 i hi⟩
 have hgi:∀(i:Id),(∀j',i≠ .new b j')→∀(x:Nat) (k:Nat),g x= .own (.id i) k→g1 x= .own (.id i) k:=fun i hi x k hk=>by
  show lM b q (g x)=_
  rw[hk]
  cases i with
  |cz m=>rfl
  |new y j=>exact if_neg fun e=>hi j (by rw[e])
 refine⟨g1,β1,h.tE hC ρ (by simp[AS.mu]) ht hle (fun i=> ?_) (fun id ver fr' c' hid=> ?_) fun k=>⟨fun hk=> ?_,fun v' fr' c' hh=> ?_,rfl⟩⟩
 ·have:(s.mu b q es).slot i=(s.slot i).fm ρ:=BN _ rfl _ _
  rw[this]
  exact qE hle (h.bE i)
 ·have hid:s1.bk id=some (.obj ver fr' c'):=hid
  by_cases hi:∃j',id= .new q j'
  ·obtain⟨j',rfl⟩:=hi
   rw[hself]at hid
   cases he:es[j']? with
   |none=>rw[he]at hid;cases hid
   |some en=>
    rw[he]at hid
    cases en with
    |dead=>simp[cV.CQ]at hid
    |obj v0 fr0 c0=>
     simp only[Option.map_some,cV.CQ,Option.some.injEq,cV.obj.injEq]at hid
     obtain⟨_,rfl,rfl⟩:=hid
     exact .inr ⟨.new b j',v0,c0,(hesj j').trans he,rfl,if_pos rfl,fun pl hp=>⟨fun k hk=>by
      show lM b q (g pl.b)=_
      rw[hk];exact if_pos rfl,fun hk=>by
      show lM b q (g pl.b)=_
      rw[hk];rfl⟩⟩
  ·by_cases hi':∃j',id= .new b j'
   ·obtain⟨j',rfl⟩:=hi'
    have hbq:b≠q:=fun e=>hi ⟨j',by rw[e]⟩
    rw[hgone hbq]at hid;cases hid
   ·have hni:∀j',id≠ .new q j':=fun j' e=>hi ⟨j',e⟩
    have hni':∀j',id≠ .new b j':=fun j' e=>hi' ⟨j',e⟩
    have e:=hoth id hni hni'
    rw[e]at hid
    cases hs:s.bk id with
    |none=>rw[hs]at hid;cases hid
    |some en=>
     rw[hs]at hid
     cases en with
     |dead=>simp[cV.sS]at hid
     |obj v0 fr0 c0=>
      simp only[Option.map_some,cV.sS,Option.some.injEq,cV.obj.injEq]at hid
      obtain⟨rfl,rfl,rfl⟩:=hid
      rcases A6 c0 with⟨q2,vq,k,v2,l,cu,rfl⟩ | ⟨hren,_⟩
      ·have h0:=h.bj id v0 fr0 _ hs
       left
       simp only[aq.DZ]
       cases hkq:mL b q q2 with
       |true=>
        have hk1:(∀j',q2≠ .new b j')∧(∀j',q2≠ .new q j')∧∀vr,ρ q2 vr=some (q2,vr):=by
         cases q2 with
         |cz k=>exact⟨fun _=>by simp,fun _=>by simp,fun _=>rfl⟩
         |new x y=>
          simp only[mL,Bool.and_eq_true,Bool.not_eq_true',decide_eq_false_iff_not]at hkq
          obtain⟨k1,k2⟩:=hkq
          refine⟨fun _ e=>k1 (by injection e),fun _ e=>k2 (by injection e),fun vr=> ?_⟩
          show oO es b q (.new x y) vr=_
          unfold oO
          simp only[decide_eq_false k1,decide_eq_false k2]
        obtain⟨hk1,hk2,hρq⟩:=hk1
        refine Ek.bn hle.mem (fun _=>rfl) h0 (hβ1 id hni) (fun pl _ hk=>hgi id hni' _ _ hk) fun vr _=>⟨fun hb=>hle.ref q2 vr (q2,vr) (hρq vr) hb,fun k v l hk=> ?_,fun pl _ hk=>hgi q2 hk1 _ _ hk⟩
        have hk:s.bk q2=some (.obj vr true (.mp k v l)):=hk
        show s1.bk q2=_
        rw[hoth q2 hk2 hk1,hk]
        rfl
       |false=>
        obtain⟨pl,mb,since,seen,c0,h1,h2,h3,h4⟩:=h0
        exact⟨pl,mb,since,seen,c0,(hβ1 id hni).trans h1,h2,hgi id hni' _ _ h3,fun vr hvr=>by omega⟩
      rw[hren]
      exact .inr ⟨id,v0,c0,hs,rfl,hβ1 id hni,fun pl hp=>⟨fun k hk=>hgi id hni' _ _ hk,fun hk=>by
       show lM b q (g pl.b)=_
       rw[hk];rfl⟩⟩
 ·have e:=hoth (.cz k) (fun _=>by simp) (fun _=>by simp)
  show s1.bk (.cz k)≠none
  rw[e]
  cases hs:s.bk (.cz k) with
  |none=>exact absurd hs hk
  |some en=>simp
 ·have e:=hoth (.cz k) (fun _=>by simp) (fun _=>by simp)
  have hh:s1.bk (.cz k)=some (.obj v' fr' c'):=hh
  rw[e]at hh
  cases hs:s.bk (.cz k) with
  |none=>rw[hs]at hh;cases hh
  |some en=>
   rw[hs]at hh
   cases en with
   |dead=>simp[cV.sS]at hh
   |obj v0 fr0 c0=>
    simp only[Option.map_some,cV.sS,Option.some.injEq,cV.obj.injEq]at hh
    obtain⟨rfl,rfl,_⟩:=hh
    exact⟨c0,rfl⟩
theorem sr{k t:Ty}{l:List (k.den×t.den)}:∀ {p:List nk} {x c':aq},¬(kS (.mp k t l) p x).eval=some c'
 |[],x,c',h=>by simp only[kS,ae]at h
 | .arr::p,x,c',h=>by simp only[kS]at h;exact sr h
 | .idx i::p,x,c',h=>by simp only[kS,ae]at h
 | .fst::p,x,c',h=>by simp only[kS,ae]at h
 | .snd::p,x,c',h=>by simp only[kS,ae]at h
theorem uW{q:Id}{vq:Nat}{k t:Ty}{l:List (k.den×t.den)}{cu:Option (k.den×t.den)}:∀ {p:List nk} {x c':aq},¬(kS (.im q vq k t l cu) p x).eval=some c'
 |[],x,c',h=>by simp only[kS,ae]at h
 | .arr::p,x,c',h=>by simp only[kS]at h;exact uW h
 | .idx i::p,x,c',h=>by simp only[kS,ae]at h
 | .fst::p,x,c',h=>by simp only[kS,ae]at h
 | .snd::p,x,c',h=>by simp only[kS,ae]at h
theorem pY{l:List Value}{n:Nat}{vs:List Value}(h:(l.drop n).take vs.length=vs):cn l n vs=l:=by
 unfold cn
 have h2:l.drop n=vs++l.drop (n+vs.length):=by
  conv=>lhs;rw[←List.take_append_drop vs.length (l.drop n)]
  rw[h,List.drop_drop]
 have h3:=List.take_append_drop n l
 rw[h2]at h3
 simpa[List.append_assoc]using h3
theorem Inv.EY(h:Inv C g β s a w){j:Nat}{p:List nk}(hat:(s.at j p).eval=some .dq){q:Nat}(hq:s.cK q=true){e:TypeId}{t:Ty}(hz:0 < t.size){s':AS}
  (he:((s.born q [.obj 0 false (.vec e t [])]).putAt j (.bt (.new q 0) 0 [] 0 0 0) p).eval=some s'):eJ C s' a w:=by
 obtain⟨β',h1,h2,h3⟩:=h.Bm hq (e:=e) hz
 cases p with
 |nil=>
  simp only[AS.at]at hat
  have hj:=aj.1 hat
  simp only[AS.putAt]at he
  obtain rfl:=aj.1 he
  refine⟨g,β',h1.E4 j ?_⟩
  have:=h.bE j
  rw[hj]at this
  rw[fk this]
  exact h3
 |cons st p=>
  simp only[AS.at]at hat
  simp only[AS.putAt]at he
  have hslot:(s.born q [.obj 0 false (.vec e t [])]).slot j=s.slot j:=rfl
  rw[hslot]at he
  split at hat
  ·rename_i id ver p0 nn hj
   split at hat
   ·rename_i v fr c hob
    obtain⟨hv,hat⟩:=av.1 hat
    obtain⟨⟨n,u⟩,hl,hat⟩:=ai.1 hat
    have hu:=aj.1 hat
    simp only at hu
    subst hu
    have hent:=da hob
    have hne:id≠ .new q 0:=fun e=>by rw[e,(ff hq).1 0]at hent;cases hent
    have hne':∀j',id≠ .new q j':=fun j' e=>by rw[e,(ff hq).1 j']at hent;cases hent
    have hent1:(s.born q [.obj 0 false (.vec e t [])]).bk id=some (.obj v fr c):=(eK _ hne').trans hent
    have hob1:(s.born q [.obj 0 false (.vec e t [])]).obj id=some (v,fr,c):=by simp only[AS.obj,hent1]
    simp only[hj,hob1]at he
    split at he
    ·simp only[ae]at he
    ·rename_i c1 hc1
     obtain⟨c',hup,he⟩:=ai.1 he
     obtain rfl:=aj.1 he
     have hn:c.eB=false:=by
      cases c <;> first | rfl | (exact(hc1 _ _ _ rfl).elim) | (exact absurd hup sr) | (exact absurd hup uW)
     have hO:=h1.bj id v fr c hent1
     obtain⟨pl,cur,e0,hp,hh,hg,hk,hV⟩:=hO.box hn
     have ht:=Trans.refl w g
     have hN:=qn hk
     have hle:=bH.aI (s:=s.born q [.obj 0 false (.vec e t [])]) (β:=β') (v':=v) (fr':=fr) (c':=c.wrap c') hent1 (Nat.le_refl _) ht (fun _ _=>rfl) (fun _=>rfl)
     refine⟨g,β',h1.step (cj _ _ _) ht hle (e7.aI h1.bj (by rw[hent1];simp) hle (fun _ _=>rfl) (fun _ _ _ _ _ _ _ _=>⟨rfl,rfl⟩) ?_ (gA hent1 fun k v1 l e=>by subst e;exact absurd hup sr))⟩
     obtain⟨cs,k1,k2⟩:=h3
     have k2:cs=[.slice none 0 0]:=k2
     subst k2
     obtain⟨u1,u2,u3⟩:=gE (p0++st::p) c.strip (cur.toList.take (c.jx cur.size)) n .dq _ c' [.slice none 0 0] (VO.of hV) hl k1 hup
     have u4:=u2.to (u3.iD hV.iD)
     have hcell:((cur.toList.take (c.jx cur.size)).drop n).take 1=[.slice none 0 0]:=by
      rcases iq (p0++st::p) c.strip (cur.toList.take (c.jx cur.size)) n .dq (VO.of hV) hl with⟨hn0,hc0⟩ | ⟨q1,q2⟩
      ·rw[←hc0]at hV
       simp only[V]at hV
       rw[hV,hn0]
       rfl
      ·simpa only[V,aq.size]using q1
     rw[pY (vs:=[.slice none 0 0]) hcell]at u4
     have hsz:c'.size=c.strip.size:=by have e1:=u4.size;have e2:=hV.size;omega
     exact o9.obj ⟨pl,cur,e0,hp,hh,hg,nq hk u4.j9 hsz,by rw[nP c u4.j9,pb u4.j9 hsz];exact V.mono hle u4⟩
   ·simp only[ae]at hat
  ·simp only[ae]at hat
theorem nf:∀(ids:List Id) {s:AS} {i:Id} {v:Nat} {fr:Bool} {c:aq},s.bk i=some (.obj v fr c)→∃fr',(s.aR ids).bk i=some (.obj v fr' c)
 |[],s,i,v,fr,c,h=>⟨fr,h⟩
 |id::ids,s,i,v,fr,c,h=>by
  obtain⟨fr',h'⟩:=qT (id:=id) h
  exact nf ids h'
theorem Inv.EH(h:Inv C g β s a w){j:Nat}{p:List nk}{u:aq}(hat:(s.at j p).eval=some u){t:Ty}{x:t.den}(ht:(s.eL t u).eval=some x){s':AS}
  (he:((s.aR u.shared).putAt j (.d t x) p).eval=some s'):eJ C s' a w:=by
 cases p with
 |nil=>
  simp only[AS.at]at hat
  have hj:=aj.1 hat
  simp only[AS.putAt]at he
  obtain rfl:=aj.1 he
  have hs:=h.bE j
  rw[hj]at hs
  obtain⟨g',i1,_,_,cs,hR,hO⟩:=kg h hs ht
  exact⟨g',β,i1.E4 j (VS.of (a:= .d t x) (cs:=cs) (by simpa only[V]using hR) hO)⟩
 |cons st p=>
  simp only[AS.at]at hat
  simp only[AS.putAt]at he
  have hslot:(s.aR u.shared).slot j=s.slot j:=by simp only[AS.slot,fN]
  rw[hslot]at he
  split at hat
  ·rename_i id ver p0 nn hj
   split at hat
   ·rename_i v fr c hob
    obtain⟨hv,hat⟩:=av.1 hat
    obtain⟨⟨n,u'⟩,hl,hat⟩:=ai.1 hat
    have hu:=aj.1 hat
    simp only at hu
    subst hu
    have hent:=da hob
    obtain⟨g',h1,h2,h3,h4⟩:=ej u'.shared h
    obtain⟨fr',hent1⟩:=nf u'.shared hent
    have hob1:(s.aR u'.shared).obj id=some (v,fr',c):=by simp only[AS.obj,hent1]
    simp only[hj,hob1]at he
    split at he
    ·simp only[ae]at he
    ·rename_i c1 hc1
     obtain⟨c',hup,he⟩:=ai.1 he
     obtain rfl:=aj.1 he
     have hn:c.eB=false:=by
      cases c <;> first | rfl | (exact(hc1 _ _ _ rfl).elim) | (exact absurd hup sr) | (exact absurd hup uW)
     obtain⟨pl0,cur0,e00,hp0,hh0,hg0,hk0,hV0⟩:=(h.bj id v fr c hent).box hn
     obtain⟨pl,cur,e0,hp,hh,hg,hk,hV⟩:=(h1.bj id v fr' c hent1).box hn
     have hpl:pl0=pl:=by
      have hp0:β id=some pl0:=hp0
      have hp:β id=some pl:=hp
      rw[hp0]at hp
      exact Option.some.inj hp
     subst hpl
     have hcur:cur0=cur:=by
      have hh0:w.heap[pl0.b]? =_:=hh0
      have hh:w.heap[pl0.b]? =_:=hh
      rw[hh0]at hh
      simpa using(congrArg (fun o=>match o with | some (.cells x _ _)=>x | _=>cur0) hh)
     subst hcur
     obtain⟨cs,hVu,hcell⟩:∃cs,V (s.env w g β) u' cs∧((cur0.toList.take (c.jx cur0.size)).drop n).take cs.length=cs:=by
      rcases iq (p0++st::p) c.strip (cur0.toList.take (c.jx cur0.size)) n u' (VO.of hV0) hl with⟨hn0,hc0⟩ | ⟨q1,q2⟩
      ·refine⟨cur0.toList.take (c.jx cur0.size),by rw[hc0];exact hV0,?_⟩
       rw[hn0,List.drop_zero,List.take_length]
      ·refine⟨_,q1,?_⟩
       rw[List.length_take,List.length_drop]
       congr 1
       omega
     have hR:=ju rfl h.bj h2 u' t x cs hVu ht h4
     have hVx:V ((s.aR u'.shared).env w g' β) (.d t x) cs:=by simpa only[V]using hR
     have ht':=Trans.refl w g'
     have hle:=bH.aI (s:=s.aR u'.shared) (β:=β) (v':=v) (fr':=fr') (c':=c.wrap c') hent1 (Nat.le_refl _) ht' (fun _ _=>rfl) (fun _=>rfl)
     refine⟨g',β,h1.step (cj _ _ _) ht' hle (e7.aI h1.bj (by rw[hent1];simp) hle (fun _ _=>rfl) (fun _ _ _ _ _ _ _ _=>⟨rfl,rfl⟩) ?_ (gA hent1 fun k v1 l e=>by subst e;exact absurd hup sr))⟩
     obtain⟨u1,u2,u3⟩:=gE (p0++st::p) c.strip (cur0.toList.take (c.jx cur0.size)) n u' _ c' cs (VO.of hV) hl hVx hup
     have u4:=u2.to (u3.iD hV.iD)
     rw[pY (vs:=cs) hcell]at u4
     have hsz:c'.size=c.strip.size:=by have e1:=u4.size;have e2:=hV.size;omega
     exact o9.obj ⟨pl0,cur0,e0,hp,hh,hg,nq hk u4.j9 hsz,by rw[nP c u4.j9,pb u4.j9 hsz];exact V.mono hle u4⟩
   ·simp only[ae]at hat
  ·simp only[ae]at hat
theorem nC{E:Env}:∀(t:Ty) (x:t.den) (u:aq),(pg t x).eval=some u→∀cs,bY E t cs x→V E u cs
 | .eu t,x,u,h,cs,hr=>by
  simp only[pg]at h
  obtain⟨h1,h2⟩:=ba.1 h
  obtain rfl:=aj.1 h2
  simp only[bY]at hr
  simp only[V]
  exact hr.1 (Option.isNone_iff_eq_none.1 h1)
 | .pair a b,x,u,h,cs,hr=>by
  simp only[pg]at h
  obtain⟨u1,h1,h2⟩:=ai.1 h
  obtain⟨u2,h3,h4⟩:=ai.1 h2
  obtain rfl:=aj.1 h4
  simp only[bY]at hr
  obtain⟨ca,cb,rfl,ha,hb⟩:=hr
  exact w6 (nC a x.1 u1 h1 ca ha) (nC b x.2 u2 h3 cb hb)
 | .int k,x,u,h,cs,hr=>by simp only[pg]at h;obtain rfl:=aj.1 h;simpa only[V]using hr
 | .bool,x,u,h,cs,hr=>by simp only[pg]at h;obtain rfl:=aj.1 h;simpa only[V]using hr
 | .str,x,u,h,cs,hr=>by simp only[pg]at h;obtain rfl:=aj.1 h;simpa only[V]using hr
 | .slice t,x,u,h,cs,hr=>by simp only[pg]at h;obtain rfl:=aj.1 h;simpa only[V]using hr
 | .unit,x,u,h,cs,hr=>by simp only[pg]at h;obtain rfl:=aj.1 h;simpa only[V]using hr
 | .arr n t,x,u,h,cs,hr=>by simp only[pg]at h;obtain rfl:=aj.1 h;simpa only[V]using hr
theorem za{e:TypeId}{z:Nat}{c:aq}{pl:Pl}{n:Nat}(hz:0 < z)(h1:n=pl.cap*z)(h2:pl.cap≤maxLen)(h3:c.size≤n):(aq.bx e z c).ma pl n e:=by
 cases z with
 |zero=>omega
 |succ z=>exact⟨rfl,h1,h2,h3⟩
theorem vu{e:TypeId}{z:Nat}{c:aq}{n:Nat}(hz:0 < z):(aq.bx e z c).jx n=c.size:=by
 cases z with
 |zero=>omega
 |succ z=>rfl
theorem uJ{e e':TypeId}{z:Nat}{c:aq}{pl:Pl}{n:Nat}(hz:0 < z)(h:(aq.bx e z c).ma pl n e'):e'=e∧n=pl.cap*z∧pl.cap≤maxLen∧c.size≤n:=by
 cases z with
 |zero=>omega
 |succ z=>exact h
theorem wD{E:Env}{id:Id}{ver n:Nat}{p p':List nk}{y:Value}(h:VS E (.ptr id ver p n) y):VS E (.ptr id ver p' n) y:=by
 obtain⟨cs,h1,h2⟩:=h
 exact⟨cs,by simpa only[V]using h1,h2⟩
theorem Inv.EL(h:Inv C g β s a w){j:Nat}{id:Id}{ver n k v:Nat}{p p':List nk}(hj:s.slot j= .ptr id ver p n){e:TypeId}{t:Ty}{r:List t.den}(hob:s.obj id=some (v,false,.vec e t r))
  (hk:k < r.length) {u:aq} (hu:(pg t (nth t r k)).eval=some u):
  eJ C ((s.aI id (.obj v false (.bx e t.size (.pr (.d (.arr k t) (r.take k)) (.pr u (.d (.arr (r.drop (k+1)).length t) (r.drop (k+1)))))))).put (some j) (.ptr id ver p' n)) a w:=by
 have hent:=da hob
 obtain⟨hz,hO⟩:jw (s.env w g β) id false (.vec e t r):=h.bj id v false _ hent
 have hO:(match β id with
  |none=>r=[]
  |some pl=>∃cur k,w.heap[pl.b]? =some (.cells cur e (0,0))∧cur.size=pl.cap*t.size∧r.length≤pl.cap∧pl.cap≤maxLen∧g pl.b= .own (.id id) k∧
    k≤r.length*t.size∧(false=false→k=0)∧aP (bY (s.env w g β) t) (cur.toList.take (r.length*t.size)) r):=hO
 have ht:=Trans.refl w g
 have hle:bH (s.env w g β) ((s.aI id (.obj v false (.bx e t.size (.pr (.d (.arr k t) (r.take k)) (.pr u (.d (.arr (r.drop (k+1)).length t) (r.drop (k+1)))))))).env w g β):=
  bH.aI hent (Nat.le_refl _) ht (fun _ _=>rfl) (fun _=>rfl)
 have hI:=h.step (cj _ _ _) ht hle (e7.aI h.bj (by rw[hent];simp) hle (fun _ _=>rfl) (fun _ _ _ _ _ _ _ _=>⟨rfl,rfl⟩) (hlk:=qs hent) (by
  cases hp:β id with
  |none=>rw[hp]at hO;simp only at hO;subst hO;simp at hk
  |some pl=>
   rw[hp]at hO
   obtain⟨cur,k0,q1,q2,q3,q4,q5,q6,q7,q8⟩:=hO
   have hk0:=q7 rfl
   subst hk0
   have hzz:∀c x,bY (s.env w g β) t c x→c.length=t.size:=fun c x hx=>hx.size
   have c1:=aP.take hzz k q8
   have c2:=(q8.get hzz k hk)
   have c3:=aP.drop hzz (k+1) q8
   have hu2:V (s.env w g β) u (((cur.toList.take (r.length*t.size)).drop (k*t.size)).take t.size):=nC t _ u (by rw[rM hk]at hu;exact hu) _ c2
   have hus:=hu2.size
   have hlen:(cur.toList.take (r.length*t.size)).length=r.length*t.size:=aP.length hzz q8
   have hsz:r.length*t.size≤cur.size:=by rw[q2];exact Nat.mul_le_mul_right _ q3
   have hkk:(k+1)*t.size≤r.length*t.size:=Nat.mul_le_mul_right _ hk
   have hk1:(k+1)*t.size=k*t.size+t.size:=Nat.succ_mul k t.size
   have hul:u.size=t.size:=by rw[←hus,List.length_take,List.length_drop,hlen];omega
   have hm:(r.drop (k+1)).length*t.size=r.length*t.size - (k+1)*t.size:=by rw[List.length_drop,Nat.sub_mul]
   have hcs:(aq.pr (.d (.arr k t) (r.take k)) (.pr u (.d (.arr (r.drop (k+1)).length t) (r.drop (k+1))))).size=r.length*t.size:=by
    simp only[aq.size,Ty.size,hul,hm]
    omega
   refine o9.obj ⟨pl,cur,e,hp,q1,q5,za hz q2 q4 (by rw[hcs];exact hsz),?_⟩
   rw[vu hz,hcs]
   refine V.mono hle ?_
   show V _ (.pr (.d (.arr k t) (r.take k)) (.pr u (.d (.arr (r.drop (k+1)).length t) (r.drop (k+1))))) _
   simp only[V]
   generalize cur.toList.take (r.length*t.size)=R at*
   refine⟨R.take (k*t.size),R.drop (k*t.size),(List.take_append_drop _ _).symm,?_,(R.drop (k*t.size)).take t.size,R.drop ((k+1)*t.size),?_,hu2,?_⟩
   ·simp only[bY]
    exact⟨by rw[List.length_take];omega,c1⟩
   ·rw[hk1,←List.drop_drop,List.take_append_drop]
   ·simp only[bY]
    exact⟨trivial,c3⟩))
 refine⟨g,β,hI.E4 j ?_⟩
 have:=h.bE j
 rw[hj]at this
 exact wD (VS.mono hle this)
theorem pj:∀(l:List Nat) {s s1:AS},eJ C s a w→(zo s l).eval=some s1→eJ C s1 a w
 |[],s,s1,h,he=>by
  simp only[zo]at he
  obtain rfl:=aj.1 he
  exact h
 |j::l,s,s1,h,he=>by
  obtain⟨g,β,h⟩:=h
  simp only[zo]at he
  split at he
  ·rename_i id ver k p n hj
   split at he
   ·rename_i v e t r hob
    obtain⟨h1,he⟩:=av.1 he
    obtain⟨h2,he⟩:=ba.1 he
    obtain⟨u,h3,he⟩:=ai.1 he
    exact pj l (h.EL hj hob (of_decide_eq_true h2) h3) he
   ·simp only[ae]at he
  ·exact pj l ⟨g,β,h⟩ he
  ·simp only[ae]at he
theorem pf{s:AS}{id i:Id}(h:i≠id):(s.freeze id).bk i=s.bk i:=by
 unfold AS.freeze
 split
 ·exact bJ s id i _ h
 ·rfl
theorem jC:∀(ids:List Id) {s:AS} {i:Id},i ∉ ids→(s.aR ids).bk i=s.bk i
 |[],_,_,_=>rfl
 |id::ids,s,i,h=>by
  have h1:i≠id:=fun e=>h (by rw[e];exact List.mem_cons_self)
  exact(jC ids fun hi=>h (List.mem_cons_of_mem _ hi)).trans (pf h1)
theorem Inv.E9(h:Inv C g β s a w){j:Nat}{id:Id}{ver n k m v z:Nat}{p p':List nk}(hj:s.slot j= .ptr id ver p n){e:TypeId}{t:Ty}{l1 l2:List t.den}{u:aq}
  (hob:s.obj id=some (v,false,.bx e z (.pr (.d (.arr k t) l1) (.pr u (.d (.arr m t) l2))))) (hz:z=t.size) (hz0:0 < z) (hid:id ∉ u.shared) {x:t.den} (hx:(s.eL t u).eval=some x):
  eJ C (((s.aR u.shared).aI id (.obj v false (.vec e t (l1++x::l2)))).put (some j) (.ptr id ver p' n)) a w:=by
 have hent:=da hob
 obtain⟨pl0,cur0,e0,hp0,hh0,hg0,hk0,hV0⟩:=(h.bj id v false _ hent).box rfl
 obtain⟨g',h1,h2,h3,h4⟩:=ej u.shared h
 have hent1:(s.aR u.shared).bk id=some (.obj v false (.bx e z (.pr (.d (.arr k t) l1) (.pr u (.d (.arr m t) l2))))):=(jC _ hid).trans hent
 obtain⟨pl,cur,e1,hp,hh,hg,hk,hV⟩:=(h1.bj id v false _ hent1).box rfl
 have hp:β id=some pl:=hp
 have hpl:pl0=pl:=by
  have hp0:β id=some pl0:=hp0
  rw[hp0]at hp
  exact Option.some.inj hp
 subst hpl
 have hcur:cur0=cur:=by
  have hh0:w.heap[pl0.b]? =_:=hh0
  have hh:w.heap[pl0.b]? =_:=hh
  rw[hh0]at hh
  simpa using(congrArg (fun o=>match o with | some (.cells x _ _)=>x | _=>cur0) hh)
 subst hcur
 obtain⟨rfl,q2,q4,q3⟩:=uJ hz0 hk
 rw[vu hz0]at hV0
 have hV0:V (s.env w g β) (.pr (.d (.arr k t) l1) (.pr u (.d (.arr m t) l2))) _:=hV0
 have hss:=hV0.size
 simp only[V]at hV0
 obtain⟨ca,cb,hR,hA,cu,cc,hcb,hU,hB⟩:=hV0
 subst hcb
 simp only[bY]at hA hB
 have hX:=ju rfl h.bj h2 u t x cu hU hx h4
 have hzz:∀c x,bY ((s.aR u.shared).env w g' β) t c x→c.length=t.size:=fun c x hx=>hx.size
 have cA:=hA.2.mono fun _ _ hx=>hx.mono h2.mem
 have cB:=hB.2.mono fun _ _ hx=>hx.mono h2.mem
 have hch:aP (bY ((s.aR u.shared).env w g' β) t) (ca++(cu++cc)) (l1++x::l2):=aP.append cA ⟨cu,cc,rfl,hX,cB⟩
 have hlen:=aP.length hzz hch
 have hcs:(aq.pr (.d (.arr k t) l1) (.pr u (.d (.arr m t) l2))).size=(l1++x::l2).length*t.size:=by rw[←hlen,←hR];exact hss.symm
 rw[hcs]at hR q3
 rw[hz]at q2
 have hle0:(l1++x::l2).length≤pl0.cap:=by
  rw[q2]at q3
  exact Nat.le_of_mul_le_mul_right q3 (by omega)
 have ht:=Trans.refl w g'
 have hle:bH ((s.aR u.shared).env w g' β) (((s.aR u.shared).aI id (.obj v false (.vec e1 t (l1++x::l2)))).env w g' β):=bH.aI hent1 (Nat.le_refl _) ht (fun _ _=>rfl) (fun _=>rfl)
 have hI:=h1.step (cj _ _ _) ht hle (e7.aI h1.bj (by rw[hent1];simp) hle (fun _ _=>rfl) (fun _ _ _ _ _ _ _ _=>⟨rfl,rfl⟩) (hlk:=gA hent1 fun _ _ _ e=>by cases e) (by
  refine⟨by omega,?_⟩
  show(match β id with
   |none=>l1++x::l2=[]
   |some pl=>_)
  rw[hp]
  exact⟨cur0,0,hh,q2,hle0,q4,hg,Nat.zero_le _,fun _=>rfl,by rw[hR];exact hch.mono fun _ _ hx=>hx.mono hle.mem⟩))
 refine⟨g',β,hI.E4 j ?_⟩
 have:=h.bE j
 rw[hj]at this
 exact wD (VS.mono (h2.trans hle) this)
theorem tR:∀(l:List Nat) {s s1:AS},eJ C s a w→(B0 s l).eval=some s1→eJ C s1 a w
 |[],s,s1,h,he=>by
  simp only[B0]at he
  obtain rfl:=aj.1 he
  exact h
 |j::l,s,s1,h,he=>by
  obtain⟨g,β,h⟩:=h
  simp only[B0]at he
  split at he
  ·rename_i id ver p n hj
   split at he
   ·rename_i v e z k t l1 u m t' l2 hob
    obtain⟨h1,he⟩:=av.1 he
    obtain⟨l2',h2,he⟩:=ai.1 he
    obtain⟨x,h3,he⟩:=ai.1 he
    simp only[Bool.and_eq_true,beq_iff_eq,Bool.not_eq_true',beq_eq_false_iff_ne]at h1
    obtain⟨⟨⟨h5,h6⟩,h7⟩,h8⟩:=h1
    obtain⟨et,hl⟩:=eV (fc.1 h2)
    have et':t'=t:=by simpa using et
    subst et'
    simp only at hl
    subst hl
    refine tR l (h.E9 hj hob h6 (by omega) (fun hi=> ?_) h3) he
    have:(u.shared.any fun i=>decide (i=id))=true:=List.any_eq_true.2 ⟨id,hi,by simp⟩
    rw[this]at h8
    cases h8
   ·simp only[ae]at he
  ·simp only[ae]at he
theorem lu:∀(l:List Fe) {s s1:AS},eJ C s a w→(qR s l).eval=some s1→eJ C s1 a w
 |[],s,s1,h,he=>by
  simp only[qR]at he
  obtain rfl:=aj.1 he
  exact h
 |o::l,s,s1,h,he=>by
  obtain⟨g,β,h⟩:=h
  unfold qR at he
  split at he
  ·exact lu l ⟨g,β,h⟩ he
  obtain⟨u,hu,he⟩:=ai.1 he
  obtain⟨x,hx,he⟩:=ai.1 he
  obtain⟨s',hs,he⟩:=ai.1 he
  exact lu l (h.EH hu hx hs) he
theorem gT(hC:∀i j,C.E.s (.new i j)=none):∀(l:List B7) {s s1:AS},eJ C s a w→(kC P s l).eval=some s1→eJ C s1 a w
 |[],s,s1,h,he=>by
  simp only[kC]at he
  obtain rfl:=aj.1 he
  exact h
 |o::l,s,s1,h,he=>by
  obtain⟨g,β,h⟩:=h
  unfold kC at he
  split at he
  ·exact gT hC l ⟨g,β,h⟩ he
  obtain⟨u,hu,he⟩:=ai.1 he
  split at he
  ·split at he
   ·rename_i e t b hel hv
    obtain⟨s',h1,h2⟩:=ai.1 he
    exact gT hC l (h.EY hu hv (sG hel) h1) h2
   ·simp only[ae]at he
  ·split at he
   ·rename_i b j ver hhead
    split at he
    ·rename_i v fr c hob hm
     split at he
     ·have hbl:b < s.news.length:=by
       have:=da hob
       simp only[AS.bk,List.getD_eq_getElem?_getD]at this
       cases hn:s.news[b]? with
       |none=>rw[hn]at this;simp at this
       |some es=>exact(List.getElem?_eq_some_iff.1 hn).1
      obtain⟨g1,β1,h1⟩:=h.mu hC hbl (by simpa using hm)
      exact gT hC l ⟨g1,β1,h1⟩ he
     ·simp only[ae]at he
    ·simp only[ae]at he
   ·simp only[ae]at he
theorem sm:∀(l:List Nat) {s s1:AS},eJ C s a w→(wW s l).eval=some s1→eJ C s1 a w
 |[],s,s1,h,he=>by
  simp only[wW]at he
  obtain rfl:=aj.1 he
  exact h
 |j::l,s,s1,h,he=>by
  obtain⟨g,β,h⟩:=h
  simp only[wW]at he
  split at he
  ·rename_i id ver len hj
   split at he
   ·rename_i v e t r hob
    split at he
    ·obtain⟨h1,h2⟩:=ba.1 he
     have h1:len≤r.length:=by simpa using h1
     refine sm l ?_ h2
     have hent:=da hob
     have hO:jw (s.env w g β) id false (.vec e t r):=h.bj id v false _ hent
     have ht:=Trans.refl w g
     have hle:bH (s.env w g β) ((s.aI id (.obj v false (.vec e t (r.take len)))).env w g β):=bH.aI hent (Nat.le_refl _) ht (fun _ _=>rfl) (fun _=>rfl)
     refine⟨g,β,h.step (cj _ _ _) ht hle (e7.aI h.bj (by rw[hent];simp) hle (fun _ _=>rfl) (fun _ _ _ _ _ _ _ _=>⟨rfl,rfl⟩) ?_ (qs hent))⟩
     obtain⟨hz,hO⟩:=hO
     refine⟨hz,?_⟩
     have hO:(match β id with
      |none=>r=[]
      |some pl=>∃cur k,w.heap[pl.b]? =some (.cells cur e (0,0))∧cur.size=pl.cap*t.size∧r.length≤pl.cap∧pl.cap≤maxLen∧g pl.b= .own (.id id) k∧
        k≤r.length*t.size∧(false=false→k=0)∧aP (bY (s.env w g β) t) (cur.toList.take (r.length*t.size)) r):=hO
     show(match β id with
      |none=>r.take len=[]
      |some pl=>_)
     cases hp:β id with
     |none=>rw[hp]at hO;simp only at hO;subst hO;simp
     |some pl=>
      rw[hp]at hO
      obtain⟨cur,k,q1,q2,q3,q4,q5,q6,q7,q8⟩:=hO
      have hk:=q7 rfl
      subst hk
      have hlen:(r.take len).length=len:=by simp;omega
      refine⟨cur,0,q1,q2,by omega,q4,q5,Nat.zero_le _,fun _=>rfl,?_⟩
      have:=aP.take (fun _ _ hx=>bY.size hx) len q8
      rw[List.take_take,Nat.min_eq_left (Nat.mul_le_mul_right _ h1)]at this
      rw[hlen]
      exact this.mono fun _ _ hx=>hx.mono hle.mem
    ·simp only[ae]at he
   ·simp only[ae]at he
  ·simp only[ae]at he
theorem nY:∀(l:List (Nat×Ty)) {s s1:AS},eJ C s a w→(asData s l).eval=some s1→eJ C s1 a w
 |[],s,s1,h,he=>by
  simp only[asData]at he
  obtain rfl:=aj.1 he
  exact h
 | (j,t)::l,s,s1,h,he=>by
  obtain⟨g,β,h⟩:=h
  simp only[asData]at he
  obtain⟨x,h1,h2⟩:=ai.1 he
  obtain⟨g',i1,_,_,cs,hR,hO⟩:=kg h (h.bE j) h1
  exact nY l ⟨g',β,i1.E4 j (VS.of (a:= .d t x) (cs:=cs) (by simpa only[V]using hR) hO)⟩ h2
theorem Inv.still:∀(l:List Nat) {s:AS},Inv C g β s a w→Inv C g β (s.still l) a w
 |[],s,h=>h
 |q::l,s,h=>by
  simp only[AS.still]
  split
  ·rename_i v fr i ver k t r cu hob
   exact Inv.still l (h.Dd (da hob) (.inr ⟨rfl,rfl,rfl⟩))
  ·exact Inv.still l h
theorem kq{α:Type}(l:List α):(e8 l).Perm l:=Quotient.exact (s:=tA α) (Quotient.exists_rep (Quotient.mk (tA α) l)).choose_spec
theorem zf{α:Type}{l l':List α}(h:l.Perm l'):e8 l=e8 l':=by
 have e:Quotient.mk (tA α) l=Quotient.mk (tA α) l':=Quotient.sound h
 unfold e8
 have:∀q q':Quotient (tA α),q=q'→(Quotient.exists_rep q).choose=(Quotient.exists_rep q').choose:=fun q q' h=>by subst h;rfl
 exact this _ _ e
theorem Inv.canon:∀(l:List Id) {s:AS},Inv C g β s a w→Inv C g β (s.canon l) a w
 |[],s,h=>h
 |id::l,s,h=>by
  simp only[AS.canon]
  split
  ·rename_i v fr k t r hob
   have hent:=da hob
   have ht:=Trans.refl w g
   have hle:bH (s.env w g β) ((s.aI id (.obj v fr (.mp k t (e8 r)))).env w g β):=bH.aI hent (Nat.le_refl _) ht (fun _ _=>rfl) (fun _=>rfl)
   obtain⟨pl,es,clock,h1,h2,h3,⟨⟨l',h4,h5⟩,h6⟩,h7⟩:=h.bj id v fr _ hent
   refine Inv.canon l (h.step (cj _ _ _) ht hle (e7.aI h.bj (by rw[hent];simp) hle (fun _ _=>rfl) (fun _ _ _ _ _ _ _ _=>⟨rfl,rfl⟩)
    ⟨pl,es,clock,h1,h2,h3,⟨⟨l',h4.mono fun _ _ he=>he.mono hle.mem,h5.trans (kq r).symm⟩,(((kq r).map _).nodup_iff).2 h6⟩,h7⟩ ?_))
   intro ver k' v' l2 hl
   rw[hent]at hl
   simp only[Option.some.injEq,cV.obj.injEq]at hl
   obtain⟨rfl,rfl,_⟩:=hl
   exact⟨rfl,rfl,⟨_,_,_,rfl⟩,fun _ _=>⟨rfl,rfl⟩⟩
  ·exact Inv.canon l h
theorem gk(hC:∀i j,C.E.s (.new i j)=none){an:gr}{s1:AS}(h:eJ C s a w)(he:(norm P an s).eval=some s1):eJ C s1 a w:=by
 unfold norm at he
 obtain⟨su,h0u,he⟩:=ai.1 he
 obtain⟨sd,h0d,he⟩:=ai.1 he
 obtain⟨s0,h1,h2⟩:=ai.1 he
 obtain⟨h3,h4⟩:=av.1 h2
 obtain⟨sf,h5,h6⟩:=ai.1 h4
 obtain⟨g0,β0,h0⟩:=h
 obtain⟨g1,i1,_⟩:=ej an.yx h0
 obtain⟨g,β,h⟩:=nY _ (lu _ (tR _ ⟨g1,β0,(i1.still an.ET).canon an.Dy⟩ h0u) h0d) h1
 exact gT hC _ (pj _ ⟨g,β,h.bn hC h3⟩ h5) h6
end
end Go.Ab
namespace Go.Ab
section
variable {P:Program} {Γ:dH} {an:ee} {C:Ctx}
open Classical in
noncomputable def E1(p:Prop):Option Unit:=if p then some () else none
theorem Br{p:Prop}(h:E1 p=some ()):p:=by
 unfold E1 at h
 split at h
 ·assumption
 ·cases h
theorem DX{p:Prop}(h:p):E1 p=some ():=by unfold E1;rw[if_pos h]
theorem zk{X R:Type}{S:X→Prop}{k:X→Option R}{r:R}(h:xt S k=some r):(∃x,S x)∧∀x,S x→k x=some r:=by
 unfold xt at h
 split at h
 ·rename_i hx
  obtain rfl:=Option.some.inj h
  exact hx.choose_spec
 ·cases h
theorem Cj{X R:Type}{S:X→Prop}{k:X→Option R}{x:Option R}(hn:∃y,S y)(h:∀y,S y→k y=x):xt S k=x:=by
 unfold xt
 cases x with
 |none=>exact dif_neg fun⟨r,⟨y,hy⟩,hr⟩=>by have:=h y hy;rw[hr y hy]at this;cases this
 |some r=>
  have hx:∃r,(∃x,S x)∧∀x,S x→k x=some r:=⟨r,hn,h⟩
  rw[dif_pos hx]
  obtain⟨⟨y,hy⟩,h1⟩:=hx.choose_spec
  have:=h1 y hy
  rw[h y hy]at this
  exact this.symm
def yj(P:Program)(Γ:dH)(an:ee)(N:Nat)(b:Code):Prop:=
 ∀le,an.fO (cF b)=some le→
  (le.set=none→∀s x,le.run s=some x→∃n,pP (norm P (an.loops (cF b))) (fun e=>norm P (an.outs (cF b) (vW e))) (ev P Γ an N b) n s (fun e s'=>some (e,s'))=(le.out x).eval)∧
  ∀S,le.set=some S→∀s,(∃x,S s x)→∃n,pP (norm P (an.loops (cF b))) (fun e=>norm P (an.outs (cF b) (vW e))) (ev P Γ an N b) n s (fun e s'=>E1 (∃x,S s x∧(le.out x).eval=some (e,s')))=some ()
def u5(P:Program)(Γ:dH)(an:ee)(N:Nat):List Code→Prop
 |[]=>True
 |b::l=>yj P Γ an N b∧u5 P Γ an N l
theorem u5.append{N:Nat}:∀ {l l':List Code},u5 P Γ an N (l++l')→u5 P Γ an N l∧u5 P Γ an N l'
 |[],_,h=>⟨trivial,h⟩
 |_::_,_,⟨h1,h2⟩=>⟨⟨h1,(u5.append h2).1⟩,(u5.append h2).2⟩
theorem lD{R:Type}{r:R}{b:Code}{nrm:AS→Out AS}{nrmX:Exit→AS→Out AS}{body:AS→(Exit→AS→Option R)→Option R}
  (hn:∀s s1 a w,eJ C s a w→(nrm s).eval=some s1→eJ C s1 a w) (hx:∀e s s1 a w,eJ C s a w→(nrmX e s).eval=some s1→eJ C s1 a w)
  (hb:∀(s:AS) (a:Act) (w:World) (k:Exit→AS→Option R) (Q:Exit→Act→World→Prop),eJ C s a w→body s k=some r→(∀e s' a' w',eJ C s' a' w'→k e s'=some r→Q e a' w')→b.wp P Q a w)
  {k:Exit→AS→Option R} {Q:Exit→Act→World→Prop} (hk:∀e s' a' w',eJ C s' a' w'→k e s'=some r→Q e a' w'):
  ∀(n:Nat) (s:AS) (a:Act) (w:World),eJ C s a w→pP nrm nrmX body n s k=some r→Code.rounds P b Q n a w
 | 0,s,a,w,_,h=>by simp[pP]at h
 |n+1,s,a,w,hs,h=>by
  simp only[pP]at h
  rw[rounds_succ]
  refine hb s a w _ _ hs h fun e s' a' w' hs' hke=> ?_
  have exits:∀e,(nrmX e s').run (k e)=some r→Q e a' w':=fun e hke=>by
   obtain⟨s1,h1,h2⟩:=fy.1 hke
   exact hk e s1 a' w' (hx e s' s1 a' w' hs' h1) h2
  cases e with
  |normal=>
   simp only at hke
   obtain⟨s1,h1,h2⟩:=fy.1 hke
   exact lD hn hx hb hk n s1 a' w' (hn s' s1 a' w' hs' h1) h2
  |_=>exact exits _ hke
theorem ow(hC:∀i j,C.E.s (.new i j)=none){j:Option yZ}{run: {R:Type}→(Exit→AS→Option R)→Option R}{c:Code}{a:Act}{w:World}
  (hrun:∀ {R:Type} {r:R} (k:Exit→AS→Option R) (Q:Exit→Act→World→Prop),run k=some r→(∀e s' a' w',eJ C s' a' w'→k e s'=some r→Q e a' w')→c.wp P Q a w)
  {R:Type} {r:R} {k:Exit→AS→Option R} {Q:Exit→Act→World→Prop} (h:pv P j run k=some r) (hk:∀e s' a' w',eJ C s' a' w'→k e s'=some r→Q e a' w'):c.wp P Q a w:=by
 cases j with
 |none=>exact hrun k Q h hk
 |some j=>
  simp only[pv]at h
  cases hx:run fun e s=>(norm P j.an s).run (j.Fl e) with
  |none=>rw[hx]at h;cases h
  |some x=>
   rw[hx]at h
   simp only[ah]at h
   obtain⟨y,hy,h⟩:=fy.1 h
   refine hrun _ Q hx fun e s' a' w' hs' hK=> ?_
   obtain⟨s1,h1,h2⟩:=fy.1 hK
   have he:=j.ok _ _ _ h2
   rw[hy,Option.some.injEq]at he
   subst he
   exact hk e s1 a' w' (gk hC hs' h1) h
theorem gO(hm:P.follows .mixedOrders=true)(hΓ:Sound P Γ)(hC:∀i j,C.E.s (.new i j)=none){N:Nat}:∀(c:Code),u5 P Γ an N (fL c)→∀ {R:Type} {r:R} (s:AS) (a:Act) (w:World) (k:Exit→AS→Option R) (Q:Exit→Act→World→Prop),
  eJ C s a w→ev P Γ an N c s k=some r→(∀e s' a' w',eJ C s' a' w'→k e s'=some r→Q e a' w')→c.wp P Q a w
 | .skip,hL,_,_,s,a,w,k,Q,hs,h,hk=>wp_skip (hk _ _ _ _ hs h)
 | .region id ops draw,hL,_,_,s,a,w,k,Q,hs,h,hk=>by
  simp only[ev]at h
  refine ow hC (fun k Q h hk=> ?_) h hk
  cases draw with
  |true=>
   simp only at h
   split at h
   ·rename_i hE
    exact wH hm hΓ hs hE h fun s' a' w' hs' hk'=>hk _ _ _ _ hs' hk'
   ·cases h
  |false=>exact wp_region_list (pM hΓ ops.toList hs h fun s' a' w' hs' hk'=>hk _ _ _ _ hs' hk')
 | .seq x y,hL,_,_,s,a,w,k,Q,hs,h,hk=>by
  simp only[ev]at h
  refine wp_seq (ow hC (fun k Q h hk=>gO hm hΓ hC x hL.append.1 s a w k Q hs h hk) h fun e s' a' w' hs' hk'=> ?_)
  cases e with
  |normal=>exact gO hm hΓ hC y hL.append.2 s' a' w' k Q hs' hk' hk
  |_=>exact hk _ s' a' w' hs' hk'
 | .cond c x y,hL,_,_,s,a,w,k,Q,hs,h,hk=>by
  simp only[ev]at h
  split at h
  ·rename_i b hb
   have hc:a.eval c= .bool b:=by
    obtain⟨g,β,hi⟩:=hs
    have:=hi.ev c
    rw[hb]at this
    exact qm this
   refine wp_cond hc ?_
   cases b with
   |true=>exact gO hm hΓ hC x hL.append.1 s a w k Q hs h hk
   |false=>exact gO hm hΓ hC y hL.append.2 s a w k Q hs h hk
  ·cases h
 | .block id b,hL,_,_,s,a,w,k,Q,hs,h,hk=>by
  simp only[ev]at h
  refine wp_block (gO hm hΓ hC b hL s a w _ _ hs h fun e s' a' w' hs' hk'=> ?_)
  cases e with
  |exit i=>
   simp only at hk'
   simp only[Exit.inBlock]
   by_cases hi:i=id
   ·rw[if_pos hi]
    simp only[hi,decide_true]at hk'
    exact hk _ s' a' w' hs' hk'
   ·rw[if_neg hi]
    simp only[hi,decide_false]at hk'
    exact hk _ s' a' w' hs' hk'
  |_=>exact hk _ s' a' w' hs' hk'
 | .loop b,hL,R,r,s,a,w,k,Q,hs,h,hk=>by
  simp only[ev]at h
  obtain⟨s1,h1,h⟩:=fy.1 h
  have hs1:=gk hC hs h1
  obtain⟨hL1,hL2⟩:=(hL:yj P Γ an N b∧u5 P Γ an N (fL b))
  split at h
  ·rename_i le hle
   unfold B3 at h
   cases hset:le.set with
   |some S=>
    rw[hset]at h
    simp only at h
    obtain⟨h2,h3⟩:=zk h
    obtain⟨n,hn⟩:=(hL1 le hle).2 S hset s1 h2
    refine wp_loop_rounds n (lD (fun s s1 a w hs hn=>gk hC hs hn) (fun e s s1 a w hs hn=>gk hC hs hn) (fun s a w k Q hs hb hk=>gO hm hΓ hC b hL2 s a w k Q hs hb hk) (fun e s' a' w' hs' he=> ?_) n s1 a w hs1 hn)
    obtain⟨x,hx1,hx2⟩:=Br he
    obtain⟨y,hy,h4⟩:=fy.1 (h3 x hx1)
    rw[hx2,Option.some.injEq]at hy
    subst hy
    exact hk _ _ _ _ hs' h4
   |none=>
   rw[hset]at h
   simp only at h
   cases hr:le.run s1 with
   |none=>rw[hr]at h;cases h
   |some x=>
    rw[hr]at h
    simp only[ah]at h
    obtain⟨y,hy,h⟩:=fy.1 h
    obtain⟨n,hn⟩:=(hL1 le hle).1 hset s1 x hr
    rw[hy]at hn
    refine wp_loop_rounds n (lD (fun s s1 a w hs hn=>gk hC hs hn) (fun e s s1 a w hs hn=>gk hC hs hn) (fun s a w k Q hs hb hk=>gO hm hΓ hC b hL2 s a w k Q hs hb hk) (fun e s' a' w' hs' he=> ?_) n s1 a w hs1 hn)
    simp only[Option.some.injEq]at he
    subst he
    exact hk e s' a' w' hs' h
  ·exact wp_loop_rounds N (lD (fun s s1 a w hs hn=>gk hC hs hn) (fun e s s1 a w hs hn=>gk hC hs hn) (fun s a w k Q hs hb hk=>gO hm hΓ hC b hL2 s a w k Q hs hb hk) hk N s1 a w hs1 h)
 | .exit id,hL,_,_,s,a,w,k,Q,hs,h,hk=>wp_exit (hk _ _ _ _ hs h)
 | .ret,hL,_,_,s,a,w,k,Q,hs,h,hk=>wp_ret (hk _ _ _ _ hs h)
 | .rangeFunc ..,_,_,_,_,_,_,_,_,_,h,_=>by simp[ev]at h
 | .scope b,hL,_,_,s,a,w,k,Q,hs,h,hk=>by
  simp only[ev]at h
  refine wp_scope_straight (gO hm hΓ hC b hL s a w _ _ hs h fun e s' a' w' hs' hk'=> ?_)
  cases e with
  |goto l=>cases hk'
  |_=>exact hk _ s' a' w' hs' hk'
 | .label _,hL,_,_,s,a,w,k,Q,hs,h,hk=>wp_label (hk _ _ _ _ hs h)
 | .goto _,_,_,_,_,_,_,_,_,_,h,_=>by simp[ev]at h
 | .refuse _,_,_,_,_,_,_,_,_,_,h,_=>by simp[ev]at h
variable {g:Nat→gq} {β:Id→Option Pl} {s:AS} {a:Act} {w:World}
def rR(tmps:Array Value)(r:ResultVar):Sem Value:=
 match r with
 | .tmp t=>pure (tmps.getD t undef)
 | .cell a t=>do loadVar t (←asAddr (tmps.getD a undef))
theorem oQ(h:Inv C g β s a w){r:ResultVar}{v:aq}(he:(rT P s r).eval=some v):∃x,(rR a.tmps r).run P w= .ok x w∧VS (s.env w g β) v x:=by
 cases r with
 |tmp t=>
  simp only[rT]at he
  obtain rfl:=aj.1 he
  exact⟨_,by simp[rR],h.bE t⟩
 |cell t T=>
  simp only[rT]at he
  obtain⟨ad,z,hy,hr,hv⟩:=rE h (h.bE t) he
  exact⟨z,by simp[rR,hy,asAddr,hr],hv⟩
theorem oP(h:Inv C g β s a w){r:ResultVar}{o:Option Ty}{y:AS×aq}(he:(rS P s r o).eval=some y):
  ∃x g',(rR a.tmps r).run P w= .ok x w∧Inv C g' β y.1 a w∧bH (s.env w g β) (y.1.env w g' β)∧VS (y.1.env w g' β) y.2 x:=by
 cases o with
 |none=>
  simp only[rS]at he
  obtain⟨v,h1,h2⟩:=ai.1 he
  obtain rfl:=aj.1 h2
  obtain⟨x,hx,hv⟩:=oQ h h1
  exact⟨x,g,hx,h,bH.refl _,hv⟩
 |some t=>
  simp only[rS]at he
  obtain⟨v,h1,h2⟩:=ai.1 he
  obtain⟨d,h3,h4⟩:=ai.1 h2
  obtain rfl:=aj.1 h4
  obtain⟨x,hx,hv⟩:=oQ h h1
  obtain⟨g',i1,e1,_,cs,hR,hO⟩:=kg h hv h3
  exact⟨x,g',hx,i1,e1,VS.of (a:= .d t d) (cs:=cs) (by simpa only[V]using hR) hO⟩
theorem nh:∀(l:List ResultVar) (ts:List (Option Ty)) {s:AS} {g:Nat→gq} (_:Inv C g β s a w) {y:AS×aq},(oR P s l ts).eval=some y→
  ∃(xs:List Value) (g':Nat→gq),(l.mapM (rR a.tmps)).run P w= .ok xs w∧Inv C g' β y.1 a w∧bH (s.env w g β) (y.1.env w g' β)∧VC (y.1.env w g' β) y.2 xs∧xs.length=l.length
 |[],ts,s,g,h,y,he=>by
  simp only[oR]at he
  obtain rfl:=aj.1 he
  exact⟨[],g,by simp,h,bH.refl _,by simp[VC],rfl⟩
 |r::l,ts,s,g,h,y,he=>by
  simp only[oR]at he
  obtain⟨u,h1,h2⟩:=ai.1 he
  obtain⟨hc,h2⟩:=av.1 h2
  obtain⟨us,h3,h4⟩:=ai.1 h2
  obtain rfl:=aj.1 h4
  obtain⟨x,g1,hx,i1,e1,hv⟩:=oP h h1
  obtain⟨xs,g2,hxs,i2,e2,hvs,hl⟩:=nh l ts.tail i1 h3
  obtain⟨cs,hV,hO⟩:=(hv.mono e2).dv hc
  refine⟨x::xs,g2,?_,i2,e1.trans e2,by simp only[VC];exact⟨x,xs,cs,rfl,hV,hO,hvs⟩,by simp[hl]⟩
  simp only[List.mapM_cons,Sem.run_bind,hx,Result.andThen_ok,hxs,Sem.run_pure]
theorem Al{E:Env}{v:aq}{xs:List Value}(h:VC E v xs):VS E v (.tuple xs.toArray):=by
 cases v <;> first
  | (simp only[VC]at h;done)
  |exact⟨xs,rfl,h⟩
  | (simp only[VC]at h;subst h;rfl)
theorem sT(h:Inv C g β s a w){fn:Func}{ts:List (Option Ty)}{y:AS×aq}(he:(uN P fn ts s).eval=some y):
  ∃x g',(results fn a.tmps).run P w= .ok x w∧Inv C g' β y.1 a w∧VS (y.1.env w g' β) y.2 x:=by
 have key:∀xs:List Value,(fn.results.toList.mapM (rR a.tmps)).run P w= .ok xs w→(results fn a.tmps).run P w= .ok (if h:xs.length=1 then xs[0] else .tuple xs.toArray) w:=fun xs hxs=>by
  have e:results fn a.tmps=(do
   let vs ←fn.results.mapM (rR a.tmps)
   pure (if h:vs.size=1 then vs[0] else .tuple vs)):=rfl
  rw[e,Array.mapM_eq_mapM_toList]
  simp only[map_eq_pure_bind,Sem.run_bind,hxs,Result.andThen_ok,Sem.run_pure]
  congr 1
 unfold uN at he
 split at he
 ·rename_i r hr
  obtain⟨x,g',hx,hi,_,hv⟩:=oP h he
  refine⟨x,g',?_,hi,hv⟩
  rw[key [x] (by simp[hr,hx])]
  simp
 ·rename_i rs hne
  obtain⟨xs,g',hx,hi,_,hv,hl⟩:=nh _ _ h he
  refine⟨.tuple xs.toArray,g',?_,hi,Al hv⟩
  rw[key xs hx,dif_neg]
  rw[hl]
  intro h1
  obtain⟨r,hr⟩:=List.length_eq_one_iff.1 h1
  exact hne r hr
end
end Go.Ab
namespace Go.Ab
def iS(ids:List Id):gq→gq
 | .own (.id (.new i j)) k=> .own (.id (match idxOf (.new i j) ids with | some m=> .new 0 m | none=> .new 1 0)) k
 |l=>l
def By(β:Id→Option Pl)(ids:List Id):Id→Option Pl
 | .cz k=>β (.cz k)
 | .new 0 m=>(ids[m]?).bind β
 | .new (_+1) _=>none
theorem zx{ids:List Id}{g:Nat→gq}{b off:Nat}(h:iO g b off):iO (fun b=>iS ids (g b)) b off:=by
 unfold iO at*
 simp only
 cases hg:g b with
 |free=>simp[iS]
 |own o k=>
  rw[hg]at h
  cases o with
  |dC=>exact h
  |id i=>cases i <;> exact h
theorem um(s:AS)(v:aq):(s.ph v).Nodup:=(jo s _ _ _ (by simp)).filter _
theorem xB{s:AS}{v:aq}{id:Id}(h:id∈s.ph v):∃i j,id= .new i j:=by
 unfold AS.ph at h
 have:=(List.mem_filter.1 h).2
 cases id with
 |cz k=>simp[Id.De]at this
 |new i j=>exact⟨i,j,rfl⟩
section
variable {P:Program} {Γ:dH} {C:Ctx} {g:Nat→gq} {β:Id→Option Pl} {s:AS} {a:Act} {w:World}
theorem zm(h:Inv C g β s a w)(hC:∀i j,C.E.s (.new i j)=none){v:aq}{x:Value}(hv:VS (s.env w g β) v x):km C.E (s.fin v) x w:=by
 unfold AS.fin
 have hn:=um s v
 have hnew:∀id∈s.ph v,∃i j,id= .new i j:=fun id hid=>xB hid
 generalize s.ph v=ids at hn hnew
 generalize hG:s.C8 ids v=G
 have hval:G.val=v.fm (nD ids):=by rw[←hG];rfl
 have hold:∀k,G.st.bk (.cz k)=(s.bk (.cz k)).map (cV.fin ids):=fun k=>by
  rw[←hG]
  show(s.ch.map (cV.fin ids))[k]? =_
  rw[List.getElem?_map];rfl
 have hnw:∀m,G.st.bk (.new 0 m)=(ids[m]?).map fun id=>((s.bk id).getD .dead).fin ids:=fun m=>by
  rw[←hG]
  show(ids.map fun id=>((s.bk id).getD .dead).fin ids)[m]? =_
  rw[List.getElem?_map]
 have hns:∀i m,G.st.bk (.new (i+1) m)=none:=fun i m=>by simp[aW.st,AS.bk]
 let g':Nat→gq:=fun b=>iS ids (g b)
 let β':=By β ids
 have hfin:∀e ver fr c,cV.fin ids e= .obj ver fr c→∃c0,e= .obj ver fr c0∧c=c0.fm (nD ids):=fun e ver fr c he=>by
  cases e with
  |dead=>cases he
  |obj v0 fr0 c0=>
   simp only[cV.fin,cV.obj.injEq]at he
   obtain⟨rfl,rfl,rfl⟩:=he
   exact⟨c0,rfl,rfl⟩
 have hle:lQ (nD ids) (s.env w g β) (G.st.env w g' β'):=by
  refine⟨⟨fun b off v ⟨h1,h2⟩=>⟨h1,zx h2⟩,fun b ob h1 h2=>⟨by show iS ids (g b)= .free;have h1:g b= .free:=h1;rw[h1];rfl,h2⟩⟩,fun id ver r hr hb=> ?_⟩
  obtain⟨hb1,hb2⟩:=hb
  have hb1:s.bk id≠none:=hb1
  have hb2:∀v fr c,s.bk id=some (.obj v fr c)→ver≤v:=hb2
  cases id with
  |cz k=>
   simp only[nD,Option.some.injEq]at hr
   subst hr
   refine⟨⟨?_,fun v fr c hh=> ?_⟩,fun⟨fr,c,hh⟩=>⟨?_,rfl⟩⟩
   ·show G.st.bk (.cz k)≠none
    rw[hold];simpa using hb1
   ·have hh:G.st.bk (.cz k)=some (.obj v fr c):=hh
    rw[hold,Option.map_eq_some_iff]at hh
    obtain⟨e,he,hh⟩:=hh
    obtain⟨c0,rfl,_⟩:=hfin _ _ _ _ hh
    exact hb2 v fr c0 he
   ·have hh:G.st.bk (.cz k)=some (.obj ver fr c):=hh
    rw[hold,Option.map_eq_some_iff]at hh
    obtain⟨e,he,hh⟩:=hh
    obtain⟨c0,rfl,_⟩:=hfin _ _ _ _ hh
    exact⟨fr,c0,he⟩
  |new i j=>
   simp only[nD]at hr
   split at hr
   ·rename_i m hm
    simp only[Option.some.injEq]at hr
    subst hr
    have hid:=hZ hm
    obtain⟨e,he⟩:=Option.ne_none_iff_exists'.1 hb1
    have hg:G.st.bk (.new 0 m)=some (e.fin ids):=by rw[hnw,hid];simp[he]
    refine⟨⟨?_,fun v fr c hh=> ?_⟩,fun⟨fr,c,hh⟩=>⟨?_,?_⟩⟩
    ·show G.st.bk (.new 0 m)≠none
     rw[hg];simp
    ·have hh:G.st.bk (.new 0 m)=some (.obj v fr c):=hh
     rw[hg,Option.some.injEq]at hh
     obtain⟨c0,rfl,_⟩:=hfin _ _ _ _ hh
     exact hb2 v fr c0 he
    ·have hh:G.st.bk (.new 0 m)=some (.obj ver fr c):=hh
     rw[hg,Option.some.injEq]at hh
     obtain⟨c0,rfl,_⟩:=hfin _ _ _ _ hh
     exact⟨fr,c0,he⟩
    ·show(ids[m]?).bind β=β (.new i j)
     rw[hid];rfl
   ·cases hr
 have htr:Trans C.E.w w C.E.g g':=by
  have h0:=h.trans
  refine⟨h0.os,h0.tape,h0.output,h0.size,fun b hb=> ?_⟩
  have h1:=h0.qa b hb
  show match C.E.g b with | .free=>iS ids (g b)= .free∧_ | .own .dC k=>iS ids (g b)= .own .dC k∧_ | .own (.id _) k=>(iS ids (g b)= .free∨∃i k',iS ids (g b)= .own (.id i) k'∧k≤k')∧_
  cases hgb:C.E.g b with
  |free=>simp only[hgb]at h1 ⊢;rw[h1.1];exact⟨rfl,h1.2⟩
  |own o k=>cases o with
   |dC=>simp only[hgb]at h1 ⊢;rw[h1.1];exact⟨rfl,h1.2⟩
   |id i=>
    simp only[hgb]at h1 ⊢
    refine⟨?_,h1.2⟩
    rcases h1.1 with h2 | ⟨i',k',h2,h3⟩
    ·rw[h2];exact .inl rfl
    ·rw[h2]
     right
     cases i' with
     |cz m=>exact⟨_,k',rfl,h3⟩
     |new i j=>exact⟨_,k',rfl,h3⟩
 have hobj:e7 (G.st.env w g' β'):=by
  intro id ver fr c hid
  have hid:G.st.bk id=some (.obj ver fr c):=hid
  cases id with
  |cz k=>
   rw[hold,Option.map_eq_some_iff]at hid
   obtain⟨e,he,hid⟩:=hid
   obtain⟨c0,rfl,rfl⟩:=hfin _ _ _ _ hid
   refine kU hle (h.bj (.cz k) ver fr c0 he) rfl fun pl _=>⟨rfl,fun n hg=> ?_,fun hg=> ?_⟩
   ·have hg:g pl.b= .own (.id (.cz k)) n:=hg
    show iS ids (g pl.b)=_
    rw[hg];rfl
   ·have hg:g pl.b= .free:=hg
    show iS ids (g pl.b)=_
    rw[hg];rfl
  |new i m=>
   cases i with
   |succ i=>rw[hns]at hid;cases hid
   |zero=>
    rw[hnw,Option.map_eq_some_iff]at hid
    obtain⟨id0,hid0,hid⟩:=hid
    obtain⟨c0,he,rfl⟩:=hfin _ _ _ _ hid
    have hent:s.bk id0=some (.obj ver fr c0):=by
     cases hs:s.bk id0 with
     |none=>rw[hs]at he;cases he
     |some e=>rw[hs]at he;simp only[Option.getD_some]at he;rw[he]
    obtain⟨i0,j0,rfl⟩:=hnew id0 (List.mem_of_getElem? hid0)
    refine kU hle (h.bj (.new i0 j0) ver fr c0 hent) (by show(ids[m]?).bind β=_;rw[hid0];rfl) fun pl _=>⟨rfl,fun n hg=> ?_,fun hg=> ?_⟩
    ·have hg:g pl.b= .own (.id (.new i0 j0)) n:=hg
     show iS ids (g pl.b)=_
     rw[hg]
     simp only[iS,kr hn hid0]
    ·have hg:g pl.b= .free:=hg
     show iS ids (g pl.b)=_
     rw[hg];rfl
 have ho:∀id ver,C.E.mR id ver→∃k,id= .cz k:=fun id ver hb=>by
  cases id with
  |cz k=>exact⟨k,rfl⟩
  |new i j=>exact absurd (hC i j) hb.1
 refine⟨g',β',by rw[hval];exact qE hle hv,hobj,htr,Trans.mem (E:=C.E) (E':=G.st.env w g' β') htr,fun id ver hb=> ?_,fun id ver hb hc=> ?_⟩
 ·obtain⟨k,rfl⟩:=ho id ver hb
  exact(hle.ref (.cz k) ver (.cz k,ver) rfl (h.le.mR _ _ hb)).1
 ·obtain⟨k,rfl⟩:=ho id ver hb
  obtain⟨h1,h2⟩:=(hle.ref (.cz k) ver (.cz k,ver) rfl (h.le.mR _ _ hb)).2 hc
  obtain⟨h3,h4⟩:=h.le.cur _ _ hb h1
  exact⟨h3,h2.trans h4⟩
theorem nT.len{E:Env}:∀ {as:List aq} {vs:List Value},nT E as vs→as.length=vs.length
 |[],[],_=>rfl
 |_::_,_::_,⟨_,h⟩=>by simp[nT.len h]
 |[],_::_,h=>h.elim
 |_::_,[],h=>h.elim
theorem nT.get{E:Env}:∀ {as:List aq} {vs:List Value},nT E as vs→∀i,VS E (as.getD i .undef) (vs.getD i undef)
 |[],[],_,i=>by simpa using VS.undef
 |_::_,_::_,⟨h,_⟩,0=>by simpa using h
 |_::_,_::_,⟨_,h⟩,i+1=>by simpa using nT.get h i
 |[],_::_,h,_=>h.elim
 |_::_,[],h,_=>h.elim
theorem zX{w:World}{g:Nat→gq}{β:Id→Option Pl}{fn:Func}{args:List aq}{ch:List cV}{fP:List Value}(hv:nT ((eP ch).env w g β) args fP)(ho:e7 ((eP ch).env w g β)):
  Inv ⟨(eP ch).env w g β⟩ g β (start fn args ch) {tmps:=fP.toArray++Array.replicate (fn.ntmps - fP.toArray.size) undef,defers:=[]} w:=by
 have hl:=hv.len
 have hent:(start fn args ch).bk=(eP ch).bk:=by
  funext id
  cases id with
  |cz k=>rfl
  |new i j=>
   simp only[start,eP,AS.bk,List.getD_eq_getElem?_getD,List.getElem?_replicate]
   split <;> simp
 have henv:(start fn args ch).env w g β=(eP ch).env w g β:=by simp only[AS.env,hent]
 refine⟨rfl,by simp[start,hl],fun i=> ?_,by rw[henv];exact ho,Trans.refl _ _,by rw[henv];exact bH.refl _⟩
 rw[henv]
 have h1:(start fn args ch).slot i=args.getD i .undef:=by
  simp only[start,AS.slot,List.getD_eq_getElem?_getD,List.getElem?_append,List.getElem?_replicate]
  split
  ·rfl
  ·rw[List.getElem?_eq_none (l:=args) (by omega)]
   split <;> rfl
 have h2:(fP.toArray++Array.replicate (fn.ntmps - fP.toArray.size) undef).getD i undef=fP.getD i undef:=by
  simp only[Array.getD_eq_getD_getElem?,List.getD_eq_getElem?_getD,Array.getElem?_append,Array.getElem?_replicate]
  simp only[List.size_toArray,List.getElem?_toArray]
  split
  ·rfl
  ·rw[List.getElem?_eq_none (l:=fP) (by omega)]
   split <;> rfl
 rw[h1,h2]
 exact hv.get i
theorem jv.nL(hm:P.follows .mixedOrders=true)(hΓ:Sound P Γ){f:FuncId}{fn:Func}(hf:P.funcs[f]? =some fn)(hb:fn.body.isSome=true)(hname:(fn.name== "runtime.NumGoroutine")=false){en:Entry}{an:ee}{N:Nat}(hL:∀c,fn.body=some c→u5 P Γ an N (fL c))
  (h:∀args ch x,en.run args ch=some x→B8 P Γ an N fn args ch some=some (en.out args ch x)):jv P f en:=by
 intro w g β args ch fP x hv ho hx
 left
 obtain⟨c,hc⟩:=Option.isSome_iff_exists.1 hb
 refine⟨?_,?_⟩
 ·unfold callFunc
  have hname':¬fn.name= "runtime.NumGoroutine" :=by simpa using hname
  simp[hf,hname',hc]
 ·have hN:=h args ch x hx
  unfold B8 at hN
  rw[hc]at hN
  simp only at hN
  have hC:∀i j,((eP ch).env w g β).s (.new i j)=none:=fun i j=>by simp[AS.env,eP,AS.bk]
  refine calls_of_wp hf hc (gO (C:=⟨(eP ch).env w g β⟩) hm hΓ hC c (hL c hc) _ _ w _ _ ⟨g,β,zX hv ho⟩ hN fun e s' a' w' hs' hk'=> ?_)
  have fin:(finish P an fn s').run (fun v=>some v)=some (en.out args ch x)→a'.defers=[]∧∃v,(results fn a'.tmps).run P w'= .ok v w'∧∃u,Ending.returned v= .returned u∧km ((eP ch).env w g β) (en.out args ch x) u w':=fun hr=>by
   obtain⟨G,h1,h2⟩:=fy.1 hr
   simp only[Option.some.injEq]at h2
   subst h2
   unfold finish at h1
   obtain⟨sd,h0d,h1⟩:=ai.1 h1
   obtain⟨s2,h3,h4⟩:=ai.1 h1
   obtain⟨s3,h4a,h4⟩:=ai.1 h4
   obtain⟨y,h5,h6⟩:=ai.1 h4
   obtain⟨g0,β0,hi0⟩:=lu _ hs' h0d
   obtain⟨g',β',hi⟩:=sm _ (gT hC _ ⟨g0,β0,hi0.drop _⟩ h3) h4a
   obtain⟨z,g2,h7,h8,h9⟩:=sT hi h5
   refine⟨hi.defers,z,h7,z,rfl,?_⟩
   rw[←aj.1 h6]
   exact zm h8 hC h9
  cases e with
  |normal=>exact fin hk'
  |ret=>exact fin hk'
  |_=>cases hk'
end
end Go.Ab
namespace Go.Ab
def dz(k:IntKind)(n:Int):Int:=k.wrap n
def ck(k:IntKind)(x y:Int):Int:=k.wrap (x+y)
def cH(k:IntKind)(x y:Int):Int:=k.wrap (x - y)
def fg(k:IntKind)(x y:Int):Int:=k.wrap (x*y)
def kK(k:IntKind)(x y:Int):Int:=k.wrap (x.tdiv y)
def jP(x y:Int):Int:=x.tmod y
def iM(k:IntKind)(x y:Int):Int:=k.wrap (x*2^(min y.toNat k.bits))
def bC(k:IntKind)(x y:Int):Int:=x.fdiv (2^(min y.toNat k.bits))
def dN(x y:Int):Bool:=x==y
def qe(x y:Int):Bool:=x !=y
def gQ(x y:Int):Bool:=decide (x < y)
def AY(x y:Int):Bool:=decide (x≤y)
def po(x y:Int):Bool:=decide (x > y)
def mV(x y:Int):Bool:=decide (x≥y)
def seq(x y:ByteArray):Bool:=x.toList==y.toList
def wK(a:ByteArray)(i:Int):Int:=((a.data.toList.getD i.toNat 0).toNat:Int)
def fE(i n:Int):Bool:=decide (0≤i∧i < n)
def inc(i n:Int):Bool:=decide (0≤i∧i≤n)
def iC(y:Int):Bool:=decide (0≤y)
def gV(y:Int):Bool:= !(decide (y=0))
open Classical in
noncomputable def bZ.of{D X:Type}(st:D→AS)(aC:D→Prop)(F:D→X)(out:X→Out (Exit×AS)):bZ:=
 {X,run:=fun s=>if h:∃d,st d=s∧aC d then some (F h.choose) else none,out}
open Classical in
theorem bZ.nL{D X:Type}{st:D→AS}{aC:D→Prop}{F:D→X}{out:X→Out (Exit×AS)}(hinj:∀d d',st d=st d'→d=d'){d:D}(h:aC d):(bZ.of st aC F out).run (st d)=some (F d):=by
 have hex:∃d',st d'=st d∧aC d':=⟨d,rfl,h⟩
 show(if h:∃d',st d'=st d∧aC d' then some (F h.choose) else none)=_
 rw[dif_pos hex,hinj _ _ hex.choose_spec.1]
open Classical in
noncomputable def yZ.of{X:Type}(an:gr)(st:X→AS):yZ:=
 {an,X,Fl:=fun e s=>if h:e= .normal∧∃x,st x=s then some h.2.choose else none,out:=fun x=> .ok (.normal,st x),
  ok:=fun e s x h=>by
   by_cases h1:e= .normal∧∃x,st x=s
   ·rw[dif_pos h1]at h
    have h2:=h1.2.choose_spec
    rw[Option.some.inj h]at h2
    rw[h1.1,←h2]
    rfl
   ·rw[dif_neg h1]at h;cases h}
open Classical in
open Classical in
theorem yj.of{P:Program}{Γ:dH}{an:ee}{N:Nat}{fn:Func}{i:Nat}{D X:Type}{st:D→AS}{aC:D→Prop}{F:D→X}{out:X→Out (Exit×AS)}
  (hle:an.fO (cF (gg fn i))=some (bZ.of st aC F out)) (h:∀d,aC d→∃n,oC P Γ an N fn i n (st d) (fun e s=>some (e,s))=(out (F d)).eval):yj P Γ an N (gg fn i):=by
 intro le hle'
 rw[hle]at hle'
 simp only[Option.some.injEq]at hle'
 subst hle'
 refine⟨fun _ s x hx=> ?_,fun S hS=>by cases hS⟩
 change (if h:∃d',st d'=s∧aC d' then some (F h.choose) else none)=some x at hx
 split at hx
 ·rename_i hex
  obtain rfl:=Option.some.inj hx
  obtain⟨h1,h2⟩:=hex.choose_spec
  obtain⟨n,hn⟩:=h _ h2
  refine⟨n,?_⟩
  show oC P Γ an N fn i n s _=_
  rw[h1]at hn
  exact hn
 ·cases hx
theorem jW(P:Program)(Γ:dH)(an:ee)(N:Nat)(fn:Func)(i:Nat){R:Type}(n:Nat)(s:AS)(k:Exit→AS→Option R):
  oC P Γ an N fn i (n+1) s k=kN P Γ an N fn i s (fun s1=>oC P Γ an N fn i n s1 k) k:=rfl
theorem yG{P:Program}{Γ:dH}{an:ee}{N:Nat}{fn:Func}{i:Nat}{D X:Type}{st:D→AS}{aC:D→Prop}{F:D→X}{out:X→Out (Exit×AS)}(μ:D→Nat)
  (h:∀d,aC d→(∃d',aC d'∧μ d' < μ d∧F d'=F d∧∀ {R:Type} (kn:AS→Option R) (kx:Exit→AS→Option R),kN P Γ an N fn i (st d) kn kx=kn (st d'))∨
   (∃r,(out (F d)).eval=some r∧∀ {R:Type} (kn:AS→Option R) (kx:Exit→AS→Option R),kN P Γ an N fn i (st d) kn kx=kx r.1 r.2)):
  ∀d,aC d→∃n,oC P Γ an N fn i n (st d) (fun e s=>some (e,s))=(out (F d)).eval:=by
 have key:∀m d,μ d=m→aC d→∃n,oC P Γ an N fn i n (st d) (fun e s=>some (e,s))=(out (F d)).eval:=by
  intro m
  induction m using Nat.strongRecOn with
  |_ m ih=>
   intro d hm hp
   rcases h d hp with⟨d',hp',hlt,hF,hr⟩ | ⟨r,hr,hx⟩
   ·obtain⟨n,hn⟩:=ih (μ d') (by omega) d' rfl hp'
    exact⟨n+1,by rw[jW,hr,hn,hF]⟩
   ·exact⟨1,by rw[jW,hx,hr]⟩
 exact fun d hp=>key _ d rfl hp
open Classical in
noncomputable def bZ.CD{D X Y:Type}(st:D→AS)(aC:D→Prop)(add:D→Y→X)(gu:D→Y→Prop)(out:X→Out (Exit×AS)):bZ:=
 {X,run:=fun _=>none,out,set:=some fun s x=>∃d,st d=s∧aC d∧∃y,gu d y∧x=add d y}
def E6{D X Y:Type}(st:D→AS)(aC:D→Prop)(add:D→Y→X)(gu:D→Y→Prop):D→X→Prop:=fun d0 x=>∃d,st d=st d0∧aC d∧∃y,gu d y∧x=add d y
abbrev Ez{D X Y:Type}(set:D→X→Prop)(aC:D→Prop)(add:D→Y→X)(gu:D→Y→Prop):Prop:=
 ∀ {d:D} {R:Type} {k:X→Option R} {r:Option R},aC d→(∃y,gu d y)→(∀y,gu d y→k (add d y)=r)→xt (set d) k=r
theorem FV{D X Y:Type}{st:D→AS}{aC:D→Prop}{add:D→Y→X}{gu:D→Y→Prop}(hinj:∀d d',st d=st d'→d=d'):Ez (E6 st aC add gu) aC add gu:=fun h h1 h2=>by
 obtain⟨y,hy⟩:=h1
 refine Cj ⟨_,_,rfl,h,y,hy,rfl⟩ fun x hx=> ?_
 obtain⟨d',h3,_,y',h4,rfl⟩:=hx
 obtain rfl:=hinj _ _ h3
 exact h2 y' h4
abbrev yk(P:Program)(G:dH)(an:ee)(N:Nat)(fn:Func)(i:Nat){D X Y:Type}(st:D→AS)(aC:D→Prop)(add:D→Y→X)(gu:D→Y→Prop)(out:X→Out (Exit×AS)):Prop:=
 ∀d,aC d→∃n,∀k:Exit→AS→Option Unit,(∀y e s,gu d y→(out (add d y)).eval=some (e,s)→k e s=some ())→oC P G an N fn i n (st d) k=some ()
theorem yj.CD{P:Program}{Γ:dH}{an:ee}{N:Nat}{fn:Func}{i:Nat}{D X Y:Type}{st:D→AS}{aC:D→Prop}{add:D→Y→X}{gu:D→Y→Prop}{out:X→Out (Exit×AS)}
  (h:yk P Γ an N fn i st aC add gu out) (hle:an.fO (cF (gg fn i))=some (bZ.CD st aC add gu out)):yj P Γ an N (gg fn i):=by
 intro le hle'
 rw[hle]at hle'
 simp only[Option.some.injEq]at hle'
 subst hle'
 refine⟨fun hS=>(by cases hS),fun S hS s hs=> ?_⟩
 obtain rfl:=Option.some.inj hS
 obtain⟨x,d,rfl,hp,y,hy,rfl⟩:=hs
 obtain⟨n,hn⟩:=h d hp
 exact⟨n,hn _ fun y e s h1 h2=>DX ⟨add d y,⟨d,rfl,hp,y,h1,rfl⟩,h2⟩⟩
theorem s8{n:Nat}{Q:Nat→Nat→Prop}(h:∀j,j < n→∃N,∀M,N≤M→Q j M):∃N,∀M,N≤M→∀j,j < n→Q j M:=by
 induction n with
 |zero=>exact⟨0,fun _ _ j hj=>by omega⟩
 |succ n ih=>
  obtain⟨N1,h1⟩:=ih fun j hj=>h j (by omega)
  obtain⟨N2,h2⟩:=h n (by omega)
  refine⟨max N1 N2,fun M hM j hj=> ?_⟩
  by_cases hjn:j=n
  ·subst hjn;exact h2 M (by omega)
  ·exact h1 M (by omega) j (by omega)
theorem Bg{P:Program}{Γ:dH}{an:ee}{N:Nat}{fn:Func}{i:Nat}{D X:Type}{st:D→AS}{aC:D→Prop}{F:D→X}{out:X→Out (Exit×AS)}(μ:D→Nat)
  (h:∀d,aC d→(∃(m:Nat) (d':Nat→D),0 < m∧(∀j,j < m→aC (d' j)∧μ (d' j) < μ d∧F (d' j)=F d)∧∀ {R:Type} (kn:AS→Option R) (kx:Exit→AS→Option R),kN P Γ an N fn i (st d) kn kx=Ad m fun j=>kn (st (d' j)))∨
   (∃r,(out (F d)).eval=some r∧∀ {R:Type} (kn:AS→Option R) (kx:Exit→AS→Option R),kN P Γ an N fn i (st d) kn kx=kx r.1 r.2)):
  ∀d,aC d→∃n,oC P Γ an N fn i n (st d) (fun e s=>some (e,s))=(out (F d)).eval:=by
 have key:∀m d,μ d=m→aC d→∃n,∀M,n≤M→oC P Γ an N fn i M (st d) (fun e s=>some (e,s))=(out (F d)).eval:=by
  intro m
  induction m using Nat.strongRecOn with
  |_ m ih=>
   intro d hm hp
   rcases h d hp with⟨c,d',hc,hd,hr⟩ | ⟨r,hr,hx⟩
   ·obtain⟨n,hn⟩:=s8 (n:=c) (Q:=fun j M=>oC P Γ an N fn i M (st (d' j)) (fun e s=>some (e,s))=(out (F d)).eval) fun j hj=>by
     obtain⟨h1,h2,h3⟩:=hd j hj
     obtain⟨n,hn⟩:=ih (μ (d' j)) (by omega) (d' j) rfl h1
     exact⟨n,fun M hM=>by rw[hn M hM,h3]⟩
    refine⟨n+1,fun M hM=> ?_⟩
    obtain⟨M,rfl⟩:∃M',M=M'+1:=⟨M - 1,by omega⟩
    rw[jW,hr]
    exact AE hc fun j hj=>hn M (by omega) j hj
   ·refine⟨1,fun M hM=> ?_⟩
    obtain⟨M,rfl⟩:∃M',M=M'+1:=⟨M - 1,by omega⟩
    rw[jW,hx,hr]
 exact fun d hp=>let⟨n,hn⟩:=key _ d rfl hp;⟨n,hn n (Nat.le_refl _)⟩
theorem Bi{P:Program}{Γ:dH}{an:ee}{N:Nat}{fn:Func}{i:Nat}{D X Y:Type}{st:D→AS}{aC:D→Prop}{add:D→Y→X}{gu:D→Y→Prop}{out:X→Out (Exit×AS)}(μ:D→Nat)
  (h:∀d,aC d→(∃(m:Nat) (d':Nat→D),0 < m∧(∀j,j < m→aC (d' j)∧μ (d' j) < μ d∧∀y,gu (d' j) y→∃y',gu d y'∧add (d' j) y=add d y')∧∀ {R:Type} (kn:AS→Option R) (kx:Exit→AS→Option R),kN P Γ an N fn i (st d) kn kx=Ad m fun j=>kn (st (d' j)))∨
   (∃y r,gu d y∧(out (add d y)).eval=some r∧∀ {R:Type} (kn:AS→Option R) (kx:Exit→AS→Option R),kN P Γ an N fn i (st d) kn kx=kx r.1 r.2)):yk P Γ an N fn i st aC add gu out:=by
 have key:∀m d,μ d=m→aC d→∃n,∀M,n≤M→∀k:Exit→AS→Option Unit,(∀y e s,gu d y→(out (add d y)).eval=some (e,s)→k e s=some ())→oC P Γ an N fn i M (st d) k=some ():=by
  intro m
  induction m using Nat.strongRecOn with
  |_ m ih=>
   intro d hm hp
   rcases h d hp with⟨c,d',hc,hd,hr⟩ | ⟨y,r,hy,hr,hx⟩
   ·obtain⟨n,hn⟩:=s8 (n:=c) (Q:=fun j M=>∀k:Exit→AS→Option Unit,(∀y e s,gu (d' j) y→(out (add (d' j) y)).eval=some (e,s)→k e s=some ())→oC P Γ an N fn i M (st (d' j)) k=some ()) fun j hj=>by
     obtain⟨h1,h2,h3⟩:=hd j hj
     exact ih (μ (d' j)) (by omega) (d' j) rfl h1
    refine⟨n+1,fun M hM k hk=> ?_⟩
    obtain⟨M,rfl⟩:∃M',M=M'+1:=⟨M - 1,by omega⟩
    rw[jW,hr]
    refine AE hc fun j hj=>hn M (by omega) j hj k fun y e s h1 h2=> ?_
    obtain⟨y',h3,h4⟩:=(hd j hj).2.2 y h1
    rw[h4]at h2
    exact hk y' e s h3 h2
   ·refine⟨1,fun M hM k hk=> ?_⟩
    obtain⟨M,rfl⟩:∃M',M=M'+1:=⟨M - 1,by omega⟩
    rw[jW,hx]
    exact hk y r.1 r.2 hy hr
 exact fun d hp=>let⟨n,hn⟩:=key _ d rfl hp;⟨n,hn n (Nat.le_refl _)⟩
theorem Bh{P:Program}{Γ:dH}{an:ee}{N:Nat}{fn:Func}{i:Nat}{D X:Type}{st:D→AS}{aC:D→Prop}{F:D→X}{ex:X→Exit×AS}(μ:D→Nat)
  (h:∀d,aC d→(∃d',aC d'∧μ d' < μ d∧F d'=F d∧∀ {R:Type} (kn:AS→Option R) (kx:Exit→AS→Option R),kN P Γ an N fn i (st d) kn kx=kn (st d'))∨
   (∀ {R:Type} (kn:AS→Option R) (kx:Exit→AS→Option R),kN P Γ an N fn i (st d) kn kx=kx (ex (F d)).1 (ex (F d)).2)):
  ∀d,aC d→∃n,oC P Γ an N fn i n (st d) (fun e s=>some (e,s))=(Out.ok (ex (F d))).eval:=
 yG (out:=fun x=> .ok (ex x)) μ fun d hp=>(h d hp).imp id fun h=>⟨_,rfl,h⟩
open Classical in
noncomputable def Entry.of{D X:Type}(params:List (Option Ty))(st:D→List aq×List cV)(aC:D→Prop)(F:D→X)(out:X→aW):Entry:=
 {params,X,run:=fun args ch=>if h:∃d,st d=(args,ch)∧aC d then some (F h.choose) else none,out:=fun _ _=>out}
open Classical in
theorem Entry.nL{D X:Type}{params:List (Option Ty)}{st:D→List aq×List cV}{aC:D→Prop}{F:D→X}{out:X→aW}(hinj:∀d d',st d=st d'→d=d'){d:D}(h:aC d):
  (Entry.of params st aC F out).run (st d).1 (st d).2=some (F d):=by
 have hex:∃d',st d'=((st d).1,(st d).2)∧aC d':=⟨d,rfl,h⟩
 show(if h:∃d',st d'=((st d).1,(st d).2)∧aC d' then some (F h.choose) else none)=_
 rw[dif_pos hex,hinj _ _ hex.choose_spec.1]
open Classical in
theorem jv.of{P:Program}{Γ:dH}(hm:P.follows .mixedOrders=true)(hΓ:Sound P Γ){f:FuncId}{fn:Func}(hf:P.funcs[f]? =some fn)(hb:fn.body.isSome=true)(hname:(fn.name== "runtime.NumGoroutine")=false){an:ee}{N:Nat}
  (hL:∀c,fn.body=some c→u5 P Γ an N (fL c)) {D X:Type} {params:List (Option Ty)} {st:D→List aq×List cV} {aC:D→Prop} {F:D→X} {out:X→aW}
  (h:∀d,aC d→B8 P Γ an N fn (st d).1 (st d).2 some=some (out (F d))):jv P f (Entry.of params st aC F out):=by
 refine jv.nL hm hΓ hf hb hname hL fun args ch x hx=> ?_
 change (if h:∃d',st d'=(args,ch)∧aC d' then some (F h.choose) else none)=some x at hx
 split at hx
 ·rename_i hex
  obtain rfl:=Option.some.inj hx
  obtain⟨h1,h2⟩:=hex.choose_spec
  have:=h _ h2
  rw[h1]at this
  exact this
 ·cases hx
def El(P:Program)(Γ:dH)(an:ee)(N:Nat)(fn:Func):Nat→Nat→Prop
 | 0,_=>True
 |n+1,i=>yj P Γ an N (gg fn i)∧El P Γ an N fn n (i+1)
theorem El.get{P:Program}{Γ:dH}{an:ee}{N:Nat}{fn:Func}:∀ {n i:Nat},El P Γ an N fn n i→∀j,j < n→yj P Γ an N (gg fn (i+j))
 | 0,_,_,j,hj=>by omega
 |n+1,i,h,0,_=>h.1
 |n+1,i,h,j+1,hj=>by
  have:=El.get h.2 j (by omega)
  rwa[show i+1+j=i+(j+1) by omega]at this
theorem u5.Bq{P:Program}{Γ:dH}{an:ee}{N:Nat}:∀(l:List Code),(∀j,j < l.length→yj P Γ an N (l.getD j .skip))→u5 P Γ an N l
 |[],_=>trivial
 |b::l,h=>⟨h 0 (by simp),u5.Bq l fun j hj=>by have:=h (j+1) (by simpa using hj);simpa using this⟩
theorem u5.fn{P:Program}{Γ:dH}{an:ee}{N:Nat}{fn:Func}(n:Nat)(hn:(match fn.body with | some c=>(fL c).length | none=>0)=n)(h:El P Γ an N fn n 0):∀c,fn.body=some c→u5 P Γ an N (fL c):=by
 intro c hc
 refine u5.Bq _ fun j hj=> ?_
 rw[hc]at hn
 simp only at hn
 have:=h.get j (by omega)
 unfold gg at this
 rw[hc]at this
 simpa using this
theorem yj.none{P:Program}{Γ:dH}{an:ee}{N:Nat}{fn:Func}{i:Nat}(h:an.fO (cF (gg fn i))=none):yj P Γ an N (gg fn i):=fun le hle=>by
 rw[h]at hle;cases hle
def EO:dH:=fun _ _=>none
theorem Sound.nil(P:Program):Sound P EO:=fun _ _ _ h=>by cases h
def AQ(f:FuncId)(p:List aq→Bool)(en:Entry)(Γ:dH):dH:=fun g vs=>match Nat.beq g f with | true=>(match p vs with | true=>some en | false=>Γ g vs) | false=>Γ g vs
theorem Sound.cons{P:Program}{f:FuncId}{p:List aq→Bool}{en:Entry}{Γ:dH}(h:jv P f en)(hΓ:Sound P Γ):Sound P (AQ f p en Γ):=fun g vs e hg=>by
 unfold AQ at hg
 split at hg
 ·rename_i he
  have:g=f:=Nat.eq_of_beq_eq_true he
  split at hg
  ·simp only[Option.some.injEq]at hg
   subst hg this
   exact h
  ·exact hΓ g vs e hg
 ·exact hΓ g vs e hg
theorem C6{t:Ty}{x y:t.den}(h:aq.d t x=aq.d t y):x=y:=by
 injection h with _ h
theorem C1{e:TypeId}{t:Ty}{x y:List t.den}(h:aq.vec e t x=aq.vec e t y):x=y:=by
 injection h with _ _ h
def aV:List aq→Bool:=fun _=>true
def zK:List aq→Bool | .dq::_=>true | _=>false
def tN:List aq→Bool | .bt .. ::_=>true | _=>false
@[simp] theorem ao{α:Type}(x y:Option α):aF true x y=x:=rfl
@[simp] theorem aw{α:Type}(x y:Option α):aF false x y=y:=rfl
@[simp] theorem aa{α β:Type}(x:α)(f:α→Option β):ah (some x) f=f x:=rfl
@[simp] theorem lH{α:Type}(x:Option α):nd x x=x:=by simp[nd]
structure SG(P:Program) where
 f:FuncId
 p:List aq→Bool
 e:Entry
 h:jv P f e
def eT{P:Program}:List (SG P)→dH
 |[]=>EO
 |a::l=>AQ a.f a.p a.e (eT l)
theorem Sound.eT{P:Program}:∀l:List (SG P),Sound P (eT l)
 |[]=>Sound.nil P
 |a::l=>Sound.cons a.h (Sound.eT l)
abbrev SA:=List aq×List cV
noncomputable def cT(P:Program)(G:dH)(an:ee)(N:Nat)(fn:Func){D:Type}(st:D→SA){R:Type}(d:D)(k:aW→Option R):Option R:=B8 P G an N fn (st d).1 (st d).2 k
noncomputable def cC(P:Program)(G:dH)(an:ee)(N:Nat)(fn:Func)(i:Nat){D:Type}(st:D→AS){R:Type}(d:D)(kn:AS→Option R)(kx:Exit→AS→Option R):Option R:=kN P G an N fn i (st d) kn kx
abbrev cU{D X Y:Type}(A: {R:Type}→D→(aW→Option R)→Option R)(aC:D→Prop)(add:D→Y→X)(F:D→Y)(out:X→aW):Prop:=
 ∀d,aC d→A d some=some (out (add d (F d)))
abbrev eO(P:Program)(G:dH)(an:ee)(N:Nat)(fn:Func)(i:Nat){D X Y:Type}(st:D→AS)(aC:D→Prop)(add:D→Y→X)(F:D→Y)(out:X→Out (Exit×AS)):Prop:=
 ∀d,aC d→∃n,oC P G an N fn i n (st d) (fun e s=>some (e,s))=(out (add d (F d))).eval
abbrev ga{D X Y:Type}(R: {R:Type}→D→(AS→Option R)→(Exit→AS→Option R)→Option R)(st:D→AS)(aC:D→Prop)(add:D→Y→X)(F:D→Y)(ex:X→Exit×AS)(C:Prop):Prop:=
 ∀μ:D→Nat,(∀d,aC d→(∃d',aC d'∧μ d' < μ d∧add d' (F d')=add d (F d)∧∀ {T:Type} (kn:AS→Option T) (kx:Exit→AS→Option T),R d kn kx=kn (st d'))∨
  (∀ {T:Type} (kn:AS→Option T) (kx:Exit→AS→Option T),R d kn kx=kx (ex (add d (F d))).1 (ex (add d (F d))).2))→C
abbrev p9{D X Y:Type}(R: {R:Type}→D→(AS→Option R)→(Exit→AS→Option R)→Option R)(st:D→AS)(aC:D→Prop)(add:D→Y→X)(F:D→Y)(out:X→Out (Exit×AS))(C:Prop):Prop:=
 ∀μ:D→Nat,(∀d,aC d→(∃d',aC d'∧μ d' < μ d∧add d' (F d')=add d (F d)∧∀ {T:Type} (kn:AS→Option T) (kx:Exit→AS→Option T),R d kn kx=kn (st d'))∨
  (∃r,(out (add d (F d))).eval=some r∧∀ {T:Type} (kn:AS→Option T) (kx:Exit→AS→Option T),R d kn kx=kx r.1 r.2))→C
abbrev Dq{D X Y:Type}(R: {R:Type}→D→(AS→Option R)→(Exit→AS→Option R)→Option R)(st:D→AS)(aC:D→Prop)(add:D→Y→X)(F:D→Y)(ex:X→Exit×AS)(C:Prop):Prop:=
 ∀μ:D→Nat,(∀d,aC d→(∃(m:Nat) (d':Nat→D),0 < m∧(∀j,j < m→aC (d' j)∧μ (d' j) < μ d∧add (d' j) (F (d' j))=add d (F d))∧∀ {T:Type} (kn:AS→Option T) (kx:Exit→AS→Option T),R d kn kx=Ad m fun j=>kn (st (d' j)))∨
  (∀ {T:Type} (kn:AS→Option T) (kx:Exit→AS→Option T),R d kn kx=kx (ex (add d (F d))).1 (ex (add d (F d))).2))→C
theorem ED{P:Program}{G:dH}{an:ee}{N:Nat}{fn:Func}{i:Nat}{D X Y:Type}{st:D→AS}{aC:D→Prop}{add:D→Y→X}{F:D→Y}{ex:X→Exit×AS}:
  Dq (cC P G an N fn i st) st aC add F ex (eO P G an N fn i st aC add F fun x=> .ok (ex x)):=fun μ h=>
 Bg (F:=fun d=>add d (F d)) (out:=fun x=> .ok (ex x)) μ fun d hp=>(h d hp).imp id fun h=>⟨_,rfl,h⟩
abbrev C4{D X Y:Type}(R: {R:Type}→D→(AS→Option R)→(Exit→AS→Option R)→Option R)(st:D→AS)(aC:D→Prop)(add:D→Y→X)(gu:D→Y→Prop)(ex:X→Exit×AS)(C:Prop):Prop:=
 ∀μ:D→Nat,(∀d,aC d→(∃(m:Nat) (d':Nat→D),0 < m∧(∀j,j < m→aC (d' j)∧μ (d' j) < μ d∧∀y,gu (d' j) y→∃y',gu d y'∧add (d' j) y=add d y')∧∀ {T:Type} (kn:AS→Option T) (kx:Exit→AS→Option T),R d kn kx=Ad m fun j=>kn (st (d' j)))∨
  (∃y,gu d y∧∀ {T:Type} (kn:AS→Option T) (kx:Exit→AS→Option T),R d kn kx=kx (ex (add d y)).1 (ex (add d y)).2))→C
theorem EE{P:Program}{G:dH}{an:ee}{N:Nat}{fn:Func}{i:Nat}{D X Y:Type}{st:D→AS}{aC:D→Prop}{add:D→Y→X}{gu:D→Y→Prop}{ex:X→Exit×AS}:
  C4 (cC P G an N fn i st) st aC add gu ex (yk P G an N fn i st aC add gu fun x=> .ok (ex x)):=fun μ h=>
 Bi (out:=fun x=> .ok (ex x)) μ fun d hp=>(h d hp).imp (fun h=>h) fun⟨y,hy,h⟩=>⟨y,_,hy,rfl,h⟩
theorem gw{P:Program}{G:dH}{an:ee}{N:Nat}{fn:Func}{i:Nat}{D X Y:Type}{st:D→AS}{aC:D→Prop}{add:D→Y→X}{F:D→Y}{ex:X→Exit×AS}:
  ga (cC P G an N fn i st) st aC add F ex (eO P G an N fn i st aC add F fun x=> .ok (ex x)):=fun μ h=>Bh (F:=fun d=>add d (F d)) μ h
theorem qK{P:Program}{G:dH}{an:ee}{N:Nat}{fn:Func}{i:Nat}{D X Y:Type}{st:D→AS}{aC:D→Prop}{add:D→Y→X}{F:D→Y}{out:X→Out (Exit×AS)}:
  p9 (cC P G an N fn i st) st aC add F out (eO P G an N fn i st aC add F out):=fun μ h=>yG (F:=fun d=>add d (F d)) (out:=out) μ h
def lZ:List (Nat×gr)→Nat→gr
 |[],_=> {}
 |a::l,r=>bif Nat.beq r a.1 then a.2 else lZ l r
def lY:List (Nat×gr×gr)→Nat→Bool→gr
 |[],_,_=> {}
 |a::l,r,b=>bif Nat.beq r a.1 then(bif b then a.2.2 else a.2.1) else lY l r b
def mW{α:Type 1}:List (Nat×α)→Nat→Option α
 |[],_=>none
 |a::l,r=>bif Nat.beq r a.1 then some a.2 else mW l r
inductive Lf where
 |d (t:Ty)
 |n
@[reducible] def Lf.den:Lf→Type
 | .d t=>t.den
 | .n=>Nat
@[reducible] def Lf.Ee:List Lf→Type
 |[]=>Unit
 |[a]=>a.den
 |a::b::l=>a.den×Lf.Ee (b::l)
abbrev Ex:=List (Sigma Lf.den)
def Lf.mk:(ts:List Lf)→Lf.Ee ts→Ex
 |[],_=> []
 |[a],x=> [⟨a,x⟩]
 |a::b::l,x=>⟨a,x.1⟩::Lf.mk (b::l) x.2
theorem Lf.mk_inj:∀(ts:List Lf) (x y:Lf.Ee ts),Lf.mk ts x=Lf.mk ts y→x=y
 |[],_,_,_=>rfl
 |[a],x,y,h=>by
  injection h with h _
  injection h
 |a::b::l,(x,u),(y,v),h=>by
  injection h with h h2
  injection h with _ h
  have h:x=y:=h
  rw[h,Lf.mk_inj (b::l) u v h2]
def aq.leaves:aq→Ex
 | .d .unit _=> []
 | .d (.arr _ t) l=> [⟨.d (.slice t),l⟩]
 | .d t x=> [⟨.d t,x⟩]
 | .dZ t x=> [⟨.d t,x⟩]
 | .vec _ t l=> [⟨.d (.slice t),l⟩]
 | .mp k v l=> [⟨.d (.slice (.pair k v)),l⟩]
 | .im _ _ k v l _=> [⟨.d (.slice (.pair k v)),l⟩]
 | .bt _ _ _ _ _ n=> [⟨.n,n⟩]
 | .pr a b=>a.leaves++b.leaves
 | .cons a b=>a.leaves++b.leaves
 | .fn _ c=>c.leaves
 | .bx _ _ c=>c.leaves
 |_=> []
def cV.leaves:cV→Ex
 | .obj _ _ c=>c.leaves
 | .dead=> []
def SA.leaves(s:SA):Ex:=s.1.flatMap aq.leaves++s.2.flatMap cV.leaves
def AS.leaves(s:AS):Ex:=s.bE.flatMap aq.leaves++(s.ch.flatMap cV.leaves++s.news.flatMap (·.flatMap cV.leaves))
theorem cZ(ts:List Lf){st:Lf.Ee ts→SA}(h:∀d,SA.leaves (st d)=Lf.mk ts d)(d d':Lf.Ee ts)(e:st d=st d'):d=d':=Lf.mk_inj ts d d' (by rw[←h,←h,e])
theorem eY(ts:List Lf){st:Lf.Ee ts→AS}(h:∀d,AS.leaves (st d)=Lf.mk ts d)(d d':Lf.Ee ts)(e:st d=st d'):d=d':=Lf.mk_inj ts d d' (by rw[←h,←h,e])
noncomputable def Entry.cP{D X Y:Type}(params:List (Option Ty))(st:D→SA)(aC:D→Prop)(add:D→Y→X)(F:D→Y)(out:X→aW):Entry:=Entry.of params st aC (fun d=>add d (F d)) out
def Gc{X Y:Type}(x:X⊕Y):Out (X⊕Y):= .br x.isLeft (.get x.getLeft? fun a=> .ok (.inl a)) (.get x.getRight? fun b=> .ok (.inr b))
theorem Ea{X Y:Type}(x y:X⊕Y)(h:(Gc x).eval=some y):y=x:=by
 cases x <;> exact(Option.some.inj h).symm
noncomputable def Entry.CE{D X X' Y:Type}(params:List (Option Ty))(st:D→SA)(aC:D→Prop)(add:D→Y→X⊕X')(F:D→Y)(out:X⊕X'→aW):Entry:=
 {Entry.cP params st aC add F out with sp:=Gc,BO:=Ea}
theorem jv.Gd{P:Program}{f:FuncId}{D X X' Y:Type}{params:List (Option Ty)}{st:D→SA}{aC:D→Prop}{add:D→Y→X⊕X'}{F:D→Y}{out:X⊕X'→aW}(h:jv P f (Entry.cP params st aC add F out)):jv P f (Entry.CE params st aC add F out):=h
noncomputable def bZ.cP{D X Y:Type}(st:D→AS)(aC:D→Prop)(add:D→Y→X)(F:D→Y)(out:X→Out (Exit×AS)):bZ:=bZ.of st aC (fun d=>add d (F d)) out
noncomputable def bS{D:Type}(E:Entry)(st:D→SA):D→Option E.X:=fun d=>E.run (st d).1 (st d).2
noncomputable def dI{D:Type}(E:bZ)(st:D→AS):D→Option E.X:=fun d=>E.run (st d)
abbrev bP{D X Y:Type}(call:D→Option X)(aC:D→Prop)(add:D→Y→X)(F:D→Y):Prop:=∀ {d:D},aC d→call d=some (add d (F d))
theorem de{D X Y:Type}{params:List (Option Ty)}{st:D→SA}{aC:D→Prop}{add:D→Y→X}{F:D→Y}{out:X→aW}(hinj:∀d d',st d=st d'→d=d'):
  bP (bS (Entry.cP params st aC add F out) st) aC add F:=fun h=>Entry.nL hinj h
theorem Dn{D X X' Y:Type}{params:List (Option Ty)}{st:D→SA}{aC:D→Prop}{add:D→Y→X⊕X'}{F:D→Y}{out:X⊕X'→aW}(hinj:∀d d',st d=st d'→d=d'){d:D}(h:aC d):
  (Entry.CE params st aC add F out).run (st d).1 (st d).2=some (add d (F d)):=de (params:=params) (out:=out) hinj h
theorem fe{D X Y:Type}{st:D→AS}{aC:D→Prop}{add:D→Y→X}{F:D→Y}{out:X→Out (Exit×AS)}(hinj:∀d d',st d=st d'→d=d'):
  bP (dI (bZ.cP st aC add F out) st) aC add F:=fun h=>bZ.nL hinj h
def EJ(P:Program)(fn:Func):Bool:=P.follows .mixedOrders && fn.body.isSome && !(fn.name== "runtime.NumGoroutine")
def FC(fn:Func):Nat:=match fn.body with | some c=>(fL c).length | none=>0
theorem jv.fn{P:Program}{l:List (SG P)}{f:FuncId}{fn:Func}{an:ee}{N:Nat}{D X Y:Type}{params:List (Option Ty)}{st:D→SA}{aC:D→Prop}{add:D→Y→X}{F:D→Y}{out:X→aW}(n:Nat)
  (hc:(P.funcs[f]?,EJ P fn,FC fn)=(some fn,true,n))
  (h:cU (@cT P (eT l) an N fn D st) aC add F out)
  (hL:El P (eT l) an N fn n 0):jv P f (Entry.cP params st aC add F out):=by
 injection hc with h1 h2
 injection h2 with h2 h3
 unfold EJ at h2
 simp only[Bool.and_eq_true,Bool.not_eq_true']at h2
 exact jv.of h2.1.1 (Sound.eT l) h1 h2.1.2 h2.2 (u5.fn n h3 hL) h
theorem yj.cP{P:Program}{Γ:dH}{an:ee}{N:Nat}{fn:Func}{i:Nat}{D X Y:Type}{st:D→AS}{aC:D→Prop}{add:D→Y→X}{F:D→Y}{out:X→Out (Exit×AS)}
  (h:eO P Γ an N fn i st aC add F out) (hle:an.fO (cF (gg fn i))=some (bZ.cP st aC add F out)):yj P Γ an N (gg fn i):=yj.of hle h
abbrev tu:Ty:=(.int .u64)
abbrev ti:Ty:=(.int .i64)
abbrev tb:Ty:=(.int .u8)
abbrev tB:Ty:=(.slice tb)
abbrev Bs:=(List Int)
abbrev tH:Ty:=(.arr 32 tb)
abbrev tU:Ty:=(.slice tu)
abbrev bz:Ty:=(.pair tH (.pair ti .unit))
abbrev bX:=(Bs×(Int×Unit))
abbrev uU:Ty:=(.pair tu (.pair tu .unit))
abbrev Sg:=(Int×(Int×Unit))
abbrev B5:Ty:=(.pair ti (.pair (.slice uU) (.pair tu .unit)))
abbrev sY:=(Int×((List Sg)×(Int×Unit)))
abbrev ik:Ty:=(.pair bz (.pair B5 .unit))
abbrev gU:=(bX×(sY×Unit))
abbrev jt:Ty:=(.pair tU (.pair ti (.pair ti (.pair tu .unit))))
abbrev jG:=(Bs×(Int×(Int×(Int×Unit))))
abbrev ye:Ty:=(.pair (.slice jt) .unit)
abbrev Lk:=((List jG)×Unit)
abbrev gJ:Ty:=(.pair ti (.pair ye .unit))
abbrev fR:=(Int×(Lk×Unit))
abbrev gm:Ty:=(.pair (.slice ik) (.pair (.slice gJ) (.pair ti .unit)))
abbrev eI:=((List gU)×((List fR)×(Int×Unit)))
abbrev En:=(Bs×(Bool×Unit))
end Go.Ab
