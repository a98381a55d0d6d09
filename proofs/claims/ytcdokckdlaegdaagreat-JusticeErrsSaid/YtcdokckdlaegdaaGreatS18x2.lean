/-
  Made short by a program of mine (wip/tools/mini.py).
-/
import Derived.Test.YtcdokckdlaegdaaGreatS18x1
import Derived.Lib.Builder
import Derived.Lib.UnsafeStr
import Derived.Lib.AppendZeros
import Derived.Maps.RangeRun
import Derived.Scope
set_option linter.unusedVariables false
set_option linter.unusedSimpArgs false
namespace Go.Ab
section
variable {P:Program} {C:Ctx} {g:Nat→jt} {β:Id→Option Pl} {s:AS} {a:Act} {w:World} {o:Oper}
theorem Ba:∀(c:az) (f off:Nat) (v:az),partOf c f=some (off,v)→(loc c (iR f)).eval=some (off,v):=by
 intro c f
 induction f generalizing c with
 |zero=>
  intro off v h
  cases c with
  |d t y=>
   cases t <;> simp only[partOf,reduceCtorEq]at h
   simp only[Option.some.injEq,Prod.mk.injEq]at h
   obtain⟨rfl,rfl⟩:=h
   rfl
  |pr b c=>
   simp only[partOf,Option.some.injEq,Prod.mk.injEq]at h
   obtain⟨rfl,rfl⟩:=h
   simp only[iR,loc]
   cases b <;> rfl
  |_=>simp only[partOf,reduceCtorEq]at h
 |succ f ih=>
  intro off v h
  cases c with
  |d t y=>
   cases t with
   |pair ta tb=>
    simp only[partOf]at h
    cases hp:partOf (.d tb y.2) f with
    |none=>rw[hp]at h;cases h
    |some r=>
     rw[hp]at h
     simp only[Option.some.injEq,Prod.mk.injEq]at h
     obtain⟨rfl,rfl⟩:=h
     simp only[iR,loc,al]
     exact⟨_,ih _ _ _ hp,rfl⟩
   |_=>simp only[partOf,reduceCtorEq]at h
  |pr b c=>
   simp only[partOf]at h
   cases hp:partOf c f with
   |none=>rw[hp]at h;cases h
   |some r=>
    rw[hp]at h
    simp only[Option.some.injEq,Prod.mk.injEq]at h
    obtain⟨rfl,rfl⟩:=h
    simp only[iR,loc,al]
    exact⟨_,ih _ _ _ hp,rfl⟩
  |_=>simp only[partOf,reduceCtorEq]at h
theorem zw(a b:az):(ru a b).agg=true:=by unfold ru;split <;> rfl
theorem wz{v x v':az}{i:Nat}(h:(nI v (iR i) x).eval=some v'):v'.agg=true:=by
 have fin:∀ {o:Out az} {f:az→az},(∀a,(f a).agg=true)→(o.bind fun a=>Out.ok (f a)).eval=some v'→v'.agg=true:=by
  intro o f hf hh
  obtain⟨_,_,h2⟩:=al.1 hh
  obtain rfl:=ao.1 h2
  exact hf _
 cases i <;> simp only[iR]at h
 all_goals
  cases v with
  |d t y=>cases t <;> first | (simp only[nI,ai]at h;done) | (simp only[nI]at h;exact fin (fun _=>zw _ _) h)
  |pr b c=>simp only[nI]at h;exact fin (fun _=>zw _ _) h
  |_=>simp only[nI,ai]at h
theorem pB{E:Env}(hev:∀x,VS E (s.ev x) (a.eval x)){fs:Array Field}{places:Array (Nat×Nat)}(hpl:∀(i:Nat) (f:Field),fs[i]? =some f→places[i]? =some (f.offset,P.cellsOf f.type)):
  ∀(ps:List (Nat×Operand)) (v v':az) (cells:Array Value),(jx P fs s ps v).eval=some v'→V E v cells.toList→v.agg=true→
   ∃cells',Instr.fill (places[·]?) cells (ps.map fun(i,x)=>(i,a.eval x))=some cells'∧V E v' cells'.toList∧v'.agg=true
 |[],v,v',cells,h,hV,hag=>by
  obtain rfl:=ao.1 h
  exact⟨cells,rfl,hV,hag⟩
 | (i,x)::ps,v,v',cells,h,hV,hag=>by
  simp only[jx]at h
  split at h
  ·rename_i f off dH hf hp
   obtain⟨h1,h2⟩:=aA.1 h
   obtain⟨v1,h3,h4⟩:=al.1 h2
   simp only[Bool.and_eq_true,beq_iff_eq]at h1
   obtain⟨⟨rfl,hfo⟩,hfx⟩:=h1
   obtain⟨hcel,_⟩:=j5 hfx
   obtain⟨cs,hVx,hO⟩:=(hev x).fa hcel
   have hcells:=hO.cells hVx.one
   have hloc:=Ba _ _ _ _ hp
   obtain⟨u1,u2,u3⟩:=jy (iR i) v cells.toList f.offset dH (s.ev x) v1 cs (VO.of hV) hloc hVx h3
   have hnv:v1.gA=false:=u3.kM hV.kM
   have hsz:P.cellsOf f.type=cs.length:=by rw[(pc hfx).2.1];exact hVx.size.symm
   obtain⟨cells',q1,q2,q3⟩:=pB hev hpl ps v1 v' (dF cells.toList f.offset cs).toArray h4 (by simpa using u2.to hnv) (wz h3)
   refine⟨cells',?_,q2,q3⟩
   rw[List.map_cons,wR (by rw[hpl i f hf,hsz]) hcells (by simpa using u1)]
   exact q1
  ·simp only[ai]at h
theorem zP{α γ:Type}(f:α→Sem γ)(r:α→γ):∀(l:List α),(∀x∈l,(f x).run P w= .ok (r x) w)→(l.mapM f).run P w= .ok (l.map r) w
 |[],_=>by simp
 |x::xs,h=>by
  rw[List.mapM_cons]
  simp only[Sem.run_bind,h x (by simp),Result.andThen_ok,zP f r xs (fun y hy=>h y (by simp[hy])),Sem.run_pure,List.map_cons]
theorem AA(h:Inv C g β s a w){T:TypeId}{parts:Array (Nat×Operand)}(ho:o.op= .build T parts){s':AS}(he:(o7 P s o.dst T parts.toList).eval=some s'):fy P o a w (gH C s'):=by
 unfold o7 at he
 split at he
 ·rename_i fs hT
  split at he
  ·rename_i z hzo
   obtain⟨h1,h2⟩:=aA.1 he
   obtain⟨v,h3,h4⟩:=al.1 h2
   obtain rfl:=ao.1 h4
   simp only[Bool.and_eq_true,List.all_eq_true]at h1
   obtain⟨⟨hz,hag⟩,hinf⟩:=h1
   obtain⟨i,zv,hi,hzv,hV,hO⟩:=lz hz (s.env w g β)
   let places:Array (Nat×Nat):=fs.map fun f=>(f.offset,P.cellsOf f.type)
   have hpl:∀(i:Nat) (f:Field),fs[i]? =some f→places[i]? =some (f.offset,P.cellsOf f.type):=by
    intro i f hf
    simp[places,hf]
   obtain⟨cells',q1,q2,q3⟩:=pB (a:=a) h.ev hpl parts.toList z v zv.cells h3 hV hag
   have hm:(fs.mapM fun f=>(do pure (f.offset,←sizeOf f.type):Sem (Nat×Nat))).run P w= .ok places w:=by
    rw[Array.mapM_eq_mapM_toList]
    have:=zP (P:=P) (w:=w) (fun f=>(do pure (f.offset,←sizeOf f.type):Sem (Nat×Nat))) (fun f=>(f.offset,P.cellsOf f.type)) fs.toList (by
     intro f hf
     obtain⟨j,hj⟩:=Option.isSome_iff_exists.1 (hinf f hf)
     rw[Sem.run_bind,run_sizeOf hj,iF hj]
     rfl)
    rw[Sem.run_map,this]
    show Result.ok _ w=Result.ok _ w
    congr 1
    apply Array.ext'
    simp[places]
   refine h.value (x:= .agg cells') (VS.of q2 (by rw[q3];simp[fP])) (eb (f:=Instr.build T (parts.map fun(i,x)=>(i,a.eval x))) (by simp only[execOp,ho]) ?_)
   have q1':Instr.fill (places[·]?) zv.cells (parts.map fun(i,x)=>(i,a.eval x)).toList=some cells':=by rw[sM];exact q1
   simp only[Instr.build,Sem.run_bind,zeroValue,typeInfo,run_program,hi,Result.andThen_ok,Sem.run_pure,hzv,run_underlying hT,hm,q1']
  ·simp only[ai]at he
 ·rename_i n e hT
  split at he
  ·rename_i t ht
   obtain⟨h1,h2⟩:=aA.1 he
   obtain⟨r,h3,h4⟩:=al.1 h2
   obtain rfl:=ao.1 h4
   simp only[Bool.and_eq_true,beq_iff_eq]at h1
   obtain⟨hsz,hz⟩:=h1
   obtain⟨g1,i1,e1,t1,f1⟩:=gq r.2 h
   obtain⟨i,zv,hi,hzv,hV,hO⟩:=lz hz ((s.bq r.2).env w g1 β)
   simp only[V,du]at hV
   obtain⟨cells',q1,q2⟩:=nG (a:=a) rfl h.bZ e1 h.ev parts.toList _ r zv.cells h3 f1 hV.2
   have hlr:r.1.length=n:=by
    have:∀(ps:List (Nat×Operand)) (l:List t.den) (r:List t.den×List Id),(gS t s ps l).eval=some r→r.1.length=l.length:=by
     intro ps
     induction ps with
     |nil=>intro l r hh;obtain rfl:=ao.1 hh;rfl
     |cons p ps ih=>
      intro l r hh
      obtain⟨i,x⟩:=p
      simp only[gS]at hh
      obtain⟨_,h2⟩:=aA.1 hh
      obtain⟨y,h3,h4⟩:=al.1 h2
      obtain⟨r',h5,h6⟩:=al.1 h4
      obtain rfl:=ao.1 h6
      have:=ih _ _ h5
      simpa using this
    rw[this _ _ _ h3]
    simp
   refine .inl ⟨.agg cells',w,eb (f:=Instr.build T (parts.map fun(i,x)=>(i,a.eval x))) (by simp only[execOp,ho]) ?_,g1,β,i1.put o.dst ⟨cells'.toList,?_,by simp[fP,az.agg,Ty.agg]⟩⟩
   ·have q1':Instr.fill (fun i=>some (i*t.size,t.size)) zv.cells (parts.map fun(i,x)=>(i,a.eval x)).toList=some cells':=by rw[sM];exact q1
    cases hie:P.info? e with
    |none=>
     exfalso
     unfold Al xo at ht
     simp only[depth]at ht
     have:P.underlying e=none:=by simp[Program.underlying,hie]
     rw[this]at ht
     cases ht
    |some ie=>
     have hse:=run_sizeOf hie w
     rw[←iF hie,hsz]at hse
     simp only[Instr.build,Sem.run_bind,zeroValue,typeInfo,run_program,hi,Result.andThen_ok,Sem.run_pure,hzv,run_underlying hT,hse,q1']
   ·simp only[V,du]
    exact⟨hlr,q2⟩
  ·simp only[ai]at he
 ·simp only[ai]at he
theorem sY{T X ty e:TypeId}{i:TypeInfo}(hT:P.underlying T=some (.slice e))(hX:P.underlying X=some .string∨∃e',P.underlying X=some (.slice e'))(hi:P.info? e=some i)
  {b sLen sCap:Nat} {cur:Array Value} (hg:w.heap[b]? =some (.cells cur e (0,0))) {x:Value} {n:Nat} {news:List Value} (h1:∀u∈news,u.oneCell'=true)
  (hlen:(Builtin.lenOf x).run P w= .ok n w) (hf:(Builtin.firstCells i.size n x).run P w= .ok news.toArray w) (hroom:sLen+n≤sCap) (hfit:sLen*i.size+news.length≤cur.size):
  (Builtin.append_ #[T,X] ty #[.slice (some ⟨b,0,none⟩) sLen sCap,x]).run P w= .ok (.slice (some ⟨b,0,none⟩) (sLen+n) sCap) (w.setRow b (dF cur.toList (sLen*i.size) news).toArray):=by
 have hst:=run_storeCells_at P b (sLen*i.size) e news 0 cur w hg (by simpa using hfit) h1
 simp only[Nat.add_zero]at hst
 rcases hX with hX | ⟨e',hX⟩ <;> simp[Builtin.append_,run_underlying hT,run_underlying hX,sizeOf,typeInfo,hi,hlen,hroom,hf,Addr.add_lit,hst,dF]
theorem oL{T X ty e:TypeId}{i:TypeInfo}(hT:P.underlying T=some (.slice e))(hX:P.underlying X=some .string∨∃e',P.underlying X=some (.slice e'))(hi:P.info? e=some i)
  {x:Value} (hlen:(Builtin.lenOf x).run P w= .ok 0 w) (hf:(Builtin.firstCells i.size 0 x).run P w= .ok #[] w):
  (Builtin.append_ #[T,X] ty #[.slice none 0 0,x]).run P w= .ok (.slice none 0 0) w:=by
 rcases hX with hX | ⟨e',hX⟩ <;> simp[Builtin.append_,run_underlying hT,run_underlying hX,sizeOf,typeInfo,hi,hlen,hf]
theorem sX{T X ty e:TypeId}{i:TypeInfo}{zv:Value}(hT:P.underlying T=some (.slice e))(hX:P.underlying X=some .string∨∃e',P.underlying X=some (.slice e'))(hi:P.info? e=some i)(hzv:i.zero=some zv)
  {ad:Option Addr} {sLen sCap:Nat} {dd:List Value} (ho:(Builtin.firstCells i.size sLen (.slice ad sLen sCap)).run P w.drew= .ok dd.toArray w.drew) {x:Value} {n:Nat} {news:List Value}
  (hlen:(Builtin.lenOf x).run P w= .ok n w) (hf:(Builtin.firstCells i.size n x).run P w.drew= .ok news.toArray w.drew) (hroom:sCap < sLen+n)
  (h63:((sLen+n:Nat):Int)≤9223372036854775807) (hfit:(sLen+n)*i.bytes≤140737488355328):
  (Builtin.append_ #[T,X] ty #[.slice ad sLen sCap,x]).run P w= .ok (.slice (some ⟨w.heap.size,0,none⟩) (sLen+n) (grownCap w (sLen+n) sCap e))
   (w.drew.alloc (.cells (dd.toArray++news.toArray++Builtin.zeroCells zv.cells (grownCap w (sLen+n) sCap e - (sLen+n))) e)):=by
 have hn:¬(sLen+n≤sCap):=by omega
 have h63':¬(9223372036854775807 < ((sLen:Int)+(n:Int))):=by omega
 have hfit':=growslice_fits (bytes:=i.bytes) hroom hfit
 have h48':¬(281474976710656 < Builtin.nextslicecap (sLen+n) sCap*i.bytes):=by omega
 rcases hX with hX | ⟨e',hX⟩
 all_goals
  simp[Builtin.append_,run_underlying hT,run_underlying hX,sizeOf,typeInfo,zeroValue,hi,hzv,hlen,hn,h63',h48',Question.forced,hf,ho,newRow,grownCap]
  congr 2
  apply Array.ext'
  simp[List.append_assoc]
end
end Go.Ab
namespace Go.Ab
section
variable {P:Program} {C:Ctx} {g:Nat→jt} {β:Id→Option Pl} {s:AS} {a:Act} {w:World} {o:Oper}
theorem EE(h:Inv C g β s a w){v:az}{y:Value}(hv:VS (s.env w g β) v y){t:Ty}{m:List t.den}(he:(s.Bb (.slice t) v).eval=some m):
  ∃ad cap vs,y= .slice ad m.length cap∧(0 < m.length→ad.isSome=true)∧(∀j u,vs[j]? =some u→∃bb off,ad=some ⟨bb,off,none⟩∧w.cell? ⟨bb,off+j,none⟩=some u)∧bp (du (s.env w g β) t) vs m:=by
 have hp:(s.gN (.slice t) v).eval=some m:=he
 cases v <;> first | (simp only[AS.gN,ai]at hp;done) | skip
 case dP=>
  simp only[AS.gN,ao]at hp
  subst hp
  exact⟨none,0,[],il hv,by simp,fun j u hj=>by simp at hj,rfl⟩
 case d t' x=>
  simp only[AS.gN]at hp
  have hp:=gZ.1 hp
  have ha:(az.d t' x).agg=false:=wM hp
  have hV:=hv.single rfl ha
  simp only[V]at hV
  have hv:VS (s.env w g β) (.d (.slice t) m) y:=VS.of (cs:=[y]) (by simp only[V];exact od hp hV) rfl
  obtain⟨ad,cap,vs,hy,_,hs,hr,hc⟩:=kR hv
  exact⟨ad,cap,vs,hy,hs,fun j u hj=>let⟨bb,off,e,hh⟩:=hr j u hj;⟨bb,off,e,hh.1⟩,hc⟩
 case cT id ver p c i len=>
  simp only[AS.gN]at hp
  obtain⟨⟨n,t',l⟩,h1,h2⟩:=al.1 hp
  obtain⟨h3,h4⟩:=bT.1 h2
  obtain⟨hml,hmc⟩:=CK (E:=s.env w g β) (gZ.1 h4)
  rw[hml]
  simp only[decide_eq_true_eq]at h3
  obtain⟨hc,hlen⟩:=h3
  suffices hg:∃ad cap vs,y= .slice ad (cut l i len).length cap∧(0 < (cut l i len).length→ad.isSome=true)∧(∀j u,vs[j]? =some u→∃bb off,ad=some ⟨bb,off,none⟩∧w.cell? ⟨bb,off+j,none⟩=some u)∧bp (du (s.env w g β) t') vs (cut l i len) by
   obtain⟨ad,cap,vs,e1,e2,e3,e4⟩:=hg
   exact⟨ad,cap,vs,e1,e2,e3,hmc _ e4⟩
  obtain⟨fr,c0,hent,hrow⟩:=sW rfl h.bZ h1
  obtain⟨ad,cap,hy,hle,hsome,hb,hcur⟩:=jU hv
  have hcur:=hcur ⟨fr,c0,hent⟩
  have hxl:(cut l i len).length=len:=oe hlen
  rcases hrow with⟨hp,hl,_⟩ | ⟨pl,cur,e,hp,hh,hsz,hch,hbound⟩
  ·rw[hp]at hcur
   simp only at hcur
   obtain⟨rfl,rfl,rfl⟩:=hcur
   have:cut l i 0=[]:=by simp[cut]
   refine⟨none,0,[],by rw[hxl];exact hy,by rw[hxl];omega,fun _ _ hh=>by simp at hh,?_⟩
   rw[this];rfl
  ·rw[hp]at hcur
   simp only at hcur
   have hmul:(i+len)*t'.size≤l.length*t'.size:=Nat.mul_le_mul_right _ hlen
   rw[Nat.add_mul]at hmul
   refine⟨ad,cap,_,by rw[hxl];exact hy,by rw[hxl];exact hsome,?_,qs hch i len⟩
   rw[vi _ _ _ _ _ hmul]
   intro j v hj
   rw[List.getElem?_take]at hj
   split at hj
   ·rename_i hjl
    rw[List.getElem?_drop,hc]at hj
    have hlp:0 < len:=by
     rcases Nat.eq_zero_or_pos len with h0 | h0
     ·subst h0;simp at hjl
     ·exact h0
    refine⟨pl.b,c,hcur.1 (.inl hlp),?_⟩
    have hh':w.heap[pl.b]? =some (.cells cur e (0,0)):=hh
    rw[cell_of_row w pl.b (c+j) cur e (0,0) hh']
    simpa using hj
   ·cases hj
theorem tw(h:Inv C g β s a w){t:Ty}{X:TypeId}{x:az}{y:Value}(hx:VS (s.env w g β) x y){m:List t.den}(he:(pq P s t X x).eval=some m):
  (P.underlying X=some .string∨∃e',P.underlying X=some (.slice e'))∧∃news:List Value,bp (du (s.env w g β) t) news m∧(Builtin.lenOf y).run P w= .ok m.length w∧
   ∀w',w'.heap=w.heap→(Builtin.firstCells t.size m.length y).run P w'= .ok news.toArray w':=by
 have sl:∀(x:az),VS (s.env w g β) x y→(match P.underlying X with
   |some (.slice _)=>s.Bb (.slice t) x
   |_=> .fail).eval=some m→(P.underlying X=some .string∨∃e',P.underlying X=some (.slice e'))∧∃news:List Value,bp (du (s.env w g β) t) news m∧(Builtin.lenOf y).run P w= .ok m.length w∧
   ∀w',w'.heap=w.heap→(Builtin.firstCells t.size m.length y).run P w'= .ok news.toArray w':=by
  intro x hx he
  split at he
  ·rename_i e' hX
   refine⟨.inr ⟨e',hX⟩,?_⟩
   obtain⟨ad,cap,vs,rfl,hsome,hrow,hch⟩:=EE h hx he
   have hlen:=bp.length (fun _ _ hx=>du.size hx) hch
   refine⟨vs,hch,rfl,fun w' hw'=> ?_⟩
   cases ad with
   |none=>
    have hm0:m.length=0:=by
     rcases Nat.eq_zero_or_pos m.length with h0 | h0
     ·exact h0
     ·have:=hsome h0;simp at this
    have:vs=[]:=List.eq_nil_of_length_eq_zero (by rw[hlen,hm0,Nat.zero_mul])
    subst this
    rfl
   |some ad=>
    refine run_firstCells_some (P:=P) w' t.size _ ad _ _ vs hlen (fun j v hj=> ?_)
    obtain⟨bb,off,e1,hh⟩:=hrow j v hj
    simp only[Option.some.injEq]at e1
    subst e1
    rw[Addr.add_lit]
    simpa[World.cell?,hw']using hh
  ·simp only[ai]at he
 unfold pq at he
 split at he
 ·rename_i st
  split at he
  ·rename_i hX
   refine⟨.inl hX,?_⟩
   obtain⟨e,hm⟩:=gU (gZ.1 he)
   have e':Ty.int .u8=t:=by simpa using e
   subst e'
   simp only at hm
   subst hm
   have hy:=pE hx
   subst hy
   have hlen:(bA st).length=st.size:=by simp only[bA,List.length_map,Array.length_toList];rfl
   refine⟨(bA st).map (Value.int .u8),lK _,by rw[hlen];rfl,fun w' _=> ?_⟩
   rw[hlen]
   simp only[Builtin.firstCells,Sem.run_pure]
   congr 1
   apply Array.ext'
   rw[ByteArray.extract_zero_size]
   simp[bA]
  ·simp only[ai]at he
 ·exact sl _ hx he
theorem mZ(z:Array Value)(n:Nat):(Builtin.zeroCells z n).size=n*z.size:=by simp[Builtin.zeroCells]
theorem CM(h:Inv C g β s a w){c:Call}{x y:Operand}{T X:TypeId}(ho:o.op= .call c)(hc:c.callee= .builtin .copy)(ha:c.args.toList=[x,y])(ht:c.argTypes.toList=[T,X]){s':AS}
  (he:(uB P s o.dst T X (s.ev x) (s.ev y)).eval=some s'):fy P o a w (gH C s'):=by
 obtain⟨cal,args,tys⟩:=c
 simp only at hc ha ht
 have ha':args= #[x,y]:=by apply Array.ext';simpa using ha
 have ht':tys= #[T,X]:=by apply Array.ext';simpa using ht
 subst hc ha' ht'
 have hx:=h.ev x
 have hy:=h.ev y
 have fin:∀z w',(Builtin.copy_ #[T,X] 0 #[a.eval x,a.eval y]).run P w= .ok z w'→(∃g' β',Inv C g' β' s' (a.put o.dst z) w')→fy P o a w (gH C s'):=by
  intro z w' h1 h2
  refine .inl ⟨z,w',ns ho (f:=Builtin.copy_ #[T,X] 0 #[a.eval x,a.eval y]) (fun ty cs xs hxs=> ?_) h1,h2⟩
  subst hxs
  have e1:Builtin.copy_ #[T,X] 0 #[a.eval x,a.eval y]=Builtin.copy_ #[T,X] ty #[a.eval x,a.eval y]:=rfl
  rw[e1]
  simp[builtin]
 unfold uB at he
 split at he
 ·rename_i e t b id ver len hel hxs
  obtain⟨hT,hz,i,zv,hi,his,hib,hzv,hzr⟩:=nA hel
  obtain⟨m,hm,he⟩:=al.1 he
  obtain⟨hX,news,hch,hlen,hfc⟩:=tw h hy hm
  have hnl:=hch.length (fun _ _ hx=>du.size hx)
  have h1news:∀u∈news,u.oneCell'=true:=bp.all (fun _ _ hx=>hx.one) hch
  rw[←his]at hfc
  split at he
  ·rename_i ve n t' l hob
   obtain⟨h1,he1⟩:=aA.1 he
   simp only[Bool.and_eq_true,beq_iff_eq]at h1
   obtain⟨hve,hln⟩:=h1
   subst hve hln
   obtain⟨l',hl',he2⟩:=al.1 he1
   obtain⟨et,hl'⟩:=gU (gZ.1 hl')
   have et':t'=t:=by simpa using et
   subst et'
   simp only at hl'
   subst hl'
   obtain⟨hml,he3⟩:=bT.1 he2
   have hml:m.length≤len:=by simpa using hml
   obtain rfl:=ao.1 he3
   have hent:=ez hob
   rw[hxs]at hx
   obtain⟨ad,cap,hxv,hlc,hsome,hbnd,hcur⟩:=jU hx
   have hcur:=hcur ⟨false,_,hent⟩
   obtain⟨pl,cur,e0,hp,hh,hg,hk,hV⟩:=(h.bZ id ve false _ hent).box rfl
   have hp:β id=some pl:=hp
   have hh:w.heap[pl.b]? =some (.cells cur e0 (0,0)):=hh
   have hg:g pl.b= .own (.id id) 0:=hg
   have hcur':(match β id with
    |some pl=>(0 < len∨0=0→ad=some ⟨pl.b,0,none⟩)∧(([.arr]:List qo)=[]→0=0→cap=pl.cap)
    |none=>ad=none∧len=0∧cap=0):=hcur
   rw[hp]at hcur'
   simp only at hcur'
   have had:=hcur'.1 (.inr trivial)
   subst had
   have hV:V (s.env w g β) (.d (.arr len t') l) (cur.toList.take cur.size):=hV
   rw[←Array.length_toList,List.take_length]at hV
   simp only[V,du]at hV
   obtain⟨hll,hVc⟩:=hV
   have hcl:=hVc.length (fun _ _ hx=>du.size hx)
   have hfit:news.length≤cur.size:=by
    rw[hnl]
    have:cur.size=l.length*t'.size:=by simpa using hcl
    rw[this,hll]
    exact Nat.mul_le_mul_right _ hml
   have hst:=run_storeCells_at P pl.b 0 e0 news 0 cur w hh (by simpa using hfit) h1news
   have hrun:(Builtin.copy_ #[T,X] 0 #[a.eval x,a.eval y]).run P w= .ok (goInt m.length) (w.setRow pl.b (dF cur.toList 0 news).toArray):=by
    have hmin:Nat.min m.length len=m.length:=Nat.min_eq_left hml
    rw[hxv]
    simp only[Nat.add_zero,Nat.zero_add]at hst
    simp[Builtin.copy_,run_underlying hT,hlen,sizeOf,typeInfo,hi,hmin,hfc w rfl,hst,dF]
   have htr:=Trans.setRow w hg (dF cur.toList 0 news).toArray
   have hle:cW (s.env w g β) ((s.bf id (.obj ve false (.d (.arr len t') (m++l.drop m.length)))).env (w.setRow pl.b (dF cur.toList 0 news).toArray) g β):=cW.bf hent (Nat.le_refl _) htr (fun _ _=>rfl) (fun _=>rfl)
   have i1:=h.step (dC _ _ _) htr hle (hP.bf (hlk:=jv hent fun k v1 l e=>by cases e) h.bZ (by rw[hent];simp) hle (fun _ _=>rfl) (fun i ver fr c pl2 hi hs2 hp2=>⟨setRow_other w pl.b pl2.b _ (h.apart hg hi hs2 hp2),rfl⟩) (si.obj ⟨pl,_,e0,hp,setRow_heap w pl.b cur _ e0 (0,0) hh,hg,trivial,by
    show V _ (.d (.arr len t') (m++l.drop m.length)) ((dF cur.toList 0 news).toArray.toList.take (dF cur.toList 0 news).toArray.size)
    rw[←Array.length_toList,List.take_length]
    simp only[V,du]
    refine⟨by rw[List.length_append,List.length_drop];omega,?_⟩
    have e2:dF cur.toList 0 news=news++cur.toList.drop (m.length*t'.size):=by
     simp[dF,hnl]
    have q:bp (du (s.env w g β) t') (dF cur.toList 0 news) (m++l.drop m.length):=by
     rw[e2]
     exact bp.append hch (bp.drop (fun _ _ hx=>du.size hx) m.length hVc)
    exact q.mono fun _ _ hx=>hx.mono hle.mem⟩))
   exact fin _ _ hrun ⟨g,β,i1.put o.dst ⟨[.int .i64 (m.length:Int)],by simp only[V,du],rfl⟩⟩
  ·exact(ai.1 he).elim
 ·exact(ai.1 he).elim
theorem yJ(h:Inv C g β s a w){c:Call}{x y:Operand}{T X:TypeId}(ho:o.op= .call c)(hc:c.callee= .builtin .append)(ha:c.args.toList=[x,y])(ht:c.argTypes.toList=[T,X]){s':AS}
  {nl dt:Bool} (he:(mm P s nl dt o.dst T X (s.ev x) (s.ev y)).eval=some s'):fy P o a w (gH C s'):=by
 obtain⟨cal,args,tys⟩:=c
 simp only at hc ha ht
 have ha':args= #[x,y]:=by apply Array.ext';simpa using ha
 have ht':tys= #[T,X]:=by apply Array.ext';simpa using ht
 subst hc ha' ht'
 have hx:=h.ev x
 have hy:=h.ev y
 have fin:∀z w',(Builtin.append_ #[T,X] 0 #[a.eval x,a.eval y]).run P w= .ok z w'→(∃g' β',Inv C g' β' s' (a.put o.dst z) w')→fy P o a w (gH C s'):=by
  intro z w' h1 h2
  refine .inl ⟨z,w',ns ho (f:=Builtin.append_ #[T,X] 0 #[a.eval x,a.eval y]) (fun ty cs xs hxs=> ?_) h1,h2⟩
  subst hxs
  have e1:Builtin.append_ #[T,X] 0 #[a.eval x,a.eval y]=Builtin.append_ #[T,X] ty #[a.eval x,a.eval y]:=rfl
  rw[e1]
  simp[builtin]
 unfold mm at he
 split at he
 ·rename_i e t b q hel hd
  obtain⟨hT,hz,i,zv,hi,his,hib,hzv,hzr⟩:=jO hel
  obtain⟨m,hm,he⟩:=al.1 he
  obtain⟨hX,news,hch,hlen,hfc⟩:=tw h hy hm
  have hnl:=hch.length (fun _ _ hx=>du.size hx)
  have h1news:∀u∈news,u.oneCell'=true:=bp.all (fun _ _ hx=>hx.one) hch
  rw[←his]at hfc
  have hzc:zv.cells.size=t.size:=by have:=(hzr (s.env w g β)).size;simpa using this
  have hzcc:∀n,(Builtin.zeroCells zv.cells n).size=n*t.size:=fun n=>by rw[mZ,hzc]
  have grow:∀(ad:Option Addr) (sLen sCap:Nat) (dd:List Value) (l0:List t.den),a.eval x= .slice ad sLen sCap→dd.length=sLen*t.size→l0.length=sLen→bp (du (s.env w g β) t) dd l0→
    (Builtin.firstCells i.size sLen (.slice ad sLen sCap)).run P w.drew= .ok dd.toArray w.drew→sCap < sLen+m.length→dK (sLen+m.length) b=true→
    ∃(cur:Array Value) (cap:Nat),(Builtin.append_ #[T,X] 0 #[a.eval x,a.eval y]).run P w= .ok (.slice (some ⟨w.heap.size,0,none⟩) (sLen+m.length) cap) (w.drew.alloc (.cells cur e))∧
     cur.size=cap*t.size∧sLen+m.length≤cap∧cap≤maxLen∧cur.toList.take ((sLen+m.length)*t.size)=dd++news:=by
   intro ad sLen sCap dd l0 hxv hlo hl0 hco hfo hroom hra
   simp only[dK,decide_eq_true_eq]at hra
   have hr:=sX (P:=P) (w:=w) (ty:=0) hT hX hi hzv hfo hlen (hfc w.drew rfl) hroom (by omega) (by rw[hib];exact hra.1)
   rw[hxv]
   refine⟨_,_,hr,?_,grownCap_ge _ _ _ _,grownCap_le_maxLen _ _ _ _ (by unfold maxLen;omega),?_⟩
   ·have hge:=grownCap_ge w (sLen+m.length) sCap e
    simp only[Array.size_append,List.size_toArray,hzcc,hlo,hnl,←Nat.add_mul]
    congr 1
    omega
   ·have hl2:(dd++news).length=(sLen+m.length)*t.size:=by rw[List.length_append,hlo,hnl,Nat.add_mul]
    simp only[Array.toList_append]
    rw[←hl2]
    exact List.take_left
  split at he
  ·rename_i hxn
   rw[hxn]at hx
   have hxv:=il hx
   cases dt with
   |true=>
    simp only at he
    obtain⟨hra,he⟩:=bT.1 he
    obtain rfl:=ao.1 he
    simp only[Bool.and_eq_true,decide_eq_true_eq]at hra
    obtain⟨hra,hm0⟩:=hra
    obtain⟨cur,cap,hr,q1,q2,q3,q4⟩:=grow none 0 0 [] [] hxv (by simp) rfl rfl rfl (by omega) (by simpa using hra)
    simp only[Nat.zero_add,List.nil_append]at hr q2 q4
    have hch1:bp (du (s.env w.drew g β) t) news m:=hch.mono fun _ _ hx=>hx.mono (cW.same (s:=s) (β:=β) (Trans.drew w g)).mem
    refine fin _ _ hr ⟨jH g w.heap.size .free,β,(h.drew.pL (.cells cur e)).put o.dst ⟨[.slice (some ⟨w.heap.size,0,none⟩) m.length cap],?_,rfl⟩⟩
    simp only[V,du]
    refine⟨fun h0=>(by cases h0),fun m' hm'=> ?_⟩
    obtain rfl:m=m':=Option.some.inj hm'
    refine⟨_,cap,cur.toList.take (m.length*t.size),rfl,q2,fun _=>rfl,fun j v hj=>⟨_,_,rfl,?_,?_⟩,?_⟩
    ·show(w.drew.alloc (.cells cur e)).cell? ⟨w.drew.heap.size,0+j,none⟩=some v
     rw[World.cell?_alloc_new,Nat.zero_add]
     rw[List.getElem?_take]at hj
     split at hj
     ·simpa using hj
     ·cases hj
    ·show lN (jH g w.heap.size .free) w.heap.size (0+j)
     unfold lN;rw[fD];trivial
    ·rw[q4]
     exact hch1.mono fun _ _ hx=>hx.mono (Trans.mem (E:=s.env w.drew g β) (E':=s.env (w.drew.alloc (.cells cur e)) (jH g w.drew.heap.size .free) β) (Trans.alloc w.drew g (.cells cur e) .free))
   |false=>
   simp only at he
   obtain⟨hq,he⟩:=aA.1 he
   obtain⟨hra,he⟩:=bT.1 he
   obtain rfl:=ao.1 he
   by_cases hm0:m.length=0
   ·have hmn:m=[]:=List.eq_nil_of_length_eq_zero hm0
    subst hmn
    have hnn:news=[]:=List.eq_nil_of_length_eq_zero (by rw[hnl];simp)
    subst hnn
    obtain⟨β',i1,e1,v1⟩:=h.Et hq (e:=e) hz
    refine fin (.slice none 0 0) w ?_ ⟨g,β',?_⟩
    ·rw[hxv]
     exact oL (P:=P) hT hX hi hlen (hfc w rfl)
    ·exact i1.put o.dst v1
   ·obtain⟨cur,cap,hr,q1,q2,q3,q4⟩:=grow none 0 0 [] [] hxv (by simp) rfl rfl rfl (by omega) (by simpa using hra)
    simp only[Nat.zero_add,List.nil_append]at hr q2 q4
    obtain⟨g2,β2,i2,v2⟩:=(h.drew).xZ hq (e:=e) (l:=m) (cur:=cur) (cap:=cap) hz (by rw[q4];exact hch.mono fun _ _ hx=>hx.mono (cW.same (s:=s) (β:=β) (Trans.drew w g)).mem) q1 q2 q3
    refine fin _ _ hr ⟨g2,β2,?_⟩
    exact i2.put o.dst v2
  ·rename_i id ver len hxs
   rw[hxs]at hx
   obtain⟨ad,cap,hxv,hlc,hsome,hbnd,hcur⟩:=jU hx
   split at he
   ·rename_i v fr e' t' l hob
    obtain⟨h1,he1⟩:=aA.1 he
    clear he
    simp only[Bool.and_eq_true,beq_iff_eq]at h1
    obtain⟨hve,hee⟩:=h1
    subst hve hee
    obtain⟨l',hl',he2⟩:=al.1 he1
    obtain⟨et,hl'⟩:=gU (gZ.1 hl')
    have et':t'=t:=by simpa using et
    subst et'
    simp only at hl'
    subst hl'
    obtain⟨hll0,he2b⟩:=bT.1 he2
    have hll0:len≤l.length:=by simpa using hll0
    obtain⟨hfl,he3⟩:=bT.1 he2b
    obtain⟨hra,he4⟩:=bT.1 he3
    obtain rfl:=ao.1 he4
    clear he1 he2 he2b he3 he4
    have hent:=ez hob
    have hcur:=hcur ⟨fr,_,hent⟩
    obtain⟨_,hO⟩:=h.bZ id v fr _ hent
    have hO':(match β id with
     |none=>l=[]
     |some pl=>∃cur k,w.heap[pl.b]? =some (.cells cur e (0,0))∧cur.size=pl.cap*t'.size∧l.length≤pl.cap∧pl.cap≤maxLen∧g pl.b= .own (.id id) k∧
       k≤l.length*t'.size∧(fr=false→k=0)∧bp (du (s.env w g β) t') (cur.toList.take (l.length*t'.size)) l):=hO
    have hcur':(match β id with
     |some pl=>(0 < len∨0=0→ad=some ⟨pl.b,0,none⟩)∧(([]:List qo)=[]→0=0→cap=pl.cap)
     |none=>ad=none∧len=0∧cap=0):=hcur
    have hfr:fr=false∨len=l.length:=by
     simp only[Bool.or_eq_true,Bool.not_eq_true',decide_eq_true_eq]at hfl
     exact hfl
    have hne:s.cl id≠none:=by rw[hent];simp
    have fresh:∀(cur:Array Value) (cp:Nat) (g0:Nat→jt),Trans w (w.drew.alloc (.cells cur e)) g (jH g0 w.heap.size (.own (.id (id)) 0))→
      (∀i ver fr c pl,i≠id→s.cl i=some (.obj ver fr c)→β i=some pl→g0 pl.b=g pl.b)→cur.size=cp*t'.size→len+m.length≤cp→cp≤maxLen→
      bp (du (s.env w g β) t') (cur.toList.take ((len+m.length)*t'.size)) (l.take len++m)→len≤l.length→
      ∃g' β',Inv C g' β' ((s.bf id (.obj (v+1) fr (.vec e t' (l.take len++m)))).put o.dst (.cT id (v+1) [] 0 0 (len+m.length))) (a.put o.dst (.slice (some ⟨w.heap.size,0,none⟩) (len+m.length) cp)) (w.drew.alloc (.cells cur e)):=by
     intro cur cp g0 ht hg0 q1 q2 q3 q4 q5
     have hll:(l.take len++m).length=len+m.length:=by simp;omega
     have hle:cW (s.env w g β) ((s.bf id (.obj (v+1) fr (.vec e t' (l.take len++m)))).env (w.drew.alloc (.cells cur e)) (jH g0 w.heap.size (.own (.id id) 0)) (qh β id (some ⟨w.heap.size,cp⟩))):=
      cW.bf hent (by omega) ht (fun i hi=>mW _ _ _ hi) (fun hh=>by omega)
     have i1:=h.step (dC _ _ _) ht hle (hP.bf (hlk:=jv hent fun k v1 l e=>by cases e) h.bZ hne hle (fun i hi=>mW _ _ _ hi) (fun i ver fr' c' pl hi hs2 hp2=>by
       have hlt:pl.b < w.heap.size:=((h.bZ i ver fr' c' hs2).label (pl:=pl) hp2).1
       exact⟨lH w.drew _ hlt,by rw[fA _ _ _ (by omega)];exact hg0 i ver fr' c' pl hi hs2 hp2⟩) (by
      refine⟨hz,?_⟩
      show(match qh β id (some ⟨w.heap.size,cp⟩) id with
       |none=>(l.take len++m)=[]
       |some pl=>_)
      rw[ix]
      refine⟨cur,0,mD w.drew _,q1,by rw[hll];exact q2,q3,fD _ _ _,Nat.zero_le _,fun _=>rfl,?_⟩
      rw[hll]
      exact q4.mono fun _ _ hx=>hx.mono hle.mem))
     refine⟨_,_,i1.put o.dst ⟨_,?_,rfl⟩⟩
     simp only[V]
     have hself:=eH s id (.obj (v+1) fr (.vec e t' (l.take len++m))) hne
     refine⟨_,_,rfl,q2,fun _=>rfl,⟨by show(s.bf id _).cl id≠none;rw[hself];simp,fun v' fr' c' hh=> ?_⟩,fun _=> ?_⟩
     ·have hh':(s.bf id (.obj (v+1) fr (.vec e t' (l.take len++m)))).cl id=some (.obj v' fr' c'):=hh
      rw[hself]at hh'
      simp only[Option.some.injEq,eL.obj.injEq]at hh'
      omega
     ·show(match qh β id (some ⟨w.heap.size,cp⟩) id with
       |some pl=>_
       |none=>_)
      rw[ix]
      exact⟨fun _=>rfl,fun _ _=>rfl⟩
    cases hp:β id with
    |none=>
     rw[hp]at hO' hcur'
     simp only at hO' hcur'
     obtain⟨rfl,rfl,rfl⟩:=hcur'
     subst hO'
     by_cases hm0:m.length=0
     ·have hmn:m=[]:=List.eq_nil_of_length_eq_zero hm0
      subst hmn
      have hnn:news=[]:=List.eq_nil_of_length_eq_zero (by rw[hnl];simp)
      subst hnn
      have ht:=Trans.refl w g
      have hle:cW (s.env w g β) ((s.bf id (.obj (v+1) fr (.vec e t' []))).env w g β):=cW.bf hent (by omega) ht (fun _ _=>rfl) (fun _=>rfl)
      have i1:=h.step (dC _ _ _) ht hle (hP.bf (hlk:=jv hent fun k v1 l e=>by cases e) h.bZ hne hle (fun _ _=>rfl) (fun _ _ _ _ _ _ _ _=>⟨rfl,rfl⟩) (by
       refine⟨hz,?_⟩
       show(match β id with
        |none=>([]:List t'.den)=[]
        |some pl=>_)
       rw[hp]))
      refine fin (.slice none 0 0) w ?_ ⟨g,β,i1.put o.dst ⟨_,?_,rfl⟩⟩
      ·rw[hxv]
       exact oL (P:=P) hT hX hi hlen (hfc w rfl)
      ·simp only[V]
       have hself:=eH s id (.obj (v+1) fr (.vec e t' [])) hne
       refine⟨_,_,rfl,Nat.le_refl _,fun hh=>by simp at hh,⟨by show(s.bf id _).cl id≠none;rw[hself];simp,fun v' fr' c' hh=> ?_⟩,fun _=> ?_⟩
       ·have hh':(s.bf id (.obj (v+1) fr (.vec e t' []))).cl id=some (.obj v' fr' c'):=hh
        rw[hself]at hh'
        simp only[Option.some.injEq,eL.obj.injEq]at hh'
        omega
       ·show(match β id with
         |some pl=>_
         |none=>_)
        rw[hp]
        exact⟨rfl,by simp,rfl⟩
     ·obtain⟨cur,cp,hr,q1,q2,q3,q4⟩:=grow none 0 0 [] [] hxv (by simp) rfl rfl rfl (by omega) hra
      refine fin _ _ hr (fresh cur cp g (Trans.trans (Trans.drew w g) (Trans.alloc w.drew g _ _)) (fun _ _ _ _ _ _ _ _=>rfl) q1 q2 q3 ?_ (by simp))
      rw[q4]
      simpa using hch
    |some pl=>
     rw[hp]at hO' hcur'
     simp only at hO' hcur'
     obtain⟨had,hcap⟩:=hcur'
     have had:=had (.inr trivial)
     have hcap:=hcap trivial trivial
     subst had hcap
     obtain⟨cur,k,p1,p2,p3,p4,p5,p6,p7,p8⟩:=hO'
     have hk:k≤len*t'.size:=by
      rcases hfr with hf | hf
      ·rw[p7 hf];exact Nat.zero_le _
      ·rw[hf];exact p6
     have hmul:len*t'.size≤l.length*t'.size:=Nat.mul_le_mul_right _ hll0
     have hmulc:l.length*t'.size≤cur.size:=by rw[p2];exact Nat.mul_le_mul_right _ p3
     have htk:=bp.take (fun _ _ hx=>du.size hx) len p8
     rw[List.take_take,Nat.min_eq_left hmul]at htk
     have hlo:(cur.toList.take (len*t'.size)).length=len*t'.size:=by simp;omega
     by_cases hroom:len+m.length≤pl.cap
     ·have hrm:(len+m.length)*t'.size≤cur.size:=by rw[p2];exact Nat.mul_le_mul_right _ hroom
      have hfit:len*i.size+news.length≤cur.size:=by rw[his,hnl,←Nat.add_mul];exact hrm
      have hr:=sY (P:=P) (w:=w) (ty:=0) hT hX hi p1 h1news hlen (hfc w rfl) hroom hfit
      rw[his]at hr hfit
      have ht:Trans w (w.setRow pl.b (dF cur.toList (len*t'.size) news).toArray) g g:=by
       refine⟨by simp,by simp,by simp,by simp,fun b' hb=> ?_⟩
       by_cases hbe:b'=pl.b
       ·subst hbe
        rw[p5]
        refine⟨.inr ⟨id,k,rfl,Nat.le_refl _⟩,fun off u hoff hu=> ?_⟩
        rw[cell_of_row w pl.b off cur e (0,0) p1]at hu
        rw[cell_setRow_same w pl.b off cur _ e (0,0) p1]
        simp only[dF,List.append_assoc,List.getElem?_toArray]
        rw[List.getElem?_append_left (by rw[hlo];omega),List.getElem?_take,if_pos (by omega)]
        simpa using hu
       ·rw[setRow_other w pl.b b' _ hbe]
        cases hgb:g b' with
        |free=>exact⟨rfl,rfl⟩
        |own o' k=>cases o' with
         |fu=>exact⟨rfl,rfl⟩
         |id i'=>exact⟨.inr ⟨i',k,rfl,Nat.le_refl _⟩,fun off v _ hv=>by rw[cell_setRow_other w pl.b _ _ hbe];exact hv⟩
      have hle:cW (s.env w g β) ((s.bf id (.obj (v+1) fr (.vec e t' (l.take len++m)))).env (w.setRow pl.b (dF cur.toList (len*t'.size) news).toArray) g β):=
       cW.bf hent (by omega) ht (fun _ _=>rfl) (fun _=>rfl)
      have hll:(l.take len++m).length=len+m.length:=by simp;omega
      have hspl:(dF cur.toList (len*t'.size) news).length=cur.toList.length:=gW (by simpa using hfit)
      have i1:=h.step (dC _ _ _) ht hle (hP.bf (hlk:=jv hent fun k v1 l e=>by cases e) h.bZ hne hle (fun _ _=>rfl) (fun i ver fr c pl2 hi hs2 hp2=>⟨setRow_other w pl.b pl2.b _ (h.apart p5 hi hs2 hp2),rfl⟩) (by
       refine⟨hz,?_⟩
       show(match β id with
        |none=>(l.take len++m)=[]
        |some pl=>_)
       rw[hp]
       refine⟨_,k,setRow_heap w pl.b cur _ e (0,0) p1,by rw[List.size_toArray,hspl];simpa using p2,by rw[hll];exact hroom,p4,p5,?_,p7,?_⟩
       ·rw[hll,Nat.add_mul];omega
       ·rw[hll,show(dF cur.toList (len*t'.size) news).toArray.toList=dF cur.toList (len*t'.size) news from rfl]
        have e1:(dF cur.toList (len*t'.size) news).take ((len+m.length)*t'.size)=cur.toList.take (len*t'.size)++news:=by
         unfold dF
         have hl2:(cur.toList.take (len*t'.size)++news).length=(len+m.length)*t'.size:=by rw[List.length_append,hlo,hnl,Nat.add_mul]
         rw[←hl2]
         exact List.take_left
        rw[e1]
        exact(bp.append htk hch).mono fun _ _ hx=>hx.mono hle.mem))
      rw[←hxv]at hr
      refine fin _ _ hr ⟨g,β,i1.put o.dst ⟨_,?_,rfl⟩⟩
      simp only[V]
      have hself:=eH s id (.obj (v+1) fr (.vec e t' (l.take len++m))) hne
      refine⟨_,_,rfl,hroom,fun _=>rfl,⟨by show(s.bf id _).cl id≠none;rw[hself];simp,fun v' fr' c' hh=> ?_⟩,fun _=> ?_⟩
      ·have hh':(s.bf id (.obj (v+1) fr (.vec e t' (l.take len++m)))).cl id=some (.obj v' fr' c'):=hh
       rw[hself]at hh'
       simp only[Option.some.injEq,eL.obj.injEq]at hh'
       omega
      ·show(match β id with
        |some pl=>_
        |none=>_)
       rw[hp]
       exact⟨fun _=>rfl,fun _ _=>rfl⟩
     ·have hfo:(Builtin.firstCells i.size len (.slice (some ⟨pl.b,0,none⟩) len pl.cap)).run P w.drew= .ok (cur.toList.take (len*t'.size)).toArray w.drew:=by
       refine run_firstCells_some (P:=P) w.drew i.size _ _ _ _ _ (by rw[hlo,his]) (fun j u hj=> ?_)
       rw[Addr.add_lit,Nat.zero_add]
       show w.cell? ⟨pl.b,j,none⟩=some u
       rw[cell_of_row w pl.b j cur e (0,0) p1]
       rw[List.getElem?_take]at hj
       split at hj
       ·simpa using hj
       ·cases hj
      obtain⟨cur2,cp,hr,q1,q2,q3,q4⟩:=grow (some ⟨pl.b,0,none⟩) len pl.cap (cur.toList.take (len*t'.size)) (l.take len) hxv hlo (by simp;omega) htk hfo (by omega) hra
      have hlt:pl.b < w.heap.size:=(Array.getElem?_eq_some_iff.1 p1).1
      have hfree:Trans w w.drew g (jH g pl.b .free):=by
       refine⟨rfl,rfl,⟨rfl,Nat.le_succ _⟩,Nat.le_refl _,fun b' hb=> ?_⟩
       by_cases hbe:b'=pl.b
       ·subst hbe
        rw[p5,fD]
        exact⟨.inl rfl,fun _ _ _ hh=>hh⟩
       ·rw[fA _ _ _ hbe]
        exact(Trans.drew w g).Cy b' hb
      refine fin _ _ hr (fresh cur2 cp (jH g pl.b .free) (Trans.trans hfree (Trans.alloc w.drew _ _ _)) (fun i ver fr c pl2 hi hs2 hp2=>fA _ _ _ (h.apart p5 hi hs2 hp2)) q1 q2 q3 ?_ hll0)
      rw[q4]
      exact bp.append htk hch
   ·simp only[ai]at he
  ·simp only[ai]at he
 ·simp only[ai]at he
end
end Go.Ab
namespace Go.Ab
abbrev Ap:=Id→Nat→Option (Id×Nat)
structure oG(ρ:Ap)(E E':Env):Prop where
 mem:lG E E'
 ref:∀id ver r,ρ id ver=some r→E.pZ id ver→E'.pZ r.1 r.2∧(E'.cur r.1 r.2→E.cur id ver∧E'.β r.1=E.β id)
theorem Ce(ρ:Ap)(a:az):(a.ir ρ).agg=a.agg:=by
 cases a with
 |ptr id v p n=>simp only[az.ir];cases ρ id v <;> rfl
 |cT id v p c i l=>simp only[az.ir];cases ρ id v <;> rfl
 |kL id v=>simp only[az.ir];cases ρ id v <;> rfl
 |_=>rfl
mutual
theorem yC{ρ:Ap}{E E':Env}(h:oG ρ E E'):∀ {a:az} {cs:List Value},V E a cs→V E' (a.ir ρ) cs
 | .undef,_,hv=>by simp only[V]at hv
 | .gone,_,hv=>by simpa only[az.ir,V]using hv
 | .dP,_,hv=>by simpa only[az.ir,V]using hv
 | .lk,_,hv=>by simpa only[az.ir,V]using hv
 | .l6,_,hv=>by simpa only[az.ir,V]using hv
 | .nU,_,hv=>by simpa only[az.ir,V]using hv
 | .sb l,_,hv=>by
  simp only[az.ir,V]at hv ⊢
  obtain⟨b,cap,arr,e,h1,h2,h3,h4,h5⟩:=hv
  obtain⟨h6,h7⟩:=h.mem.fz b _ h3 h4
  exact⟨b,cap,arr,e,h1,h2,h6,h7,h5⟩
 | .d t x,_,hv=>by simp only[az.ir,V]at hv ⊢;exact hv.mono h.mem
 | .pr a b,_,hv=>by
  simp only[az.ir,V]at hv ⊢
  obtain⟨ca,cb,e,ha,hb⟩:=hv
  exact⟨ca,cb,e,yC h ha,yC h hb⟩
 | .ptr id ver p n,_,hv=>by
  have h1:=hv.one
  simp only[az.ir]
  cases hr:ρ id ver with
  |none=>
   simp only[V]at hv ⊢
   obtain⟨a,e,_⟩:=hv
   exact⟨_,e,h1 _ (by simp[e])⟩
  |some r=>
   simp only[V]at hv ⊢
   obtain⟨a,e,hb,hc⟩:=hv
   obtain⟨b1,b2⟩:=h.ref id ver r hr hb
   refine⟨a,e,b1,fun c=> ?_⟩
   obtain⟨c1,e1⟩:=b2 c
   rw[e1];exact hc c1
 | .eI t x,_,hv=>by
  simp only[az.ir,V]at hv ⊢
  obtain⟨b,off,vs,e,hr,hx⟩:=hv
  exact⟨b,off,vs,e,hr.mono h.mem,hx.mono h.mem⟩
 | .cT id ver p c i len,_,hv=>by
  have h1:=hv.one
  simp only[az.ir]
  cases hr:ρ id ver with
  |none=>
   simp only[V]at hv ⊢
   obtain⟨a,cap,e,_⟩:=hv
   exact⟨_,e,h1 _ (by simp[e])⟩
  |some r=>
   simp only[V]at hv ⊢
   obtain⟨a,cap,e,hl,hs,hb,hc⟩:=hv
   obtain⟨b1,b2⟩:=h.ref id ver r hr hb
   refine⟨a,cap,e,hl,hs,b1,fun c=> ?_⟩
   obtain⟨c1,e1⟩:=b2 c
   rw[e1];exact hc c1
 | .fn f c,_,hv=>by
  simp only[az.ir,V]at hv ⊢
  obtain⟨vs,e,hc⟩:=hv
  exact⟨vs,e,Ar h hc⟩
 | .cons _ _,_,hv=>by simp only[V]at hv
 | .nil,_,hv=>by simp only[V]at hv
 | .vec ..,_,hv=>by simp only[V]at hv
 | .bx ..,_,hv=>by simp only[V]at hv
 | .kL id ver,_,hv=>by
  have h1:=hv.one
  simp only[az.ir]
  cases hr:ρ id ver with
  |none=>
   simp only[V]at hv ⊢
   obtain⟨b,e,_⟩:=hv
   exact⟨_,e,h1 _ (by simp[e])⟩
  |some r=>
   simp only[V]at hv ⊢
   obtain⟨b,e,hb,hc⟩:=hv
   obtain⟨b1,b2⟩:=h.ref id ver r hr hb
   refine⟨b,e,b1,fun c=> ?_⟩
   obtain⟨c1,e1⟩:=b2 c
   rw[e1];exact hc c1
 | .mp ..,_,hv | .kF ..,_,hv=>by simp only[V]at hv
theorem Ar{ρ:Ap}{E E':Env}(h:oG ρ E E'):∀ {a:az} {vs:List Value},VC E a vs→VC E' (a.ir ρ) vs
 | .nil,_,hv=>by simpa only[az.ir,VC]using hv
 | .cons a b,_,hv=>by
  simp only[az.ir,VC]at hv ⊢
  obtain⟨v,vs',cs,e,ha,ho,hb⟩:=hv
  exact⟨v,vs',cs,e,yC h ha,by rw[Ce];exact ho,Ar h hb⟩
 | .undef,_,hv=>by simp only[VC]at hv
 | .gone,_,hv=>by simp only[VC]at hv
 | .dP,_,hv=>by simp only[VC]at hv
 | .lk,_,hv=>by simp only[VC]at hv
 | .l6,_,hv=>by simp only[VC]at hv
 | .nU,_,hv=>by simp only[VC]at hv
 | .sb _,_,hv=>by simp only[VC]at hv
 | .d t x,_,hv=>by simp only[VC]at hv
 | .pr a b,_,hv=>by simp only[VC]at hv
 | .ptr ..,_,hv=>by simp only[VC]at hv
 | .eI ..,_,hv=>by simp only[VC]at hv
 | .cT ..,_,hv=>by simp only[VC]at hv
 | .fn ..,_,hv=>by simp only[VC]at hv
 | .vec ..,_,hv=>by simp only[VC]at hv
 | .bx ..,_,hv=>by simp only[VC]at hv
 | .kL ..,_,hv=>by simp only[VC]at hv
 | .mp ..,_,hv | .kF ..,_,hv=>by simp only[VC]at hv
end
theorem uk{ρ:Ap}{E E':Env}(h:oG ρ E E'){a:az}{v:Value}(hv:VS E a v):VS E' (a.ir ρ) v:=by
 by_cases hc:a.fa=true
 ·obtain⟨cs,h1,h2⟩:=hv.fa hc
  exact VS.of (yC h h1) (by rw[Ce];exact h2)
 ·cases a <;> first | (exact absurd rfl hc) | skip
  ·trivial
  ·obtain⟨vs,e,hvc⟩:=hv
   have:=Ar h hvc
   simp only[az.ir]at this ⊢
   exact⟨vs,e,this⟩
  ·exact hv
  ·obtain⟨cs,h1,_⟩:=hv
   simp only[V]at h1
  ·obtain⟨cs,h1,_⟩:=hv
   simp only[V]at h1
  ·obtain⟨cs,h1,_⟩:=hv
   simp only[V]at h1
  ·obtain⟨cs,h1,_⟩:=hv
   simp only[V]at h1
theorem Dd(ρ:Ap)(c:az):(c.ir ρ).strip=c.strip.ir ρ:=by
 cases c <;> first
  |rfl
  | (rename_i id ver p n;simp only[az.strip,az.ir];cases ρ id ver <;> rfl)
  | (rename_i id ver p c i len;simp only[az.strip,az.ir];cases ρ id ver <;> rfl)
  | (rename_i i v;simp only[az.strip,az.ir];cases ρ i v <;> rfl)
theorem rU(ρ:Ap):∀c:az,(c.ir ρ).size=c.size
 | .pr a b=>by simp only[az.ir,az.size,rU ρ a,rU ρ b]
 | .ptr id ver p n=>by simp only[az.ir];cases ρ id ver <;> rfl
 | .cT id ver p c i len=>by simp only[az.ir];cases ρ id ver <;> rfl
 | .kL id ver=>by simp only[az.ir];cases ρ id ver <;> rfl
 | .undef | .gone | .dP | .lk | .l6 | .nU | .d _ _ | .eI _ _ | .fn _ _ | .cons _ _ | .nil | .vec .. | .sb _ | .bx .. | .mp .. | .kF .. =>rfl
theorem DI(ρ:Ap){c:az}(n:Nat):(c.ir ρ).l5 n=c.l5 n:=by
 cases c with
 |bx e z c=>cases z with
  |zero=>rfl
  |succ z=>exact rU ρ c
 |_=>first | rfl | (simp only[az.ir];split <;> rfl)
theorem CA(ρ:Ap){c:az}{pl:Pl}{n:Nat}{e:TypeId}(h:c.o6 pl n e):(c.ir ρ).o6 pl n e:=by
  cases c <;> first
    | (rename_i e' z c;cases z with
       |zero=>exact h
       |succ z=>exact⟨h.1,h.2.1,h.2.2.1,by rw[rU];exact h.2.2.2⟩)
    |exact h
    |trivial
    | (rename_i id ver p n;simp only[az.ir];cases ρ id ver <;> trivial)
    | (rename_i id ver p c i len;simp only[az.ir];cases ρ id ver <;> trivial)
    | (rename_i i v;simp only[az.ir];cases ρ i v <;> trivial)
theorem nL{ρ:Ap}{E E':Env}(h:oG ρ E E'){id id':Id}{fr:Bool}{c:az}(ho:lZ E id fr c)(hβ:E'.β id'=E.β id)
  (hb:∀pl,E.β id=some pl→E'.w.heap[pl.b]? =E.w.heap[pl.b]? ∧(∀k,E.g pl.b= .own (.id id) k→E'.g pl.b= .own (.id id') k)∧(E.g pl.b= .free→E'.g pl.b= .free)):lZ E' id' fr (c.ir ρ):=by
 by_cases hn:c.gA=false
 ·obtain⟨pl,cur,e,h1,h2,h3,h5,h4⟩:=ho.box hn
  obtain⟨b1,b2,b3⟩:=hb pl h1
  have h6:=yC h h4
  refine si.obj ⟨pl,cur,e,by rw[hβ,h1],by rw[b1,h2],?_,CA ρ h5,by rw[Dd,DI];exact h6⟩
  cases fr with
  |true=>exact b3 h3
  |false=>exact b2 0 h3
 ·cases c <;> first
   | (exact absurd rfl hn)
   |skip
  rotate_left
  rotate_left
  ·obtain⟨pl,mb,since,seen,c0,h1,h2,h3,_⟩:=ho
   obtain⟨b1,b2,_⟩:=hb pl h1
   exact⟨pl,mb,since,seen,c0,by rw[hβ,h1],by rw[b1,h2],b2 0 h3,fun vr hvr=>by cases hvr⟩
  rotate_left
  ·obtain⟨pl,es,clock,h1,h2,h3,h4⟩:=ho
   obtain⟨b1,b2,_⟩:=hb pl h1
   exact⟨pl,es,clock,by rw[hβ,h1],by rw[b1,h2],b2 0 h3,⟨h4.1.1.mono h.mem,h4.1.2⟩,h4.2⟩
  rename_i e t l
  obtain⟨hz,ho⟩:=ho
  refine⟨hz,?_⟩
  rw[hβ]
  cases hp:E.β id with
  |none=>rw[hp]at ho;exact ho
  |some pl=>
   rw[hp]at ho
   simp only at ho ⊢
   obtain⟨b1,b2,_⟩:=hb pl hp
   obtain⟨cur,k,h1,h2,h3,h4,h5,h6,h7,h8⟩:=ho
   exact⟨cur,k,by rw[b1,h1],h2,h3,h4,b2 k h5,h6,h7,h8.mono fun c x hx=>hx.mono h.mem⟩
def qR(E:Env):List az→List Value→Prop
 |[],[]=>True
 |a::as,v::vs=>VS E a v∧qR E as vs
 |_,_=>False
def aT.st(G:aT):AS:= {cS:=[],dd:=G.dd,news:=[G.news]}
def jD(dd:List eL):AS:= {cS:=[],dd,news:=[]}
def oT(E:Env)(G:aT)(v:Value)(w':World):Prop:=
 ∃g' β',VS (G.st.env w' g' β') G.val v∧hP (G.st.env w' g' β')∧Trans E.w w' E.g g'∧cW E (G.st.env w' g' β')
def lY(P:Program)(f:FuncId)(en:Entry):Prop:=
 ∀w g β args dd iL x,qR ((jD dd).env w g β) args iL→hP ((jD dd).env w g β)→en.run args dd=some x→
  ((callFunc f iL.toArray).run P w= .ok (.enter f iL.toArray) w∧
   Calls P f iL.toArray w fun e w'=>∃v,e= .returned v∧oT ((jD dd).env w g β) (en.out args dd x) v w')∨
  (∃v w',(callFunc f iL.toArray).run P w= .ok (.value v) w'∧oT ((jD dd).env w g β) (en.out args dd x) v w')
def Sound(P:Program)(Γ:dX):Prop:=∀f vs en,Γ f vs=some en→lY P f en
theorem qR.mono{E E':Env}(h:cW E E'):∀ {as:List az} {vs:List Value},qR E as vs→qR E' as vs
 |[],[],_=>trivial
 |_::_,_::_,⟨h1,h2⟩=>⟨h1.mono h,qR.mono h h2⟩
theorem qR.ir{ρ:Ap}{E E':Env}(h:oG ρ E E'):∀ {as:List az} {vs:List Value},qR E as vs→qR E' (as.map (az.ir ρ)) vs
 |[],[],_=>trivial
 |_::_,_::_,⟨h1,h2⟩=>⟨uk h h1,qR.ir h h2⟩
theorem qR.append{E:Env}:∀ {as:List az} {vs:List Value} {bs:List az} {us:List Value},qR E as vs→qR E bs us→qR E (as++bs) (vs++us)
 |[],[],_,_,_,h=>h
 |_::_,_::_,_,_,⟨h1,h2⟩,h=>⟨h1,qR.append h2 h⟩
theorem DA{E:Env}:∀ {c:az} {vs:List Value},VC E c vs→qR E c.list vs
 | .cons a b,vs,h=>by
  simp only[VC]at h
  obtain⟨v,vs',cs,rfl,ha,ho,hb⟩:=h
  exact⟨VS.of ha ho,DA hb⟩
 | .nil,vs,h=>by
  simp only[VC]at h
  subst h
  trivial
 | .undef,_,hv=>by simp only[VC]at hv
 | .gone,_,hv=>by simp only[VC]at hv
 | .dP,_,hv=>by simp only[VC]at hv
 | .lk,_,hv=>by simp only[VC]at hv
 | .l6,_,hv=>by simp only[VC]at hv
 | .nU,_,hv=>by simp only[VC]at hv
 | .sb _,_,hv=>by simp only[VC]at hv
 | .d t x,_,hv=>by simp only[VC]at hv
 | .pr a b,_,hv=>by simp only[VC]at hv
 | .ptr ..,_,hv=>by simp only[VC]at hv
 | .eI ..,_,hv=>by simp only[VC]at hv
 | .cT ..,_,hv=>by simp only[VC]at hv
 | .fn ..,_,hv=>by simp only[VC]at hv
 | .vec ..,_,hv=>by simp only[VC]at hv
 | .bx ..,_,hv=>by simp only[VC]at hv
 | .kL ..,_,hv=>by simp only[VC]at hv
 | .mp ..,_,hv | .kF ..,_,hv=>by simp only[VC]at hv
theorem Inv.Jn{C:Ctx}{g:Nat→jt}{β:Id→Option Pl}{s:AS}{a:Act}{w:World}(h:Inv C g β s a w):∀l:List Operand,qR (s.env w g β) (l.map s.ev) (l.map a.eval)
 |[]=>trivial
 |x::l=>⟨h.ev x,h.Jn l⟩
theorem uA{E E':Env}{s:AS}(hs:E.s=s.cl)(ho:hP E)(he:cW E E'):∀(ps:List (Option Ty)) (vs:List az) (ys:List Value) (r:List az×List Id),qR E vs ys→(s.conv ps vs).eval=some r→HT E E' r.2→qR E' r.1 ys
 |[],[],ys,r,hv,h,_=>by
  simp only[AS.conv,ao]at h
  subst h
  cases ys with
  |nil=>trivial
  |cons _ _=>exact hv.elim
 |some t::ps,v::vs,y::ys,r,⟨hv,hvs⟩,h,hf=>by
  simp only[AS.conv]at h
  obtain⟨x,h1,h2⟩:=al.1 h
  obtain⟨r',h3,h4⟩:=al.1 h2
  obtain rfl:=ao.1 h4
  obtain⟨cs,hV,hO⟩:=hv.fa (np h1)
  refine⟨VS.of (cs:=cs) ?_ ?_,uA hs ho he ps vs ys r' hvs h3 fun id hid=>hf id (List.mem_append.2 (.inr hid))⟩
  ·simp only[V]
   exact lW hs ho he v t x cs hV h1 fun id hid=>hf id (List.mem_append.2 (.inl hid))
  ·show fP t.agg cs y
   rw[←vM h1];exact hO
 |none::ps,v::vs,y::ys,r,⟨hv,hvs⟩,h,hf=>by
  simp only[AS.conv]at h
  obtain⟨r',h3,h4⟩:=al.1 h
  obtain rfl:=ao.1 h4
  exact⟨hv.mono he,uA hs ho he ps vs ys r' hvs h3 hf⟩
 |[],_::_,_,_,_,h,_=>by simp only[AS.conv,ai]at h
 |some _::_,[],_,_,_,h,_=>by simp only[AS.conv,ai]at h
 |none::_,[],_,_,_,h,_=>by simp only[AS.conv,ai]at h
end Go.Ab
namespace Go.Ab
theorem j7{id:Id}:∀ {ids:List Id} {k:Nat},idxOf id ids=some k→ids[k]? =some id
 |[],_,h=>by simp[idxOf]at h
 |x::xs,k,h=>by
  simp only[idxOf]at h
  split at h
  ·rename_i e
   simp only[Option.some.injEq]at h
   subst h e
   rfl
  ·simp only[Option.map_eq_some_iff]at h
   obtain⟨j,hj,rfl⟩:=h
   simpa using j7 hj
theorem nf{id:Id}:∀ {ids:List Id} {k:Nat},ids.Nodup→ids[k]? =some id→idxOf id ids=some k
 |[],_,_,h=>by simp at h
 |x::xs,0,hn,h=>by
  simp only[List.getElem?_cons_zero,Option.some.injEq]at h
  simp[idxOf,h]
 |x::xs,k+1,hn,h=>by
  simp only[List.getElem?_cons_succ]at h
  obtain⟨h1,h2⟩:=List.nodup_cons.1 hn
  have hne:x≠id:=fun e=>h1 (e▸List.mem_of_getElem? h)
  simp[idxOf,hne,nf h2 h]
theorem nH(s0:AS)(all:List Id)(t:Nat):∀(ids:List Id) (es:List eL) (s:AS),(AS.gT s0 all t s ids es).cS=s.cS
 |[],_,_=>by simp[AS.gT]
 |_::_,[],_=>by simp[AS.gT]
 |id::ids,e::es,s=>by rw[AS.gT,nH s0 all t ids es,dC]
theorem vG(s:AS)(ids:List Id)(t:Nat)(es:List eL):(s.made ids t es).cS=s.cS:=by cases es <;> rfl
theorem pa(s0:AS)(all:List Id)(t:Nat):∀(ids:List Id) (es:List eL) (s:AS),ids.Nodup→es.length=ids.length→(∀id∈ids,s.cl id≠none)→
  (∀id,id ∉ ids→(AS.gT s0 all t s ids es).cl id=s.cl id)∧
  ∀(k:Nat) (id:Id) (e:eL),ids[k]? =some id→es[k]? =some e→(AS.gT s0 all t s ids es).cl id=some (s0.jY all t (s0.nq id) e)
 |[],es,s,_,_,_=>⟨fun _ _=>by simp[AS.gT],fun k id e h=>by simp at h⟩
 |_::_,[],s,_,hl,_=>by simp at hl
 |i::ids,e::es,s,hn,hl,hp=>by
  obtain⟨h1,h2⟩:=List.nodup_cons.1 hn
  have hp':∀id∈ids,(s.bf i (s0.jY all t (s0.nq i) e)).cl id≠none:=fun id hid=>by
   rw[cU s i id _ (fun e=>h1 (e▸hid))]
   exact hp id (List.mem_cons_of_mem _ hid)
  obtain⟨r1,r2⟩:=pa s0 all t ids es (s.bf i (s0.jY all t (s0.nq i) e)) h2 (by simpa using hl) hp'
  rw[AS.gT]
  refine⟨fun id hid=> ?_,fun k id e' hk he=> ?_⟩
  ·simp only[List.mem_cons,not_or]at hid
   rw[r1 id hid.2,cU s i id _ hid.1]
  ·cases k with
   |zero=>
    simp only[List.getElem?_cons_zero,Option.some.injEq]at hk he
    subst hk he
    rw[r1 i h1,eH s i _ (hp i (List.mem_cons_self ..))]
   |succ k=>
    simp only[List.getElem?_cons_succ]at hk he
    exact r2 k id e' hk he
theorem yV(s:AS)(ids:List Id)(t:Nat)(es:List eL)(hv:es=[]∨s.ef t=true):
  (∀id,(es=[]∨∀j,id≠ .new t j)→(s.made ids t es).cl id=s.cl id)∧(es≠ []→∀j,(s.made ids t es).cl (.new t j)=(es[j]?).map (s.jY ids t 0)):=by
 cases es with
 |nil=>exact⟨fun _ _=>rfl,fun h=>absurd rfl h⟩
 |cons e es=>
  have hv:s.ef t=true:=by
   rcases hv with h | h
   ·cases h
   ·exact h
  refine⟨fun id h=> ?_,fun _ j=> ?_⟩
  ·rcases h with h | h
   ·cases h
   ·exact gI _ h
  ·rw[AS.made,mu (hH hv).2,List.getElem?_map]
def jl(ids:List Id):jt→jt
 | .free=> .free
 | .own .fu n=> .own .fu n
 | .own (.id i) n=>match idxOf i ids with | some k=> .own (.id (.dH k)) n | none=> .own .fu n
def pW(β:Id→Option Pl)(ids:List Id):Id→Option Pl
 | .dH k=>(ids[k]?).bind β
 | .new _ _=>none
def iU(g:Nat→jt)(size:Nat)(ids:List Id)(t:Nat)(b:Nat):jt→jt
 | .free=> .free
 | .own .fu n=>if b < size then g b else .own .fu n
 | .own (.id i) n=> .own (.id (Ge ids t i)) n
def lO(β β':Id→Option Pl)(ids:List Id)(t:Nat)(some?:Bool)(id:Id):Option Pl:=
 match idxOf id ids with
 |some k=>β' (.dH k)
 |none=>match id with
  | .new i j=>if i=t∧some?=true then β' (.new 0 j) else β (.new i j)
  |id=>β id
theorem Eg{ids:List Id}{l:jt}{off:Nat}(h:lN (fun _=>l) 0 off):lN (fun _=>jl ids l) 0 off:=by
 cases l with
 |free=>trivial
 |own o k=>cases o with
  |fu=>exact h
  |id i=>simp only[jl];cases idxOf i ids <;> exact h
section
variable {P:Program} {C:Ctx} {g:Nat→jt} {β:Id→Option Pl} {s:AS} {a:Act} {w:World} {o:Oper}
theorem Gf(ids:List Id):
  oG (s.mi ids) (s.env w g β) ((jD (ids.map (s.ji ids))).env w (fun b=>jl ids (g b)) (pW β ids)):=by
 refine⟨⟨fun b off v ⟨h1,h2⟩=>⟨h1,?_⟩,fun b ob h1 h2=>⟨by show jl ids (g b)= .free;have h1:g b= .free:=h1;rw[h1];rfl,h2⟩⟩,fun id ver r hr _=> ?_⟩
 ·exact Eg (l:=g b) h2
 ·unfold AS.mi at hr
  split at hr
  ·rename_i k v fr c hk ho
   split at hr
   ·rename_i hver
    simp only[Option.some.injEq]at hr
    subst hr hver
    have hid:=j7 hk
    have hent:=ez ho
    refine⟨⟨?_,fun _ _ _ _=>Nat.zero_le _⟩,fun _=>⟨⟨fr,c,hent⟩,?_⟩⟩
    ·show(ids.map (s.ji ids))[k]? ≠none
     simp[hid]
    ·show(ids[k]?).bind β=β id
     rw[hid];rfl
   ·cases hr
  ·cases hr
theorem FJ(ids:List Id)(hn:ids.Nodup)(h:hP (s.env w g β)):hP ((jD (ids.map (s.ji ids))).env w (fun b=>jl ids (g b)) (pW β ids)):=by
 intro id ver fr c hid
 have hid:(jD (ids.map (s.ji ids))).cl id=some (.obj ver fr c):=hid
 cases id with
 |new i j=>simp[jD,AS.cl]at hid
 |dH k=>
  simp only[jD,AS.cl,List.getElem?_map,Option.map_eq_some_iff]at hid
  obtain⟨id1,hk,he⟩:=hid
  unfold AS.ji at he
  split at he
  ·rename_i v fr1 c1 hent
   simp only[eL.obj.injEq]at he
   obtain⟨rfl,rfl,rfl⟩:=he
   refine nL (Gf ids) (h id1 v fr1 c1 hent) (by show(ids[k]?).bind β=β id1;rw[hk];rfl) fun pl hp=>⟨rfl,fun n hg=> ?_,fun hg=> ?_⟩
   ·have hg:g pl.b= .own (.id id1) n:=hg
    show jl ids (g pl.b)=_
    rw[hg]
    simp[jl,nf hn hk]
   ·have hg:g pl.b= .free:=hg
    show jl ids (g pl.b)=_
    rw[hg];rfl
  ·cases he
theorem uo(h:Inv C g β s a w){ids:List Id}(hn:ids.Nodup)(hp:∀id∈ids,∃r,s.obj id=some r)(hlo:∀id∈ids,s.uV id=true){G:aT}{t:Nat}(hl:G.dd.length=ids.length)(hv:G.news=[]∨s.ef t=true){v:Value}{w':World}
  (ha:oT ((jD (ids.map (s.ji ids))).env w (fun b=>jl ids (g b)) (pW β ids)) G v w'):
  ∃g' β',Inv C g' β' (AS.gT s ids t (s.made ids t G.news) ids G.dd) a w'∧VS ((AS.gT s ids t (s.made ids t G.news) ids G.dd).env w' g' β') (G.val.ir (s.lp ids t)) v:=by
 obtain⟨g1,β1,hval,hobjs,htr,hle⟩:=ha
 have htr:Trans w w' (fun b=>jl ids (g b)) g1:=htr
 obtain⟨m1,m2⟩:=yV s ids t G.news hv
 have hpe:∀id∈ids,s.cl id≠none:=fun id hid=>by
  obtain⟨⟨v,fr,c⟩,hr⟩:=hp id hid
  rw[ez hr];simp
 have hnew:∀id,s.cl id≠none→G.news=[]∨∀j,id≠ .new t j:=fun id hid=>by
  rcases hv with hv | hv
  ·exact .inl hv
  ·exact .inr fun j e=>hid (by rw[e];exact(hH hv).1 j)
 obtain⟨n1,n2⟩:=pa s ids t ids G.dd (s.made ids t G.news) hn hl (fun id hid=>by rw[m1 id (hnew id (hpe id hid))];exact hpe id hid)
 have hvt:∀j,G.news≠ []→Id.new t j ∉ ids:=fun j hne hid=>by
  rcases hv with hv | hv
  ·exact hne hv
  ·exact hpe _ hid ((hH hv).1 j)
 generalize hs2:AS.gT s ids t (s.made ids t G.news) ids G.dd=s2 at*
 have hgO:∀(k:Nat) (id:Id),ids[k]? =some id→∃e,G.dd[k]? =some e∧s2.cl id=some (s.jY ids t (s.nq id) e):=fun k id hk=>by
  have hlt:k < G.dd.length:=by rw[hl];exact(List.getElem?_eq_some_iff.1 hk).1
  exact⟨_,List.getElem?_eq_getElem hlt,n2 k id _ hk (List.getElem?_eq_getElem hlt)⟩
 have hgN:G.news≠ []→∀j,s2.cl (.new t j)=(G.news[j]?).map (s.jY ids t 0):=fun hne j=>by
  rw[n1 _ (hvt j hne),m2 hne j]
 have hgS:∀id,id ∉ ids→(G.news=[]∨∀j,id≠ .new t j)→s2.cl id=s.cl id:=fun id h1 h2=>by
  rw[n1 id h1,m1 id h2]
 have hverOf:∀id∈ids,∃fr c,s.cl id=some (.obj (s.nq id) fr c):=fun id hid=>by
  obtain⟨⟨v,fr,c⟩,hr⟩:=hp id hid
  refine⟨fr,c,?_⟩
  rw[ez hr]
  simp[AS.nq,hr]
 have hfor:∀b n,b < w.heap.size→g1 b= .own .fu n→(g b= .own .fu n∨∃i,g b= .own (.id i) n∧idxOf i ids=none):=fun b n hb hg=>by
  have h1:=htr.Cy b hb
  cases hgb:g b with
  |free=>simp only[hgb,jl]at h1;rw[h1.1]at hg;cases hg
  |own o k=>cases o with
   |fu=>simp only[hgb,jl]at h1;rw[h1.1]at hg;left;exact hg
   |id i=>
    cases hi:idxOf i ids with
    |none=>
     simp only[hgb,jl,hi]at h1
     rw[h1.1]at hg
     simp only[jt.own.injEq,true_and]at hg
     subst hg
     exact .inr ⟨i,rfl,hi⟩
    |some k'=>
     simp only[hgb,jl,hi]at h1
     rcases h1.1 with h2 | ⟨_,_,h2,_⟩ <;> (rw[h2]at hg;cases hg)
 let g2:Nat→jt:=fun b=>iU g w.heap.size ids t b (g1 b)
 let β2:Id→Option Pl:=lO β β1 ids t (!G.news.isEmpty)
 have hβO:∀k id,ids[k]? =some id→β2 id=β1 (.dH k):=fun k id hk=>by
  show lO _ _ _ _ _ id=_
  simp[lO,nf hn hk]
 have hβN:G.news≠ []→∀j,β2 (.new t j)=β1 (.new 0 j):=fun hne j=>by
  show lO _ _ _ _ _ _=_
  have:idxOf (.new t j) ids=none:=by
   cases hi:idxOf (.new t j) ids with
   |none=>rfl
   |some k=>exact absurd (List.mem_of_getElem? (j7 hi)) (hvt j hne)
  have hne':G.news.isEmpty=false:=by cases hh:G.news with
   |nil=>exact absurd hh hne
   |cons _ _=>rfl
  simp[lO,this,hne']
 have hβS:∀id,id ∉ ids→(G.news=[]∨∀j,id≠ .new t j)→β2 id=β id:=fun id h1 h2=>by
  show lO _ _ _ _ _ _=_
  have:idxOf id ids=none:=by
   cases hi:idxOf id ids with
   |none=>rfl
   |some k=>exact absurd (List.mem_of_getElem? (j7 hi)) h1
  cases id with
  |dH k=>simp[lO,this]
  |new i j=>
   have:¬(i=t∧(!G.news.isEmpty)=true):=by
    rintro⟨rfl,h3⟩
    rcases h2 with h2 | h2
    ·rw[h2]at h3;cases h3
    ·exact h2 j rfl
   simp only[lO, *,if_false]
 have htr2:Trans w w' g g2:=by
  refine⟨htr.os,htr.tape,htr.output,htr.size,fun b hb=> ?_⟩
  have h1:=htr.Cy b hb
  show match g b with | .free=>iU g w.heap.size ids t b (g1 b)= .free∧_ | .own .fu k=>iU g w.heap.size ids t b (g1 b)= .own .fu k∧_ | .own (.id _) k=>(iU g w.heap.size ids t b (g1 b)= .free∨∃i k',iU g w.heap.size ids t b (g1 b)= .own (.id i) k'∧k≤k')∧_
  cases hgb:g b with
  |free=>simp only[hgb,jl]at h1 ⊢;rw[h1.1];exact⟨rfl,h1.2⟩
  |own o k=>cases o with
   |fu=>simp only[hgb,jl]at h1 ⊢;rw[h1.1];simp only[iU,hb,if_true,hgb];exact⟨trivial,h1.2⟩
   |id i=>
    cases hi:idxOf i ids with
    |none=>
     simp only[hgb,jl,hi]at h1 ⊢
     rw[h1.1]
     simp only[iU,hb,if_true,hgb]
     exact⟨.inr ⟨i,k,rfl,Nat.le_refl _⟩,fun off v _ hv=>by simpa only[World.cell?,h1.2]using hv⟩
    |some k'=>
     simp only[hgb,jl,hi]at h1 ⊢
     refine⟨?_,h1.2⟩
     rcases h1.1 with h2 | ⟨i',k'',h2,h3⟩
     ·rw[h2];exact .inl rfl
     ·rw[h2];exact .inr ⟨_,k'',rfl,h3⟩
 have hmem:lG (G.st.env w' g1 β1) (s2.env w' g2 β2):=by
  refine⟨fun b off v ⟨h1,h2⟩=> ?_,fun b ob h1 h2=>⟨by show iU g w.heap.size ids t b (g1 b)= .free;have h1:g1 b= .free:=h1;rw[h1];rfl,h2⟩⟩
  refine⟨h1,?_⟩
  have h2:lN g1 b off:=h2
  show lN g2 b off
  unfold lN at h2 ⊢
  show match iU g w.heap.size ids t b (g1 b) with | .free=>True | .own _ k=>off < k
  cases hgb:g1 b with
  |free=>simp[iU]
  |own o k=>
   rw[hgb]at h2
   cases o with
   |fu=>
    simp only[iU]
    by_cases hb:b < w.heap.size
    ·rw[if_pos hb]
     rcases hfor b k hb hgb with h3 | ⟨i,h3,_⟩ <;> (rw[h3];exact h2)
    ·rw[if_neg hb];exact h2
   |id i=>exact h2
 have hentOut:∀(base:Nat) (e:eL) (ver:Nat) (fr:Bool) (c:az),s.jY ids t base e= .obj ver fr c→∃v0 c0,e= .obj v0 fr c0∧ver=base+v0∧c=c0.ir (s.lp ids t):=fun base e ver fr c he=>by
  cases e with
  |dead=>cases he
  |obj v0 fr0 c0=>
   simp only[AS.jY,eL.obj.injEq]at he
   obtain⟨rfl,rfl,rfl⟩:=he
   exact⟨v0,c0,rfl,rfl,rfl⟩
 have hout:oG (s.lp ids t) (G.st.env w' g1 β1) (s2.env w' g2 β2):=by
  refine⟨hmem,fun id ver r hr hb=> ?_⟩
  cases id with
  |dH k=>
   obtain⟨hb1,hb2⟩:=hb
   have hb1:G.dd[k]? ≠none:=hb1
   have hk:k < ids.length:=by
    rcases Nat.lt_or_ge k ids.length with h' | h'
    ·exact h'
    ·exact absurd (List.getElem?_eq_none (by omega)) hb1
   have hid:ids[k]? =some ids[k]:=List.getElem?_eq_getElem hk
   simp only[AS.lp,hid,Option.some.injEq]at hr
   subst hr
   obtain⟨e,he1,he2⟩:=hgO k _ hid
   refine⟨⟨by show s2.cl _≠none;rw[he2];simp,fun v fr c hh=> ?_⟩,fun⟨fr,c,hh⟩=>⟨?_,hβO k _ hid⟩⟩
   ·have hh:s2.cl ids[k]=some (.obj v fr c):=hh
    rw[he2,Option.some.injEq]at hh
    obtain⟨v0,c0,rfl,rfl,_⟩:=hentOut _ _ _ _ _ hh
    have:=hb2 v0 fr c0 he1
    omega
   ·have hh:s2.cl ids[k]=some (.obj (s.nq ids[k]+ver) fr c):=hh
    rw[he2,Option.some.injEq]at hh
    obtain⟨v0,c0,rfl,hv0,_⟩:=hentOut _ _ _ _ _ hh
    obtain rfl:ver=v0:=by omega
    exact⟨fr,c0,he1⟩
  |new i j=>
   simp only[AS.lp,Option.some.injEq]at hr
   subst hr
   obtain⟨hb1,hb2⟩:=hb
   have hb1:([G.news].getD i [])[j]? ≠none:=hb1
   have hb2:∀v fr c,([G.news].getD i [])[j]? =some (.obj v fr c)→ver≤v:=hb2
   cases i with
   |succ i=>simp at hb1
   |zero=>
    simp only[List.getD_cons_zero]at hb1 hb2
    have hne:G.news≠ []:=fun e=>by rw[e]at hb1;simp at hb1
    obtain⟨e,he⟩:=Option.ne_none_iff_exists'.1 hb1
    have he2:=hgN hne j
    rw[he,Option.map_some]at he2
    refine⟨⟨by show s2.cl (.new t j)≠none;rw[he2];simp,fun v fr c hh=> ?_⟩,fun⟨fr,c,hh⟩=>⟨?_,hβN hne j⟩⟩
    ·have hh:s2.cl (.new t j)=some (.obj v fr c):=hh
     rw[he2,Option.some.injEq]at hh
     obtain⟨v0,c0,rfl,rfl,_⟩:=hentOut _ _ _ _ _ hh
     have:=hb2 v0 fr c0 he
     simp only
     omega
    ·have hh:s2.cl (.new t j)=some (.obj ver fr c):=hh
     rw[he2,Option.some.injEq]at hh
     obtain⟨v0,c0,rfl,hv0,_⟩:=hentOut _ _ _ _ _ hh
     obtain rfl:ver=v0:=by omega
     exact⟨fr,c0,he⟩
 have hle2:cW (s.env w g β) (s2.env w' g2 β2):=by
  refine⟨Trans.mem htr2,fun id ver hb=> ?_,fun id ver hb hc=> ?_⟩
  ·obtain⟨hb1,hb2⟩:=hb
   have hb1:s.cl id≠none:=hb1
   have hb2:∀v fr c,s.cl id=some (.obj v fr c)→ver≤v:=hb2
   by_cases hid:id∈ids
   ·obtain⟨k,hk⟩:=List.mem_iff_getElem?.1 hid
    obtain⟨e,he1,he2⟩:=hgO k id hk
    obtain⟨fr1,c1,hs1⟩:=hverOf id hid
    refine⟨by show s2.cl _≠none;rw[he2];simp,fun v fr c hh=> ?_⟩
    have hh:s2.cl id=some (.obj v fr c):=hh
    rw[he2,Option.some.injEq]at hh
    obtain⟨v0,c0,rfl,rfl,_⟩:=hentOut _ _ _ _ _ hh
    have:=hb2 _ _ _ hs1
    omega
   ·have:=hgS id hid (hnew id hb1)
    exact⟨by show s2.cl _≠none;rw[this];exact hb1,fun v fr c hh=>hb2 v fr c (this.symm.trans hh)⟩
  ·obtain⟨hb1,hb2⟩:=hb
   have hb1:s.cl id≠none:=hb1
   have hb2:∀v fr c,s.cl id=some (.obj v fr c)→ver≤v:=hb2
   obtain⟨fr,c,hh⟩:=hc
   have hh:s2.cl id=some (.obj ver fr c):=hh
   by_cases hid:id∈ids
   ·obtain⟨k,hk⟩:=List.mem_iff_getElem?.1 hid
    obtain⟨e,he1,he2⟩:=hgO k id hk
    obtain⟨fr1,c1,hs1⟩:=hverOf id hid
    rw[he2,Option.some.injEq]at hh
    obtain⟨v0,c0,rfl,hv0,_⟩:=hentOut _ _ _ _ _ hh
    have hver:=hb2 _ _ _ hs1
    obtain rfl:v0=0:=by omega
    have hver':ver=s.nq id:=by omega
    refine⟨⟨fr1,c1,by rw[hver'];exact hs1⟩,?_⟩
    show β2 id=β id
    rw[hβO k id hk]
    have hin:s.ji ids id= .obj 0 fr1 (c1.ir (s.mi ids)):=by simp[AS.ji,hs1]
    have h0:((jD (ids.map (s.ji ids))).env w (fun b=>jl ids (g b)) (pW β ids)).pZ (.dH k) 0:=by
     refine⟨?_,fun _ _ _ _=>Nat.zero_le _⟩
     show(ids.map (s.ji ids))[k]? ≠none
     simp[hk]
    have:=(hle.cur (.dH k) 0 h0 ⟨fr,c0,he1⟩).2
    have this:β1 (.dH k)=(ids[k]?).bind β:=this
    rw[this,hk];rfl
   ·have:=hgS id hid (hnew id hb1)
    exact⟨⟨fr,c,this.symm.trans hh⟩,hβS id hid (hnew id hb1)⟩
 have hobj2:hP (s2.env w' g2 β2):=by
  intro id ver fr c hh
  have hh:s2.cl id=some (.obj ver fr c):=hh
  by_cases hid:id∈ids
  ·obtain⟨k,hk⟩:=List.mem_iff_getElem?.1 hid
   obtain⟨e,he1,he2⟩:=hgO k id hk
   rw[he2,Option.some.injEq]at hh
   obtain⟨v0,c0,rfl,_,rfl⟩:=hentOut _ _ _ _ _ hh
   refine nL hout (hobjs (.dH k) v0 fr c0 he1) (hβO k id hk) fun pl _=>⟨rfl,fun n hg=> ?_,fun hg=> ?_⟩
   ·have hg:g1 pl.b= .own (.id (.dH k)) n:=hg
    show iU g w.heap.size ids t pl.b (g1 pl.b)=_
    rw[hg]
    simp[iU,Ge,List.getD_eq_getElem?_getD,hk]
   ·have hg:g1 pl.b= .free:=hg
    show iU g w.heap.size ids t pl.b (g1 pl.b)=_
    rw[hg];rfl
  ·by_cases hne:G.news≠ []∧∃j,id= .new t j
   ·obtain⟨hne,j,rfl⟩:=hne
    rw[hgN hne j,Option.map_eq_some_iff]at hh
    obtain⟨e,he,hh⟩:=hh
    obtain⟨v0,c0,rfl,_,rfl⟩:=hentOut _ _ _ _ _ hh
    refine nL hout (hobjs (.new 0 j) v0 fr c0 (by show([G.news].getD 0 [])[j]? =_;simpa using he)) (hβN hne j) fun pl _=>⟨rfl,fun n hg=> ?_,fun hg=> ?_⟩
    ·have hg:g1 pl.b= .own (.id (.new 0 j)) n:=hg
     show iU g w.heap.size ids t pl.b (g1 pl.b)=_
     rw[hg]
     rfl
    ·have hg:g1 pl.b= .free:=hg
     show iU g w.heap.size ids t pl.b (g1 pl.b)=_
     rw[hg];rfl
   ·have hor:G.news=[]∨∀j,id≠ .new t j:=by
     by_cases hh:G.news=[]
     ·exact .inl hh
     ·exact .inr fun j e=>hne ⟨hh,j,e⟩
    rw[hgS id hid hor]at hh
    have same:∀id,id ∉ ids→∀ver fr c,s.cl id=some (.obj ver fr c)→∀pl,β id=some pl→w'.heap[pl.b]? =w.heap[pl.b]? ∧iU g w.heap.size ids t pl.b (g1 pl.b)=g pl.b:=by
     intro id hid ver fr c hh pl hpl
     obtain⟨hb,hlab⟩:=(h.bZ id ver fr c hh).label (pl:=pl) hpl
     have hb:pl.b < w.heap.size:=hb
     have h1:=htr.Cy pl.b hb
     have hidx:idxOf id ids=none:=by
      cases hi:idxOf id ids with
      |none=>rfl
      |some k=>exact absurd (List.mem_of_getElem? (j7 hi)) hid
     rcases hlab with⟨k,hk⟩ | ⟨_,hk⟩
     ·have hk:g pl.b= .own (.id id) k:=hk
      simp only[hk,jl,hidx]at h1
      rw[h1.1]
      simp only[iU,hb,if_true]
      exact⟨h1.2,trivial⟩
     ·have hk:g pl.b= .free:=hk
      simp only[hk,jl]at h1
      rw[h1.1,hk]
      exact⟨h1.2,rfl⟩
    have ho:=h.bZ id ver fr c hh
    refine ho.mono hle2 (hβS id hid hor) (fun pl hpl=>same id hid ver fr c hh pl hpl) fun q2 vq k2 v2 l2 hq2 _=> ?_
    have hq2:s.cl q2=some (.obj vq true (.mp k2 v2 l2)):=hq2
    have hn2:q2 ∉ ids:=fun hm=>by
     have:=hlo q2 hm
     have e:s.obj q2=some (vq,true,.mp k2 v2 l2):=by simp[AS.obj,hq2]
     unfold AS.uV at this
     rw[e]at this
     cases this
    refine⟨⟨k2,v2,l2,?_⟩,fun pl hpl=>same q2 hn2 vq true _ hq2 pl hpl⟩
    show s2.cl q2=_
    rw[hgS q2 hn2 (hnew q2 (by rw[hq2];simp))]
    exact hq2
 have hsl:s2.cS=s.cS:=by rw[←hs2,nH,vG]
 exact⟨g2,β2,h.step hsl htr2 hle2 hobj2,uk hout hval⟩
end
end Go.Ab
namespace Go.Ab
theorem lQ(s:AS):∀(n:Nat) (todo acc:List Id),acc.Nodup→(s.reach n todo acc).Nodup
 | 0,_,acc,h=>by simpa[AS.reach]using h
 |_+1,[],acc,h=>by simpa[AS.reach]using h
 |n+1,id::todo,acc,h=>by
  rw[AS.reach]
  split
  ·exact lQ s n todo acc h
  ·rename_i hc
   refine lQ s n _ _ ?_
   rw[List.nodup_append]
   refine⟨h,by simp,fun x hx y hy e=> ?_⟩
   simp only[List.mem_singleton]at hy
   subst hy e
   exact hc (by simpa using hx)
theorem ze(s:AS)(vs:List az):(s.B2 vs).Nodup:=lQ s _ _ _ (by simp)
section
variable {P:Program} {C:Ctx} {g:Nat→jt} {β:Id→Option Pl} {s:AS} {a:Act} {w:World} {o:Oper}
theorem AM(h:Inv C g β s a w){f:FuncId}{en:Entry}(hd:lY P f en){ids:List Id}(hn:ids.Nodup){vs:List az}{ys:List Value}(hv:qR (s.env w g β) vs ys)
  (hr:(execOp a.eval o).run P w=(callFunc f ys.toArray).run P w) {s':AS} (he:(s.enter en o.dst ids vs).eval=some s'):fy P o a w (gH C s'):=by
 unfold AS.enter at he
 obtain⟨hall,he⟩:=aA.1 he
 obtain⟨x,hx,he⟩:=uG.1 he
 obtain⟨x0,hx0,he⟩:=al.1 he
 rw[en.GD _ _ hx0]at he
 have hp:∀id∈ids,∃r,s.obj id=some r:=fun id hid=>by
  have:=List.all_eq_true.1 hall id hid
  rw[Bool.and_eq_true]at this
  exact Option.isSome_iff_exists.1 this.1
 have hlo:∀id∈ids,s.uV id=true:=fun id hid=>by
  have:=List.all_eq_true.1 hall id hid
  rw[Bool.and_eq_true]at this
  exact this.2
 have hdo:=hd w (fun b=>jl ids (g b)) (pW β ids) (vs.map (az.ir (s.mi ids))) (ids.map (s.ji ids)) ys x (qR.ir (Gf ids) hv) (FJ ids hn h.bZ) hx
 have key:∀v w',oT ((jD (ids.map (s.ji ids))).env w (fun b=>jl ids (g b)) (pW β ids)) (en.out (vs.map (az.ir (s.mi ids))) (ids.map (s.ji ids)) x) v w'→gH C s' (a.put o.dst v) w':=by
  intro v w' ha
  unfold AS.back at he
  cases hdst:o.dst with
  |some t=>
   rw[hdst]at he
   obtain⟨hg,he⟩:=aA.1 he
   obtain rfl:=ao.1 he
   simp only[Bool.and_eq_true,beq_iff_eq,Bool.or_eq_true]at hg
   obtain⟨hl,hg⟩:=hg
   have hvir:(en.out (vs.map (az.ir (s.mi ids))) (ids.map (s.ji ids)) x).news=[]∨s.ef t=true:=by
    rcases hg with hg | hg
    ·exact .inl (by simpa using hg)
    ·exact .inr hg
   obtain⟨g2,β2,h1,h2⟩:=uo h hn hp hlo hl hvir ha
   exact⟨g2,β2,h1.put (some t) h2⟩
  |none=>
   rw[hdst]at he
   obtain⟨hg,he⟩:=aA.1 he
   obtain rfl:=ao.1 he
   simp only[Bool.and_eq_true,beq_iff_eq]at hg
   obtain⟨hl,hg⟩:=hg
   have hnew:(en.out (vs.map (az.ir (s.mi ids))) (ids.map (s.ji ids)) x).news=[]:=by simpa using hg
   obtain⟨g2,β2,h1,_⟩:=uo (t:=0) h hn hp hlo hl (.inl hnew) ha
   rw[hnew]at h1
   exact⟨g2,β2,h1⟩
 rcases hdo with⟨hen,hc⟩ | ⟨v,w',hva,ha⟩
 ·exact .inr (.inr ⟨f,ys.toArray,w,hr.trans hen,hc.mono fun e w' ⟨v,he,ha⟩=>⟨v,he,key v w' ha⟩⟩)
 ·exact .inl ⟨v,w',hr.trans hva,key v w' ha⟩
theorem CF(h:Inv C g β s a w){c:Call}{F:Operand}{f:FuncId}{caps:az}{en:Entry}(ho:o.op= .call c)(hc:c.callee= .value F)(hF:s.ev F= .fn f caps)(hd:lY P f en){s':AS}
  (he:(s.call en o.dst (c.args.toList.map s.ev++caps.list)).eval=some s'):fy P o a w (gH C s'):=by
 obtain⟨cal,args,tys⟩:=c
 simp only at hc he
 subst hc
 obtain⟨vs,hy,hvc⟩:=D3 (hF▸h.ev F)
 have hargs:=(h.Jn args.toList).append (DA hvc)
 have hr:(execOp a.eval o).run P w=(callFunc f (args.toList.map a.eval++vs).toArray).run P w:=by
  have e1:execOp a.eval o=(do let d ←resolve a.eval {callee:= .value F,args,argTypes:=tys} o.type;invoke d.target d.args):=by simp only[execOp,ho]
  rw[e1]
  simp only[resolve,hy,Deferred.ofValue,Sem.run_bind,Sem.run_pure,Result.andThen_ok,invoke]
  congr 2
  simp
 unfold AS.call at he
 obtain⟨r,h1,h2⟩:=al.1 he
 obtain⟨g',i1,e1,_,f1⟩:=gq r.2 h
 exact AM i1 hd (ze _ _) (uA rfl h.bZ e1 _ _ _ r hargs h1 f1) hr h2
end
end Go.Ab
namespace Go.Ab
section
variable {P:Program} {C:Ctx} {g:Nat→jt} {β:Id→Option Pl} {s:AS} {a:Act} {w:World} {o:Oper}
theorem iE{b:Builtin}{args:Array Operand}{ts:Array TypeId}{F:TypeId→Array Value→Sem Value}{x:Value}{w':World}{s':AS}(ho:o.op= .call {callee:= .builtin b,args,argTypes:=ts})
  (hb:∀ty cs xs,builtin b ts ty cs xs=(do pure (.value (←F ty xs)))) (hf:∀ty,(F ty (args.map a.eval)).run P w= .ok x w') (h2:∃g' β',Inv C g' β' s' (a.put o.dst x) w'):fy P o a w (gH C s'):=by
 refine .inl ⟨x,w',?_,h2⟩
 simp only[execOp,ho,resolve,Sem.run_bind,Sem.run_pure,Result.andThen_ok,invoke]
 rw[hb,Sem.run_bind,hf]
 rfl
theorem AI(h:Inv C g β s a w){src dst:TypeId}{x:Operand}(ho:o.op= .convert src dst x){id:Id}{ver:Nat}(hx:s.ev x= .ptr id ver [] 0){v:az}(he:(wP P s src dst id ver).eval=some v):fy P o a w (gH C (s.put o.dst v)):=by
 have hv:=h.ev x
 rw[hx]at hv
 obtain⟨ad,hy,hb,hc⟩:=ln hv
 have fin:v= .ptr id ver [] 0→(convert src dst (a.eval x)).run P w= .ok (a.eval x) w→fy P o a w (gH C (s.put o.dst v)):=by
  intro h1 h2
  subst h1
  exact h.value hv (eb (f:=convert src dst (a.eval x)) (by simp only[execOp,ho]) h2)
 unfold wP at he
 split at he
 ·rename_i v0 fr e c hob
  have hent:=ez hob
  obtain⟨pl',cur,e',hp',hh,hg,hk,hV⟩:=(h.bZ id v0 fr _ hent).box rfl
  have hk:e'=e:=hk
  subst hk
  have hV:V (s.env w g β) c (cur.toList.take cur.size):=hV
  rw[←Array.length_toList,List.take_length]at hV
  have hh:w.heap[pl'.b]? =some (.cells cur e' (0,0)):=hh
  have hsz:=hV.size
  have hsz:cur.toList.length=c.size:=hsz
  have hsh:w.shape? pl'.b=some (e',c.size):=by simp only[World.shape?,hh];rw[←hsz];simp
  have hp':β id=some pl':=hp'
  split at he
  ·rename_i t hS hD
   obtain⟨h1,h2⟩:=aA.1 he
   have h2:=ao.1 h2
   simp only[Bool.and_eq_true,beq_iff_eq,Bool.not_eq_true',beq_eq_false_iff_ne]at h1
   obtain⟨⟨rfl,h3⟩,h4⟩:=h1
   obtain⟨pl,hp,rfl⟩:=hc ⟨fr,_,hent⟩
   have hp:β id=some pl:=hp
   rw[hp']at hp
   obtain rfl:pl'=pl:=by simpa using hp
   refine fin h2.symm ?_
   rw[hy]
   cases hi:P.info? t with
   |none=>exact absurd (by simp[Program.cellsOf,hi]) h3
   |some j=>
    have hj:j.size≠0:=by rw[←iF hi]at*;exact h3
    exact Go.Lib.run_to_unsafe w _ hS hD hi hj hsh (by show 0 < c.size;omega)
  ·rename_i u hS hD
   obtain⟨h1,h2⟩:=aA.1 he
   have h2:=ao.1 h2
   simp only[Bool.and_eq_true,beq_iff_eq,Bool.not_eq_true',beq_eq_false_iff_ne]at h1
   obtain⟨⟨rfl,h3⟩,h4⟩:=h1
   obtain⟨pl,hp,rfl⟩:=hc ⟨fr,_,hent⟩
   have hp:β id=some pl:=hp
   rw[hp']at hp
   obtain rfl:pl'=pl:=by simpa using hp
   refine fin h2.symm ?_
   rw[hy]
   cases hi:P.info? u with
   |none=>exact absurd (by simp[Program.cellsOf,hi]) h3
   |some j=>exact Go.Lib.run_from_unsafe w _ hS hD hi hsh h4
  ·simp only[ai]at he
 ·simp only[ai]at he
theorem DZ(h:Inv C g β s a w){T U:TypeId}{op:BinOp}{x y:Operand}(ho:o.op= .binOp op T x y U){i j:Id}{v1 v2:Nat}(hx:s.ev x= .ptr i v1 [] 0)(hy:s.ev y= .ptr j v2 [] 0){v:az}(he:(HQ P s T op i v1 j v2).eval=some v):
  fy P o a w (gH C (s.put o.dst v)):=by
 unfold HQ at he
 split at he
 ·rename_i v' fr c hob
  obtain⟨h1,h2⟩:=aA.1 he
  simp only[Bool.and_eq_true,beq_iff_eq,decide_eq_true_eq]at h1
  obtain⟨⟨⟨rfl,rfl⟩,rfl⟩,hpt⟩:=h1
  have hent:=ez hob
  have hvx:=h.ev x
  have hvy:=h.ev y
  rw[hx]at hvx
  rw[hy]at hvy
  obtain⟨ad,hax,_,hc⟩:=ln hvx
  obtain⟨ad',hay,_,hc'⟩:=ln hvy
  obtain⟨pl,hp,rfl⟩:=hc ⟨fr,c,hent⟩
  obtain⟨pl',hp',rfl⟩:=hc' ⟨fr,c,hent⟩
  rw[hp]at hp'
  obtain rfl:pl=pl':=by simpa using hp'
  have hT:∃t j,P.underlying T=some (.pointer t)∧P.info? t=some j:=by
   unfold Im at hpt
   split at hpt
   ·rename_i t ht
    obtain⟨j,hj⟩:=Option.isSome_iff_exists.1 hpt
    exact⟨t,j,ht,hj⟩
   ·cases hpt
  obtain⟨t,j,hT,hj⟩:=hT
  have hq:(Op.equal T (.pointer (some ⟨pl.b,0,none⟩)) (.pointer (some ⟨pl.b,0,none⟩))).run P w= .ok true w:=
   fM fun d=>by simp[Op.equalIn,run_underlying hT,sizeOf,typeInfo,hj,run_sameAddr_same]
  have hgd:(eqGuard op T x y (a.eval x) (a.eval y)).run P w= .ok () w:=by rw[hax,hay];exact iQ (by simp) rfl
  have fin:∀z,(binOp op T (a.eval x) (a.eval y)).run P w= .ok z w→VS (s.env w g β) v z→fy P o a w (gH C (s.put o.dst v)):=by
   intro z h1 h3
   refine h.value h3 ?_
   simp[execOp,ho,h1,hgd]
  split at h2
  ·obtain rfl:=ao.1 h2
   refine fin (.bool true) ?_ (mj true)
   rw[hax,hay]
   simp[binOp,hq]
  ·obtain rfl:=ao.1 h2
   refine fin (.bool false) ?_ (mj false)
   rw[hax,hay]
   simp[binOp,hq]
  ·simp only[ai]at h2
 ·simp only[ai]at he
theorem Ga{c:Call}{b:Builtin}{x:Operand}(hc:c.callee= .builtin b)(ha:c.args.toList=[x]):c= {callee:= .builtin b,args:= #[x],argTypes:=c.argTypes}:=by
 obtain⟨cal,args,tys⟩:=c
 simp only at hc ha
 have ha':args= #[x]:=by apply Array.ext';simpa using ha
 subst hc ha'
 rfl
theorem BG{c:Call}{b:Builtin}{x y:Operand}(hc:c.callee= .builtin b)(ha:c.args.toList=[x,y]):c= {callee:= .builtin b,args:= #[x,y],argTypes:=c.argTypes}:=by
 obtain⟨cal,args,tys⟩:=c
 simp only at hc ha
 have ha':args= #[x,y]:=by apply Array.ext';simpa using ha
 subst hc ha'
 rfl
theorem Ji{ts:Array TypeId}{T:TypeId}(h:ts.toList=[T]):ts= #[T]:=by apply Array.ext';simpa using h
theorem HJ{ts:Array TypeId}{T U:TypeId}(h:ts.toList=[T,U]):ts= #[T,U]:=by apply Array.ext';simpa using h
theorem DN(h:Inv C g β s a w){c:Call}{x:Operand}{T e:TypeId}(ho:o.op= .call c)(hc:c.callee= .builtin .cap)(ha:c.args.toList=[x])(ht:c.argTypes.toList=[T])(hx:s.ev x= .dP)(hT:P.underlying T=some (.slice e)):
  fy P o a w (gH C (s.put o.dst (.d (.int .i64) (0:Int)))):=by
 rw[Ga hc ha,Ji ht]at ho
 have hv:=h.ev x
 rw[hx]at hv
 have hy:=il hv
 refine iE ho (F:=fun ty xs=>Builtin.cap_ #[T] ty xs) (fun ty cs xs=>rfl) (x:= .int .i64 0) (w':=w) (fun ty=> ?_) ⟨g,β,h.put o.dst (iD _ _)⟩
 simp[Builtin.cap_,run_underlying hT,hy,goInt]
theorem zZ(h:Inv C g β s a w){c:Call}{x:Operand}{id:Id}{ver len:Nat}(ho:o.op= .call c)(hc:c.callee= .builtin .unsafeSliceData)(ha:c.args.toList=[x])(hx:s.ev x= .cT id ver [] 0 0 len)(hl:0 < len):
  fy P o a w (gH C (s.put o.dst (.ptr id ver [.idx 0] 0))):=by
 rw[Ga hc ha]at ho
 have hv:=h.ev x
 rw[hx]at hv
 obtain⟨ad,cap,hy,hcap,hs,hb,hcur⟩:=jU hv
 obtain⟨ad,rfl⟩:=Option.isSome_iff_exists.1 (hs hl)
 refine iE ho (F:=fun ty xs=>Builtin.unsafeSliceData_ c.argTypes ty xs) (fun ty cs xs=>rfl) (x:= .pointer (some ad)) (w':=w) (fun ty=> ?_) ⟨g,β,h.put o.dst ?_⟩
 ·rw[show(#[x].map a.eval)= #[a.eval x] by simp,hy]
  exact Go.Lib.run_unsafeSliceData_row w _ _ _ _ _ (by omega)
 ·refine⟨[.pointer (some ad)],?_,rfl⟩
  simp only[V]
  refine⟨ad,rfl,hb,fun hc=> ?_⟩
  have h1:=hcur hc
  cases hp:(s.env w g β).β id with
  |none=>rw[hp]at h1;simp only at h1;cases h1.1
  |some pl=>
   rw[hp]at h1
   simp only at h1
   exact⟨pl,rfl,by simpa using h1.1 (.inl hl)⟩
theorem zt(h:Inv C g β s a w){c:Call}{mx:Bool}(ho:o.op= .call c)(hc:c.callee= .builtin (if mx then .max else .min)){v:az}(he:(C2 mx (c.args.toList.map s.ev)).eval=some v):fy P o a w (gH C (s.put o.dst v)):=by
 unfold C2 at he
 split at he
 ·rename_i k x k' y hxy
  obtain⟨h1,h2⟩:=aA.1 he
  obtain rfl:=ao.1 h2
  have h1:k=k':=by simpa using h1
  subst h1
  have hal:∃p q,c.args.toList=[p,q]∧s.ev p= .d (.int k) x∧s.ev q= .d (.int k) y:=by
   match hh:c.args.toList,hxy with
   |[p,q],hxy=>simp only[List.map_cons,List.map_nil,List.cons.injEq]at hxy;exact⟨p,q,rfl,hxy.1,hxy.2.1⟩
   |[],hxy=>simp at hxy
   |[_],hxy=>simp at hxy
   |_::_::_::_,hxy=>simp at hxy
  obtain⟨p,q,ha,hp,hq⟩:=hal
  rw[BG hc ha]at ho
  have hvp:=h.ev p
  have hvq:=h.ev q
  rw[hp]at hvp
  rw[hq]at hvq
  have ep:=nC hvp
  have eq:=nC hvq
  cases mx with
  |true=>
   refine iE ho (F:=fun ty xs=>Builtin.max_ c.argTypes ty xs) (fun ty cs xs=>rfl) (x:= .int k (if x < y then y else x)) (w':=w) (fun ty=> ?_) ⟨g,β,h.put o.dst (iD _ _)⟩
   rw[show(#[p,q].map a.eval)= #[a.eval p,a.eval q] by simp,ep,eq]
   simp[Builtin.max_,Builtin.max2]
  |false=>
   refine iE ho (F:=fun ty xs=>Builtin.min_ c.argTypes ty xs) (fun ty cs xs=>rfl) (x:= .int k (if y < x then y else x)) (w':=w) (fun ty=> ?_) ⟨g,β,h.put o.dst (iD _ _)⟩
   rw[show(#[p,q].map a.eval)= #[a.eval p,a.eval q] by simp,ep,eq]
   simp[Builtin.min_,Builtin.min2]
 ·simp only[ai]at he
theorem vQ(z:Array Value)(n:Nat):Builtin.zeroCells z n=madeCells z (n*z.size):=rfl
theorem CS(h:Inv C g β s a w){c:Call}{x y:Operand}{T X:TypeId}{k:IntKind}{n:Int}(ho:o.op= .call c)(hc:c.callee= .builtin .append)(ha:c.args.toList=[x,y])(ht:c.argTypes.toList=[T,X])(hx:s.ev x= .dP)(hy:s.ev y= .d (.int k) n){s':AS}
  (he:(y4 P s o.dst T X n).eval=some s'):fy P o a w (gH C s'):=by
 rw[BG hc ha,HJ ht]at ho
 have hvx:=h.ev x
 have hvy:=h.ev y
 rw[hx]at hvx
 rw[hy]at hvy
 have ex:=il hvx
 have ey:=nC hvy
 unfold y4 at he
 split at he
 ·rename_i e t b q kn hel hd hX
  obtain⟨hT,hz,i,zv,hi,his,hib,hzv,hzr⟩:=nA hel
  obtain⟨hq,h2⟩:=aA.1 he
  obtain⟨h3,h4⟩:=bT.1 h2
  obtain rfl:=ao.1 h4
  simp only[Bool.and_eq_true,decide_eq_true_eq,dK]at h3
  obtain⟨h5,h7,h8⟩:=h3
  obtain⟨m,rfl⟩:=Int.eq_ofNat_of_zero_le (Int.le_of_lt h5)
  simp only[Int.toNat_natCast]at h7 h8 ⊢
  have hzc:zv.cells.size=t.size:=by have:=(hzr (s.env w g β)).size;simpa using this
  have hr:=fun ty=>Go.Lib.run_append_nil_zeros (P:=P) w T X ty e i zv k kn hT hX hi hzv m (by omega) (by rw[his];exact hz) (by omega) (by rw[hib];omega)
  obtain⟨cap,hcap⟩:∃cap,grownCap w m 0 e=cap:=⟨_,rfl⟩
  have c1:m≤cap:=by rw[←hcap];exact grownCap_ge _ _ _ _
  have c2:cap≤maxLen:=by rw[←hcap];exact grownCap_le_maxLen _ _ _ _ (by unfold maxLen;omega)
  rw[hcap]at hr
  obtain⟨cur,hcur⟩:∃cur,Builtin.zeroCells zv.cells m++Builtin.zeroCells zv.cells (cap - m)=cur:=⟨_,rfl⟩
  rw[hcur]at hr
  have s1:cur.size=cap*t.size:=by
   rw[←hcur,Array.size_append,mZ,mZ,hzc,←Nat.add_mul]
   congr 1
   omega
  have hall:=kP (hzr (s.env w.drew g β)) m
  have s2:cur.toList.take (m*t.size)=(madeCells zv.cells (m*t.size)).toList:=by
   rw[←hcur,Array.toList_append,vQ,hzc]
   have hl:(madeCells zv.cells (m*t.size)).toList.length=m*t.size:=by simp[size_madeCells]
   rw[List.take_append_of_le_length (by omega),List.take_of_length_le (by omega)]
  obtain⟨g2,β2,i2,hv2⟩:=(h.drew).xZ hq (e:=e) (l:=List.replicate m t.zero) (cur:=cur) (cap:=cap) hz (by rw[List.length_replicate,s2];exact hall) s1 (by rw[List.length_replicate];exact c1) c2
  rw[List.length_replicate]at hv2
  refine iE ho (F:=fun ty xs=>Builtin.append_ #[T,X] ty xs) (fun ty cs xs=>rfl) (fun ty=> ?_) ⟨g2,β2,i2.put o.dst hv2⟩
  rw[show(#[x,y].map a.eval)= #[a.eval x,a.eval y] by simp,ex,ey]
  exact hr ty
 ·simp only[ai]at he
theorem xe:∀(xs:List Int) (a:Addr) (acc:ByteArray),(∀j x,xs[j]? =some x→w.cell? (a.add j)=some (.int .u8 x))→
  (loadBytes a acc xs.length).run P w= .ok ⟨acc.data++(xs.map fun n=>UInt8.ofNat n.toNat).toArray⟩ w
 |[],a,acc,_=>by simp[loadBytes]
 |x::l,a,acc,h=>by
  have h0:w.cell? a=some (.int .u8 x):=by
   have:=h 0 x rfl
   simpa[Addr.add]using this
  have ih:=xe l (a.add 1) (acc.push x.toNat.toUInt8) (fun j y hy=>by
   have:=h (j+1) y (by simpa using hy)
   have e:(a.add 1).add j=a.add (j+1):=by
    unfold Addr.add
    by_cases hj:j=0
    ·subst hj;simp
    ·simp[hj];omega
   rw[e];exact this)
  simp only[List.length_cons,loadBytes,Sem.run_bind,run_load,h0,Result.andThen]
  rw[ih]
  congr 1
  apply ByteArray.ext
  simp[ByteArray.push]
theorem Ds(h:Inv C g β s a w){c:Call}{x y:Operand}{T U:TypeId}{id:Id}{ver:Nat}{n:Int}(ho:o.op= .call c)(hc:c.callee= .builtin .unsafeString)(ha:c.args.toList=[x,y])(ht:c.argTypes.toList=[T,U])
  (hx:s.ev x= .ptr id ver [.idx 0] 0) (hy:s.ev y= .d (.int .i64) n) {s':AS} (he:(Ag P s o.dst T id ver n).eval=some s'):fy P o a w (gH C s'):=by
 rw[BG hc ha,HJ ht]at ho
 have hvx:=h.ev x
 rw[hx]at hvx
 obtain⟨ad,hax,_,hcp⟩:=ln hvx
 have hvy:=h.ev y
 rw[hy]at hvy
 have hay:=nC hvy
 unfold Ag at he
 split at he
 ·rename_i v e l u hob hT
  obtain⟨h1,h2⟩:=aA.1 he
  obtain⟨h3,h4⟩:=bT.1 h2
  obtain rfl:=ao.1 h4
  simp only[Bool.and_eq_true,beq_iff_eq]at h1
  obtain⟨⟨rfl,rfl⟩,hce⟩:=h1
  simp only[decide_eq_true_eq]at h3
  obtain⟨h5,h6⟩:=h3
  obtain⟨n,rfl⟩:=Int.eq_ofNat_of_zero_le (Int.le_of_lt h5)
  have h6:n≤(l:List Int).length:=by omega
  have hent:=ez hob
  obtain⟨pl,hp,rfl⟩:=hcp ⟨false,_,hent⟩
  have hp:β id=some pl:=hp
  have hO:lZ (s.env w g β) id false (.vec u (.int .u8) l):=h.bZ id v false _ hent
  obtain⟨hz,hO⟩:=hO
  have hO:(match β id with
   |none=>l=[]
   |some pl=>∃cur k,w.heap[pl.b]? =some (.cells cur u (0,0))∧cur.size=pl.cap*(Ty.int .u8).size∧(l:List Int).length≤pl.cap∧pl.cap≤maxLen∧g pl.b= .own (.id id) k∧
     k≤(l:List Int).length*(Ty.int .u8).size∧(false=false→k=0)∧bp (du (s.env w g β) (.int .u8)) (cur.toList.take ((l:List Int).length*(Ty.int .u8).size)) l):=hO
  rw[hp]at hO
  obtain⟨cur,k,q1,q2,q3,q4,q5,q6,q7,q8⟩:=hO
  have hk:=q7 rfl
  subst hk
  have hone:(Ty.int .u8).size=1:=rfl
  rw[hone,Nat.mul_one]at q2 q8
  have hvs:=lI q8
  have hsh:w.shape? pl.b=some (u,cur.size):=by simp only[World.shape?,q1]
  have hcell:∀j z,((l:List Int).take n)[j]? =some z→w.cell? ((⟨pl.b,0,none⟩:Addr).add j)=some (.int .u8 z):=fun j z hj=>by
   rw[List.getElem?_take]at hj
   split at hj
   ·rename_i hjn
    have hjl:j < (l:List Int).length:=by omega
    rw[Addr.add_lit,Nat.zero_add]
    simp only[World.cell?,q1]
    have:(cur.toList.take (l:List Int).length)[j]? =some (.int .u8 z):=by rw[hvs,List.getElem?_map,hj];rfl
    rw[List.getElem?_take,if_pos hjl]at this
    simpa using this
   ·cases hj
  have hlen:((l:List Int).take n).length=n:=by rw[List.length_take];omega
  have hlb:=xe (P:=P) (w:=w) ((l:List Int).take n) ⟨pl.b,0,none⟩ .empty hcell
  rw[hlen]at hlb
  have hlies:=Go.Lib.liesAt_bytes (P:=P) (e:=u) (by simpa using hce) (cur.size / P.cellsOf u) n (by
   rw[show P.cellsOf u=1 by simpa using hce,Nat.div_one];omega)
  have hfz:∃w',w.freeze ⟨pl.b,0,none⟩ n=w'∧w'.os=w.os∧w'.tape=w.tape∧(w'.output=w.output∧w.drawn≤w'.drawn)∧w'.heap.size=w.heap.size∧∀b',b'≠pl.b→w'.heap[b']? =w.heap[b']? :=by
   refine⟨_,rfl,?_⟩
   unfold World.freeze
   rw[if_neg (by omega)]
   refine⟨rfl,rfl,⟨rfl,Nat.le_refl _⟩,by simp,fun b' hb'=> ?_⟩
   simp only[Array.getElem?_modify]
   rw[if_neg (fun e=>hb' e.symm)]
  obtain⟨w',hw',f1,f2,f3,f4,f5⟩:=hfz
  have i1:=h.kill hent q5 f1 f2 f3 f4 f5
  have h63:¬(9223372036854775807:Int) < (n:Int):=by unfold maxLen at q4;omega
  have hneg:¬(n:Int) < 0:=by omega
  have hn0:n≠0:=by omega
  have hmax:IntKind.i64.max=9223372036854775807:=rfl
  refine iE ho (F:=fun ty xs=>Builtin.unsafeString_ #[T,U] ty xs) (fun ty cs xs=>rfl) (x:= .string (gD ((l:List Int).take n))) (w':=w') (fun ty=> ?_) ⟨_,β,i1.put o.dst ⟨[.string (gD ((l:List Int).take n))],by simp only[V,du];rfl,rfl⟩⟩
  rw[show(#[x,y].map a.eval)= #[a.eval x,a.eval y] by simp,hax,hay]
  have hdef:Builtin.unsafeString_ #[T,U] ty #[.pointer (some ⟨pl.b,0,none⟩),.int .i64 n]=
    (do
     let n ←Go.asInt (.int .i64 n)
     if n < 0 then runtimePanic (.error "unsafe.String: len out of range")
     if n > IntKind.i64.max then unsupported (.unsafePointer "String: a length above the largest int")
     if n=0 then pure (.string .empty)
     else if ←variablesAt ⟨pl.b,0,none⟩ (←elemOf T) n.toNat then do
      let s ←loadBytes ⟨pl.b,0,none⟩ .empty n.toNat
      freeze ⟨pl.b,0,none⟩ n.toNat
      pure (.string s)
     else unsupported (.unsafePointer "String: not so many bytes at ptr")):=rfl
  rw[hdef]
  simp[Go.asInt,asIntOf,hmax,h63,hneg,hn0,variablesAt,hsh,elemOf,run_underlying hT,hlies,hlb,hw',gD]
 ·simp only[ai]at he
end
end Go.Ab
namespace Go.Ab
section
variable {P:Program} {C:Ctx} {g:Nat→jt} {β:Id→Option Pl} {s:AS} {a:Act} {w:World} {o:Oper}
theorem zq(h:Inv C g β s a w){c:Call}{T T2:TypeId}{m k:Operand}(hop:o.op= .call c)(hc:c.callee= .builtin .delete)(ha:c.args.toList=[m,k])(ht:c.argTypes.toList=[T,T2]){s':AS}(he:(oz P s T (s.ev m) (s.ev k)).eval=some s'):fy P o a w (gH C (s'.put o.dst .nil)):=by
 have hop:o.op= .call {callee:= .builtin .delete,args:= #[m,k],argTypes:= #[T,T2]}:=by rw[hop,BG hc ha,HJ ht]
 unfold oz at he
 split at he
 ·rename_i K V' kt vt id ver hm hx
  obtain⟨l,h1,he⟩:=al.1 he
  obtain⟨kx,h2,he⟩:=al.1 he
  obtain⟨hul,he⟩:=aA.1 he
  obtain rfl:=ao.1 he
  obtain⟨hT,hK,_⟩:=ni hm
  have hvx:=h.ev m
  rw[hx]at hvx
  obtain⟨fr,pl,es,clock,g1,g2,g3,g4,g5,g6,g7,gn⟩:=my h h1 hvx
  obtain⟨l0,g6,gp⟩:=g6
  have hcomp:=mI depth K kt hK
  have hk:=oB (h.ev k) h2
  have hck:=jg (P:=P) (w:=w) es.isEmpty depth K kt hK 10000 (by decide) _ _ hk
  obtain⟨r,hf,hr⟩:=qy (P:=P) (w:=w) hK hk g6
  have fin:∀(es':Array MapEntry) (clock':Nat),(∀ty,(Builtin.delete_ #[T,T2] ty (#[m,k].map a.eval)).run P w= .ok (.tuple #[]) {w with heap:=w.heap.setIfInBounds pl.b (.map es' clock')})→Alike (nY (s.env w g β) kt vt) es'.toList (nT kt kx l0)→je es'.toList clock'→
    fy P o a w (gH C ((s.bf id (.obj ver false (.mp kt vt (nT kt kx l)))).put o.dst .nil)):=fun es' clock' hrun hal hbo=>
   iE (F:=fun ty xs=>Builtin.delete_ #[T,T2] ty xs) hop (fun _ _ _=>rfl) hrun ⟨g,β,(h.EU g1 g2 g4 g5 ⟨_,hal,va hcomp gn gp⟩ (tx hcomp gn) hbo hul).put o.dst rfl⟩
  cases r with
  |none=>
   simp only at hr
   refine fin es clock (fun ty=> ?_) (by simp only[nT,hr];exact g6) g7
   simp[Builtin.delete_,run_underlying hT,g3,Go.MapKept.run_getObj_map g4,hck,hf,Go.MapKept.run_setObj_map _ g4]
  |some u=>
   obtain⟨j,u⟩:=u
   obtain⟨e,m1,m2,rfl⟩:=hr
   refine fin (es.eraseIdxIfInBounds j) clock (fun ty=> ?_) ?_ (by rw[Array.toList_eraseIdxIfInBounds];exact g7.erase j)
   ·simp[Builtin.delete_,run_underlying hT,g3,Go.MapKept.run_getObj_map g4,hck,hf,Go.MapKept.run_setObj_map _ g4]
   ·simp only[nT,m1,Array.toList_eraseIdxIfInBounds]
    exact g6.erase j
 ·simp only[ai]at he
theorem yI{Γ:dX}(hΓ:Sound P Γ){bZ:List Nat}(h:Inv C g β s a w){s':AS}(he:(jM P Γ bZ o s).eval=some s'):fy P o a w (gH C s'):=by
 unfold jM at he
 split at he
 ·rename_i x hop
  obtain rfl:=ao.1 he
  exact w5 h (.inl hop)
 ·rename_i x hop
  obtain rfl:=ao.1 he
  exact w5 h (.inr hop)
 ·rename_i c x y hop
  obtain⟨v,h1,h2⟩:=al.1 he
  obtain rfl:=ao.1 h2
  exact Db h hop h1
 ·rename_i T hop
  split at he
  ·rename_i z q hz hq
   obtain⟨h1,h2⟩:=aA.1 he
   obtain rfl:=ao.1 h2
   simp only[Bool.and_eq_true]at h1
   exact Au h hop h1.1 h1.2
  ·exact(ai.1 he).elim
 ·rename_i T x hop
  exact DJ h hop he
 ·rename_i T parts hop
  exact AA h hop he
 ·rename_i T n parts hop
  exact tJ h hop he
 ·rename_i T x hop
  obtain⟨v,h1,h2⟩:=al.1 he
  obtain rfl:=ao.1 h2
  exact CY h hop h1
 ·rename_i T x v hop
  obtain⟨v,h1,h2⟩:=al.1 he
  obtain rfl:=ao.1 h2
  exact Br h hop h1
 ·rename_i x hop
  exact wj h hop he
 ·rename_i op T x y U hop
  split at he
  ·rename_i i v1 j v2 hx hy
   obtain⟨v,h1,h2⟩:=al.1 he
   obtain rfl:=ao.1 h2
   exact DZ h hop hx hy h1
  ·obtain⟨v,h1,h2⟩:=al.1 he
   obtain rfl:=ao.1 h2
   exact Ay h hop h1
 ·rename_i op T x hop
  obtain⟨v,h1,h2⟩:=al.1 he
  obtain rfl:=ao.1 h2
  exact Dt h hop h1
 ·rename_i T U x hop
  split at he
  ·rename_i id ver len hTU hx
   exact AH h hop hx he
  ·rename_i id ver hx
   obtain⟨v,h1,h2⟩:=al.1 he
   obtain rfl:=ao.1 h2
   exact AI h hop hx h1
  ·obtain⟨v,h1,h2⟩:=al.1 he
   obtain rfl:=ao.1 h2
   exact xC h hop h1
 ·rename_i T x hop
  exact Bv h hop he
 ·rename_i f first caps hop
  obtain⟨h1,h2⟩:=aA.1 he
  obtain rfl:=ao.1 h2
  simp only[Bool.and_eq_true]at h1
  exact wg h hop h1.1 h1.2
 ·rename_i T l c hop
  obtain⟨n,h1,h2⟩:=al.1 he
  obtain⟨m,h3,h4⟩:=al.1 h2
  exact u7 h hop h1 h3 h4
 ·rename_i T x lo hi hop
  obtain⟨v,h1,h2⟩:=al.1 he
  obtain rfl:=ao.1 h2
  exact Bm h hop h1
 ·rename_i T x f hop
  obtain⟨v,h1,h2⟩:=al.1 he
  obtain rfl:=ao.1 h2
  exact uH h hop h1
 ·rename_i T x f hop
  obtain⟨v,h1,h2⟩:=al.1 he
  obtain rfl:=ao.1 h2
  exact AP h hop h1
 ·rename_i T x i hop
  obtain⟨n,h0,he⟩:=al.1 he
  obtain⟨v,h1,h2⟩:=al.1 he
  obtain rfl:=ao.1 h2
  exact uQ h hop h0 h1
 ·rename_i T x i hop
  obtain⟨n,h0,he⟩:=al.1 he
  obtain⟨v,h1,h2⟩:=al.1 he
  obtain rfl:=ao.1 h2
  exact AV h hop h0 h1
 ·rename_i x i hop
  obtain⟨v,h1,h2⟩:=al.1 he
  obtain rfl:=ao.1 h2
  exact xG h hop h1
 ·rename_i T hop
  exact xW h hop he
 ·rename_i T x i ok hop
  obtain⟨v,h1,h2⟩:=al.1 he
  obtain rfl:=ao.1 h2
  exact zl h hop h1
 ·rename_i T m k x hop
  obtain⟨s1,h1,h2⟩:=al.1 he
  obtain rfl:=ao.1 h2
  exact zs h hop h1
 ·rename_i c hop
  split at he
  ·rename_i hc
   split at he
   ·rename_i m k T T2 ha ht
    obtain⟨s1,h1,h2⟩:=al.1 he
    obtain rfl:=ao.1 h2
    exact zq h hop hc ha ht h1
   ·exact(ai.1 he).elim
  ·rename_i hc
   split at he
   ·rename_i x y T X ha ht
    exact CM h hop hc ha ht he
   ·exact(ai.1 he).elim
  ·rename_i hc
   split at he
   ·rename_i x T ha ht
    obtain⟨v,h1,h2⟩:=al.1 he
    obtain rfl:=ao.1 h2
    exact Ei h hop hc ha ht h1
   ·exact(ai.1 he).elim
  ·rename_i hc
   split at he
   ·rename_i x y T X ha ht
    split at he
    ·rename_i k n hx hy
     exact CS h hop hc ha ht hx hy he
    ·exact yJ h hop hc ha ht he
   ·exact(ai.1 he).elim
  ·rename_i hc
   split at he
   ·rename_i x T ha ht
    split at he
    ·rename_i e hx hT
     obtain rfl:=ao.1 he
     exact DN h hop hc ha ht hx hT
    ·exact(ai.1 he).elim
   ·exact(ai.1 he).elim
  ·rename_i hc
   obtain⟨v,h1,h2⟩:=al.1 he
   obtain rfl:=ao.1 h2
   exact zt (mx:=true) h hop hc h1
  ·rename_i hc
   obtain⟨v,h1,h2⟩:=al.1 he
   obtain rfl:=ao.1 h2
   exact zt (mx:=false) h hop hc h1
  ·rename_i hc
   split at he
   ·rename_i x ha
    split at he
    ·rename_i id ver len hx
     obtain⟨h1,h2⟩:=bT.1 he
     obtain rfl:=ao.1 h2
     exact zZ h hop hc ha hx (by simpa using h1)
    ·exact(ai.1 he).elim
   ·exact(ai.1 he).elim
  ·rename_i hc
   split at he
   ·rename_i x y T U ha ht
    split at he
    ·rename_i id ver n hx hy
     exact Ds h hop hc ha ht hx hy he
    ·exact(ai.1 he).elim
   ·exact(ai.1 he).elim
  ·rename_i F hc
   split at he
   ·rename_i f caps hF
    split at he
    ·rename_i en hen
     exact CF h hop hc hF (hΓ f _ en hen) he
    ·exact(ai.1 he).elim
   ·exact(ai.1 he).elim
  ·exact(ai.1 he).elim
 ·exact(ai.1 he).elim
end
end Go.Ab
namespace Go.Ab
def jL(P:Program)(ops:Array Oper)(o:Oper)(a:Act)(w:World)(K:Act→World→Prop):Prop:=
 if Region.wanted o (yielded ops a.tmps) then fy P o a w K else K (a.put o.dst undef) w
theorem jL.mono{P:Program}{ops:Array Oper}{o:Oper}{a:Act}{w:World}{K K':Act→World→Prop}(h:jL P ops o a w K)(hk:∀a w,K a w→K' a w):jL P ops o a w K':=by
 unfold jL at*
 split
 ·rename_i hw;rw[if_pos hw]at h;exact h.mono hk
 ·rename_i hw;rw[if_neg hw]at h;exact hk _ _ h
theorem fy.some{P:Program}{o:Oper}{a:Act}{w:World}{K:Act→World→Prop}(h:fy P o a w K):∃a' w',K a' w':=by
 rcases h with⟨x,w',_,h⟩ | ⟨w',_,h⟩ | ⟨f,args,w',_,h⟩
 ·exact⟨_,_,h⟩
 ·exact⟨_,_,h⟩
 ·obtain⟨e,w'',_,⟨x,_,hx⟩,_⟩:=h []
  exact⟨_,_,hx⟩
theorem jL.some{P:Program}{ops:Array Oper}{o:Oper}{a:Act}{w:World}{K:Act→World→Prop}(h:jL P ops o a w K):∃a' w',K a' w':=by
 unfold jL at h
 split at h
 ·exact h.some
 ·exact⟨_,_,h⟩
theorem jL.wpList{P:Program}{ops:Array Oper}{o:Oper}{a:Act}{w:World}{Q:Exit→Act→World→Prop}{l:List Oper}(h:jL P ops o a w (wpList P ops Q l)):Go.wpList P ops Q (o::l) a w:=by
 unfold jL at h
 unfold Go.wpList
 split
 ·rename_i hw;rw[if_pos hw]at h;exact .inl h.wp
 ·rename_i hw;rw[if_neg hw]at h;exact h
theorem jL.wpOp{P:Program}{ops:Array Oper}{o:Oper}{i:Nat}{a:Act}{w:World}{Q:Exit→Act→World→Prop}{K:Act→World→Prop}(ho:ops[i]? =Option.some o)(h:jL P ops o a w K):Go.wpOp P ops Q i K a w:=by
 unfold jL at h
 unfold Go.wpOp
 simp only[ho]
 split
 ·rename_i hw;rw[if_pos hw]at h;exact .inl h.wp
 ·rename_i hw;rw[if_neg hw]at h;exact h
theorem EH{s:AS}{q:Nat}{v:az}(h:s.slot q=v)(hq:q < s.cS.length):s.put (some q) v=s:=by
 have hv:s.cS[q]=v:=by simpa[AS.slot,List.getD_eq_getElem?_getD,hq]using h
 simp only[AS.put]
 rw[←hv,List.set_getElem_self]
theorem Ci{s:AS}{q:Nat}{t:Ty}{x:t.den}(h:s.slot q= .d t x):q < s.cS.length:=by
 rcases Nat.lt_or_ge q s.cS.length with h' | h'
 ·exact h'
 ·simp[AS.slot,List.getD_eq_getElem?_getD,List.getElem?_eq_none h']at h
def qb(P:Program)(Γ:dX)(bZ:List Nat)(ops:Array Oper)(o:Oper)(s:AS):Option AS:=
 match o.guard with
 |none=>(jM P Γ bZ o s).eval
 |some (j,want)=>match(ops[j]?).bind (·.dst) with
  |some q=>match s.slot q with
   | .d .bool b=>if b=want then(jM P Γ bZ o s).eval else some (s.put o.dst .nil)
   | .nil=>some (s.put o.dst .nil)
   |_=>none
  |none=>none
theorem y3{R:Type}{P:Program}{Γ:dX}{bZ:List Nat}{ops:Array Oper}{o:Oper}{s:AS}{k:AS→Option R}{r:R}(h:Hb P Γ bZ ops o s k=some r):∃s',qb P Γ bZ ops o s=some s'∧k s'=some r:=by
 unfold Hb at h
 unfold qb
 split at h
 ·rename_i hg
  simp only[hg]
  exact iw.1 h
 ·rename_i j want hg
  simp only[hg]
  split at h
  ·rename_i q hq
   simp only[hq]
   split at h
   ·rename_i b hb
    have e:=EH hb (Ci hb)
    simp only[hb]
    cases want <;> cases b <;> simp only[aC]at h <;> rw[e]at h
    ·obtain⟨s',h1,h2⟩:=iw.1 h
     exact⟨s',by simpa using h1,h2⟩
    ·exact⟨_,by simp,h⟩
    ·exact⟨_,by simp,h⟩
    ·obtain⟨s',h1,h2⟩:=iw.1 h
     exact⟨s',by simpa using h1,h2⟩
   ·rename_i hb
    simp only[hb]
    exact⟨_,rfl,h⟩
   ·cases h
  ·cases h
section
variable {P:Program} {C:Ctx} {g:Nat→jt} {β:Id→Option Pl} {s:AS} {a:Act} {w:World} {o:Oper}
theorem Bz(h:Inv C g β s a w){ops:Array Oper}{j q:Nat}{b:Bool}(hq:(ops[j]?).bind (·.dst)=some q)(hb:s.slot q= .d .bool b):yielded ops a.tmps j=some b:=by
 have hv:=h.cS q
 rw[hb]at hv
 have hv:=tS hv
 have hl:=Ci hb
 rw[←h.size]at hl
 unfold yielded
 rw[hq,Option.bind_some]
 have:a.tmps[q]? =some (.bool b):=by
  rw[Array.getElem?_eq_getElem hl]
  simpa[Array.getD,hl]using hv
 rw[this]
theorem Ao(h:Inv C g β s a w){ops:Array Oper}{j q:Nat}(hq:(ops[j]?).bind (·.dst)=some q)(hb:s.slot q= .nil):yielded ops a.tmps j=none:=by
 have hv:=h.cS q
 rw[hb]at hv
 have hv:a.tmps.getD q undef= .tuple #[]:=hv
 unfold yielded
 rw[hq,Option.bind_some]
 split
 ·rename_i b hb
  rw[Array.getD_eq_getD_getElem?,hb]at hv
  cases hv
 ·rfl
theorem wU{Γ:dX}(hΓ:Sound P Γ){bZ:List Nat}{ops:Array Oper}(h:gH C s a w){s':AS}(he:qb P Γ bZ ops o s=some s'):jL P ops o a w (gH C s'):=by
 obtain⟨g,β,h⟩:=h
 unfold qb at he
 unfold jL
 split at he
 ·rename_i hg
  have:Region.wanted o (yielded ops a.tmps)=true:=by simp[Region.wanted,hg]
  rw[if_pos this]
  exact yI hΓ h he
 ·rename_i j want hg
  split at he
  ·rename_i q hq
   split at he
   ·rename_i b hb
    have hy:=Bz h hq hb
    have hw:Region.wanted o (yielded ops a.tmps)=(b==want):=by simp[Region.wanted,hg,hy]
    rw[hw]
    by_cases e:b=want
    ·rw[if_pos e]at he
     rw[if_pos (by simp[e])]
     exact yI hΓ h he
    ·rw[if_neg e]at he
     rw[if_neg (by simp[e])]
     simp only[Option.some.injEq]at he
     subst he
     exact⟨g,β,h.put o.dst rfl⟩
   ·rename_i hb
    have hy:=Ao h hq hb
    have hw:Region.wanted o (yielded ops a.tmps)=false:=by simp[Region.wanted,hg,hy]
    rw[hw,if_neg (by simp)]
    simp only[Option.some.injEq]at he
    subst he
    exact⟨g,β,h.put o.dst rfl⟩
   ·cases he
  ·cases he
theorem B5{R:Type}{x y:Option R}{r:R}(h:nd x y=some r):x=some r∧y=some r:=by
 unfold nd at h
 split at h
 ·rename_i e;exact⟨h,e▸h⟩
 ·cases h
theorem A6(h:Inv C g β s a w){x y:Operand}{n:Nat}(hn:vd s x y=some n){T:TypeId}(hT:nQ.isSl P T=true):∃b,(0 < n→b=false)∧(Op.equal T (a.eval x) (a.eval y)).run P w= .ok b w∧
  j9 (a.eval x)=false∧a.eval x≠ .nilIface∧∀op,binOp op T (a.eval x) (a.eval y)=(match op with | .eql=>do pure (.bool (←Op.equal T (a.eval x) (a.eval y))) | .neq=>do pure (.bool (!(←Op.equal T (a.eval x) (a.eval y)))) | _=>binOp op T (a.eval x) (a.eval y)):=by
 have hx:=h.ev x
 have hy:=h.ev y
 unfold nQ.isSl at hT
 split at hT <;> try (cases hT;done)
 rename_i e hU
 unfold vd at hn
 split at hn
 ·rename_i t l h1 h2
  rw[h1]at hx;rw[h2]at hy
  obtain⟨ad,cap,vs,hv,_,hs,_⟩:=kR hx
  have hv2:=il hy
  rw[hv,hv2]
  refine⟨ad.isNone,fun hp=> ?_,?_,rfl,by simp,fun op=>by cases op <;> rfl⟩
  ·obtain rfl:=Option.some.inj hn
   obtain⟨ad',rfl⟩:=Option.isSome_iff_exists.1 (hs hp)
   rfl
  ·cases ad with
   |none=>exact fM fun d=>by simp[Op.equalIn,run_underlying hU]
   |some ad=>exact fM fun d=>by simp[Op.equalIn,run_underlying hU]
 ·rename_i t l h1 h2
  rw[h1]at hx;rw[h2]at hy
  obtain⟨ad,cap,vs,hv,_,hs,_⟩:=kR hy
  have hv2:=il hx
  rw[hv,hv2]
  refine⟨ad.isNone,fun hp=> ?_,?_,rfl,by simp,fun op=>by cases op <;> rfl⟩
  ·obtain rfl:=Option.some.inj hn
   obtain⟨ad',rfl⟩:=Option.isSome_iff_exists.1 (hs hp)
   rfl
  ·exact fM fun d=>by simp[Op.equalIn,run_underlying hU]
 ·rename_i id ver pp c i len h1 h2
  rw[h1]at hx;rw[h2]at hy
  obtain⟨ad,cap,hv,_,hs,_⟩:=jU hx
  have hv2:=il hy
  rw[hv,hv2]
  refine⟨ad.isNone,fun hp=> ?_,?_,rfl,by simp,fun op=>by cases op <;> rfl⟩
  ·obtain rfl:=Option.some.inj hn
   obtain⟨ad',rfl⟩:=Option.isSome_iff_exists.1 (hs hp)
   rfl
  ·cases ad with
   |none=>exact fM fun d=>by simp[Op.equalIn,run_underlying hU]
   |some ad=>exact fM fun d=>by simp[Op.equalIn,run_underlying hU]
 ·rename_i id ver pp c i len h1 h2
  rw[h1]at hx;rw[h2]at hy
  obtain⟨ad,cap,hv,_,hs,_⟩:=jU hy
  have hv2:=il hx
  rw[hv,hv2]
  refine⟨ad.isNone,fun hp=> ?_,?_,rfl,by simp,fun op=>by cases op <;> rfl⟩
  ·obtain rfl:=Option.some.inj hn
   obtain⟨ad',rfl⟩:=Option.isSome_iff_exists.1 (hs hp)
   rfl
  ·exact fM fun d=>by simp[Op.equalIn,run_underlying hU]
 ·cases hn
theorem rv(h:Inv C g β s a w){x y:Operand}{n:Nat}{T U:TypeId}(hn:vd s x y=some n)(hT:nQ.isSl P T=true):
  (o.op= .binOp .eql T x y U→∃b,(0 < n→b=false)∧fy P o a w (gH C (s.put o.dst (.d .bool b))))∧(o.op= .binOp .neq T x y U→∃b,(0 < n→b=true)∧fy P o a w (gH C (s.put o.dst (.d .bool b)))):=by
 obtain⟨b,h1,h2,h3,h4,h5⟩:=A6 (w:=w) h hn hT
 have hg:∀op,(eqGuard op T x y (a.eval x) (a.eval y)).run P w= .ok () w:=fun op=>iQ h4 h3
 refine⟨fun ho=>⟨b,h1,h.value (mj b) ?_⟩,fun ho=>⟨!b,fun hp=>by rw[h1 hp];rfl,h.value (mj (!b)) ?_⟩⟩
 ·have h6:(binOp .eql T (a.eval x) (a.eval y)).run P w= .ok (.bool b) w:=by rw[h5 .eql];simp[h2]
  simp[execOp,ho,hg,h6]
 ·have h6:(binOp .neq T (a.eval x) (a.eval y)).run P w= .ok (.bool (!b)) w:=by rw[h5 .neq];simp[h2]
  simp[execOp,ho,hg,h6]
theorem rQ{R:Type}{c:Bool}{x y:Option R}{r:R}(h:aC c x y=some r):(c=true∧x=some r)∨(c=false∧y=some r):=by
 cases c
 ·exact .inr ⟨rfl,h⟩
 ·exact .inl ⟨rfl,h⟩
theorem DT{R:Type}{n:Nat}{k:Nat→Option R}{r:R}(h:IP n k=some r):0 < n∧∀j,j < n→k j=some r:=by
 unfold IP at h
 split at h
 ·rename_i hx
  obtain rfl:=Option.some.inj h
  exact hx.choose_spec
 ·cases h
theorem wA{s:AS}{id:Id}{e:eL}{q:Nat}(hq:s.ef q=true)(hne:s.cl id≠none):(s.bf id e).ef q=true:=by
 cases id with
 |dH k=>exact hq
 |new i j=>
  by_cases hi:i=q
  ·subst hi;exact absurd ((hH hq).1 j) hne
  ·unfold AS.ef AS.bf
   simp only[List.getElem?_set_ne hi]
   exact hq
theorem Alike.len{α β:Type}{R:α→β→Prop}:∀ {xs:List α} {ys:List β},Alike R xs ys→xs.length=ys.length
 |[],[],_=>rfl
 |_::_,_::_,⟨_,h⟩=>by simp[h.len]
 |[],_::_,h=>h.elim
 |_::_,[],h=>h.elim
theorem Be{α:Type}:∀ {xs ys:List α} {i j:Nat} {x:α},xs.Perm ys→xs[i]? =some x→ys[j]? =some x→(xs.eraseIdx i).Perm (ys.eraseIdx j):=by
 have key:∀ {xs:List α} {i:Nat} {x:α},xs[i]? =some x→xs.Perm (x::xs.eraseIdx i):=by
  intro xs
  induction xs with
  |nil=>intro i x h;simp at h
  |cons y xs ih=>
   intro i x h
   cases i with
   |zero=>simp at h;subst h;exact List.Perm.refl _
   |succ i=>
    have h:xs[i]? =some x:=by simpa using h
    exact((ih h).cons y).trans (List.Perm.swap x y _)
 intro xs ys i j x hp hi hj
 exact((key hi).symm.trans (hp.trans (key hj))).cons_inv
theorem Bh(h:Inv C g β s a w){T:TypeId}{m:Operand}(hop:o.op= .range T m){s':AS}(he:(Bg P s o.dst T (s.ev m)).eval=some s'):fy P o a w (gH C s'):=by
 unfold Bg at he
 split at he
 ·rename_i K V' kt vt id ver q hm hx hd
  obtain⟨l,h1,he⟩:=al.1 he
  obtain⟨hq,he⟩:=aA.1 he
  obtain rfl:=ao.1 he
  rw[Bool.and_eq_true]at hq
  obtain⟨hT,_,_⟩:=ni hm
  have hvx:=h.ev m
  rw[hx]at hvx
  obtain⟨fr,pl,es,clock,g1,g2,g3,g4,g5,g6,g7,gn⟩:=my h h1 hvx
  obtain rfl:=pI g1 hq.1
  have hne:s.cl id≠none:=by rw[g1];simp
  have IS:=Trans.refl w g
  have hle0:cW (s.env w g β) ((s.bf id (.obj ver true (.mp kt vt l))).env w g β):=cW.bf g1 (Nat.le_refl _) IS (fun _ _=>rfl) (fun _=>rfl)
  have i0:Inv C g β (s.bf id (.obj ver true (.mp kt vt l))) a w:=
   h.step (dC _ _ _) IS hle0 (hP.bf h.bZ hne hle0 (fun _ _=>rfl) (fun _ _ _ _ _ _ _ _=>⟨rfl,rfl⟩) ⟨pl,es,clock,g2,g4,g5,⟨g6.mono hle0.mem,gn⟩,g7⟩ (tY g1))
  have hent:=eH s id (.obj ver true (.mp kt vt l)) hne
  have hq':=wA (e:= .obj ver true (.mp kt vt l)) hq.2 hne
  generalize hs0:s.bf id (.obj ver true (.mp kt vt l))=s0 at i0 hent hq' hle0
  have hnew:∀j,id≠ .new q j:=fun j e=>by rw[e,(hH hq').1 j]at hent;cases hent
  have hlt:pl.b < w.heap.size:=(Array.getElem?_eq_some_iff.1 g4).1
  have ht:=Trans.alloc w g (.mapIter (some pl.b) clock #[] clock) (.own (.id (.new q 0)) 0)
  obtain⟨h3,h4⟩:=i0.ur hq' (c:= .kF id (ver+1) kt vt l none) (p:=some ⟨w.heap.size,0⟩) ht (fun b hb=>⟨lH w _ hb,fA _ _ _ (by omega)⟩) (fun hE=>
   ⟨⟨w.heap.size,0⟩,pl.b,clock,#[],clock,ix _ _ _,mD w _,fD _ _ _,fun vr hvr=>by
    obtain rfl:ver=vr:=by omega
    have hb:(s0.env w g β).pZ id ver:=⟨by show s0.cl id≠none;rw[hent];simp,fun v2 fr2 c2 h2=>by
     have h2:s0.cl id=some (.obj v2 fr2 c2):=h2
     rw[hent]at h2
     simp only[Option.some.injEq,eL.obj.injEq]at h2
     omega⟩
    refine⟨hE.pZ _ _ hb,fun _=>⟨⟨kt,vt,l,?_⟩,pl,es,clock,?_,rfl,?_,?_,fun x hx=>g7.2 x hx,⟨Nat.le_refl _,Nat.le_refl _⟩,g7.1,?_,fun x hx=>by cases hx⟩⟩
    ·show(s0.born q _).cl id=_
     rw[gI _ hnew];exact hent
    ·show qh β (.new q 0) _ id=_
     rw[mW _ _ _ (hnew 0)];exact g2
    ·exact(lH w _ hlt).trans g4
    ·show jH g w.heap.size _ pl.b=_
     rw[fA _ _ _ (by omega)];exact g5
    ·have:es.toList.filter (fun e=> !(#[]:Array Nat).contains e.born)=es.toList:=List.filter_eq_self.2 fun x _=>by simp
     rw[this]
     exact(g6.mono hle0.mem).mono hE.mem⟩)
  refine .inl ⟨.pointer (some ⟨w.heap.size,0,none⟩),w.alloc (.mapIter (some pl.b) clock #[] clock),?_,_,_,h3.put o.dst (v:= .ptr (.new q 0) 0 [] 0) ⟨[.pointer (some ⟨w.heap.size,0,none⟩)],?_,rfl⟩⟩
  ·refine eb (f:=Instr.range T (a.eval m)) (by simp only[execOp,hop]) ?_
   rw[g3]
   exact run_range_map w T K V' pl.b es clock hT g4
  ·simp only[V]
   exact⟨_,rfl,kB hq' _ _ _ _,fun _=>⟨_,ix _ _ _,rfl⟩⟩
 ·simp only[ai]at he
theorem uT(h:Inv C g β s a w){x:Operand}{t:Cp}(ht:s.Ed (s.ev x)=some t):
  s.cl t.i=some (.obj t.v t.fr (.kF t.q (t.vr+1) t.kt t.vt t.rest t.cur))∧(∃k v l,s.cl t.q=some (.obj t.vr true (.mp k v l)))∧
  ∃pl plq since seen c0 es clock,a.eval x= .pointer (some ⟨pl.b,0,none⟩)∧β t.i=some pl∧w.heap[pl.b]? =some (.mapIter (some plq.b) since seen c0)∧g pl.b= .own (.id t.i) 0∧
   β t.q=some plq∧w.heap[plq.b]? =some (.map es clock)∧g plq.b= .own (.id t.q) 0∧(∀x∈es.toList,x.born < since)∧(since≤c0∧since≤clock)∧(es.toList.map (·.born)).Nodup∧
   xt (s.env w g β) t.kt t.vt (es.toList.filter fun e=> !seen.contains e.born) t.rest∧
   ∀x,t.cur=some x→∃(e:MapEntry) (seen':Array Nat),e∈es.toList∧seen=seen'.push e.born∧c0=clock∧nY (s.env w g β) t.kt t.vt e x:=by
 have hvx:=h.ev x
 generalize s.ev x=y at ht hvx
 unfold AS.Ed at ht
 split at ht
 ·rename_i i ver
  split at ht
  ·rename_i v fr q vr kt vt rest cur hob
   split at ht
   ·rename_i hv hl
    obtain rfl:=Option.some.inj ht
    have hv:v=ver:=by simpa using hv
    subst hv
    have hent:=ez hob
    unfold AS.zk at hl
    split at hl
    ·rename_i v2 k2 t2 l2 hob2
     have hl:v2=vr:=by simpa using hl
     subst hl
     have hq:=ez hob2
     refine⟨hent,⟨_,_,_,hq⟩,?_⟩
     obtain⟨pl,mb,since,seen,c0,h1,h2,h3,h4⟩:=h.bZ i v fr _ hent
     obtain⟨h5,h6⟩:=h4 v2 rfl
     obtain⟨_,plq,es,clock,k1,k2,k3,k4,k5,k6,k7,k8,k9⟩:=h6 ⟨_,_,hq⟩
     subst k2
     obtain⟨ad,m1,m2,m3⟩:=ln hvx
     obtain⟨pl',m4,rfl⟩:=m3 ⟨_,_,hent⟩
     have h1:β i=some pl:=h1
     have m4:β i=some pl':=m4
     rw[h1]at m4
     obtain rfl:pl=pl':=by simpa using m4
     exact⟨pl,plq,since,seen,c0,es,clock,m1,h1,h2,h3,k1,k3,k4,k5,k6,k7,k8,k9⟩
    ·cases hl
   ·cases ht
  ·cases ht
 ·cases ht
theorem nY.JO{E:Env}{kt vt:Ty}{e:MapEntry}{x:kt.den×vt.den}(h:nY E kt vt e x):VS E (.cons (.d kt x.1) (.cons (.d vt x.2) .nil)) (.tuple #[e.key,e.val]):=by
 obtain⟨⟨c1,a1,b1⟩,c2,a2,b2⟩:=h
 refine⟨[e.key,e.val],rfl,?_⟩
 simp only[VC]
 exact⟨_,_,c1,rfl,by simpa only[V]using a1,b1,_,_,c2,rfl,by simpa only[V]using a2,b2,rfl⟩
theorem nY.JP{E:Env}{kt vt:Ty}{e:MapEntry}{x:kt.den×vt.den}(h:nY E kt vt e x):VS E (.cons (.d .bool true) (.cons (.d kt x.1) (.cons (.d vt x.2) .nil))) (.tuple #[.bool true,e.key,e.val]):=by
 obtain⟨⟨c1,a1,b1⟩,c2,a2,b2⟩:=h
 refine⟨[.bool true,e.key,e.val],rfl,?_⟩
 simp only[VC]
 exact⟨_,_,[.bool true],rfl,by simp only[V,du],rfl,_,_,c1,rfl,by simpa only[V]using a1,b1,_,_,c2,rfl,by simpa only[V]using a2,b2,rfl⟩
theorem AO(h:Inv C g β s a w){x:Operand}(hop:o.op= .entry x){v:az}(he:(AN s (s.ev x)).eval=some v):fy P o a w (gH C (s.put o.dst v)):=by
 unfold AN at he
 split at he
 ·rename_i i v0 fr q vr kt vt rest c ht
  obtain rfl:=ao.1 he
  obtain⟨_,_,pl,plq,since,seen,c0,es,clock,m1,m2,m3,_,m5,m6,m7,_,_,m10,_,m12⟩:=uT h ht
  obtain⟨e,seen',n1,rfl,rfl,n4⟩:=m12 c rfl
  refine h.value n4.JO (eb (f:=Instr.entry (a.eval x)) (by simp only[execOp,hop]) ?_)
  rw[m1]
  exact run_entry_at w pl.b plq.b since seen' es _ e m3 m6 n1 m10
 ·simp only[ai]at he
theorem heap_drew{w w1:World}(hw:w1=w∨w1=w.drew):w1.heap=w.heap∧w1.os=w.os∧w1.tape=w.tape∧(w1.output=w.output∧w.drawn≤w1.drawn):=by
 rcases hw with rfl | rfl
 ·exact⟨rfl,rfl,rfl,rfl,Nat.le_refl _⟩
 ·exact⟨rfl,rfl,rfl,rfl,Nat.le_succ _⟩
theorem Inv.Iq(h:Inv C g β s a w){i q:Id}{v vr:Nat}{fr:Bool}{kt vt:Ty}{rest:List (kt.den×vt.den)}{cur:Option (kt.den×vt.den)}(hent:s.cl i=some (.obj v fr (.kF q (vr+1) kt vt rest cur)))
  {k2 v2:Ty} {l2:List (k2.den×v2.den)} (hq:s.cl q=some (.obj vr true (.mp k2 v2 l2))) {pl plq:Pl} {m0:Option Nat} {since0 c00:Nat} {seen0:Array Nat} (hp:β i=some pl) (hb:w.heap[pl.b]? =some (.mapIter m0 since0 seen0 c00)) (hg:g pl.b= .own (.id i) 0)
  {w1:World} (hw:w1=w∨w1=w.drew) {es:Array MapEntry} {clock since c0:Nat} {seen:Array Nat} (hpq:β q=some plq) (hbq:w.heap[plq.b]? =some (.map es clock)) (hgq:g plq.b= .own (.id q) 0)
  (h1:∀x∈es.toList,x.born < since) (h2:since≤c0∧since≤clock) (h3:(es.toList.map (·.born)).Nodup) {rest':List (kt.den×vt.den)} {cur':Option (kt.den×vt.den)} (h4:xt (s.env w g β) kt vt (es.toList.filter fun e=> !seen.contains e.born) rest')
  (h5:∀x,cur'=some x→∃(e:MapEntry) (seen':Array Nat),e∈es.toList∧seen=seen'.push e.born∧c0=clock∧nY (s.env w g β) kt vt e x):
  Inv C g β (s.bf i (.obj v fr (.kF q (vr+1) kt vt rest' cur'))) a (Go.ChangeMaps.setBlock w1 pl.b (.mapIter (some plq.b) since seen c0))∧
   lG (s.env w g β) ((s.bf i (.obj v fr (.kF q (vr+1) kt vt rest' cur'))).env (Go.ChangeMaps.setBlock w1 pl.b (.mapIter (some plq.b) since seen c0)) g β):=by
 obtain⟨d1,d2,d3,d4⟩:=heap_drew hw
 have hlt:pl.b < w.heap.size:=(Array.getElem?_eq_some_iff.1 hb).1
 have hheap:(Go.ChangeMaps.setBlock w1 pl.b (.mapIter (some plq.b) since seen c0)).heap=w.heap.setIfInBounds pl.b (.mapIter (some plq.b) since seen c0):=by
  show w1.heap.setIfInBounds _ _=_
  rw[d1]
 have hos:(Go.ChangeMaps.setBlock w1 pl.b (.mapIter (some plq.b) since seen c0)).os=w.os∧(Go.ChangeMaps.setBlock w1 pl.b (.mapIter (some plq.b) since seen c0)).tape=w.tape∧((Go.ChangeMaps.setBlock w1 pl.b (.mapIter (some plq.b) since seen c0)).output=w.output∧w.drawn≤(Go.ChangeMaps.setBlock w1 pl.b (.mapIter (some plq.b) since seen c0)).drawn):=⟨d2,d3,d4⟩
 generalize Go.ChangeMaps.setBlock w1 pl.b (.mapIter (some plq.b) since seen c0)=w' at hheap hos
 have hother:∀b',b'≠pl.b→w'.heap[b']? =w.heap[b']? :=fun b' hne=>by
  rw[hheap,Array.getElem?_setIfInBounds,if_neg (fun e=>hne e.symm)]
 have hself:w'.heap[pl.b]? =some (.mapIter (some plq.b) since seen c0):=by
  rw[hheap,Array.getElem?_setIfInBounds,if_pos rfl,if_pos hlt]
 have ht:Trans w w' g g:=by
  refine⟨hos.1,hos.2.1,hos.2.2,by rw[hheap];simp,fun b' _=> ?_⟩
  by_cases he:b'=pl.b
  ·subst he
   rw[hg]
   exact⟨.inr ⟨i,0,rfl,Nat.le_refl _⟩,fun _ _ hh=>by omega⟩
  ·rw[hother b' he]
   cases hgb:g b' with
   |free=>exact⟨rfl,rfl⟩
   |own o' k=>cases o' with
    |fu=>exact⟨rfl,rfl⟩
    |id i'=>exact⟨.inr ⟨i',k,rfl,Nat.le_refl _⟩,fun off v _ hv=>by simpa only[World.cell?,hother b' he]using hv⟩
 have hle:cW (s.env w g β) ((s.bf i (.obj v fr (.kF q (vr+1) kt vt rest' cur'))).env w' g β):=cW.bf hent (Nat.le_refl _) ht (fun _ _=>rfl) (fun _=>rfl)
 have hqi:q≠i:=fun e=>by rw[e,hent]at hq;cases hq
 have hpp:plq.b≠pl.b:=fun e=>by rw[e,hb]at hbq;cases hbq
 refine⟨h.step (dC _ _ _) ht hle (hP.bf h.bZ (by rw[hent];simp) hle (fun _ _=>rfl) (fun i' ver' fr' c' pl2 hi hs2 hp2=>⟨hother _ (h.apart hg hi hs2 hp2),rfl⟩) ?_ (jv hent fun _ _ _ e=>by cases e)),hle.mem⟩
 refine⟨pl,plq.b,since,seen,c0,hp,hself,hg,fun vr' hvr=> ?_⟩
 obtain rfl:vr=vr':=by omega
 have hbd:(s.env w g β).pZ q vr:=⟨by show s.cl q≠none;rw[hq];simp,fun v3 fr3 c3 h3=>by
  have h3:s.cl q=some (.obj v3 fr3 c3):=h3
  rw[hq]at h3
  simp only[Option.some.injEq,eL.obj.injEq]at h3
  omega⟩
 refine⟨hle.pZ _ _ hbd,fun _=>⟨⟨k2,v2,l2,?_⟩,plq,es,clock,hpq,rfl,(hother _ hpp).trans hbq,hgq,h1,h2,h3,h4.mono hle.mem,fun x hx=> ?_⟩⟩
 ·show(s.bf i _).cl q=_
  rw[cU s i q _ hqi];exact hq
 ·obtain⟨e,se,a1,a2,a3,a4⟩:=h5 x hx
  exact⟨e,se,a1,a2,a3,a4.mono hle.mem⟩
theorem Inv.Gg(h:Inv C g β s a w){i q:Id}{v ver ver':Nat}{fr:Bool}{kt vt:Ty}{rest rest':List (kt.den×vt.den)}{cur cur':Option (kt.den×vt.den)}(hent:s.cl i=some (.obj v fr (.kF q ver kt vt rest cur)))
  (hk:ver'=0∨(ver'=ver∧rest'=rest∧cur'=none)):Inv C g β (s.bf i (.obj v fr (.kF q ver' kt vt rest' cur'))) a w:=by
 have ht:=Trans.refl w g
 have hle:cW (s.env w g β) ((s.bf i (.obj v fr (.kF q ver' kt vt rest' cur'))).env w g β):=cW.bf hent (Nat.le_refl _) ht (fun _ _=>rfl) (fun _=>rfl)
 refine h.step (dC _ _ _) ht hle (hP.bf h.bZ (by rw[hent];simp) hle (fun _ _=>rfl) (fun _ _ _ _ _ _ _ _=>⟨rfl,rfl⟩) ?_ (jv hent fun _ _ _ e=>by cases e))
 obtain⟨pl,mb,since,seen,c0,h1,h2,h3,h4⟩:=h.bZ i v fr _ hent
 refine⟨pl,mb,since,seen,c0,h1,h2,h3,fun vr hvr=> ?_⟩
 rcases hk with hk | ⟨rfl,rfl,rfl⟩
 ·omega
 ·obtain⟨h5,h6⟩:=h4 vr hvr
  refine⟨hle.pZ _ _ h5,fun hc=> ?_⟩
  obtain⟨c1,_⟩:=hle.cur _ _ h5 hc
  obtain⟨⟨k,v1,l,hq⟩,plq,es,clock,k1,k2,k3,k4,k5,k6,k7,k8,_⟩:=h6 c1
  have hqi:q≠i:=fun e=>by
   have hq:s.cl q=_:=hq
   rw[e,hent]at hq;cases hq
  exact⟨⟨k,v1,l,by show(s.bf i _).cl q=_;rw[cU s i q _ hqi];exact hq⟩,plq,es,clock,k1,k2,k3,k4,k5,k6,k7,k8.mono hle.mem,fun x hx=>by cases hx⟩
theorem Bi{s:AS}{q i:Id}{e:eL}(h:s.vl q=false)(hi:s.cl i=some e):e.Ee q=false:=by
 unfold AS.vl at h
 rw[Bool.or_eq_false_iff]at h
 cases i with
 |dH k=>simpa using List.any_eq_false.1 h.1 _ (List.mem_of_getElem? hi)
 |new a b=>
  have hi:(s.news.getD a [])[b]? =some e:=hi
  by_cases ha:a < s.news.length
  ·have h2:(s.news.getD a []).any (eL.Ee q)=false:=by simpa using List.any_eq_false.1 h.2 (s.news.getD a []) (by simp[List.getD_eq_getElem?_getD,List.getElem?_eq_getElem ha])
   simpa using List.any_eq_false.1 h2 _ (List.mem_of_getElem? hi)
  ·simp[List.getD_eq_getElem?_getD,List.getElem?_eq_none (Nat.le_of_not_lt ha)]at hi
theorem Inv.unlock(h:Inv C g β s a w){q:Id}{vr:Nat}{k v:Ty}{l:List (k.den×v.den)}(hent:s.cl q=some (.obj vr true (.mp k v l)))(hr:s.vl q=false):Inv C g β (s.bf q (.obj vr false (.mp k v l))) a w:=by
 have ht:=Trans.refl w g
 have hle:cW (s.env w g β) ((s.bf q (.obj vr false (.mp k v l))).env w g β):=cW.bf hent (Nat.le_refl _) ht (fun _ _=>rfl) (fun _=>rfl)
 refine h.step (dC _ _ _) ht hle fun i ver fr c hi=> ?_
 have hi:(s.bf q (.obj vr false (.mp k v l))).cl i=some (.obj ver fr c):=hi
 by_cases hiq:i=q
 ·subst hiq
  rw[eH s i _ (by rw[hent];simp)]at hi
  simp only[Option.some.injEq,eL.obj.injEq]at hi
  obtain⟨rfl,rfl,rfl⟩:=hi
  obtain⟨pl,es,clock,h1,h2,h3,h4,h5⟩:=h.bZ i vr true _ hent
  exact⟨pl,es,clock,h1,h2,h3,⟨h4.1.mono hle.mem,h4.2⟩,h5⟩
 ·rw[cU s q i _ hiq]at hi
  refine(h.bZ i ver fr c hi).Gv hle rfl (fun _ _=>⟨rfl,rfl⟩) fun q2 v2 k2 v3 l2 hc hq2 _=>⟨⟨k2,v3,l2,?_⟩,fun _ _=>⟨rfl,rfl⟩⟩
  obtain⟨kt,vt,rest,cu,rfl⟩:=hc
  have hn:=Bi hr hi
  have hne:q2≠q:=fun e=>by simp[eL.Ee,e]at hn
  show(s.bf q _).cl q2=_
  rw[cU s q q2 _ hne];exact hq2
theorem AZ{es:List MapEntry}{seen:Array Nat}(hn:(es.map (·.born)).Nodup){j:Nat}{e:MapEntry}(hj:(es.filter fun e=> !seen.contains e.born)[j]? =some e):
  es.filter (fun x=> !(seen.push e.born).contains x.born)=(es.filter fun e=> !seen.contains e.born).eraseIdx j:=by
 have h1:es.filter (fun x=> !(seen.push e.born).contains x.born)=(es.filter fun e=> !seen.contains e.born).filter fun x=>x.born !=e.born:=by
  rw[List.filter_filter]
  refine List.filter_congr fun x _=> ?_
  rw[contains_push]
  cases seen.contains x.born <;> cases hb:x.born==e.born <;> simp[bne,hb]
 rw[h1]
 have hn2:((es.filter fun e=> !seen.contains e.born).map (·.born)).Nodup:=hn.sublist (List.filter_sublist.map _)
 generalize es.filter (fun e=> !seen.contains e.born)=L at hj hn2
 induction L generalizing j with
 |nil=>simp at hj
 |cons x L ih=>
  rw[List.map_cons,List.nodup_cons]at hn2
  cases j with
  |zero=>
   simp only[List.getElem?_cons_zero,Option.some.injEq]at hj
   subst hj
   have:L.filter (fun y=>y.born !=x.born)=L:=List.filter_eq_self.2 fun y hy=>by
    have:y.born≠x.born:=fun e=>hn2.1 (e▸List.mem_map.2 ⟨y,hy,rfl⟩)
    simpa using this
   simp[this]
  |succ j=>
   have hj:L[j]? =some e:=by simpa using hj
   have hx:(x.born !=e.born)=true:=by
    have:x.born≠e.born:=fun h=>hn2.1 (h▸List.mem_map.2 ⟨e,List.mem_of_getElem? hj,rfl⟩)
    simpa using this
   rw[List.filter_cons,hx,List.eraseIdx_cons_succ]
   simp only[if_true]
   rw[ih hj hn2.2]
theorem C4(h:Inv C g β s a w){x:Operand}(hop:o.op= .next x false){t:Cp}(ht:s.Ed (s.ev x)=some t){R:Type}{k:AS→Option R}{r:R}(he:Es s o.dst t k=some r):
  fy P o a w fun a' w'=>∃s',gH C s' a' w'∧k s'=some r:=by
 obtain⟨hi,⟨k2,v2,l2,hq⟩,pl,plq,since,seen,c0,es,clock,m1,m2,m3,m4,m5,m6,m7,m8,m9,m10,m11,_⟩:=uT h ht
 have hex:∀ {y:Value} {w':World},(Instr.next (a.eval x) false o.type).run P w= .ok y w'→(execOp a.eval o).run P w= .ok (.value y) w':=fun hr=>
  eb (f:=Instr.next (a.eval x) false o.type) (by simp only[execOp,hop]) hr
 have hlo:(leftOf es seen).toList=es.toList.filter fun e=> !seen.contains e.born:=by unfold leftOf;rw[Array.toList_filter]
 obtain⟨l',m11,hperm⟩:=m11
 have hlen:=m11.len
 rw[hperm.length_eq]at hlen
 rw[←hlo,Array.length_toList]at hlen
 unfold Es at he
 rcases run_next_at (P:=P) w o.type pl.b plq.b since c0 seen es clock m3 m6 m8 m9.1 with⟨h0,hrun⟩ | ⟨e,hem,w1,hw,hrun⟩
 ·rcases rQ he with⟨hc,_⟩ | ⟨_,he⟩
  ·have:0 < t.rest.length:=by simpa using hc
   omega
  ·unfold AS.FV at he
   have i1:=h.Gg (rest':=[]) (cur':=none) hi (.inl rfl)
   have hqi:t.q≠t.i:=fun e=>by rw[e,hi]at hq;simp at hq
   have hq1:(s.bf t.i (.obj t.v t.fr (.kF t.q 0 t.kt t.vt [] none))).cl t.q=some (.obj t.vr true (.mp k2 v2 l2)):=by rw[cU s t.i t.q _ hqi];exact hq
   generalize s.bf t.i (.obj t.v t.fr (.kF t.q 0 t.kt t.vt [] none))=s1 at he i1 hq1
   cases hr:s1.vl t.q with
   |true=>rw[hr]at he;cases he
   |false=>
    rw[hr]at he
    simp only at he
    have hun:s1.unlock t.q=s1.bf t.q (.obj t.vr false (.mp k2 v2 l2)):=by simp only[AS.unlock,AS.obj,hq1]
    rw[hun]at he
    rw[←m1]at hrun
    refine .inl ⟨_,w,hex hrun,_,⟨g,β,(i1.unlock hq1 hr).put o.dst (v:= .cons (.d .bool false) .nil) ⟨[.bool false],rfl,?_⟩⟩,he⟩
    simp only[VC]
    exact⟨_,_,[.bool false],rfl,by simp only[V,du],rfl,rfl⟩
 ·rcases rQ he with⟨hc,he⟩ | ⟨hc,_⟩
  ·obtain⟨_,hd⟩:=DT he
   rw[hlo]at hem
   obtain⟨i,hi0⟩:=List.getElem?_of_mem hem
   obtain⟨y,hy1,hy2⟩:=m11.get hi0
   obtain⟨j,hj⟩:=List.getElem?_of_mem (hperm.mem_iff.1 (List.mem_of_getElem? hy1))
   have hjl:j < t.rest.length:=(List.getElem?_eq_some_iff.1 hj).1
   have hy:yd t.kt t.vt t.rest j=y:=by simp[yd,List.getD_eq_getElem?_getD,hj]
   have hall:e∈es.toList:=(List.mem_filter.1 hem).1
   have i1:=h.Iq (rest':=t.rest.eraseIdx j) (cur':=some (yd t.kt t.vt t.rest j)) (since:=since) (c0:=clock) (seen:=seen.push e.born) hi hq m2 m3 m4 hw m5 m6 m7 m8 ⟨m9.2,m9.2⟩ m10 ?_ ?_
   rotate_left
   ·rw[AZ m10 hi0];exact⟨_,m11.erase i,Be hperm hy1 hj⟩
   ·intro z hz
    obtain rfl:=Option.some.inj hz
    exact⟨e,seen,hall,rfl,rfl,by rw[hy];exact hy2⟩
   rw[←m1]at hrun
   have hVS:=(hy▸hy2:nY (s.env w g β) t.kt t.vt e (yd t.kt t.vt t.rest j))
   refine .inl ⟨_,_,hex hrun,_,⟨g,β,i1.1.put o.dst (v:= .cons (.d .bool true) (.cons (.d t.kt (yd t.kt t.vt t.rest j).1) (.cons (.d t.vt (yd t.kt t.vt t.rest j).2) .nil))) ?_⟩,hd j hjl⟩
   exact nY.JP (hVS.mono i1.2)
  ·have hc:¬0 < t.rest.length:=by simpa using hc
   have:0 < (leftOf es seen).toList.length:=List.length_pos_of_mem hem
   rw[Array.length_toList]at this
   omega
theorem CR{Γ:dX}(hΓ:Sound P Γ){bZ:List Nat}{ops:Array Oper}{R:Type}{k:AS→Option R}{r:R}(h:gH C s a w)(he:FG P Γ bZ ops o s k=some r):
  jL P ops o a w fun a' w'=>∃s',gH C s' a' w'∧k s'=some r:=by
 have plain:Hb P Γ bZ ops o s k=some r→jL P ops o a w fun a' w'=>∃s',gH C s' a' w'∧k s'=some r:=fun he=>by
  obtain⟨s1,h1,h2⟩:=y3 he
  exact(wU hΓ h h1).mono fun a' w' hs=>⟨s1,hs,h2⟩
 have stepK:∀(hg:o.guard=none),(fy P o a w fun a' w'=>∃s',gH C s' a' w'∧k s'=some r)→jL P ops o a w fun a' w'=>∃s',gH C s' a' w'∧k s'=some r:=fun hg hr=>by
  unfold jL
  have:Region.wanted o (yielded ops a.tmps)=true:=by simp[Region.wanted,hg]
  rw[if_pos this]
  exact hr
 have step:∀(hg:o.guard=none) (b:Bool),fy P o a w (gH C (s.put o.dst (.d .bool b)))→k (s.put o.dst (.d .bool b))=some r→jL P ops o a w fun a' w'=>∃s',gH C s' a' w'∧k s'=some r:=fun hg b hr hk=>by
  unfold jL
  have:Region.wanted o (yielded ops a.tmps)=true:=by simp[Region.wanted,hg]
  rw[if_pos this]
  exact hr.mono fun a' w' hs=>⟨_,hs,hk⟩
 unfold FG at he
 split at he
 ·rename_i T x y U hg ho
  split at he
  ·rename_i n hn hT
   obtain⟨g,β,hi⟩:=h
   obtain⟨b,hb,hr⟩:=(rv (o:=o) (U:=U) hi hn hT).1 ho
   refine step hg b hr ?_
   rcases rQ he with⟨hc,hk⟩ | ⟨_,hk⟩
   ·rw[hb (by simpa using hc)];exact hk
   ·obtain⟨k1,k2⟩:=B5 hk
    cases b
    ·exact k2
    ·exact k1
  ·exact plain he
 ·rename_i T x y U hg ho
  split at he
  ·rename_i n hn hT
   obtain⟨g,β,hi⟩:=h
   obtain⟨b,hb,hr⟩:=(rv (o:=o) (U:=U) hi hn hT).2 ho
   refine step hg b hr ?_
   rcases rQ he with⟨hc,hk⟩ | ⟨_,hk⟩
   ·rw[hb (by simpa using hc)];exact hk
   ·obtain⟨k1,k2⟩:=B5 hk
    cases b
    ·exact k2
    ·exact k1
  ·exact plain he
 ·rename_i T m hg ho
  obtain⟨s1,h1,h2⟩:=iw.1 he
  obtain⟨g,β,hi⟩:=h
  exact stepK hg ((Bh hi ho h1).mono fun _ _ hs=>⟨_,hs,h2⟩)
 ·rename_i x hg ho
  obtain⟨s1,h1,h2⟩:=iw.1 he
  obtain⟨v,h3,h4⟩:=al.1 h1
  obtain rfl:=ao.1 h4
  obtain⟨g,β,hi⟩:=h
  exact stepK hg ((AO hi ho h3).mono fun _ _ hs=>⟨_,hs,h2⟩)
 ·rename_i x hg ho
  split at he
  ·rename_i t ht
   obtain⟨g,β,hi⟩:=h
   exact stepK hg (C4 hi ho ht he)
  ·cases he
 ·exact plain he
theorem tl{Γ:dX}(hΓ:Sound P Γ){bZ:List Nat}{ops:Array Oper}{R:Type}{Q:Exit→Act→World→Prop}:∀(l:List Oper) {s:AS} {a:Act} {w:World} {k:AS→Option R} {r:R},gH C s a w→FH P Γ bZ ops l s k=some r→
  (∀s' a' w',gH C s' a' w'→k s'=some r→Q .normal a' w')→wpList P ops Q l a w
 |[],s,a,w,k,r,h,he,hk=>hk s a w h he
 |o::l,s,a,w,k,r,h,he,hk=>by
  have he:FG P Γ bZ ops o s (fun s'=>s'.seen fun s'=>FH P Γ bZ ops l s' k)=some r:=he
  simp only[AS.rP]at he
  exact((CR hΓ h he).mono fun a' w' ⟨s',hs,h2⟩=>tl hΓ l hs h2 hk).wpList
end
end Go.Ab
namespace Go.Ab
theorem AS.D0{s t:AS}(h1:s.cS=t.cS)(h2:s.news.length=t.news.length)(h3:∀id,s.cl id=t.cl id):s=t:=by
 obtain⟨a,b,c⟩:=s
 obtain⟨a',b',c'⟩:=t
 simp only at h1 h2
 subst h1
 have hb:b=b':=List.ext_getElem? fun k=>h3 (.dH k)
 subst hb
 have hc:c=c':=by
  apply List.ext_getElem h2
  intro i h h'
  apply List.ext_getElem?
  intro j
  have:=h3 (.new i j)
  simpa[AS.cl,List.getD_eq_getElem?_getD,h,h']using this
 rw[hc]
def eL.zX:eL→eL→Prop
 | .obj v _ c,.obj v' _ c'=>v=v'∧c=c'
 | .dead,.dead=>True
 |_,_=>False
def mR:Option eL→Option eL→Prop
 |some a,some b=>a.zX b
 |none,none=>True
 |_,_=>False
def eL.BT:eL→eL
 | .obj v _ c=> .obj v true c
 | .dead=> .dead
theorem eL.EY(a:eL):a.zX a:=by cases a <;> simp[eL.zX]
theorem Dl(a:Option eL):mR a a:=by cases a <;> simp[mR,eL.EY]
theorem Dk(a:Option eL):mR (a.map eL.BT) a:=by
 cases a with
 |none=>trivial
 |some x=>cases x <;> simp[mR,eL.zX,eL.BT]
theorem eL.FF(a:eL):a.BT.BT=a.BT:=by cases a <;> rfl
structure iA(f:oV)(s t:AS):Prop where
 cS:∀i∈f.cS,t.slot i=s.slot i
 ws:∀id∈f.ws,t.cl id=s.cl id
 rs:∀id∈f.rs,mR (t.cl id) (s.cl id)
 ef:∀q,f.dst=some q→t.ef q=s.ef q
structure HK where
 v:az
 up:Id→Option eL
 fz:List Id
structure App(d:Option Tmp)(E:HK)(s s':AS):Prop where
 cS:s'.cS=(s.put d E.v).cS
 len:s'.news.length=s.news.length
 cl:∀id,s'.cl id=match E.up id with | some e=>some e | none=>if id∈E.fz then(s.cl id).map eL.BT else s.cl id
theorem App.GU{d:Option Tmp}{E:HK}{s s1 s2:AS}(h1:App d E s s1)(h2:App d E s s2):s1=s2:=
 AS.D0 (by rw[h1.cS,h2.cS]) (by rw[h1.len,h2.len]) fun id=>by rw[h1.cl,h2.cl]
structure xv(f:oV)(s:AS)(E:HK):Prop where
 up:∀id e,E.up id=some e→(id∈f.ws∧s.cl id≠none)∨∃q j,f.dst=some q∧id= .new q j
 fz:∀id∈E.fz,id∈f.rs
theorem qD(s:AS)(id:Id)(e:eL):(s.bf id e).news.length=s.news.length:=by cases id <;> simp[AS.bf]
theorem v7(s:AS)(id i:Id):(s.freeze id).cl i=if i=id then(s.cl i).map eL.BT else s.cl i:=by
 unfold AS.freeze
 cases hs:s.cl id with
 |none=>
  by_cases hi:i=id
  ·subst hi;simp[hs]
  ·simp[hi]
 |some e=>
  cases e with
  |dead=>
   by_cases hi:i=id
   ·subst hi;simp[hs,eL.BT]
   ·simp[hi]
  |obj v fr c=>
   simp only
   by_cases hi:i=id
   ·subst hi
    rw[eH s i _ (by rw[hs];simp)]
    simp[hs,eL.BT]
   ·rw[cU s id i _ hi];simp[hi]
theorem fp(i:Id):∀(ids:List Id) (s:AS),(s.bq ids).cl i=if i∈ids then(s.cl i).map eL.BT else s.cl i
 |[],s=>by simp[AS.bq]
 |id::ids,s=>by
  rw[AS.bq,fp i ids,v7]
  by_cases h1:i=id
  ·subst h1
   by_cases h2:i∈ids
   ·simp[h2,Option.map_map,Function.comp_def,eL.FF]
   ·simp[h2]
  ·simp[h1]
theorem A0(s:AS)(id:Id):(s.freeze id).news.length=s.news.length:=by
 unfold AS.freeze
 split
 ·exact qD _ _ _
 ·rfl
theorem jQ:∀(ids:List Id) (s:AS),(s.bq ids).news.length=s.news.length
 |[],_=>rfl
 |id::ids,s=>by rw[AS.bq,jQ ids,A0]
theorem mX{s:AS}{q:Nat}:s.ef q=true↔q < s.news.length∧∀j,s.cl (.new q j)=none:=by
 refine⟨fun h=>⟨(hH h).2,(hH h).1⟩,fun⟨h1,h2⟩=> ?_⟩
 unfold AS.ef
 rw[List.getElem?_eq_getElem h1]
 have h0:=h2 0
 simp only[AS.cl,List.getD_eq_getElem?_getD,List.getElem?_eq_getElem h1,Option.getD_some]at h0
 cases hh:s.news[q]with
 |nil=>rfl
 |cons x xs=>rw[hh]at h0;simp at h0
theorem App.sz(d:Option Tmp)(v:az)(ids:List Id)(s:AS):App d ⟨v,fun _=>none,ids⟩ s ((s.bq ids).put d v):=by
 refine⟨?_,?_,fun id=> ?_⟩
 ·cases d <;> simp[AS.put,iN]
 ·cases d <;> simp[AS.put,jQ]
 ·rw[pN,fp]
theorem App.pS(d:Option Tmp)(v:az)(s:AS):App d ⟨v,fun _=>none,[]⟩ s (s.put d v):=App.sz d v [] s
def sj(q:Nat)(es:List eL):Id→Option eL
 | .new i j=>if i=q then es[j]? else none
 | .dH _=>none
theorem DX(s:AS){q:Nat}(hq:q < s.news.length)(es:List eL)(id:Id):(s.born q es).cl id=match id with | .new i j=>if i=q then es[j]? else s.cl (.new i j) | .dH k=>s.cl (.dH k):=by
 cases id with
 |dH k=>rfl
 |new i j=>
  simp only
  by_cases h:i=q
  ·subst h;rw[if_pos rfl];exact mu hq _ j
  ·rw[if_neg h];exact gI _ fun j' e=>by simp only[Id.new.injEq]at e;exact h e.1
theorem App.BM{s:AS}{q:Nat}(hv:s.ef q=true)(v:az)(ids:List Id)(es:List eL):App (some q) ⟨v,sj q es,ids⟩ s (((s.bq ids).born q es).put (some q) v):=by
 obtain⟨h1,h2⟩:=mX.1 hv
 refine⟨?_,?_,fun id=> ?_⟩
 ·simp[AS.put,iN]
 ·simp[AS.put,AS.born,jQ]
 ·rw[pN,DX _ (by rw[jQ];exact h1)]
  cases id with
  |dH k=>simp only[sj];exact fp _ _ _
  |new i j=>
   simp only[sj]
   by_cases h:i=q
   ·subst h
    rw[if_pos rfl]
    cases he:es[j]? with
    |none=>simp[h2]
    |some e=>simp
   ·rw[if_neg h]
    simp only[if_neg h]
    exact fp _ _ _
theorem App.EV{s:AS}{id:Id}{e0:eL}(hs:s.cl id=some e0)(d:Option Tmp)(v:az)(e:eL):App d ⟨v,fun i=>if i=id then some e else none,[]⟩ s ((s.bf id e).put d v):=by
 refine⟨?_,?_,fun i=> ?_⟩
 ·cases d <;> simp[AS.put]
 ·cases d <;> simp[AS.put,qD]
 ·rw[pN]
  by_cases hi:i=id
  ·subst hi
   rw[eH s i _ (by rw[hs];simp)]
   simp
  ·rw[cU s id i _ hi];simp[hi]
section
variable {P:Program} {Γ:dX} {bZ:List Nat} {ops:Array Oper} {o:Oper} {s t:AS}
def qU(P:Program)(Γ:dX)(bZ:List Nat)(ops:Array Oper)(o:Oper)(s s':AS):Prop:=
 ∃E,App o.dst E s s'∧xv (fS Γ ops s o) s E∧∀t,iA (fS Γ ops s o) s t→∃t',(jM P Γ bZ o t).eval=some t'∧App o.dst E t t'
theorem tr{xs:Array Operand}{i:Nat}(h:Operand.tmp i∈xs.toList):i∈uf xs:=by
 unfold uf
 exact List.mem_filterMap.2 ⟨_,h,rfl⟩
theorem iA.ev(h:iA (fS Γ ops s o) s t){x:Operand}(hx:x∈o.op.operands.toList):t.ev x=s.ev x:=by
 cases x with
 |tmp i=>exact h.cS i (List.mem_append.2 (.inl (tr hx)))
 |_=>rfl
theorem zD(v:Value):(ofConst v).ids=[]:=by unfold ofConst;split <;> rfl
theorem yc{o:Oper}{x:Op}(h:o.op=x)(hx:w4 x=false):w4 o.op=false:=by rw[h];exact hx
theorem qz(hn:w4 o.op=false){x:Operand}(hx:x∈o.op.operands.toList){id:Id}(hid:id∈(s.ev x).ids):id∈(fS Γ ops s o).rs:=by
 refine List.mem_append.2 (.inl ?_)
 unfold zE
 rw[hn]
 cases x with
 |tmp i=>exact List.mem_flatMap.2 ⟨i,tr hx,hid⟩
 |const v=>simp[AS.ev,zD]at hid
 |global _=>simp[AS.ev,az.ids]at hid
 |func f=>simp[AS.ev,az.ids]at hid
theorem iA.zX(h:iA (fS Γ ops s o) s t)(hn:w4 o.op=false){x:Operand}(hx:x∈o.op.operands.toList){id:Id}(hid:id∈(s.ev x).ids):mR (t.cl id) (s.cl id):=
 h.rs id (qz hn hx hid)
theorem rT{id:Id}(h:mR (t.cl id) (s.cl id)):(t.obj id=none∧s.obj id=none)∨∃v f f' c,t.obj id=some (v,f,c)∧s.obj id=some (v,f',c):=by
 unfold AS.obj
 revert h
 cases t.cl id with
 |none=>cases s.cl id with
  |none=>intro _;simp
  |some b=>intro h;exact h.elim
 |some a=>cases s.cl id with
  |none=>intro h;exact h.elim
  |some b=>cases a <;> cases b <;> intro h <;> first
    |exact h.elim
    | (left;exact⟨rfl,rfl⟩)
    | (obtain⟨rfl,rfl⟩:=h;right;exact⟨_,_,_,_,rfl,rfl⟩)
theorem sV{id:Id}(h:mR (t.cl id) (s.cl id))(ver:Nat)(p:List qo):t.row id ver p=s.row id ver p:=by
 unfold AS.row
 rcases rT h with⟨h1,h2⟩ | ⟨v,f,f',c,h1,h2⟩ <;> rw[h1,h2]
theorem jr:∀(v:az) (ty:Ty),(∀id∈v.ids,mR (t.cl id) (s.cl id))→t.gN ty v=s.gN ty v
 | .cT id ver p c i len,ty,h=>by
  cases ty <;> first
   |rfl
   | (simp only[AS.gN];rw[sV (h id (by simp[az.ids]))])
 | .pr a b,ty,h=>by
  cases ty <;> first
   |rfl
   | (simp only[AS.gN];rw[jr a _ fun id hid=>h id (by simp[az.ids,hid]),jr b _ fun id hid=>h id (by simp[az.ids,hid])])
 | .undef,ty,_ | .gone,ty,_ | .dP,ty,_ | .lk,ty,_ | .l6,ty,_ | .nU,ty,_ | .d _ _,ty,_ | .ptr ..,ty,_ | .eI ..,ty,_ | .fn ..,ty,_ | .cons ..,ty,_ | .nil,ty,_ | .vec ..,ty,_ | .bx ..,ty,_ | .kL ..,ty,_ | .mp ..,ty,_ | .kF ..,ty,_ | .sb _,ty,_=>by
  cases ty <;> simp only[AS.gN]
theorem lu:∀(v:az),∀id∈v.shared,id∈v.ids
 | .cT ..,id,h=>by simpa[az.shared,az.ids]using h
 | .pr a b,id,h=>by
  simp only[az.shared,List.mem_append,az.ids]at h ⊢
  rcases h with h | h
  ·exact .inl (lu a id h)
  ·exact .inr (lu b id h)
 | .undef,_,h | .gone,_,h | .dP,_,h | .lk,_,h | .l6,_,h | .nU,_,h | .d _ _,_,h | .ptr ..,_,h | .eI ..,_,h | .fn ..,_,h | .cons ..,_,h | .nil,_,h | .vec ..,_,h | .bx ..,_,h | .kL ..,_,h | .mp ..,_,h | .kF ..,_,h | .sb _,_,h=>by
  simp[az.shared]at h
theorem zj{T:TypeId}{x:az}(h:∀id∈x.ids,mR (t.cl id) (s.cl id)):rp P t T x=rp P s T x:=by
 unfold rp
 split
 ·rename_i id ver p n
  rcases rT (h id (by simp[az.ids])) with⟨h1,h2⟩ | ⟨v,f,f',c,h1,h2⟩ <;> rw[h1,h2]
 ·rfl
 ·rfl
theorem xB{n:Nat}{lo hi:Option Operand}(hl:∀x,lo=some x→t.ev x=s.ev x)(hh:∀x,hi=some x→t.ev x=s.ev x):bounds t n lo hi=bounds s n lo hi:=by
 unfold bounds
 cases lo <;> cases hi <;> simp only[] <;> first
  |rfl
  | (rw[hl _ rfl,hh _ rfl])
  |rw[hl _ rfl]
  |rw[hh _ rfl]
theorem yj{T:TypeId}{x:az}{lo hi:Option Operand}(h:∀id∈x.ids,mR (t.cl id) (s.cl id))(hl:∀x,lo=some x→t.ev x=s.ev x)(hh:∀x,hi=some x→t.ev x=s.ev x):
  qI P t T x lo hi=qI P s T x lo hi:=by
 have hb:∀n,bounds t n lo hi=bounds s n lo hi:=fun n=>xB hl hh
 unfold qI
 split <;> first
  |rfl
  | (rw[sV (h _ (by simp[az.ids]))];simp only[hb];done)
  | (simp only[hb];done)
theorem sC{T:TypeId}{x:az}{i:Int}(h:∀id∈x.ids,mR (t.cl id) (s.cl id)):j8 P t T x i=j8 P s T x i:=by
 unfold j8
 split <;> first
  |rfl
  |rw[sV (h _ (by simp[az.ids]))]
theorem yQ{obj:Bool}{src dst:TypeId}{x:az}(h:∀id∈x.ids,mR (t.cl id) (s.cl id)):wO P t obj src dst x=wO P s obj src dst x:=by
 unfold wO
 split
 ·rfl
 ·unfold DR
  split <;> first
   |rfl
   | (simp only[AS.Bb,jr _ _ h])
theorem CO{T:TypeId}{op:BinOp}{i:Id}{v:Nat}{j:Id}{w:Nat}(h:mR (t.cl i) (s.cl i)):HQ P t T op i v j w=HQ P s T op i v j w:=by
 unfold HQ
 rcases rT h with⟨h1,h2⟩ | ⟨v,f,f',c,h1,h2⟩ <;> rw[h1,h2]
theorem yS{src dst:TypeId}{id:Id}{ver:Nat}(h:mR (t.cl id) (s.cl id)):wP P t src dst id ver=wP P s src dst id ver:=by
 unfold wP
 rcases rT h with⟨h1,h2⟩ | ⟨v,f,f',c,h1,h2⟩
 ·rw[h1,h2]
 ·rw[h1,h2]
  cases c <;> first
   |rfl
   | (rename_i e z c;cases z <;> rfl)
theorem mQ{ty:Ty}:∀(ps:List (Nat×Operand)) (l:List ty.den),(∀x∈ps,t.ev x.2=s.ev x.2∧∀id∈(s.ev x.2).ids,mR (t.cl id) (s.cl id))→gS ty t ps l=gS ty s ps l
 |[],_,_=>rfl
 | (i,x)::ps,l,h=>by
  obtain⟨h1,h2⟩:=h (i,x) (List.mem_cons_self ..)
  simp only[gS]
  simp only at h1 h2
  rw[h1,jr _ _ h2]
  congr 2
  funext y
  rw[mQ ps _ fun z hz=>h z (List.mem_cons_of_mem _ hz)]
theorem l8{ty:Ty}:∀(ps:List (Nat×Operand)) (l:List ty.den) (r:List ty.den×List Id),(gS ty s ps l).eval=some r→∀id∈r.2,∃x∈ps,id∈(s.ev x.2).ids
 |[],l,r,h,id,hid=>by
  obtain rfl:=ao.1 h
  cases hid
 | (i,x)::ps,l,r,h,id,hid=>by
  simp only[gS]at h
  obtain⟨h1,h2⟩:=aA.1 h
  obtain⟨y,h3,h4⟩:=al.1 h2
  obtain⟨r',h5,h6⟩:=al.1 h4
  obtain rfl:=ao.1 h6
  rcases List.mem_append.1 hid with hid | hid
  ·exact⟨(i,x),List.mem_cons_self ..,lu _ _ hid⟩
  ·obtain⟨z,hz,hz2⟩:=l8 ps _ r' h5 id hid
   exact⟨z,List.mem_cons_of_mem _ hz,hz2⟩
theorem oO{fs:Array Field}:∀(ps:List (Nat×Operand)) (v:az),(∀x∈ps,t.ev x.2=s.ev x.2)→jx P fs t ps v=jx P fs s ps v
 |[],_,_=>rfl
 | (i,x)::ps,v,h=>by
  have h1:=h (i,x) (List.mem_cons_self ..)
  simp only at h1
  simp only[jx,h1]
  have ih:∀v,jx P fs t ps v=jx P fs s ps v:=fun v=>oO ps v fun z hz=>h z (List.mem_cons_of_mem _ hz)
  simp only[ih]
theorem qZ:∀(l:List Operand),(∀x∈l,t.ev x=s.ev x)→jX t l=jX s l
 |[],_=>rfl
 |x::l,h=>by
  simp only[jX]
  rw[h x (List.mem_cons_self ..),qZ l fun y hy=>h y (List.mem_cons_of_mem _ hy)]
theorem tv{ty:Ty}{X:TypeId}{x:az}(h:∀id∈x.ids,mR (t.cl id) (s.cl id)):pq P t ty X x=pq P s ty X x:=by
 unfold pq
 split
 ·rfl
 ·simp only[AS.Bb,jr _ _ h]
theorem iI{v:az}(h:∀t,iA (fS Γ ops s o) s t→(jM P Γ bZ o t).eval=some (t.put o.dst v)):qU P Γ bZ ops o s (s.put o.dst v):=
 ⟨⟨v,fun _=>none,[]⟩,App.pS _ _ _,⟨fun _ _ h=>by simp at h,fun _ h=>by simp at h⟩,fun t ht=>⟨_,h t ht,App.pS _ _ _⟩⟩
theorem jw{F:AS→Out az}(ho:∀t,jM P Γ bZ o t=(F t).bind fun v=> .ok (t.put o.dst v))(hF:∀t,iA (fS Γ ops s o) s t→F t=F s){s':AS}(he:(jM P Γ bZ o s).eval=some s'):qU P Γ bZ ops o s s':=by
 rw[ho]at he
 obtain⟨v,h1,h2⟩:=al.1 he
 obtain rfl:=ao.1 h2
 refine iI fun t ht=> ?_
 rw[ho,hF t ht,al]
 exact⟨v,h1,rfl⟩
theorem tZ{v:az}{ids:List Id}(hi:∀id∈ids,id∈(fS Γ ops s o).rs)(h:∀t,iA (fS Γ ops s o) s t→(jM P Γ bZ o t).eval=some ((t.bq ids).put o.dst v)):qU P Γ bZ ops o s ((s.bq ids).put o.dst v):=
 ⟨⟨v,fun _=>none,ids⟩,App.sz _ _ _ _,⟨fun _ _ h=>by simp at h,hi⟩,fun t ht=>⟨_,h t ht,App.sz _ _ _ _⟩⟩
theorem mK{v:az}{ids:List Id}{q:Nat}{es:List eL}(hd:o.dst=some q)(hv:s.ef q=true)(hi:∀id∈ids,id∈(fS Γ ops s o).rs)
  (h:∀t,iA (fS Γ ops s o) s t→t.ef q=true→(jM P Γ bZ o t).eval=some (((t.bq ids).born q es).put o.dst v)):qU P Γ bZ ops o s (((s.bq ids).born q es).put o.dst v):=by
 refine⟨⟨v,sj q es,ids⟩,by rw[hd];exact App.BM hv _ _ _,⟨fun id e h=> .inr ?_,hi⟩,fun t ht=> ?_⟩
 ·cases id with
  |dH _=>simp[sj]at h
  |new i j=>
   simp only[sj]at h
   split at h
   ·rename_i hq;exact⟨q,j,hd,by rw[hq]⟩
   ·cases h
 ·have hv':t.ef q=true:=by rw[ht.ef q hd];exact hv
  exact⟨_,h t ht hv',by rw[hd];exact App.BM hv' _ _ _⟩
theorem ou{v:az}{id:Id}{e0 e:eL}(hs:s.cl id=some e0)(hw:id∈(fS Γ ops s o).ws)(h:∀t,iA (fS Γ ops s o) s t→t.cl id=s.cl id→(jM P Γ bZ o t).eval=some ((t.bf id e).put o.dst v)):
  qU P Γ bZ ops o s ((s.bf id e).put o.dst v):=by
 refine⟨⟨v,fun i=>if i=id then some e else none,[]⟩,App.EV hs _ _ _,⟨fun i e' h=> .inl ?_,fun _ h=>by simp at h⟩,fun t ht=> ?_⟩
 ·simp only at h
  split at h
  ·rename_i hi;subst hi;exact⟨hw,by rw[hs];simp⟩
  ·cases h
 ·have:=ht.ws id hw
  exact⟨_,h t ht this,App.EV (this.trans hs) _ _ _⟩
end
end Go.Ab
namespace Go.Ab
section
variable {P:Program} {Γ:dX} {bZ:List Nat} {ops:Array Oper} {o:Oper} {s t:AS}
theorem yl{T:TypeId}{x v:az}{s':AS}(h:(pD P s T x v).eval=some s'):
  ∃id e0 e,x.ids=[id]∧s.cl id=some e0∧s'=s.bf id e∧∀t:AS,t.cl id=s.cl id→(pD P t T x v).eval=some (t.bf id e):=by
 unfold pD at h
 split at h
 ·rename_i id ver p n
  cases hob:s.obj id with
  |none=>rw[hob]at h;simp only[ai]at h
  |some r=>
   obtain⟨ve,fr,c⟩:=r
   rw[hob]at h
   obtain⟨h1,h2⟩:=aA.1 h
   obtain⟨r,h3,h4⟩:=al.1 h2
   obtain⟨h5,h6⟩:=aA.1 h4
   obtain⟨h7,h8⟩:=bT.1 h6
   obtain⟨c',h9,h10⟩:=al.1 h8
   obtain rfl:=ao.1 h10
   refine⟨id,_,_,rfl,ez hob,rfl,fun t ht=> ?_⟩
   have hob':t.obj id=some (ve,fr,c):=by simp only[AS.obj,ht];exact hob
   unfold pD
   simp only[hob']
   exact aA.2 ⟨h1,al.2 ⟨r,h3,aA.2 ⟨h5,bT.2 ⟨h7,al.2 ⟨c',h9,ao.2 rfl⟩⟩⟩⟩⟩
 ·simp only[ai]at h
theorem AJ{c:Call}{x y:Operand}{T X:TypeId}(hop:o.op= .call c)(hc:c.callee= .builtin .copy)(ha:c.args.toList=[x,y])(ht:c.argTypes.toList=[T,X]){s':AS}
  (he:(uB P s o.dst T X (s.ev x) (s.ev y)).eval=some s'):qU P Γ bZ ops o s s':=by
 have hao:∀t:AS,jM P Γ bZ o t=uB P t o.dst T X (t.ev x) (t.ev y):=fun t=>by
  unfold jM
  rw[hop]
  simp only[hc,ha,ht]
 have hmem:∀z,z=x∨z=y→z∈o.op.operands.toList:=fun z hz=>by
  rw[hop]
  simp only[Op.operands,Call.operands,hc,List.nil_append,Array.toList_append,ha]
  simpa using hz
 have hx:∀t,iA (fS Γ ops s o) s t→t.ev x=s.ev x:=fun t h=>h.ev (hmem x (.inl rfl))
 have hy:∀t,iA (fS Γ ops s o) s t→t.ev y=s.ev y:=fun t h=>h.ev (hmem y (.inr rfl))
 have hm:∀t,iA (fS Γ ops s o) s t→∀ty,pq P t ty X (s.ev y)=pq P s ty X (s.ev y):=fun t h ty=>tv fun id hid=>h.zX (yc hop rfl) (hmem y (.inr rfl)) hid
 unfold uB at he
 split at he
 ·rename_i e t b id ver len hel hxs
  obtain⟨m,h1,he⟩:=al.1 he
  split at he
  ·rename_i ve n t' l hob
   obtain⟨h2,he1⟩:=aA.1 he
   obtain⟨l',h3,he2⟩:=al.1 he1
   obtain⟨h4,he3⟩:=bT.1 he2
   obtain rfl:=ao.1 he3
   have hw:id∈(fS Γ ops s o).ws:=by
    show id∈writes Γ s o
    unfold writes
    rw[hop]
    simp only[hc,ha,hxs]
    simp[az.ids]
   refine ou (ez hob) hw fun t ht hte=> ?_
   rw[hao t,hx t ht,hy t ht]
   have hob':t.obj id=some (ve,false,.d (.arr n t') l):=by simp only[AS.obj,hte];exact hob
   unfold uB
   simp only[hel,hxs]
   refine al.2 ⟨m,by rw[hm t ht];exact h1,?_⟩
   simp only[hob']
   exact aA.2 ⟨h2,al.2 ⟨l',h3,bT.2 ⟨h4,ao.2 rfl⟩⟩⟩
  ·exact(ai.1 he).elim
 ·exact(ai.1 he).elim
theorem xz{c:Call}{x y:Operand}{T X:TypeId}(hop:o.op= .call c)(hc:c.callee= .builtin .append)(ha:c.args.toList=[x,y])(ht:c.argTypes.toList=[T,X])(hne:∀k n,s.ev x= .dP→s.ev y= .d (.int k) n→False){s':AS}
  (he:(mm P s (CU bZ o.dst) (FL bZ o.dst) o.dst T X (s.ev x) (s.ev y)).eval=some s'):qU P Γ bZ ops o s s':=by
 have hao:∀t:AS,t.ev x=s.ev x→t.ev y=s.ev y→jM P Γ bZ o t=mm P t (CU bZ o.dst) (FL bZ o.dst) o.dst T X (t.ev x) (t.ev y):=fun t e1 e2=>by
  unfold jM
  rw[hop]
  simp only[hc,ha,ht]
  split
  ·rename_i k n hx hy
   rw[e1]at hx
   rw[e2]at hy
   exact(hne k n hx hy).elim
  ·rfl
 have hmem:∀z,z=x∨z=y→z∈o.op.operands.toList:=fun z hz=>by
  rw[hop]
  simp only[Op.operands,Call.operands,hc,List.nil_append,Array.toList_append,ha]
  simpa using hz
 have hx:∀t,iA (fS Γ ops s o) s t→t.ev x=s.ev x:=fun t h=>h.ev (hmem x (.inl rfl))
 have hy:∀t,iA (fS Γ ops s o) s t→t.ev y=s.ev y:=fun t h=>h.ev (hmem y (.inr rfl))
 have hm:∀t,iA (fS Γ ops s o) s t→∀ty,pq P t ty X (s.ev y)=pq P s ty X (s.ev y):=fun t h ty=>tv fun id hid=>h.zX (yc hop rfl) (hmem y (.inr rfl)) hid
 unfold mm at he
 split at he
 ·rename_i e ty b q hel hd
  obtain⟨m,h1,h2⟩:=al.1 he
  split at h2
  ·rename_i hnx
   cases hdt:FL bZ o.dst with
   |true=>
    rw[hdt]at h2
    simp only at h2
    obtain⟨h5,h6⟩:=bT.1 h2
    obtain rfl:=ao.1 h6
    refine iI fun t ht=> ?_
    rw[hao t (hx t ht) (hy t ht),hx t ht,hy t ht]
    unfold mm
    simp only[hd]at hdt hel ⊢
    simp only[hel,hnx,hdt]
    refine al.2 ⟨m,by rw[hm t ht];exact h1,?_⟩
    exact bT.2 ⟨h5,ao.2 rfl⟩
   |false=>
   rw[hdt]at h2
   simp only at h2
   obtain⟨h3,h4⟩:=aA.1 h2
   obtain⟨h5,h6⟩:=bT.1 h4
   obtain rfl:=ao.1 h6
   refine mK (ids:=[]) hd h3 (fun _ h=>by cases h) fun t ht hv=> ?_
   rw[hao t (hx t ht) (hy t ht),hx t ht,hy t ht]
   unfold mm
   simp only[hd]at hdt hel ⊢
   simp only[hel,hnx,hdt]
   refine al.2 ⟨m,by rw[hm t ht];exact h1,?_⟩
   exact aA.2 ⟨hv,bT.2 ⟨h5,ao.2 rfl⟩⟩
  ·rename_i id ver len hnx
   split at h2
   ·rename_i v fr e' t' l hob
    obtain⟨h3,h4⟩:=aA.1 h2
    obtain⟨l',h5,h6⟩:=al.1 h4
    obtain⟨h7,h8⟩:=bT.1 h6
    obtain⟨h9,h10⟩:=bT.1 h8
    obtain⟨h11,h12⟩:=bT.1 h10
    obtain rfl:=ao.1 h12
    have hw:id∈(fS Γ ops s o).ws:=by
     show id∈writes Γ s o
     unfold writes
     rw[hop]
     simp only[hc,ha,hnx]
     simp[az.ids]
    refine ou (ez hob) hw fun t ht hte=> ?_
    rw[hao t (hx t ht) (hy t ht),hx t ht,hy t ht]
    have hob':t.obj id=some (v,fr,.vec e' t' l):=by simp only[AS.obj,hte];exact hob
    unfold mm
    simp only[hd]at hel ⊢
    simp only[hel,hnx]
    refine al.2 ⟨m,by rw[hm t ht];exact h1,?_⟩
    simp only[hob']
    exact aA.2 ⟨h3,al.2 ⟨l',h5,bT.2 ⟨h7,bT.2 ⟨h9,bT.2 ⟨h11,ao.2 rfl⟩⟩⟩⟩⟩
   ·simp only[ai]at h2
  ·simp only[ai]at h2
 ·simp only[ai]at he
theorem sU:∀(n:Nat) (todo acc:List Id),∀id∈acc,id∈s.reach n todo acc
 | 0,_,_,id,h=>h
 |_+1,[],_,id,h=>h
 |n+1,x::todo,acc,id,h=>by
  rw[AS.reach]
  split
  ·exact sU n todo acc id h
  ·exact sU n _ _ id (List.mem_append.2 (.inl h))
theorem lP:∀(n:Nat) (todo acc:List Id),(∀id∈s.reach n todo acc,((t.cl id).getD .dead).ids=((s.cl id).getD .dead).ids)→t.reach n todo acc=s.reach n todo acc
 | 0,_,_,_=>rfl
 |_+1,[],_,_=>rfl
 |n+1,x::todo,acc,h=>by
  rw[AS.reach]at h
  rw[AS.reach,AS.reach]
  split
  ·rename_i hc
   rw[if_pos hc]at h
   exact lP n todo acc h
  ·rename_i hc
   rw[if_neg hc]at h
   have hx:=h x (sU n _ _ x (List.mem_append.2 (.inr (List.mem_singleton.2 rfl))))
   rw[hx]
   exact lP n _ _ h
theorem FI(e:Option eL):((e.map eL.BT).getD .dead).ids=(e.getD .dead).ids:=by
 cases e with
 |none=>rfl
 |some x=>cases x <;> rfl
theorem tP(ids:List Id)(n:Nat)(todo acc:List Id):(s.bq ids).reach n todo acc=s.reach n todo acc:=by
 refine lP n todo acc fun id _=> ?_
 rw[fp]
 split
 ·exact FI _
 ·rfl
theorem qt:∀(ps:List (Option Ty)) (vs:List az),(∀v∈vs,∀id∈v.ids,mR (t.cl id) (s.cl id))→t.conv ps vs=s.conv ps vs
 |[],[],_=>rfl
 |[],_::_,_=>rfl
 |some _::_,[],_=>rfl
 |none::_,[],_=>rfl
 |some ty::ps,v::vs,h=>by
  simp only[AS.conv]
  rw[jr v ty (h v (List.mem_cons_self ..)),qt ps vs fun x hx=>h x (List.mem_cons_of_mem _ hx)]
 |none::ps,v::vs,h=>by
  simp only[AS.conv]
  rw[qt ps vs fun x hx=>h x (List.mem_cons_of_mem _ hx)]
theorem qu:∀(ps:List (Option Ty)) (vs:List az) (r:List az×List Id),(s.conv ps vs).eval=some r→r.1.flatMap az.ids=lC ps vs∧∀id∈r.2,∃v∈vs,id∈v.ids
 |[],[],r,h=>by
  simp only[AS.conv,ao]at h
  subst h
  exact⟨rfl,fun _ h=>by cases h⟩
 |some ty::ps,v::vs,r,h=>by
  simp only[AS.conv]at h
  obtain⟨x,h1,h2⟩:=al.1 h
  obtain⟨r',h3,h4⟩:=al.1 h2
  obtain rfl:=ao.1 h4
  obtain⟨i1,i2⟩:=qu ps vs r' h3
  refine⟨by simp[lC,i1,az.ids],fun id hid=> ?_⟩
  rcases List.mem_append.1 hid with hid | hid
  ·exact⟨v,List.mem_cons_self ..,lu v id hid⟩
  ·obtain⟨u,hu,hu2⟩:=i2 id hid
   exact⟨u,List.mem_cons_of_mem _ hu,hu2⟩
 |none::ps,v::vs,r,h=>by
  simp only[AS.conv]at h
  obtain⟨r',h3,h4⟩:=al.1 h
  obtain rfl:=ao.1 h4
  obtain⟨i1,i2⟩:=qu ps vs r' h3
  refine⟨by simp[lC,i1],fun id hid=> ?_⟩
  obtain⟨u,hu,hu2⟩:=i2 id hid
  exact⟨u,List.mem_cons_of_mem _ hu,hu2⟩
 |[],_::_,_,h=>by simp only[AS.conv,ai]at h
 |some _::_,[],_,h=>by simp only[AS.conv,ai]at h
 |none::_,[],_,h=>by simp only[AS.conv,ai]at h
theorem zf:∀(c:az),∀v∈c.list,∀id∈v.ids,id∈c.ids
 | .cons a b,v,hv,id,hid=>by
  simp only[az.list,List.mem_cons]at hv
  simp only[az.ids,List.mem_append]
  rcases hv with rfl | hv
  ·exact .inl hid
  ·exact .inr (zf b v hv id hid)
 | .sb _,_,h,_,_ | .undef,_,h,_,_ | .gone,_,h,_,_ | .dP,_,h,_,_ | .lk,_,h,_,_ | .l6,_,h,_,_ | .nU,_,h,_,_ | .d _ _,_,h,_,_ | .ptr ..,_,h,_,_ | .eI ..,_,h,_,_
 | .fn ..,_,h,_,_ | .pr ..,_,h,_,_ | .nil,_,h,_,_ | .vec ..,_,h,_,_ | .bx ..,_,h,_,_ | .kL ..,_,h,_,_ | .mp ..,_,h,_,_ | .kF ..,_,h,_,_ | .cT ..,_,h,_,_=>by simp[az.list]at h
theorem tA{ids:List Id}(h:∀id∈ids,t.cl id=s.cl id):t.mi ids=s.mi ids:=by
 funext id ver
 unfold AS.mi
 cases hi:idxOf id ids with
 |none=>rfl
 |some k=>
  have:t.obj id=s.obj id:=by simp only[AS.obj,h id (List.mem_of_getElem? (j7 hi))]
  rw[this]
theorem tG{id:Id}(h:t.cl id=s.cl id):t.nq id=s.nq id:=by simp only[AS.nq,AS.obj,h]
theorem rF{ids:List Id}(h:∀id∈ids,t.cl id=s.cl id)(q:Nat):t.lp ids q=s.lp ids q:=by
 funext id ver
 cases id with
 |new i j=>rfl
 |dH k=>
  simp only[AS.lp]
  cases hk:ids[k]? with
  |none=>rfl
  |some id=>simp only[tG (h id (List.mem_of_getElem? hk))]
theorem q9{ids:List Id}(h:∀id∈ids,t.cl id=s.cl id)(q b:Nat):t.jY ids q b=s.jY ids q b:=by
 funext e
 cases e <;> simp only[AS.jY,rF h]
theorem yU{ids:List Id}(h:∀id∈ids,t.cl id=s.cl id){id:Id}(hid:id∈ids):t.ji ids id=s.ji ids id:=by
 unfold AS.ji
 rw[h id hid,tA h]
def iT(s:AS)(ids:List Id)(d:Option Tmp)(G:aT):AS:=
 (AS.gT s ids (d.getD 0) (s.made ids (d.getD 0) G.news) ids G.dd).put d (G.val.ir (s.lp ids (d.getD 0)))
theorem wH{ids:List Id}{d:Option Tmp}{G:aT}{s':AS}:(s.back ids d G).eval=some s'↔(G.dd.length=ids.length∧(G.news=[]∨∃q,d=some q∧s.ef q=true))∧s'=iT s ids d G:=by
 unfold AS.back
 cases d with
 |none=>
  rw[aA,ao]
  simp only[Bool.and_eq_true,beq_iff_eq,List.isEmpty_iff,iT,AS.put,Option.getD_none]
  constructor
  ·rintro⟨⟨h1,h2⟩,rfl⟩
   rw[h2];exact⟨⟨h1,.inl rfl⟩,rfl⟩
  ·rintro⟨⟨h1,h2⟩,rfl⟩
   rcases h2 with h2 | ⟨q,hq,_⟩
   ·rw[h2];exact⟨⟨h1,rfl⟩,rfl⟩
   ·cases hq
 |some q=>
  rw[aA,ao]
  simp only[Bool.and_eq_true,beq_iff_eq,Bool.or_eq_true,List.isEmpty_iff,iT,Option.getD_some]
  constructor
  ·rintro⟨⟨h1,h2⟩,rfl⟩
   exact⟨⟨h1,h2.imp id fun h=>⟨q,rfl,h⟩⟩,rfl⟩
  ·rintro⟨⟨h1,h2⟩,rfl⟩
   refine⟨⟨h1,h2.imp id fun⟨q',hq,h⟩=> ?_⟩,rfl⟩
   obtain rfl:q=q':=by simpa using hq
   exact h
theorem tn(s0:AS)(all:List Id)(q:Nat):∀(ids:List Id) (es:List eL) (s:AS),(AS.gT s0 all q s ids es).news.length=s.news.length
 |[],_,_=>by simp[AS.gT]
 |_::_,[],_=>by simp[AS.gT]
 |id::ids,e::es,s=>by rw[AS.gT,tn s0 all q ids es,qD]
theorem Eh(s:AS)(ids:List Id)(q:Nat)(es:List eL):(s.made ids q es).news.length=s.news.length:=by
 cases es <;> simp[AS.made,AS.born]
def pY(ids:List Id)(d:Option Tmp)(G:aT)(id:Id):Prop:=id∈ids∨(G.news≠ []∧∃q j,d=some q∧id= .new q j)
theorem um{ids:List Id}{d:Option Tmp}{G:aT}(hn:ids.Nodup)(hp:∀id∈ids,s.cl id≠none)(hl:G.dd.length=ids.length)(hv:G.news=[]∨∃q,d=some q∧s.ef q=true):
  (∀id,¬pY ids d G id→(iT s ids d G).cl id=s.cl id)∧
  (∀(k:Nat) (id:Id) (e:eL),ids[k]? =some id→G.dd[k]? =some e→(iT s ids d G).cl id=some (s.jY ids (d.getD 0) (s.nq id) e))∧
  (∀q j,G.news≠ []→d=some q→(iT s ids d G).cl (.new q j)=(G.news[j]?).map (s.jY ids q 0))∧
  (∀q j,G.news≠ []→d=some q→s.cl (.new q j)=none):=by
 have hv':G.news=[]∨s.ef (d.getD 0)=true:=by
  rcases hv with h | ⟨q,rfl,h⟩
  ·exact .inl h
  ·exact .inr h
 obtain⟨m1,m2⟩:=yV s ids (d.getD 0) G.news hv'
 have hnone:∀q j,G.news≠ []→d=some q→s.cl (.new q j)=none:=fun q j h1 h2=>by
  rcases hv' with h | h
  ·exact absurd h h1
  ·subst h2;exact(mX.1 h).2 j
 have hnew:∀id,s.cl id≠none→G.news=[]∨∀j,id≠ .new (d.getD 0) j:=fun id hid=>by
  rcases hv with h | ⟨q,rfl,h⟩
  ·exact .inl h
  ·exact .inr fun j e=>hid (by rw[e];exact(mX.1 h).2 j)
 obtain⟨n1,n2⟩:=pa s ids (d.getD 0) ids G.dd (s.made ids (d.getD 0) G.news) hn hl (fun id hid=>by rw[m1 id (hnew id (hp id hid))];exact hp id hid)
 refine⟨fun id hid=> ?_,fun k id e h1 h2=> ?_,fun q j h1 h2=> ?_,hnone⟩
 ·unfold pY at hid
  simp only[not_or]at hid
  rw[iT,pN,n1 id hid.1]
  refine m1 id ?_
  by_cases hne:G.news=[]
  ·exact .inl hne
  ·right
   intro j e
   rcases hv with h | ⟨q,hq,_⟩
   ·exact hne h
   ·exact hid.2 ⟨hne,q,j,hq,by rw[e,hq];rfl⟩
 ·rw[iT,pN,n2 k id e h1 h2]
 ·subst h2
  have hnot:Id.new q j ∉ ids:=fun hid=>hp _ hid (hnone q j h1 rfl)
  rw[iT,pN,n1 _ hnot]
  exact m2 h1 j
open Classical in
theorem AD{c:Call}{F:Operand}{f:FuncId}{caps:az}{en:Entry}(hop:o.op= .call c)(hc:c.callee= .value F)(hF:s.ev F= .fn f caps)(hΓ:Γ f (c.args.toList.map s.ev++caps.list)=some en){s':AS}
  (he:(s.call en o.dst (c.args.toList.map s.ev++caps.list)).eval=some s'):qU P Γ bZ ops o s s':=by
 have hmem:∀z,z=F∨z∈c.args.toList→z∈o.op.operands.toList:=fun z hz=>by
  rw[hop]
  simp only[Op.operands,Call.operands,hc,Array.toList_append,List.mem_append]
  rcases hz with rfl | hz
  ·exact .inl (by simp)
  ·exact .inr hz
 have hvids:∀v∈c.args.toList.map s.ev++caps.list,∀id∈v.ids,id∈(fS Γ ops s o).rs:=fun v hv id hid=>by
  rcases List.mem_append.1 hv with hv | hv
  ·obtain⟨x,hx,rfl⟩:=List.mem_map.1 hv
   exact qz (yc hop rfl) (hmem x (.inr hx)) hid
  ·refine qz (yc hop rfl) (hmem F (.inl rfl)) ?_
   rw[hF]
   exact zf caps v hv id hid
 generalize hvs:c.args.toList.map s.ev++caps.list=vs at he hvids hΓ
 have hws:(fS Γ ops s o).ws=s.reach 64 (lC en.params vs) []:=by
  show writes Γ s o=_
  unfold writes
  rw[hop]
  simp only[hc,hF,hvs,hΓ]
 have hao:∀t,iA (fS Γ ops s o) s t→jM P Γ bZ o t=t.call en o.dst vs:=fun t ht=>by
  unfold jM
  rw[hop]
  have h1:t.ev F= .fn f caps:=by rw[ht.ev (hmem F (.inl rfl)),hF]
  have h2:c.args.toList.map t.ev=c.args.toList.map s.ev:=List.map_congr_left fun x hx=>ht.ev (hmem x (.inr hx))
  obtain⟨cal,args,tys⟩:=c
  simp only at hc hvs h2
  subst hc
  simp only[h1,h2,hvs,hΓ]
 unfold AS.call at he
 obtain⟨r,h1,h2⟩:=al.1 he
 obtain⟨hr1,hr2⟩:=qu _ _ r h1
 have hlends:∀t:AS,(t.bq r.2).B2 r.1=t.reach 64 (lC en.params vs) []:=fun t=>by
  unfold AS.B2
  rw[tP,hr1]
 rw[hlends]at h2
 generalize hW:s.reach 64 (lC en.params vs) []=W at h2 hws
 have hWn:W.Nodup:=by rw[←hW];exact lQ s _ _ _ (by simp)
 unfold AS.enter at h2
 obtain⟨hall,h3⟩:=aA.1 h2
 obtain⟨x,hx,h4⟩:=uG.1 h3
 obtain⟨x0,hx0,h4⟩:=al.1 h4
 have hxe:=en.GD _ _ hx0
 rw[hxe]at h4 hx0
 obtain⟨⟨hl,hv⟩,rfl⟩:=wH.1 h4
 generalize hG:en.out (r.1.map (az.ir ((s.bq r.2).mi W))) (W.map ((s.bq r.2).ji W)) x=G at hl hv h4 ⊢
 have hp:∀id∈W,(s.bq r.2).cl id≠none:=fun id hid=>by
  have:=(Bool.and_eq_true _ _▸List.all_eq_true.1 hall id hid).1
  obtain⟨⟨v,fr,c⟩,hr⟩:=Option.isSome_iff_exists.1 this
  rw[ez hr];simp
 obtain⟨b1,b2,b3,b4⟩:=um (s:=s.bq r.2) (d:=o.dst) hWn hp hl hv
 have hfzent:∀(u:AS) id,u.cl id=none↔(u.bq r.2).cl id=none:=fun u id=>by
  rw[fp];split <;> simp
 let E:HK:=⟨G.val.ir ((s.bq r.2).lp W (o.dst.getD 0)),fun id=>if pY W o.dst G id then(iT (s.bq r.2) W o.dst G).cl id else none,r.2⟩
 have hslots:∀u:AS,(iT (u.bq r.2) W o.dst G).cS=(u.put o.dst (G.val.ir ((u.bq r.2).lp W (o.dst.getD 0)))).cS:=fun u=>by
  unfold iT
  cases o.dst <;> simp[AS.put,nH,vG,iN]
 have hlen:∀u:AS,(iT (u.bq r.2) W o.dst G).news.length=u.news.length:=fun u=>by
  unfold iT
  cases o.dst <;> simp[AS.put,tn,Eh,jQ]
 refine⟨E,⟨hslots s,hlen s,fun id=> ?_⟩,⟨fun id e hup=> ?_,fun id hid=> ?_⟩,fun t ht=> ?_⟩
 ·by_cases hto:pY W o.dst G id
  ·have hup:E.up id=(iT (s.bq r.2) W o.dst G).cl id:=if_pos hto
   rw[hup]
   cases hb:(iT (s.bq r.2) W o.dst G).cl id with
   |some e=>rfl
   |none=>
    rcases hto with hid | ⟨hne,q,j,hq,rfl⟩
    ·obtain⟨k,hk⟩:=List.mem_iff_getElem?.1 hid
     have hlt:k < G.dd.length:=by rw[hl];exact(List.getElem?_eq_some_iff.1 hk).1
     rw[b2 k id _ hk (List.getElem?_eq_getElem hlt)]at hb
     cases hb
    ·have:=(hfzent s _).2 (b4 q j hne hq)
     simp[this]
  ·have hup:E.up id=none:=if_neg hto
   rw[hup,b1 id hto,fp]
 ·by_cases hto:pY W o.dst G id
  ·rcases hto with hid | ⟨_,q,j,hq,rfl⟩
   ·left
    refine⟨by rw[hws];exact hid,fun h=>hp id hid ((hfzent s id).1 h)⟩
   ·exact .inr ⟨q,j,hq,rfl⟩
  ·have:E.up id=none:=if_neg hto
   rw[this]at hup;cases hup
 ·obtain⟨v,hv,hid⟩:=hr2 id hid
  exact hvids v hv id hid
 ·have hco:t.conv en.params vs=s.conv en.params vs:=qt _ _ fun v hv id hid=>ht.rs id (hvids v hv id hid)
  have hag:∀id∈W,t.cl id=s.cl id:=fun id hid=>ht.ws id (by rw[hws];exact hid)
  have hagf:∀id∈W,(t.bq r.2).cl id=(s.bq r.2).cl id:=fun id hid=>by
   rw[fp,fp,hag id hid]
  have hWt:t.reach 64 (lC en.params vs) []=W:=by
   rw[←hW]
   refine lP _ _ _ fun id hid=> ?_
   rw[hag id (by rw[←hW];exact hid)]
  have hvt:G.news=[]∨∃q,o.dst=some q∧(t.bq r.2).ef q=true:=hv.imp id fun⟨q,hq,h⟩=>⟨q,hq,by
   rw[lv]at h ⊢
   rw[ht.ef q hq];exact h⟩
  have hpt:∀id∈W,(t.bq r.2).cl id≠none:=fun id hid=>by rw[hagf id hid];exact hp id hid
  obtain⟨d1,d2,d3,d4⟩:=um (s:=t.bq r.2) (d:=o.dst) hWn hpt hl hvt
  refine⟨iT (t.bq r.2) W o.dst G,?_,⟨?_,hlen t,fun id=> ?_⟩⟩
  ·rw[hao t ht]
   unfold AS.call
   rw[hco]
   refine al.2 ⟨r,h1,?_⟩
   rw[hlends,hWt]
   unfold AS.enter
   have hA:(t.bq r.2).mi W=(s.bq r.2).mi W:=tA hagf
   have hO:W.map ((t.bq r.2).ji W)=W.map ((s.bq r.2).ji W):=List.map_congr_left fun id hid=>yU hagf hid
   refine aA.2 ⟨?_,uG.2 ⟨x,?_,al.2 ⟨x,hx0,?_⟩⟩⟩
   ·refine List.all_eq_true.2 fun id hid=> ?_
    have:=List.all_eq_true.1 hall id hid
    simp only[AS.obj,AS.uV]at this ⊢
    rw[hagf id hid]
    exact this
   ·rw[hA,hO,←hx]
   ·rw[hA,hO,hG]
    exact wH.2 ⟨⟨hl,hvt⟩,rfl⟩
  ·rw[hslots t,rF hagf]
  ·by_cases hto:pY W o.dst G id
   ·have hup:E.up id=(iT (s.bq r.2) W o.dst G).cl id:=if_pos hto
    rw[hup]
    rcases hto with hid | ⟨hne,q,j,hq,rfl⟩
    ·obtain⟨k,hk⟩:=List.mem_iff_getElem?.1 hid
     have hlt:k < G.dd.length:=by rw[hl];exact(List.getElem?_eq_some_iff.1 hk).1
     rw[b2 k id _ hk (List.getElem?_eq_getElem hlt),d2 k id _ hk (List.getElem?_eq_getElem hlt),q9 hagf,tG (hagf id hid)]
    ·rw[b3 q j hne hq,d3 q j hne hq,q9 hagf]
     cases hn:G.news[j]? with
     |some e=>rfl
     |none=>
      have:=(hfzent t _).2 (d4 q j hne hq)
      simp[this]
   ·have hup:E.up id=none:=if_neg hto
    rw[hup,d1 id hto,fp]
end
end Go.Ab
namespace Go.Ab
section
variable {P:Program} {Γ:dX} {bZ:List Nat} {ops:Array Oper} {o:Oper} {s t:AS}
theorem Out.bind_assoc{α β γ:Type}(o:Out α)(f:α→Out β)(g:β→Out γ):(o.bind f).bind g=o.bind fun a=>(f a).bind g:=by
 induction o with
 |ok a=>rfl
 |fail=>rfl
 |ko c r ih=>simp only[Out.bind,ih]
 |get x h ih=>simp only[Out.bind,ih]
 |br c x y ih1 ih2=>simp only[Out.bind,ih1,ih2]
theorem zH{parts:Array (Nat×Operand)}{x:Nat×Operand}(h:x∈parts.toList):x.2∈(parts.toList.map (·.2)).toArray.toList:=List.mem_map.2 ⟨x,h,rfl⟩
theorem CC{T:TypeId}{x:Operand}(hop:o.op= .box T x){s':AS}(he:(yL P s (isObj bZ o.dst) o.dst T (s.ev x)).eval=some s'):qU P Γ bZ ops o s s':=by
 have hao:∀t,jM P Γ bZ o t=yL P t (isObj bZ o.dst) o.dst T (t.ev x):=fun t=>by unfold jM;rw[hop]
 have hm:x∈o.op.operands.toList:=by rw[hop];simp[Op.operands]
 unfold yL at he
 split at he
 ·rename_i q hd
  split at he
  ·rename_i ho
   obtain⟨h1,h2⟩:=aA.1 he
   obtain rfl:=ao.1 h2
   simp only[Bool.and_eq_true]at h1
   refine mK (ids:=[]) hd h1.1 (fun _ h=>by cases h) fun t ht hv=> ?_
   rw[hao,ht.ev hm]
   unfold yL
   simp only[hd]at ho ⊢
   simp only[ho]
   exact aA.2 ⟨by simp[hv,h1.2],ao.2 rfl⟩
  ·rename_i ho
   split at he
   ·rename_i ty hty
    obtain⟨h1,h2⟩:=aA.1 he
    obtain⟨y,h3,h4⟩:=al.1 h2
    obtain rfl:=ao.1 h4
    refine tZ (fun id hid=>qz (yc hop rfl) hm (lu _ _ hid)) fun t ht=> ?_
    rw[hao,ht.ev hm]
    unfold yL
    simp only[hd]at ho ⊢
    simp only[ho,hty]
    refine aA.2 ⟨h1,al.2 ⟨y,?_,ao.2 rfl⟩⟩
    rw[jr _ _ fun id hid=>ht.zX (yc hop rfl) hm hid];exact h3
   ·simp only[ai]at he
 ·simp only[ai]at he
theorem Ai{T:TypeId}{x:Operand}(hop:o.op= .sliceToArrayPointer T x){s':AS}(he:(qL P s o.dst T (s.ev x)).eval=some s'):qU P Γ bZ ops o s s':=by
 have hao:∀t,jM P Γ bZ o t=qL P t o.dst T (t.ev x):=fun t=>by unfold jM;rw[hop]
 have hm:x∈o.op.operands.toList:=by rw[hop];simp[Op.operands]
 unfold qL at he
 split at he
 ·rename_i n e hT
  split at he
  ·rename_i ty hty
   obtain⟨h1,h2⟩:=aA.1 he
   obtain⟨l,h3,h4⟩:=al.1 h2
   obtain⟨h5,h6⟩:=bT.1 h4
   obtain rfl:=ao.1 h6
   refine tZ (fun id hid=>qz (yc hop rfl) hm (lu _ _ hid)) fun t ht=> ?_
   rw[hao,ht.ev hm]
   unfold qL
   simp only[hT,hty]
   refine aA.2 ⟨h1,al.2 ⟨l,?_,bT.2 ⟨h5,ao.2 rfl⟩⟩⟩
   rw[jr _ _ fun id hid=>ht.zX (yc hop rfl) hm hid];exact h3
  ·simp only[ai]at he
 ·simp only[ai]at he
theorem yN{T:TypeId}{parts:Array (Nat×Operand)}(hop:o.op= .build T parts){s':AS}(he:(o7 P s o.dst T parts.toList).eval=some s'):qU P Γ bZ ops o s s':=by
 have hao:∀t,jM P Γ bZ o t=o7 P t o.dst T parts.toList:=fun t=>by unfold jM;rw[hop]
 have hm:∀x∈parts.toList,x.2∈o.op.operands.toList:=fun x hx=>by rw[hop];exact zH hx
 unfold o7 at he
 split at he
 ·rename_i fs hT
  split at he
  ·rename_i z hz
   obtain⟨h1,h2⟩:=aA.1 he
   obtain⟨v,h3,h4⟩:=al.1 h2
   obtain rfl:=ao.1 h4
   refine iI fun t ht=> ?_
   rw[hao]
   unfold o7
   simp only[hT,hz]
   refine aA.2 ⟨h1,al.2 ⟨v,?_,ao.2 rfl⟩⟩
   rw[oO _ _ fun x hx=>ht.ev (hm x hx)];exact h3
  ·simp only[ai]at he
 ·rename_i n e hT
  split at he
  ·rename_i ty hty
   obtain⟨h1,h2⟩:=aA.1 he
   obtain⟨r,h3,h4⟩:=al.1 h2
   obtain rfl:=ao.1 h4
   refine tZ (fun id hid=> ?_) fun t ht=> ?_
   ·obtain⟨x,hx,hi⟩:=l8 _ _ _ h3 id hid
    exact qz (yc hop rfl) (hm x hx) hi
   ·rw[hao]
    unfold o7
    simp only[hT,hty]
    refine aA.2 ⟨h1,al.2 ⟨r,?_,ao.2 rfl⟩⟩
    rw[mQ _ _ fun x hx=>⟨ht.ev (hm x hx),fun id hid=>ht.zX (yc hop rfl) (hm x hx) hid⟩];exact h3
  ·simp only[ai]at he
 ·simp only[ai]at he
theorem so{T:TypeId}{n:Nat}{parts:Array (Nat×Operand)}(hop:o.op= .buildSlice T n parts){s':AS}(he:(iB P s (CU bZ o.dst) (isObj bZ o.dst) o.dst T n parts.toList).eval=some s'):qU P Γ bZ ops o s s':=by
 have hao:∀t,jM P Γ bZ o t=iB P t (CU bZ o.dst) (isObj bZ o.dst) o.dst T n parts.toList:=fun t=>by unfold jM;rw[hop]
 have hm:∀x∈parts.toList,x.2∈o.op.operands.toList:=fun x hx=>by rw[hop];exact zH hx
 unfold iB at he
 split at he
 ·rename_i e ty b q hel hd
  obtain⟨h1,h2⟩:=aA.1 he
  obtain⟨r,h3,h4⟩:=al.1 h2
  have hsh:∀id∈r.2,id∈(fS Γ ops s o).rs:=fun id hid=>by
   obtain⟨x,hx,hi⟩:=l8 _ _ _ h3 id hid
   exact qz (yc hop rfl) (hm x hx) hi
  have hco:∀t,iA (fS Γ ops s o) s t→∀l,gS ty t parts.toList l=gS ty s parts.toList l:=fun t ht l=>mQ _ _ fun x hx=>⟨ht.ev (hm x hx),fun id hid=>ht.zX (yc hop rfl) (hm x hx) hid⟩
  split at h4
  ·rename_i ho
   obtain⟨h5,h6⟩:=aA.1 h4
   obtain rfl:=ao.1 h6
   refine mK hd h5 hsh fun t ht hv=> ?_
   rw[hao]
   unfold iB
   simp only[hd]at ho hel ⊢
   simp only[hel,ho]
   refine aA.2 ⟨h1,al.2 ⟨r,by rw[hco t ht];exact h3,aA.2 ⟨hv,ao.2 rfl⟩⟩⟩
  ·rename_i ho
   obtain rfl:=ao.1 h4
   refine tZ hsh fun t ht=> ?_
   rw[hao]
   unfold iB
   simp only[hd]at ho hel ⊢
   simp only[hel,ho]
   exact aA.2 ⟨h1,al.2 ⟨r,by rw[hco t ht];exact h3,ao.2 rfl⟩⟩
 ·simp only[ai]at he
theorem tN{T:TypeId}{x y:Operand}(hop:o.op= .makeSlice T x y){len cap:Int}(hx:(asInt (s.ev x)).eval=some len)(hy:(asInt (s.ev y)).eval=some cap){s':AS}(he:(kb P s o.dst T len cap).eval=some s'):qU P Γ bZ ops o s s':=by
 have hao:∀t,jM P Γ bZ o t=(asInt (t.ev x)).bind fun l=>(asInt (t.ev y)).bind fun c=>kb P t o.dst T l c:=fun t=>by unfold jM;rw[hop]
 have hm:∀z,z=x∨z=y→z∈o.op.operands.toList:=fun z hz=>by rw[hop];simpa[Op.operands]using hz
 unfold kb at he
 split at he
 ·rename_i e ty b q hel hd
  obtain⟨h1,h2⟩:=aA.1 he
  obtain⟨h3,h4⟩:=bT.1 h2
  obtain rfl:=ao.1 h4
  refine mK (ids:=[]) hd h1 (fun _ h=>by cases h) fun t ht hv=> ?_
  rw[hao,ht.ev (hm x (.inl rfl)),ht.ev (hm y (.inr rfl))]
  refine al.2 ⟨len,hx,al.2 ⟨cap,hy,?_⟩⟩
  unfold kb
  simp only[hel,hd]
  exact aA.2 ⟨hv,bT.2 ⟨h3,ao.2 rfl⟩⟩
 ·simp only[ai]at he
theorem xX{id:Id}{ver:Nat}{kt vt:Ty}(h:mR (t.cl id) (s.cl id)):t.kI id ver kt vt=s.kI id ver kt vt:=by
 unfold AS.kI
 rcases rT h with⟨h1,h2⟩ | ⟨v,f,f',c,h1,h2⟩
 ·rw[h1,h2]
 ·rw[h1,h2]
  cases c <;> rfl
theorem we{T:TypeId}{m k:az}{ok:Bool}(h:∀id∈m.ids,mR (t.cl id) (s.cl id)):ov P t T m k ok=ov P s T m k ok:=by
 unfold ov
 split
 ·rename_i id ver hm
  rw[xX (h id (by simp[az.ids]))]
 ·rfl
theorem w3{id:Id}{ver:Nat}{kt vt:Ty}{l:List (kt.den×vt.den)}(h:(s.kI id ver kt vt).eval=some l):∃e,s.cl id=some e:=by
 unfold AS.kI at h
 split at h
 ·rename_i v fr k' v' l' hob
  exact⟨_,ez hob⟩
 ·simp only[ai]at h
theorem tq{id:Id}{ver:Nat}{kt vt:Ty}(h:t.cl id=s.cl id):t.kI id ver kt vt=s.kI id ver kt vt:=by
 unfold AS.kI AS.obj
 rw[h]
theorem qn{id:Id}(h:t.cl id=s.cl id):t.kT id=s.kT id:=by
 unfold AS.kT AS.obj
 rw[h]
theorem wi{T:TypeId}{m k v:az}{s':AS}(h:(oA P s T m k v).eval=some s'):
  ∃id e0 e,m.ids=[id]∧s.cl id=some e0∧s'=s.bf id e∧∀t:AS,t.cl id=s.cl id→(oA P t T m k v).eval=some (t.bf id e):=by
 unfold oA at h
 split at h
 ·rename_i K V kt vt id ver hm
  obtain⟨l,h1,h⟩:=al.1 h
  obtain⟨kx,h2,h⟩:=al.1 h
  obtain⟨vx,h3,h⟩:=al.1 h
  obtain⟨hu,h⟩:=aA.1 h
  obtain rfl:=ao.1 h
  obtain⟨e0,he0⟩:=w3 h1
  refine⟨id,e0,_,rfl,he0,rfl,fun t ht=> ?_⟩
  unfold oA
  simp only[hm]
  exact al.2 ⟨l,by rw[tq ht];exact h1,al.2 ⟨kx,h2,al.2 ⟨vx,h3,aA.2 ⟨by rw[qn ht];exact hu,ao.2 rfl⟩⟩⟩⟩
 ·simp only[ai]at h
theorem wh{T:TypeId}{m k:az}{s':AS}(h:(oz P s T m k).eval=some s'):
  ∃id e0 e,m.ids=[id]∧s.cl id=some e0∧s'=s.bf id e∧∀t:AS,t.cl id=s.cl id→(oz P t T m k).eval=some (t.bf id e):=by
 unfold oz at h
 split at h
 ·rename_i K V kt vt id ver hm
  obtain⟨l,h1,h⟩:=al.1 h
  obtain⟨kx,h2,h⟩:=al.1 h
  obtain⟨hu,h⟩:=aA.1 h
  obtain rfl:=ao.1 h
  obtain⟨e0,he0⟩:=w3 h1
  refine⟨id,e0,_,rfl,he0,rfl,fun t ht=> ?_⟩
  unfold oz
  simp only[hm]
  exact al.2 ⟨l,by rw[tq ht];exact h1,al.2 ⟨kx,h2,aA.2 ⟨by rw[qn ht];exact hu,ao.2 rfl⟩⟩⟩
 ·simp only[ai]at h
theorem wF{s':AS}(he:(jM P Γ bZ o s).eval=some s'):qU P Γ bZ ops o s s':=by
 have he0:=he
 have one:∀x,o.op.operands= #[x]→∀t,iA (fS Γ ops s o) s t→t.ev x=s.ev x∧(w4 o.op=false→∀id∈(s.ev x).ids,mR (t.cl id) (s.cl id)):=fun x hx t ht=>
  have hm:x∈o.op.operands.toList:=by rw[hx];simp
  ⟨ht.ev hm,fun hn _ hid=>ht.zX hn hm hid⟩
 unfold jM at he
 split at he
 ·rename_i x hop
  obtain rfl:=ao.1 he
  refine iI fun t ht=> ?_
  unfold jM
  rw[hop]
  simp only
  rw[(one x (by rw[hop];rfl) t ht).1];rfl
 ·rename_i x hop
  obtain rfl:=ao.1 he
  refine iI fun t ht=> ?_
  unfold jM
  rw[hop]
  simp only
  rw[(one x (by rw[hop];rfl) t ht).1];rfl
 ·rename_i c x y hop
  refine jw (F:=fun t=>Ca (t.ev c) (t.ev x) (t.ev y)) (fun t=>by unfold jM;rw[hop]) (fun t ht=> ?_) he0
  rw[ht.ev (by rw[hop];simp[Op.operands]),ht.ev (by rw[hop];simp[Op.operands]),ht.ev (by rw[hop];simp[Op.operands])]
 ·rename_i T hop
  split at he
  ·rename_i z q hz hq
   obtain⟨h1,h2⟩:=aA.1 he
   obtain rfl:=ao.1 h2
   simp only[Bool.and_eq_true]at h1
   refine mK (ids:=[]) hq h1.1 (fun _ h=>by cases h) fun t ht hv=> ?_
   unfold jM
   rw[hop]
   simp only[hz,hq]
   exact aA.2 ⟨by simp[hv,h1.2],ao.2 rfl⟩
  ·exact(ai.1 he).elim
 ·rename_i T x hop
  exact CC hop he
 ·rename_i T parts hop
  exact yN hop he
 ·rename_i T n parts hop
  exact so hop he
 ·rename_i T x hop
  refine jw (F:=fun t=>rp P t T (t.ev x)) (fun t=>by unfold jM;rw[hop]) (fun t ht=> ?_) he0
  obtain⟨h1,h2⟩:=one x (by rw[hop];rfl) t ht
  rw[h1,zj (h2 (yc hop rfl))]
 ·rename_i T x v hop
  obtain⟨s1,h1,h2⟩:=al.1 he
  obtain rfl:=ao.1 h2
  obtain⟨id,e0,e,hid,hs,rfl,hl⟩:=yl h1
  refine ou hs ?_ fun t ht hte=> ?_
  ·show id∈writes Γ s o
   unfold writes
   rw[hop]
   simp only[hid,List.mem_singleton]
  ·unfold jM
   rw[hop]
   simp only
   rw[ht.ev (x:=x) (by rw[hop];simp[Op.operands]),ht.ev (x:=v) (by rw[hop];simp[Op.operands])]
   exact al.2 ⟨_,hl t hte,ao.2 rfl⟩
 ·rename_i x hop
  split at he
  ·rename_i id v p n hx
   obtain rfl:=ao.1 he
   refine iI fun t ht=> ?_
   unfold jM
   rw[hop]
   simp only[(one x (by rw[hop];rfl) t ht).1,hx];rfl
  ·rename_i ty y hx
   obtain rfl:=ao.1 he
   refine iI fun t ht=> ?_
   unfold jM
   rw[hop]
   simp only[(one x (by rw[hop];rfl) t ht).1,hx];rfl
  ·rename_i f c hx
   obtain rfl:=ao.1 he
   refine iI fun t ht=> ?_
   unfold jM
   rw[hop]
   simp only[(one x (by rw[hop];rfl) t ht).1,hx];rfl
  ·exact(ai.1 he).elim
 ·rename_i op T x y U hop
  have hmx:x∈o.op.operands.toList:=by rw[hop];simp[Op.operands]
  have hmy:y∈o.op.operands.toList:=by rw[hop];simp[Op.operands]
  split at he
  ·rename_i i v1 j v2 hx hy
   obtain⟨v,h1,h2⟩:=al.1 he
   obtain rfl:=ao.1 h2
   refine iI fun t ht=> ?_
   unfold jM
   rw[hop]
   simp only[ht.ev hmx,ht.ev hmy,hx,hy]
   exact al.2 ⟨v,by rw[CO (ht.zX (yc hop rfl) hmx (by rw[hx];simp[az.ids]))];exact h1,rfl⟩
  ·rename_i hne
   obtain⟨v,h1,h2⟩:=al.1 he
   obtain rfl:=ao.1 h2
   refine iI fun t ht=> ?_
   unfold jM
   rw[hop]
   simp only[ht.ev hmx,ht.ev hmy]
   exact al.2 ⟨v,h1,rfl⟩
 ·rename_i op T x hop
  refine jw (F:=fun t=>IJ op (t.ev x)) (fun t=>by unfold jM;rw[hop]) (fun t ht=> ?_) he0
  rw[(one x (by rw[hop];rfl) t ht).1]
 ·rename_i T U x hop
  split at he
  ·rename_i id ver len hTU hx
   unfold yR at he
   split at he
   ·rename_i v e0 l e hob hD
    split at he
    ·rename_i hE
     obtain⟨h1,h2⟩:=aA.1 he
     obtain⟨h3,h4⟩:=bT.1 h2
     obtain rfl:=ao.1 h4
     refine ou (ez hob) ?_ fun t ht hte=> ?_
     ·show id∈writes Γ s o
      unfold writes
      rw[hop]
      simp only[hTU,hx]
      simp[az.ids]
     ·have hob':t.obj id=some (v,false,.vec e0 (.int .u8) l):=by simp only[AS.obj,hte];exact hob
      unfold jM
      rw[hop]
      simp only[hTU,(one x (by rw[hop];rfl) t ht).1,hx]
      unfold yR
      simp only[hob',hD,hE]
      exact aA.2 ⟨h1,bT.2 ⟨h3,ao.2 rfl⟩⟩
    ·exact(ai.1 he).elim
   ·exact(ai.1 he).elim
  ·rename_i id ver hx
   obtain⟨v,h1,h2⟩:=al.1 he
   obtain rfl:=ao.1 h2
   refine iI fun t ht=> ?_
   obtain⟨h3,h4⟩:=one x (by rw[hop];rfl) t ht
   unfold jM
   rw[hop]
   simp only[h3,hx]
   exact al.2 ⟨v,by rw[yS (h4 (yc hop rfl) _ (by rw[hx];simp[az.ids]))];exact h1,rfl⟩
  ·rename_i hne
   obtain⟨v,h1,h2⟩:=al.1 he
   obtain rfl:=ao.1 h2
   refine iI fun t ht=> ?_
   obtain⟨h3,h4⟩:=one x (by rw[hop];rfl) t ht
   unfold jM
   rw[hop]
   simp only[h3]
   exact al.2 ⟨v,by rw[yQ (h4 (yc hop rfl))];exact h1,rfl⟩
 ·rename_i T x hop
  exact Ai hop he
 ·rename_i f first caps hop
  obtain⟨h1,h2⟩:=aA.1 he
  obtain rfl:=ao.1 h2
  refine iI fun t ht=> ?_
  have hc:jX t caps.toList=jX s caps.toList:=qZ _ fun x hx=>ht.ev (by rw[hop];simp only[Op.operands,Array.toList_append];exact List.mem_append.2 (.inr hx))
  unfold jM
  rw[hop]
  simp only[hc]
  exact aA.2 ⟨h1,ao.2 rfl⟩
 ·rename_i T l c hop
  obtain⟨n,h1,h2⟩:=al.1 he
  obtain⟨m,h3,h4⟩:=al.1 h2
  exact tN hop h1 h3 h4
 ·rename_i T x lo hi hop
  refine jw (F:=fun t=>qI P t T (t.ev x) lo hi) (fun t=>by unfold jM;rw[hop]) (fun t ht=> ?_) he0
  have hm:∀z,(z=x∨lo=some z∨hi=some z)→z∈o.op.operands.toList:=fun z hz=>by
   rw[hop]
   simp only[Op.operands,Array.toList_append,List.mem_append]
   rcases hz with rfl | rfl | rfl
   ·left;left;left;simp
   ·left;left;right;simp
   ·left;right;simp
  have hx:=hm x (.inl rfl)
  rw[ht.ev hx]
  exact yj (fun id hid=>ht.zX (yc hop rfl) hx hid) (fun y hy=>ht.ev (hm y (.inr (.inl hy)))) (fun y hy=>ht.ev (hm y (.inr (.inr hy))))
 ·rename_i T x f hop
  refine jw (F:=fun t=>oo P T (t.ev x) f) (fun t=>by unfold jM;rw[hop]) (fun t ht=> ?_) he0
  rw[(one x (by rw[hop];rfl) t ht).1]
 ·rename_i T x f hop
  refine jw (F:=fun t=>xH P T (t.ev x) f) (fun t=>by unfold jM;rw[hop]) (fun t ht=> ?_) he0
  rw[(one x (by rw[hop];rfl) t ht).1]
 ·rename_i T x i hop
  refine jw (F:=fun t=>(asInt (t.ev i)).bind fun i=>j8 P t T (t.ev x) i) (fun t=>by unfold jM;rw[hop,Out.bind_assoc]) (fun t ht=> ?_) he0
  have hx:x∈o.op.operands.toList:=by rw[hop];simp[Op.operands]
  rw[ht.ev (x:=i) (by rw[hop];simp[Op.operands]),ht.ev hx]
  congr 1
  funext i
  exact sC fun id hid=>ht.zX (yc hop rfl) hx hid
 ·rename_i T x i hop
  refine jw (F:=fun t=>(asInt (t.ev i)).bind fun i=>xO P T (t.ev x) i) (fun t=>by unfold jM;rw[hop,Out.bind_assoc]) (fun t ht=> ?_) he0
  rw[ht.ev (x:=i) (by rw[hop];simp[Op.operands]),ht.ev (x:=x) (by rw[hop];simp[Op.operands])]
 ·rename_i x i hop
  refine jw (F:=fun t=>Out.opt ((t.ev x).list[i]?)) (fun t=>by unfold jM;rw[hop]) (fun t ht=> ?_) he0
  rw[(one x (by rw[hop];rfl) t ht).1]
 ·rename_i T hop
  have he1:=he
  unfold po at he1
  split at he1
  ·rename_i K V kt vt q hm hd
   obtain⟨h1,h2⟩:=aA.1 he1
   obtain rfl:=ao.1 h2
   refine mK (ids:=[]) hd h1 (fun _ h=>by cases h) fun t ht hv=> ?_
   unfold jM
   rw[hop]
   simp only
   unfold po
   simp only[hm,hd]
   exact aA.2 ⟨hv,ao.2 rfl⟩
  ·exact(ai.1 he1).elim
 ·rename_i T x i ok hop
  refine jw (F:=fun t=>ov P t T (t.ev x) (t.ev i) ok) (fun t=>by unfold jM;rw[hop]) (fun t ht=> ?_) he0
  have hx:x∈o.op.operands.toList:=by rw[hop];simp[Op.operands]
  rw[ht.ev (x:=i) (by rw[hop];simp[Op.operands]),ht.ev hx]
  exact we fun id hid=>ht.zX (yc hop rfl) hx hid
 ·rename_i T m k x hop
  obtain⟨s1,h1,h2⟩:=al.1 he
  obtain rfl:=ao.1 h2
  obtain⟨id,e0,e,hid,hs,rfl,hl⟩:=wi h1
  refine ou hs ?_ fun t ht hte=> ?_
  ·show id∈writes Γ s o
   unfold writes
   rw[hop]
   simp only[hid,List.mem_singleton]
  ·unfold jM
   rw[hop]
   simp only
   rw[ht.ev (x:=m) (by rw[hop];simp[Op.operands]),ht.ev (x:=k) (by rw[hop];simp[Op.operands]),ht.ev (x:=x) (by rw[hop];simp[Op.operands])]
   exact al.2 ⟨_,hl t hte,ao.2 rfl⟩
 ·rename_i c hop
  obtain⟨cal,args,tys⟩:=c
  simp only at he
  split at he
  ·split at he
   ·rename_i m k T T2 ha ht'
    have hmm:m∈o.op.operands.toList:=by rw[hop];simp only[Op.operands,Call.operands,List.nil_append,Array.toList_append,ha];simp
    have hmk:k∈o.op.operands.toList:=by rw[hop];simp only[Op.operands,Call.operands,List.nil_append,Array.toList_append,ha];simp
    obtain⟨s1,h1,h2⟩:=al.1 he
    obtain rfl:=ao.1 h2
    obtain⟨id,e0,e,hid,hs,rfl,hl⟩:=wh h1
    refine ou hs ?_ fun t ht hte=> ?_
    ·show id∈writes Γ s o
     unfold writes
     rw[hop]
     simp only[ha,hid,List.mem_singleton]
    ·unfold jM
     rw[hop]
     simp only[ha,ht']
     rw[ht.ev hmm,ht.ev hmk]
     exact al.2 ⟨_,hl t hte,ao.2 rfl⟩
   ·exact(ai.1 he).elim
  ·split at he
   ·rename_i x y T X ha ht'
    exact AJ hop rfl ha ht' he
   ·exact(ai.1 he).elim
  ·split at he
   ·rename_i x T ha ht'
    refine jw (F:=fun t=>FN P T (t.ev x)) (fun t=>by unfold jM;rw[hop];simp only[ha,ht']) (fun t ht=> ?_) he0
    rw[ht.ev (by rw[hop];simp only[Op.operands,Call.operands,List.nil_append,Array.toList_append,ha];simp)]
   ·exact(ai.1 he).elim
  ·split at he
   ·rename_i x y T X ha ht'
    have hmx:x∈o.op.operands.toList:=by rw[hop];simp only[Op.operands,Call.operands,List.nil_append,Array.toList_append,ha];simp
    have hmy:y∈o.op.operands.toList:=by rw[hop];simp only[Op.operands,Call.operands,List.nil_append,Array.toList_append,ha];simp
    split at he
    ·rename_i k n hx hy
     have he1:=he
     unfold y4 at he1
     split at he1
     ·rename_i e t0 b q kn hel hd hX
      obtain⟨h1,h2⟩:=aA.1 he1
      obtain⟨h3,h4⟩:=bT.1 h2
      obtain rfl:=ao.1 h4
      refine mK (ids:=[]) hd h1 (fun _ h=>by cases h) fun t ht hv=> ?_
      unfold jM
      rw[hop]
      simp only[ha,ht',ht.ev hmx,ht.ev hmy,hx,hy]
      unfold y4
      simp only[hel,hd,hX]
      exact aA.2 ⟨hv,bT.2 ⟨h3,ao.2 rfl⟩⟩
     ·exact(ai.1 he1).elim
    ·rename_i hne
     exact xz hop rfl ha ht' hne he
   ·exact(ai.1 he).elim
  ·split at he
   ·rename_i x T ha ht'
    have hmx:x∈o.op.operands.toList:=by rw[hop];simp only[Op.operands,Call.operands,List.nil_append,Array.toList_append,ha];simp
    split at he
    ·rename_i e hx hT
     obtain rfl:=ao.1 he
     refine iI fun t ht=> ?_
     unfold jM
     rw[hop]
     simp only[ha,ht',ht.ev hmx,hx,hT];rfl
    ·exact(ai.1 he).elim
   ·exact(ai.1 he).elim
  ·refine jw (F:=fun t=>C2 true (args.toList.map t.ev)) (fun t=>by unfold jM;rw[hop]) (fun t ht=> ?_) he0
   congr 1
   exact List.map_congr_left fun x hx=>ht.ev (by rw[hop];simp only[Op.operands,Call.operands,List.nil_append,Array.toList_append];exact hx)
  ·refine jw (F:=fun t=>C2 false (args.toList.map t.ev)) (fun t=>by unfold jM;rw[hop]) (fun t ht=> ?_) he0
   congr 1
   exact List.map_congr_left fun x hx=>ht.ev (by rw[hop];simp only[Op.operands,Call.operands,List.nil_append,Array.toList_append];exact hx)
  ·split at he
   ·rename_i x ha
    have hmx:x∈o.op.operands.toList:=by rw[hop];simp only[Op.operands,Call.operands,List.nil_append,Array.toList_append,ha];simp
    split at he
    ·rename_i id ver len hx
     obtain⟨h1,h2⟩:=bT.1 he
     obtain rfl:=ao.1 h2
     refine iI fun t ht=> ?_
     unfold jM
     rw[hop]
     simp only[ha,ht.ev hmx,hx]
     exact bT.2 ⟨h1,rfl⟩
    ·exact(ai.1 he).elim
   ·exact(ai.1 he).elim
  ·split at he
   ·rename_i x y T U ha ht'
    have hmx:x∈o.op.operands.toList:=by rw[hop];simp only[Op.operands,Call.operands,List.nil_append,Array.toList_append,ha];simp
    have hmy:y∈o.op.operands.toList:=by rw[hop];simp only[Op.operands,Call.operands,List.nil_append,Array.toList_append,ha];simp
    split at he
    ·rename_i id ver n hx hy
     have he1:=he
     unfold Ag at he1
     split at he1
     ·rename_i v e l u hob hT
      obtain⟨h1,h2⟩:=aA.1 he1
      obtain⟨h3,h4⟩:=bT.1 h2
      obtain rfl:=ao.1 h4
      refine ou (ez hob) ?_ fun t ht hte=> ?_
      ·show id∈writes Γ s o
       unfold writes
       rw[hop]
       simp only[ha,hx]
       simp[az.ids]
      ·have hob':t.obj id=some (v,false,.vec e (.int .u8) l):=by simp only[AS.obj,hte];exact hob
       unfold jM
       rw[hop]
       simp only[ha,ht',ht.ev hmx,ht.ev hmy,hx,hy]
       unfold Ag
       simp only[hob',hT]
       exact aA.2 ⟨h1,bT.2 ⟨h3,ao.2 rfl⟩⟩
     ·exact(ai.1 he1).elim
    ·exact(ai.1 he).elim
   ·exact(ai.1 he).elim
  ·rename_i F _
   split at he
   ·rename_i f caps hF
    split at he
    ·rename_i en hen
     exact AD hop rfl hF hen he
    ·exact(ai.1 he).elim
   ·exact(ai.1 he).elim
  ·exact(ai.1 he).elim
 ·exact(ai.1 he).elim
end
end Go.Ab
namespace Go.Ab
section
variable {P:Program} {Γ:dX} {bZ:List Nat} {ops:Array Oper} {o:Oper} {s t:AS}
def Loc(P:Program)(Γ:dX)(bZ:List Nat)(ops:Array Oper)(o:Oper)(s s':AS):Prop:=
 ∃E,App o.dst E s s'∧xv (fS Γ ops s o) s E∧∀t,iA (fS Γ ops s o) s t→∃t',qb P Γ bZ ops o t=some t'∧App o.dst E t t'
theorem uN{s':AS}(he:qb P Γ bZ ops o s=some s'):Loc P Γ bZ ops o s s':=by
 unfold qb at he
 split at he
 ·rename_i hg
  obtain⟨E,h1,h2,h3⟩:=wF (ops:=ops) he
  refine⟨E,h1,h2,fun t ht=> ?_⟩
  obtain⟨t',h4,h5⟩:=h3 t ht
  exact⟨t',by unfold qb;simp only[hg];exact h4,h5⟩
 ·rename_i j want hg
  split at he
  ·rename_i q hq
   split at he
   ·rename_i b hb
    have hsl:∀t,iA (fS Γ ops s o) s t→t.slot q= .d .bool b:=fun t ht=>by
     rw[ht.cS q (List.mem_append.2 (.inr (by unfold sA;simp only[hg,hq];simp)))];exact hb
    by_cases e:b=want
    ·rw[if_pos e]at he
     obtain⟨E,h1,h2,h3⟩:=wF (ops:=ops) he
     refine⟨E,h1,h2,fun t ht=> ?_⟩
     obtain⟨t',h4,h5⟩:=h3 t ht
     exact⟨t',by unfold qb;simp only[hg,hq,hsl t ht,if_pos e];exact h4,h5⟩
    ·rw[if_neg e]at he
     simp only[Option.some.injEq]at he
     subst he
     exact⟨⟨.nil,fun _=>none,[]⟩,App.pS _ _ _,⟨fun _ _ h=>by simp at h,fun _ h=>by simp at h⟩,fun t ht=>⟨_,by unfold qb;simp only[hg,hq,hsl t ht,if_neg e],App.pS _ _ _⟩⟩
   ·rename_i hb
    have hsl:∀t,iA (fS Γ ops s o) s t→t.slot q= .nil:=fun t ht=>by
     rw[ht.cS q (List.mem_append.2 (.inr (by unfold sA;simp only[hg,hq];simp)))];exact hb
    simp only[Option.some.injEq]at he
    subst he
    exact⟨⟨.nil,fun _=>none,[]⟩,App.pS _ _ _,⟨fun _ _ h=>by simp at h,fun _ h=>by simp at h⟩,fun t ht=>⟨_,by unfold qb;simp only[hg,hq,hsl t ht],App.pS _ _ _⟩⟩
   ·cases he
  ·cases he
theorem yr(h:iA (fS Γ ops s o) s t):writes Γ t o=writes Γ s o:=by
 have hws:∀id∈writes Γ s o,t.cl id=s.cl id:=h.ws
 unfold writes at hws ⊢
 split
 ·rename_i x v hop
  rw[h.ev (by rw[hop];simp[Op.operands])]
 ·rename_i m k v hop
  rw[h.ev (by rw[hop];simp[Op.operands])]
 ·rename_i T U x hop
  rw[h.ev (by rw[hop];simp[Op.operands])]
 ·rename_i c hop
  obtain⟨cal,args,tys⟩:=c
  simp only[hop]at hws
  simp only
  split
  ·split
   ·rename_i x l ha
    rw[h.ev (by rw[hop];simp only[Op.operands,Call.operands,List.nil_append,Array.toList_append,ha];simp)]
   ·rfl
  ·split
   ·rename_i x l ha
    rw[h.ev (by rw[hop];simp only[Op.operands,Call.operands,List.nil_append,Array.toList_append,ha];simp)]
   ·rfl
  ·split
   ·rename_i x l ha
    rw[h.ev (by rw[hop];simp only[Op.operands,Call.operands,List.nil_append,Array.toList_append,ha];simp)]
   ·rfl
  ·split
   ·rename_i x l ha
    rw[h.ev (by rw[hop];simp only[Op.operands,Call.operands,List.nil_append,Array.toList_append,ha];simp)]
   ·rfl
  ·rename_i F
   simp only at hws
   have hm:∀z,z=F∨z∈args.toList→z∈o.op.operands.toList:=fun z hz=>by
    rw[hop]
    simp only[Op.operands,Call.operands,Array.toList_append,List.mem_append]
    rcases hz with rfl | hz
    ·exact .inl (by simp)
    ·exact .inr hz
   have h1:t.ev F=s.ev F:=h.ev (hm F (.inl rfl))
   have h2:args.toList.map t.ev=args.toList.map s.ev:=List.map_congr_left fun x hx=>h.ev (hm x (.inr hx))
   rw[h1]
   split
   ·rename_i f caps hF
    simp only[hF]at hws
    rw[h2]
    split
    ·rename_i en hen
     simp only[hen]at hws
     exact lP _ _ _ fun id hid=>by rw[hws id hid]
    ·rfl
   ·rfl
  ·rfl
 ·rfl
theorem uI(h:iA (fS Γ ops s o) s t):fS Γ ops t o=fS Γ ops s o:=by
 have h1:=yr h
 have h2:zE t o=zE s o:=by
  unfold zE
  split
  ·rfl
  unfold List.flatMap
  congr 1
  exact List.map_congr_left fun i hi=>by rw[h.cS i (List.mem_append.2 (.inl hi))]
 unfold fS
 rw[h1,h2]
theorem lM{xs ys:List Id}(h:meets xs ys=false){id:Id}(hx:id∈xs):id ∉ ys:=by
 intro hy
 have:meets xs ys=true:=by
  unfold meets
  exact List.any_eq_true.2 ⟨id,hx,List.any_eq_true.2 ⟨id,hy,by simp⟩⟩
 rw[h]at this;cases this
theorem kQ{d:Option Tmp}{ids:List Id}(h:vE d ids=false){q:Nat}(hd:d=some q)(j:Nat):Id.new q j ∉ ids:=by
 intro hy
 have:vE d ids=true:=by
  subst hd
  exact List.any_eq_true.2 ⟨_,hy,by simp⟩
 rw[h]at this;cases this
theorem pQ{f g:oV}(h:f.Ic g=false){q:Nat}(hd:f.dst=some q):q ∉ g.cS∧g.dst≠some q:=by
 unfold oV.Ic at h
 rw[hd]at h
 simp only[Bool.or_eq_false_iff,List.any_eq_false,decide_eq_true_eq,decide_eq_false_iff_not]at h
 exact⟨fun hx=>h.1 q hx rfl,h.2⟩
theorem z8(s:AS)(d:Option Tmp)(v:az)(i:Nat)(h:d≠some i):(s.put d v).slot i=s.slot i:=by
 cases d with
 |none=>rfl
 |some q=>rw[vF,if_neg];rintro⟨rfl,_⟩;exact h rfl
theorem App.slot{d:Option Tmp}{E:HK}{s s':AS}(h:App d E s s')(i:Nat)(hi:d≠some i):s'.slot i=s.slot i:=by
 rw[←z8 s d E.v i hi]
 simp only[AS.slot,h.cS]
theorem yD{f f':oV}{E:HK}{s s1:AS}(ha:App f.dst E s s1)(hw:xv f s E)(hsub:∀id∈f'.ws,id∈f'.rs)(h1:f.Ic f'=false)(h2:meets f.ws f'.rs=false)(h3:meets f'.ws f.rs=false)
  (h4:vE f.dst f'.rs=false):(∀i∈f'.cS,s1.slot i=s.slot i)∧(∀id∈f'.ws,s1.cl id=s.cl id)∧(∀id∈f'.rs,mR (s1.cl id) (s.cl id))∧∀q,f'.dst=some q→s1.ef q=s.ef q:=by
 have hup:∀id∈f'.rs,E.up id=none:=fun id hid=>by
  cases hu:E.up id with
  |none=>rfl
  |some e=>
   rcases hw.up id e hu with⟨h,_⟩ | ⟨q,j,hd,rfl⟩
   ·exact absurd hid (lM h2 h)
   ·exact absurd hid (kQ h4 hd j)
 refine⟨fun i hi=>ha.slot i fun hd=>(pQ h1 hd).1 hi,fun id hid=> ?_,fun id hid=> ?_,fun q hq=> ?_⟩
 ·rw[ha.cl,hup id (hsub id hid)]
  have:id ∉ E.fz:=fun hz=>lM h3 hid (hw.fz id hz)
  simp only[if_neg this]
 ·rw[ha.cl,hup id hid]
  simp only
  split
  ·exact Dk _
  ·exact Dl _
 ·have hne:∀j,(s1.cl (.new q j)=none↔s.cl (.new q j)=none):=fun j=>by
   rw[ha.cl]
   cases hu:E.up (.new q j) with
   |none=>
    simp only
    split <;> simp
   |some e=>
    rcases hw.up _ e hu with⟨_,h⟩ | ⟨q',j',hd,he⟩
    ·simp[h]
    ·simp only[Id.new.injEq]at he
     obtain⟨rfl,_⟩:=he
     exact absurd hq (pQ h1 hd).2
  rw[Bool.eq_iff_iff,mX,mX,ha.len]
  exact and_congr Iff.rfl (forall_congr' hne)
theorem pd(s:AS)(o:Oper):∀id∈(fS Γ ops s o).ws,id∈(fS Γ ops s o).rs:=fun _ hid=>List.mem_append.2 (.inr hid)
theorem swap{o':Oper}{s1 s2:AS}(h1:qb P Γ bZ ops o s=some s1)(h2:qb P Γ bZ ops o' s1=some s2)(hi:(fS Γ ops s o).indep (fS Γ ops s1 o')=true):
  ∃t1,qb P Γ bZ ops o' s=some t1∧qb P Γ bZ ops o t1=some s2∧fS Γ ops s o'=fS Γ ops s1 o'∧fS Γ ops t1 o=fS Γ ops s o:=by
 unfold oV.indep at hi
 simp only[Bool.and_eq_true,Bool.not_eq_true']at hi
 obtain⟨⟨⟨⟨⟨i1,i2⟩,i3⟩,i4⟩,i5⟩,i6⟩:=hi
 obtain⟨E,a1,w1,l1⟩:=uN h1
 obtain⟨E',a2,w2,l2⟩:=uN h2
 obtain⟨g1,g2,g3,g4⟩:=yD (f:=fS Γ ops s o) (f':=fS Γ ops s1 o') a1 w1 (pd _ _) i1 i3 i4 i5
 have hag:iA (fS Γ ops s1 o') s1 s:=⟨fun i hi=>(g1 i hi).symm,fun id hid=>(g2 id hid).symm,fun id hid=>by
  have:=g3 id hid
  revert this
  cases s1.cl id <;> cases s.cl id <;> simp only[mR] <;> intro h <;> first | trivial | exact h | skip
  rename_i a b
  cases a <;> cases b <;> simp_all [eL.zX],fun q hq=>(g4 q hq).symm⟩
 obtain⟨t1,k1,k2⟩:=l2 s hag
 have hf':=uI hag
 have w2':xv (fS Γ ops s1 o') s E':=⟨fun id e hu=>by
  rcases w2.up id e hu with⟨h,hn⟩ | h
  ·exact .inl ⟨h,by rw[←g2 id h];exact hn⟩
  ·exact .inr h,w2.fz⟩
 obtain⟨m1,m2,m3,m4⟩:=yD (f:=fS Γ ops s1 o') (f':=fS Γ ops s o) k2 w2' (pd _ _) i2 i4 i3 i6
 have hag2:iA (fS Γ ops s o) s t1:=⟨m1,m2,m3,m4⟩
 obtain⟨t2,k3,k4⟩:=l1 t1 hag2
 refine⟨t1,k1,?_,hf',uI hag2⟩
 rw[k3]
 congr 1
 have hup1:∀id e,E.up id=some e→E'.up id=none∧id ∉ E'.fz:=fun id e hu=>by
  rcases w1.up id e hu with⟨h,hn⟩ | ⟨q,j,hd,rfl⟩
  ·refine⟨?_,fun hz=>lM i3 h (w2.fz id hz)⟩
   cases hu':E'.up id with
   |none=>rfl
   |some e'=>
    rcases w2.up id e' hu' with⟨h',_⟩ | ⟨q,j,hd,rfl⟩
    ·exact absurd (pd _ _ id h') (lM i3 h)
    ·exact absurd (pd _ _ _ h) (kQ i6 hd j)
  ·refine⟨?_,fun hz=>kQ i5 hd j (w2.fz _ hz)⟩
   cases hu':E'.up (.new q j) with
   |none=>rfl
   |some e'=>
    rcases w2.up _ e' hu' with⟨h',_⟩ | ⟨q',j',hd',he⟩
    ·exact absurd (pd _ _ _ h') (kQ i5 hd j)
    ·simp only[Id.new.injEq]at he
     obtain⟨rfl,_⟩:=he
     exact absurd hd' (pQ i1 hd).2
 have hup2:∀id e,E'.up id=some e→E.up id=none∧id ∉ E.fz:=fun id e hu=>by
  have hn:E.up id=none:=by
   cases hu1:E.up id with
   |none=>rfl
   |some e1=>rw[(hup1 id e1 hu1).1]at hu;cases hu
  refine⟨hn,fun hz=> ?_⟩
  rcases w2.up id e hu with⟨h,_⟩ | ⟨q,j,hd,rfl⟩
  ·exact lM i4 h (w1.fz id hz)
  ·exact kQ i6 hd j (w1.fz _ hz)
 refine AS.D0 ?_ (by rw[k4.len,k2.len,a2.len,a1.len]) fun id=> ?_
 ·have e1:∀(u u':AS) (d:Option Tmp) (v:az),u.cS=u'.cS→(u.put d v).cS=(u'.put d v).cS:=fun u u' d v h=>by cases d <;> simp[AS.put,h]
  rw[k4.cS,a2.cS,e1 t1 (s.put o'.dst E'.v) _ _ k2.cS,e1 s1 (s.put o.dst E.v) _ _ a1.cS]
  cases hd:o.dst with
  |none=>cases o'.dst <;> rfl
  |some q=>
   cases hd':o'.dst with
   |none=>rfl
   |some q'=>
    have hne:q'≠q:=fun e=>(pQ (f:=fS Γ ops s o) i1 hd).2 (by show o'.dst=some q;rw[hd',e])
    simp only[AS.put]
    exact List.set_comm _ _ hne
 ·rw[k4.cl,k2.cl,a2.cl,a1.cl]
  cases hu:E.up id with
  |some e=>
   obtain⟨h3,h4⟩:=hup1 id e hu
   simp only[h3,if_neg h4]
  |none=>
   simp only
   cases hu':E'.up id with
   |some e=>
    obtain⟨_,h4⟩:=hup2 id e hu'
    simp only[if_neg h4]
   |none=>
    simp only
    by_cases z1:id∈E.fz <;> by_cases z2:id∈E'.fz <;> simp only[if_pos,if_neg,z1,z2,not_false_eq_true]
end
end Go.Ab
namespace Go.Ab
section
variable {P:Program} {Γ:dX} {bZ:List Nat} {ops:Array Oper}
def yB(P:Program)(Γ:dX)(bZ:List Nat)(ops:Array Oper)(fs:Nat→oV):List Nat→AS→AS→Prop
 |[],s,sn=>s=sn
 |i::l,s,sn=>∃o,ops[i]? =some o∧fS Γ ops s o=fs i∧∃s',qb P Γ bZ ops o s=some s'∧yB P Γ bZ ops fs l s' sn
theorem yB.DM{fs:Nat→oV}{i:Nat}{l2:List Nat}{sn:AS}:∀(l1:List Nat) {s:AS},yB P Γ bZ ops fs (l1++i::l2) s sn→(∀j∈l1,(fs j).indep (fs i)=true)→yB P Γ bZ ops fs (i::(l1++l2)) s sn
 |[],_,h,_=>h
 |j::l1,s,h,hi=>by
  obtain⟨oj,h1,h2,s1,h3,h4⟩:=h
  obtain⟨oi,h5,h6,s2,h7,h8⟩:=yB.DM l1 h4 fun j hj=>hi j (List.mem_cons_of_mem _ hj)
  have hd:=hi j (List.mem_cons_self ..)
  rw[←h2,←h6]at hd
  obtain⟨t1,k1,k2,k3,k4⟩:=swap h3 h7 hd
  exact⟨oi,h5,by rw[k3,h6],t1,k1,oj,h1,by rw[k4,h2],s2,k2,h8⟩
theorem wW{R:Type}{anc:List Nat}{k:AS→Option R}{r:R}:∀(l:List Oper) (i:Nat) (acc:List (Nat×oV)) (s:AS) (f0:Nat→oV),(∀n o,l[n]? =some o→ops[i+n]? =some o)→(∀x∈acc,f0 x.1=x.2∧x.1 < i)→
  wV P Γ bZ ops anc i l acc s k=some r→∃fs sn,(∀j,j < i→fs j=f0 j)∧yB P Γ bZ ops fs (List.range' i l.length) s sn∧k sn=some r∧
   (∀x∈acc,∀m,i≤m→m < i+l.length→(anc.getD m 0).testBit x.1=true∨x.2.indep (fs m)=true)∧(∀m1 m2,i≤m1→m1 < m2→m2 < i+l.length→(anc.getD m2 0).testBit m1=true∨(fs m1).indep (fs m2)=true)
 |[],i,acc,s,f0,_,_,h=>⟨f0,s,fun _ _=>rfl,rfl,h,fun _ _ m h1 h2=>by simp at h2;omega,fun _ _ h1 h2 h3=>by simp at h3;omega⟩
 |o::l,i,acc,s,f0,ho,hf,h=>by
  unfold wV at h
  split at h
  ·rename_i hall
   simp only[AS.rP]at h
   obtain⟨s',h1,h2⟩:=y3 (k:=fun s'=>wV P Γ bZ ops anc (i+1) l ((i,fS Γ ops s o)::acc) s' k) h
   have hacc:∀x∈(i,fS Γ ops s o)::acc,(if x.1=i then fS Γ ops s o else f0 x.1)=x.2∧x.1 < i+1:=fun x hx=>by
    rcases List.mem_cons.1 hx with rfl | hx
    ·simp
    ·obtain⟨q1,q2⟩:=hf x hx
     rw[if_neg (by omega)]
     exact⟨q1,by omega⟩
   obtain⟨fs,sn,g1,g2,g3,g4,g5⟩:=wW l (i+1) ((i,fS Γ ops s o)::acc) s' (fun n=>if n=i then fS Γ ops s o else f0 n)
    (fun n o' hn=>by have:=ho (n+1) o' (by simpa using hn);rw[←this];congr 1;omega) hacc h2
   have gi:fs i=fS Γ ops s o:=by rw[g1 i (by omega),if_pos rfl]
   refine⟨fs,sn,fun j hj=>by rw[g1 j (by omega),if_neg (by omega)],?_,g3,fun x hx m h3 h4=> ?_,fun m1 m2 h3 h4 h5=> ?_⟩
   ·rw[List.length_cons,List.range'_succ]
    exact⟨o,ho 0 o rfl,gi.symm,s',h1,g2⟩
   ·rcases Nat.eq_or_lt_of_le h3 with rfl | h3
    ·have:=List.all_eq_true.1 hall x hx
     simp only[Bool.or_eq_true]at this
     rcases this with h | h
     ·exact .inl h
     ·right;rw[gi];exact h
    ·exact g4 x (List.mem_cons_of_mem _ hx) m (by omega) (by simp only[List.length_cons]at h4;omega)
   ·rcases Nat.eq_or_lt_of_le h3 with rfl | h3
    ·rw[gi]
     exact g4 (i,fS Γ ops s o) (List.mem_cons_self ..) m2 (by omega) (by simp only[List.length_cons]at h5;omega)
    ·exact g5 m1 m2 (by omega) h4 (by simp only[List.length_cons]at h5;omega)
  ·cases h
theorem yF{acc:List Nat}{j:Nat}:∀ {l:List Edge},(l.foldr (fun e m=>Nat.lor (Nat.lor (Nat.pow 2 e.on) (acc.getD e.on 0)) m) 0).testBit j=true→∃e∈l,j=e.on∨(acc.getD e.on 0).testBit j=true
 |[],h=>by simp at h
 |e::l,h=>by
  rw[List.foldr_cons,show ∀x y,Nat.lor x y=x ||| y from fun _ _=>rfl,show ∀x y,Nat.lor x y=x ||| y from fun _ _=>rfl,Nat.testBit_or,Nat.testBit_or,show Nat.pow 2 e.on=2^e.on from rfl,Nat.testBit_two_pow]at h
  simp only[Bool.or_eq_true,decide_eq_true_eq]at h
  rcases h with(h | h) | h
  ·exact⟨e,List.mem_cons_self ..,.inl h.symm⟩
  ·exact⟨e,List.mem_cons_self ..,.inr h⟩
  ·obtain⟨e',h1,h2⟩:=yF h
   exact⟨e',List.mem_cons_of_mem _ h1,h2⟩
theorem wE:∀(l:List Oper) (acc:List Nat),(∀i,i < acc.length→(l.foldl (fun acc o=>acc++ [xy acc o]) acc)[i]? =acc[i]?)∧
  ∀i o,l[i]? =some o→(l.foldl (fun acc o=>acc++ [xy acc o]) acc)[acc.length+i]? =some (xy ((l.foldl (fun acc o=>acc++ [xy acc o]) acc).take (acc.length+i)) o)
 |[],acc=>⟨fun _ _=>rfl,fun i o h=>by simp at h⟩
 |x::l,acc=>by
  obtain⟨h1,h2⟩:=wE l (acc++ [xy acc x])
  simp only[List.foldl_cons]
  refine⟨fun i hi=> ?_,fun i o hi=> ?_⟩
  ·rw[h1 i (by simp;omega),List.getElem?_append_left hi]
  ·cases i with
   |zero=>
    simp only[List.getElem?_cons_zero,Option.some.injEq]at hi
    subst hi
    rw[Nat.add_zero,h1 _ (by simp)]
    have:(l.foldl (fun acc o=>acc++ [xy acc o]) (acc++ [xy acc x])).take acc.length=acc:=by
     apply List.ext_getElem?
     intro j
     rw[List.getElem?_take]
     split
     ·rename_i hj
      rw[h1 j (by simp;omega),List.getElem?_append_left hj]
     ·rename_i hj
      rw[List.getElem?_eq_none (by omega)]
    rw[this]
    simp
   |succ i=>
    have:=h2 i o (by simpa using hi)
    simp only[List.length_append,List.length_cons,List.length_nil,Nat.zero_add]at this
    rw[show acc.length+(i+1)=acc.length+1+i by omega]
    exact this
theorem DE{l:List Oper}{i:Nat}{o:Oper}(hi:l[i]? =some o){j:Nat}(hj:((yG l).getD i 0).testBit j=true):∃e∈o.after.toList,Region.binds .any e=true∧(j=e.on∨((yG l).getD e.on 0).testBit j=true):=by
 have h:=(wE l []).2 i o hi
 have e:yG l=l.foldl (fun acc o=>acc++ [xy acc o]) []:=rfl
 rw[←e]at h
 simp only[List.length_nil,Nat.zero_add]at h
 rw[List.getD_eq_getElem?_getD,h]at hj
 obtain⟨e,h1,h3⟩:=yF hj
 obtain⟨h1,h2⟩:=List.mem_filter.1 h1
 refine⟨e,h1,h2,h3.imp id fun h4=> ?_⟩
 rw[List.getD_eq_getElem?_getD,List.getElem?_take]at h4
 split at h4
 ·rw[List.getD_eq_getElem?_getD];exact h4
 ·simp at h4
def xq(n:Nat)(listed:Array Bool):List Nat:=(List.range n).filter fun i=> !listed.getD i true
theorem rr{n:Nat}{listed:Array Bool}{i:Nat}:i∈xq n listed↔i < n∧listed.getD i true=false:=by simp[xq]
theorem qP(n:Nat)(listed:Array Bool):(xq n listed).Pairwise (· < ·):=(List.pairwise_lt_range).filter _
theorem uM{listed:Array Bool}{i j:Nat}(d:Bool)(hi:i < listed.size):(listed.setIfInBounds i true).getD j d=if j=i then true else listed.getD j d:=by
 simp only[Array.getD_eq_getD_getElem?,Array.getElem?_setIfInBounds]
 by_cases h:i=j
 ·subst h;simp[hi]
 ·simp[h,Ne.symm h]
theorem F6{listed:Array Bool}{i:Nat}(hi:i < listed.size){l1 l2:List Nat}(h:xq listed.size listed=l1++i::l2):xq listed.size (listed.setIfInBounds i true)=l1++l2:=by
 have hs:=qP listed.size listed
 rw[h]at hs
 obtain⟨p1,p2,p3⟩:=List.pairwise_append.1 hs
 obtain⟨p4,_⟩:=List.pairwise_cons.1 p2
 have e:xq listed.size (listed.setIfInBounds i true)=(xq listed.size listed).filter fun j=>decide (j≠i):=by
  unfold xq
  rw[List.filter_filter]
  refine List.filter_congr fun j _=> ?_
  rw[uM true hi]
  by_cases hj:j=i
  ·simp[hj]
  ·simp[hj]
 rw[e,h,List.filter_append,List.filter_cons]
 have f1:l1.filter (fun j=>decide (j≠i))=l1:=List.filter_eq_self.2 fun j hj=>by
  have:=p3 j hj i (List.mem_cons_self ..)
  simp;omega
 have f2:l2.filter (fun j=>decide (j≠i))=l2:=List.filter_eq_self.2 fun j hj=>by
  have:=p4 j hj
  simp;omega
 rw[f1,f2]
 simp
theorem Cv{C:Ctx}(hΓ:Sound P Γ){fs:Nat→oV}{sn:AS}{Q:Exit→Act→World→Prop}(hE:xD ops.toList=true)
  (hind:∀m1 m2,m1 < m2→m2 < ops.size→((yG ops.toList).getD m2 0).testBit m1=true∨(fs m1).indep (fs m2)=true) (hQ:∀a w,gH C sn a w→Q .normal a w):
  ∀(fuel:Nat) (listed:Array Bool) (s:AS) (a:Act) (w:World),listed.size=ops.size→(xq ops.size listed).length=fuel→
   (∀i,i < ops.size→listed.getD i true=true→∀j,((yG ops.toList).getD i 0).testBit j=true→listed.getD j false=true)→yB P Γ bZ ops fs (xq ops.size listed) s sn→gH C s a w→wpAny P .any ops Q fuel listed a w:=by
 have hedge:∀i o,ops[i]? =some o→∀e∈o.after.toList,Region.binds .any e=true→e.on < i:=fun i o hi e he hb=>by
  have:=List.all_eq_true.1 hE (o,i) (List.mem_zipIdx_iff_getElem?.2 (by simpa using hi))
  have:=List.all_eq_true.1 this e he
  simpa[hb]using this
 have hrdy:∀(listed:Array Bool),listed.size=ops.size→∀i,i∈Region.ready .any ops listed↔i∈xq ops.size listed∧∀o,ops[i]? =some o→∀e∈o.after.toList,Region.binds .any e=true→listed.getD e.on false=true:=fun listed _ i=>by
  rw[rr]
  unfold Region.ready
  simp only[List.mem_filter,List.mem_range,Bool.and_eq_true,Bool.not_eq_true']
  constructor
  ·rintro⟨h1,h2,h3⟩
   refine⟨⟨h1,h2⟩,fun o ho e he hb=> ?_⟩
   rw[ho]at h3
   simp only[Option.map_some,Option.getD_some,Array.all_eq_true',Bool.or_eq_true,Bool.not_eq_true']at h3
   rcases h3 e (by simpa using he) with h | h
   ·rw[hb]at h;cases h
   ·exact h
  ·rintro⟨⟨h1,h2⟩,h3⟩
   refine⟨h1,h2,?_⟩
   obtain⟨o,ho⟩:∃o,ops[i]? =some o:=⟨ops[i],by simp[h1]⟩
   rw[ho]
   simp only[Option.map_some,Option.getD_some,Array.all_eq_true',Bool.or_eq_true,Bool.not_eq_true']
   intro e he
   cases hb:Region.binds .any e with
   |false=>exact .inl rfl
   |true=>exact .inr (h3 o ho e (by simpa using he) hb)
 have hsome:∀(listed:Array Bool),listed.size=ops.size→Region.ready .any ops listed=[]→xq ops.size listed=[]:=fun listed hs hr=>by
  cases hu:xq ops.size listed with
  |nil=>rfl
  |cons i l=>
   exfalso
   have hi:i∈xq ops.size listed:=by rw[hu];exact List.mem_cons_self ..
   have hso:=qP ops.size listed
   rw[hu]at hso
   have:i∈Region.ready .any ops listed:=(hrdy listed hs i).2 ⟨hi,fun o ho e he hb=>by
    have hlt:=hedge i o ho e he hb
    have hin:=(rr.1 hi).1
    cases hl:listed.getD e.on true with
    |false=>
     have hm:e.on∈xq ops.size listed:=rr.2 ⟨by omega,hl⟩
     rw[hu]at hm
     rcases List.mem_cons.1 hm with h | h
     ·omega
     ·have:=(List.pairwise_cons.1 hso).1 _ h;omega
    |true=>
     have:e.on < listed.size:=by omega
     simp only[Array.getD_eq_getD_getElem?,Array.getElem?_eq_getElem this,Option.getD_some]at hl ⊢
     exact hl⟩
   rw[hr]at this
   cases this
 intro fuel
 induction fuel with
 |zero=>
  intro listed s a w hs hl _ hr hst
  have hn:xq ops.size listed=[]:=List.eq_nil_of_length_eq_zero hl
  refine⟨?_,?_⟩
  ·cases hre:Region.ready .any ops listed with
   |nil=>rfl
   |cons i l=>
    have:i∈Region.ready .any ops listed:=by rw[hre];exact List.mem_cons_self ..
    have:=((hrdy listed hs i).1 this).1
    rw[hn]at this;cases this
  ·rw[hn]at hr
   have:s=sn:=hr
   subst this
   exact hQ a w hst
 |succ fuel ih=>
  intro listed s a w hs hl hcl hr hst
  refine⟨fun hre=> ?_,fun i hi=> ?_⟩
  ·have:=hsome listed hs hre
   rw[this]at hl;simp at hl
  ·obtain⟨hu,hdep⟩:=(hrdy listed hs i).1 hi
   obtain⟨hin,hli⟩:=rr.1 hu
   obtain⟨o,ho⟩:∃o,ops[i]? =some o:=⟨ops[i],by simp[hin]⟩
   obtain⟨l1,l2,hsp⟩:=List.append_of_mem hu
   have hso:=qP ops.size listed
   rw[hsp]at hso
   have hanc:∀j,((yG ops.toList).getD i 0).testBit j=true→listed.getD j false=true:=fun j hj=>by
    obtain⟨e,he,hb,h | h⟩:=DE (by simpa using ho) hj
    ·rw[h];exact hdep o ho e he hb
    ·have h1:=hdep o ho e he hb
     have h2:=hedge i o ho e he hb
     refine hcl e.on (by omega) ?_ j h
     have:e.on < listed.size:=by omega
     simp only[Array.getD_eq_getD_getElem?,Array.getElem?_eq_getElem this,Option.getD_some]at h1 ⊢
     exact h1
   rw[hsp]at hr
   have hb:=yB.DM l1 hr fun j hj=>by
    have hlt:j < i:=(List.pairwise_append.1 hso).2.2 j hj i (List.mem_cons_self ..)
    rcases hind j i hlt hin with h | h
    ·have h1:=hanc j h
     have hju:j∈xq ops.size listed:=by rw[hsp];exact List.mem_append.2 (.inl hj)
     have h2:=(rr.1 hju).2
     have:j < listed.size:=by omega
     simp only[Array.getD_eq_getD_getElem?,Array.getElem?_eq_getElem this,Option.getD_some]at h1 h2
     rw[h1]at h2;cases h2
    ·exact h
   obtain⟨o',ho',hf,s',hg,hrun⟩:=hb
   obtain rfl:o=o':=by rw[ho]at ho';simpa using ho'
   have hset:xq ops.size (listed.setIfInBounds i true)=l1++l2:=by
    rw[←hs]at hsp ⊢
    exact F6 (by omega) hsp
   refine((wU hΓ hst hg).mono fun a' w' hst'=>ih (listed.setIfInBounds i true) s' a' w' (by simpa using hs) ?_ ?_ (by rw[hset];exact hrun) hst').wpOp ho
   ·rw[hset]
    rw[hsp]at hl
    simp only[List.length_append,List.length_cons]at hl ⊢
    omega
   ·intro m hm hlm j hj
    rw[uM false (by omega)]
    split
    ·rfl
    ·rw[uM true (by omega)]at hlm
     split at hlm
     ·rename_i hmi
      subst hmi
      exact hanc j hj
     ·exact hcl m hm hlm j hj
theorem zM{C:Ctx}(hm:P.follows .mixedOrders=true)(hΓ:Sound P Γ){id:Nat}{R:Type}{Q:Exit→Act→World→Prop}{s:AS}{a:Act}{w:World}{k:AS→Option R}{r:R}(h:gH C s a w)(hE:xD ops.toList=true)
  (he:wV P Γ bZ ops (yG ops.toList) 0 ops.toList [] s k=some r) (hk:∀s' a' w',gH C s' a' w'→k s'=some r→Q .normal a' w'):(Code.region id ops true).wp P Q a w:=by
 obtain⟨fs,sn,_,g2,g3,_,g5⟩:=wW ops.toList 0 [] s (fun _=>⟨none,[],[],[]⟩) (fun n o hn=>by simpa using hn) (fun _ hx=>by cases hx) he
 refine wp_region_any hm ?_
 obtain⟨g,β,h⟩:=h
 have hu:xq ops.size (Array.replicate ops.size false)=List.range' 0 ops.toList.length:=by
  unfold xq
  rw[List.filter_eq_self.2]
  ·simp[List.range_eq_range']
  ·intro i hi
   have hi:i < ops.size:=by simpa using hi
   simp[Array.getD_eq_getD_getElem?,hi]
 refine Cv (bZ:=bZ) hΓ hE (fs:=fs) (sn:=sn) (fun m1 m2 h1 h2=>g5 m1 m2 (Nat.zero_le _) h1 (by simpa using h2)) (fun a' w' hs=>hk sn a' w' hs g3) ops.size _ s a _ (by simp) (by rw[hu];simp) (fun i hi hl=> ?_) (by rw[hu];exact g2) ⟨g,β,h.drew⟩
 simp[Array.getD_eq_getD_getElem?,hi]at hl
end
end Go.Ab
namespace Go.Ab
theorem mO{ρ:Ap}{s:AS}(h:∀id,(s.obj id).isSome=true→∀ver,ρ id ver=some (id,ver)):∀(v:az),v.there s=true→v.ir ρ=v
 | .ptr id ver p n,ht=>by simp only[az.ir];rw[h id ht]
 | .cT id ver p c i len,ht=>by simp only[az.ir];rw[h id ht]
 | .pr a b,ht=>by
  simp only[az.there,Bool.and_eq_true]at ht
  simp only[az.ir];rw[mO h a ht.1,mO h b ht.2]
 | .cons a b,ht=>by
  simp only[az.there,Bool.and_eq_true]at ht
  simp only[az.ir];rw[mO h a ht.1,mO h b ht.2]
 | .fn f c,ht=>by simp only[az.ir];rw[mO h c ht]
 | .bx e z c,ht=>by simp only[az.ir];rw[mO h c ht]
 | .kL id ver,ht=>by simp only[az.ir];rw[h id ht]
 | .kF ..,ht=>by cases ht
 | .undef,_ | .gone,_ | .dP,_ | .lk,_ | .l6,_ | .nU,_ | .d _ _,_ | .eI _ _,_ | .nil,_ | .vec ..,_ | .mp ..,_ | .sb _,_=>rfl
theorem HL.bt{E E':Env}(hm:lG E E')(hh:∀b:Nat,E'.w.heap[b]? =E.w.heap[b]?){i q:Id}{ver:Nat}{kt vt:Ty}{rest:List (kt.den×vt.den)}{cur:Option (kt.den×vt.den)}(h:HL E i q ver kt vt rest cur)(hβ:E'.β i=E.β i)
  (hg:∀pl,E.β i=some pl→E.g pl.b= .own (.id i) 0→E'.g pl.b= .own (.id i) 0)
  (hq:∀vr,ver=vr+1→(E.pZ q vr→E'.pZ q vr∧(E'.cur q vr→E.cur q vr∧E'.β q=E.β q))∧(∀k v l,E.s q=some (.obj vr true (.mp k v l))→E'.s q=some (.obj vr true (.mp k v l)))∧
   ∀pl,E.β q=some pl→E.g pl.b= .own (.id q) 0→E'.g pl.b= .own (.id q) 0):HL E' i q ver kt vt rest cur:=by
 obtain⟨pl,mb,since,seen,c0,h1,h2,h3,h4⟩:=h
 refine⟨pl,mb,since,seen,c0,by rw[hβ,h1],by rw[hh,h2],hg pl h1 h3,fun vr hvr=> ?_⟩
 obtain⟨h5,h6⟩:=h4 vr hvr
 obtain⟨q1,q2,q3⟩:=hq vr hvr
 obtain⟨b1,b2⟩:=q1 h5
 refine⟨b1,fun hc=> ?_⟩
 obtain⟨c1,c2⟩:=b2 hc
 obtain⟨⟨k,v,l,k0⟩,plq,es,clock,k1,k2,k3,k4,k5,k6,k7,k8,k9⟩:=h6 c1
 exact⟨⟨k,v,l,q2 _ _ _ k0⟩,plq,es,clock,by rw[c2,k1],k2,by rw[hh,k3],q3 _ k1 k4,k5,k6,k7,k8.mono hm,fun x hx=>
  let⟨e,se,a1,a2,a3,a4⟩:=k9 x hx
  ⟨e,se,a1,a2,a3,a4.mono hm⟩⟩
theorem Ef(c:az):(∃q ver k v l cu,c= .kF q ver k v l cu)∨(∀ρ kp,c.Ht ρ kp=c.ir ρ)∧∀s v fr,eL.there s (.obj v fr c)=c.there s:=by
 cases c <;> first | exact .inl ⟨_,_,_,_,_,_,rfl⟩ | exact .inr ⟨fun _ _=>rfl,fun _ _ _=>rfl⟩
section
variable {P:Program} {C:Ctx} {g:Nat→jt} {β:Id→Option Pl} {s:AS} {a:Act} {w:World}
theorem Inv.w9(h:Inv C g β s a w)(hC:∀i j,C.E.s (.new i j)=none){s1:AS}{g1:Nat→jt}{β1:Id→Option Pl}(ρ:Ap)(hlen:s1.cS.length=s.cS.length)(ht:Trans w w g g1)(hle:oG ρ (s.env w g β) (s1.env w g1 β1))
  (hslot:∀i,VS (s1.env w g1 β1) (s1.slot i) (a.tmps.getD i undef))
  (hent:∀id ver fr c,s1.cl id=some (.obj ver fr c)→lZ (s1.env w g1 β1) id fr c∨∃id0 v0 c0,s.cl id0=some (.obj v0 fr c0)∧c0.ir ρ=c∧β1 id=β id0∧∀pl,β id0=some pl→(∀k,g pl.b= .own (.id id0) k→g1 pl.b= .own (.id id) k)∧(g pl.b= .free→g1 pl.b= .free))
  (hold:∀k,(s.cl (.dH k)≠none→s1.cl (.dH k)≠none)∧(∀v fr c,s1.cl (.dH k)=some (.obj v fr c)→∃c0,s.cl (.dH k)=some (.obj v fr c0))∧β1 (.dH k)=β (.dH k)):Inv C g1 β1 s1 a w:=by
 refine⟨h.defers,by rw[hlen];exact h.size,hslot,fun id ver fr c hid=> ?_,h.trans.trans ht,?_⟩
 ·rcases hent id ver fr c hid with ho | ⟨id0,v0,c0,h1,h2,h3,h4⟩
  ·exact ho
  have:=nL hle (h.bZ id0 v0 fr c0 h1) (id':=id) h3 fun pl hp=>⟨rfl,(h4 pl hp).1,(h4 pl hp).2⟩
  rw[h2]at this
  exact this
 ·have hl:=h.le
  have ho:∀id ver,C.E.pZ id ver→∃k,id= .dH k:=fun id ver hb=>by
   cases id with
   |dH k=>exact⟨k,rfl⟩
   |new i j=>exact absurd (hC i j) hb.1
  refine⟨hl.mem.trans (Trans.mem (E:=s.env w g β) (E':=s1.env w g1 β1) ht),fun id ver hb=> ?_,fun id ver hb hc=> ?_⟩
  ·obtain⟨k,rfl⟩:=ho id ver hb
   obtain⟨h1,h2⟩:=hl.pZ _ ver hb
   obtain⟨e1,e2,_⟩:=hold k
   exact⟨e1 h1,fun v fr c hh=>let⟨c0,hc0⟩:=e2 v fr c hh;h2 v fr c0 hc0⟩
  ·obtain⟨k,rfl⟩:=ho id ver hb
   obtain⟨fr,c,hc⟩:=hc
   obtain⟨_,e2,e3⟩:=hold k
   obtain⟨c0,hc0⟩:=e2 _ _ _ hc
   obtain⟨h1,h2⟩:=hl.cur _ ver hb ⟨fr,c0,hc0⟩
   exact⟨h1,e3.trans h2⟩
theorem Inv.renamed(h:Inv C g β s a w)(hC:∀i j,C.E.s (.new i j)=none){s1:AS}{β1:Id→Option Pl}(ρ:Ap)(hlen:s1.cS.length=s.cS.length)(hle:oG ρ (s.env w g β) (s1.env w g β1))
  (hslot:∀i,VS (s1.env w g β1) (s1.slot i) (a.tmps.getD i undef)) (hent:∀id ver fr c,s1.cl id=some (.obj ver fr c)→lZ (s1.env w g β1) id fr c∨∃v0,s.cl id=some (.obj v0 fr c)∧c.ir ρ=c∧β1 id=β id)
  (hold:∀k,s1.cl (.dH k)=s.cl (.dH k)∧β1 (.dH k)=β (.dH k)):Inv C g β1 s1 a w:=
 h.w9 hC ρ hlen (Trans.refl w g) hle hslot (fun id ver fr c hid=>(hent id ver fr c hid).imp (fun h=>h) fun⟨v0,h1,h2,h3⟩=>⟨id,v0,c,h1,h2,h3,fun _ _=>⟨fun _ h=>h,fun h=>h⟩⟩)
  fun k=>⟨fun hh=>by rw[(hold k).1];exact hh,fun v fr c hh=>⟨c,(hold k).1.symm.trans hh⟩,(hold k).2⟩
theorem Inv.Ip(h:Inv C g β s a w)(j:Nat){v:az}(hv:VS (s.env w g β) v (a.tmps.getD j undef)):Inv C g β (s.put (some j) v) a w:=by
 refine⟨h.defers,by simpa[AS.put]using h.size,fun i=> ?_,by simpa using h.bZ,h.trans,by simpa using h.le⟩
 rw[BQ,vF]
 split
 ·rename_i hij;rw[hij.1];exact hv
 ·exact h.cS i
theorem s6(bt:List Nat):∀(l:List az) (n i:Nat),(gY bt n l).getD i .undef= .undef∨(gY bt n l).getD i .undef=l.getD i .undef
 |[],n,i=>by simp[gY]
 |v::l,n,0=>by
  simp only[gY,List.getD_cons_zero]
  split
  ·exact .inr rfl
  ·exact .inl rfl
 |v::l,n,i+1=>by
  simp only[gY,List.getD_cons_succ]
  exact s6 bt l (n+1) i
theorem nD(bt:List Nat):∀(l:List az) (n:Nat),(gY bt n l).length=l.length
 |[],n=>rfl
 |v::l,n=>by simp[gY,nD bt l]
theorem xh(bt:List Nat):∀(l:List (List eL)) (n i:Nat),(iS bt n l).getD i []=[]∨(iS bt n l).getD i []=l.getD i []
 |[],n,i=>by simp[iS]
 |v::l,n,0=>by
  simp only[iS,List.getD_cons_zero]
  split
  ·exact .inr rfl
  ·exact .inl rfl
 |v::l,n,i+1=>by
  simp only[iS,List.getD_cons_succ]
  exact xh bt l (n+1) i
theorem C1{s:AS}(i:Nat):s.slot i= .undef∨s.slot i∈s.cS:=by
 unfold AS.slot
 rw[List.getD_eq_getElem?_getD]
 cases h:s.cS[i]? with
 |none=>exact .inl rfl
 |some v=>exact .inr (List.mem_of_getElem? h)
theorem FE{s:AS}{id:Id}{e:eL}(h:s.cl id=some e):e∈s.dd∨∃es∈s.news,e∈es:=by
 cases id with
 |dH k=>exact .inl (List.mem_of_getElem? h)
 |new i j=>
  simp only[AS.cl,List.getD_eq_getElem?_getD]at h
  cases hi:s.news[i]? with
  |none=>rw[hi]at h;simp at h
  |some es=>rw[hi]at h;exact .inr ⟨es,List.mem_of_getElem? hi,List.mem_of_getElem? h⟩
theorem Inv.bt(h:Inv C g β s a w)(hC:∀i j,C.E.s (.new i j)=none){an:iY}(ht:(rk an s).yE=true):Inv C g β (rk an s) a w:=by
 obtain⟨ks,kt,_,_,_⟩:=an
 obtain⟨s1,hs1⟩:∃s1:AS,s1= {cS:=gY ks 0 s.cS,dd:=s.dd,news:=iS kt 0 s.news}:=⟨_,rfl⟩
 have e1:s1.cS=gY ks 0 s.cS:=by rw[hs1]
 have e2:s1.dd=s.dd:=by rw[hs1]
 have e3:s1.news=iS kt 0 s.news:=by rw[hs1]
 have ht:(s1.cS.all (az.there s1) && s1.dd.all (eL.there s1) && s1.news.all fun es=>es.all (eL.there s1))=true:=by rw[hs1];exact ht
 show Inv C g β {cS:=gY ks 0 s.cS,dd:=s.dd,news:=iS kt 0 s.news} a w
 rw[←hs1]
 rw[Bool.and_eq_true,Bool.and_eq_true]at ht
 obtain⟨⟨t1,t2⟩,t3⟩:=ht
 have hent:∀id,s1.cl id=none∨s1.cl id=s.cl id:=fun id=>by
  cases id with
  |dH k=>right;simp only[AS.cl,e2]
  |new i j=>
   simp only[AS.cl,e3]
   rcases xh kt s.news 0 i with h | h
   ·rw[h];exact .inl rfl
   ·rw[h];exact .inr rfl
 have hobj:∀id,(s1.obj id).isSome=true→s1.cl id=s.cl id:=fun id hi=>by
  rcases hent id with h | h
  ·simp[AS.obj,h]at hi
  ·exact h
 let ρ:Ap:=fun id ver=>if(s1.obj id).isSome=true then some (id,ver) else none
 have hρ:∀v:az,v.there s1=true→v.ir ρ=v:=mO fun id hid ver=>if_pos hid
 have hle:oG ρ (s.env w g β) (s1.env w g β):=by
  refine⟨⟨fun _ _ _ h=>h,fun _ _ h h'=>⟨h,h'⟩⟩,fun id ver r hr hb=> ?_⟩
  by_cases hi:(s1.obj id).isSome=true
  ·have:ρ id ver=some (id,ver):=if_pos hi
   rw[this,Option.some.injEq]at hr
   subst hr
   have e:=hobj id hi
   obtain⟨b1,b2⟩:=hb
   exact⟨⟨by show s1.cl id≠none;rw[e];exact b1,fun v fr c hh=>b2 v fr c (e.symm.trans hh)⟩,fun⟨fr,c,hc⟩=>⟨⟨fr,c,e.symm.trans hc⟩,rfl⟩⟩
  ·have:ρ id ver=none:=if_neg hi
   rw[this]at hr;cases hr
 refine h.renamed hC ρ (by rw[e1,nD]) hle (fun i=> ?_) (fun id ver fr c hid=> ?_) fun k=>⟨by simp only[AS.cl,e2],rfl⟩
 ·rcases C1 (s:=s1) i with hi | hi
  ·rw[hi];exact VS.undef
  ·have hth:=List.all_eq_true.1 t1 _ hi
   rcases s6 ks s.cS 0 i with h1 | h1
   ·have:s1.slot i= .undef:=by simp only[AS.slot,e1,h1]
    rw[this];exact VS.undef
   ·have:s1.slot i=s.slot i:=by simp only[AS.slot,e1,h1]
    have hv:=uk hle (h.cS i)
    rw[←this,hρ _ hth]at hv
    exact hv
 ·have:s1.cl id=s.cl id:=by
   rcases hent id with h | h
   ·rw[h]at hid;cases hid
   ·exact h
  have hc:eL.there s1 (.obj ver fr c)=true:=by
   rcases FE hid with h | ⟨es,h1,h2⟩
   ·exact List.all_eq_true.1 t2 _ h
   ·exact List.all_eq_true.1 (List.all_eq_true.1 t3 _ h1) _ h2
  rcases Ef c with⟨q,vq,k,v,l,cu,rfl⟩ | ⟨_,hth⟩
  ·have e:=hobj q hc
   refine .inl (HL.bt hle.mem (fun _=>rfl) (h.bZ id ver fr _ (this.symm.trans hid)) rfl (fun _ _ h=>h) fun vr _=>⟨fun hb=>hle.ref q vr (q,vr) (if_pos hc) hb,fun k v l hk=>e.trans hk,fun _ _ h=>h⟩)
  ·rw[hth]at hc
   exact .inr ⟨ver,this.symm.trans hid,hρ c hc,rfl⟩
theorem Inv.drop(h:Inv C g β s a w)(ks:List Nat):Inv C g β (s.drop ks) a w:=by
 refine⟨h.defers,by simpa[AS.drop,nD]using h.size,fun i=> ?_,h.bZ,h.trans,h.le⟩
 rcases s6 ks s.cS 0 i with h1 | h1
 ·have:(s.drop ks).slot i= .undef:=h1
  rw[this];exact VS.undef
 ·have:(s.drop ks).slot i=s.slot i:=h1
  rw[this];exact h.cS i
def oC(b q:Nat):jt→jt
 | .own (.id (.new x j)) k=>if x=b then .own (.id (.new q j)) k else .own (.id (.new x j)) k
 |l=>l
theorem Trans.Io(w:World)(g:Nat→jt)(b q:Nat):Trans w w g fun x=>oC b q (g x):=by
 refine⟨rfl,rfl,⟨rfl,Nat.le_refl _⟩,Nat.le_refl _,fun y _=> ?_⟩
 cases hg:g y with
 |free=>exact⟨by simp[oC],rfl⟩
 |own o k=>cases o with
  |fu=>exact⟨by simp[oC],rfl⟩
  |id x=>
   refine⟨.inr ?_,fun _ _ _ h=>h⟩
   cases x with
   |dH m=>exact⟨_,_,rfl,Nat.le_refl _⟩
   |new x j=>
    simp only[oC]
    split
    ·exact⟨_,_,rfl,Nat.le_refl _⟩
    ·exact⟨_,_,rfl,Nat.le_refl _⟩
theorem EZ(f:az→az)(hf:f .undef= .undef)(l:List az)(i:Nat):(l.map f).getD i .undef=f (l.getD i .undef):=by
 simp only[List.getD_eq_getElem?_getD,List.getElem?_map]
 cases l[i]? <;> simp[hf]
theorem Inv.pz(h:Inv C g β s a w)(hC:∀i j,C.E.s (.new i j)=none){b q:Nat}(hbl:b < s.news.length)(hql:q < s.news.length):
  ∃g1 β1,Inv C g1 β1 (s.pz b q (s.news.getD b [])) a w:=by
 generalize hes:s.news.getD b []=es
 have hesj:∀j,s.cl (.new b j)=es[j]? :=fun j=>by rw[←hes];rfl
 let ρ:Ap:=rG es b q
 let s1:=s.pz b q es
 have hself:∀j',s1.cl (.new q j')=(es[j']?).map (eL.FW ρ):=fun j'=>by
  simp[s1,AS.pz,AS.cl,List.getD_eq_getElem?_getD,hql,ρ]
 have hgone:b≠q→∀j',s1.cl (.new b j')=none:=fun hbq j'=>by
  have hbq':¬q=b:=fun e=>hbq e.symm
  simp only[s1,AS.pz,AS.cl,List.getD_eq_getElem?_getD]
  rw[List.getElem?_set_ne hbq',List.getElem?_set,if_pos rfl]
  split <;> simp
 have hoth:∀i,(∀j',i≠ .new q j')→(∀j',i≠ .new b j')→s1.cl i=(s.cl i).map (eL.wu ρ (pT b q)):=fun i hi hi'=>by
  cases i with
  |dH k=>simp[s1,AS.pz,AS.cl,ρ]
  |new x y=>
   have h1:¬q=x:=fun e=>hi y (by rw[e])
   have h2:¬b=x:=fun e=>hi' y (by rw[e])
   simp only[s1,AS.pz,AS.cl,List.getD_eq_getElem?_getD]
   rw[List.getElem?_set_ne h1,List.getElem?_set_ne h2,List.getElem?_map]
   cases s.news[x]? <;> simp[ρ]
 let g1:Nat→jt:=fun x=>oC b q (g x)
 let β1:Id→Option Pl:=fun i=>match i with | .new x j=>if x=q then β (.new b j) else β (.new x j) | .dH k=>β (.dH k)
 have hβ1:∀i,(∀j',i≠ .new q j')→β1 i=β i:=fun i hi=>by
  cases i with
  |dH k=>rfl
  |new x y=>exact if_neg fun e=>hi y (by rw[e])
 have ht:Trans w w g g1:=Trans.Io w g _ _
 have hρ:∀i ver r,ρ i ver=some r→(∃j fr c,i= .new b j∧es[j]? =some (.obj ver fr c)∧r=(.new q j,0))∨((∀j',i≠ .new q j')∧(∀j',i≠ .new b j')∧r=(i,ver)):=fun i ver r hr=>by
  replace hr:rG es b q i ver=some r:=hr
  cases i with
  |dH k=>exact .inr ⟨fun _=>by simp,fun _=>by simp,(Option.some.inj hr).symm⟩
  |new x j=>
   unfold rG at hr
   simp only at hr
   split at hr
   ·rename_i hx
    have hx:x=b:=by simpa using hx
    subst hx
    split at hr
    ·rename_i v fr c he
     split at hr
     ·rename_i hv
      have hv:ver=v:=by simpa using hv
      subst hv
      exact .inl ⟨j,fr,c,rfl,he,(Option.some.inj hr).symm⟩
     ·cases hr
    ·cases hr
   ·rename_i hx
    have hx:¬x=b:=by simpa using hx
    split at hr
    ·cases hr
    ·rename_i hx'
     have hx':¬x=q:=by simpa using hx'
     exact .inr ⟨fun _ e=>hx' (by injection e),fun _ e=>hx (by injection e),(Option.some.inj hr).symm⟩
 have hle:oG ρ (s.env w g β) (s1.env w g1 β1):=by
  refine⟨Trans.mem (E:=s.env w g β) (E':=s1.env w g1 β1) ht,fun i ver r hr hbd=> ?_⟩
  rcases hρ i ver r hr with⟨j,fr,c,rfl,he,rfl⟩ | ⟨hi,hi',rfl⟩
  ·refine⟨⟨by show s1.cl (.new q j)≠none;rw[hself,he];simp,fun _ _ _ _=>Nat.zero_le _⟩,fun _=>⟨⟨fr,c,(hesj j).trans he⟩,if_pos rfl⟩⟩
  ·obtain⟨k1,k2⟩:=hbd
   have k1:s.cl i≠none:=k1
   have e:s1.cl i=(s.cl i).map (eL.wu ρ (pT b q)):=hoth i hi hi'
   have back:∀v' fr' c',s1.cl i=some (.obj v' fr' c')→∃c0,s.cl i=some (.obj v' fr' c0):=fun v' fr' c' hh=>by
    rw[e]at hh
    cases hs:s.cl i with
    |none=>exact absurd hs k1
    |some en=>
     rw[hs]at hh
     cases en with
     |dead=>simp[eL.wu]at hh
     |obj v0 fr0 c0=>
      simp only[Option.map_some,eL.wu,Option.some.injEq,eL.obj.injEq]at hh
      obtain⟨rfl,rfl,_⟩:=hh
      exact⟨c0,rfl⟩
   refine⟨⟨by
    show s1.cl i≠none
    rw[e]
    cases hs:s.cl i with
    |none=>exact absurd hs k1
    |some en=>simp,fun v' fr' c' hh=> ?_⟩,fun⟨fr',c',hh⟩=> ?_⟩
   ·obtain⟨c0,hc0⟩:=back v' fr' c' hh
    exact k2 v' fr' c0 hc0
   ·obtain⟨c0,hc0⟩:=back ver fr' c' hh
    exact⟨⟨fr',c0,hc0⟩,hβ1 i hi⟩
 have hgi:∀(i:Id),(∀j',i≠ .new b j')→∀(x:Nat) (k:Nat),g x= .own (.id i) k→g1 x= .own (.id i) k:=fun i hi x k hk=>by
  show oC b q (g x)=_
  rw[hk]
  cases i with
  |dH m=>rfl
  |new y j=>exact if_neg fun e=>hi j (by rw[e])
 refine⟨g1,β1,h.w9 hC ρ (by simp[AS.pz]) ht hle (fun i=> ?_) (fun id ver fr' c' hid=> ?_) fun k=>⟨fun hk=> ?_,fun v' fr' c' hh=> ?_,rfl⟩⟩
 ·have:(s.pz b q es).slot i=(s.slot i).ir ρ:=EZ _ rfl _ _
  rw[this]
  exact uk hle (h.cS i)
 ·have hid:s1.cl id=some (.obj ver fr' c'):=hid
  by_cases hi:∃j',id= .new q j'
  ·obtain⟨j',rfl⟩:=hi
   rw[hself]at hid
   cases he:es[j']? with
   |none=>rw[he]at hid;cases hid
   |some en=>
    rw[he]at hid
    cases en with
    |dead=>simp[eL.FW]at hid
    |obj v0 fr0 c0=>
     simp only[Option.map_some,eL.FW,Option.some.injEq,eL.obj.injEq]at hid
     obtain⟨_,rfl,rfl⟩:=hid
     exact .inr ⟨.new b j',v0,c0,(hesj j').trans he,rfl,if_pos rfl,fun pl hp=>⟨fun k hk=>by
      show oC b q (g pl.b)=_
      rw[hk];exact if_pos rfl,fun hk=>by
      show oC b q (g pl.b)=_
      rw[hk];rfl⟩⟩
  ·by_cases hi':∃j',id= .new b j'
   ·obtain⟨j',rfl⟩:=hi'
    have hbq:b≠q:=fun e=>hi ⟨j',by rw[e]⟩
    rw[hgone hbq]at hid;cases hid
   ·have hni:∀j',id≠ .new q j':=fun j' e=>hi ⟨j',e⟩
    have hni':∀j',id≠ .new b j':=fun j' e=>hi' ⟨j',e⟩
    have e:=hoth id hni hni'
    rw[e]at hid
    cases hs:s.cl id with
    |none=>rw[hs]at hid;cases hid
    |some en=>
     rw[hs]at hid
     cases en with
     |dead=>simp[eL.wu]at hid
     |obj v0 fr0 c0=>
      simp only[Option.map_some,eL.wu,Option.some.injEq,eL.obj.injEq]at hid
      obtain⟨rfl,rfl,rfl⟩:=hid
      rcases Ef c0 with⟨q2,vq,k,v2,l,cu,rfl⟩ | ⟨hren,_⟩
      ·have h0:=h.bZ id v0 fr0 _ hs
       left
       simp only[az.Ht]
       cases hkq:pT b q q2 with
       |true=>
        have hk1:(∀j',q2≠ .new b j')∧(∀j',q2≠ .new q j')∧∀vr,ρ q2 vr=some (q2,vr):=by
         cases q2 with
         |dH k=>exact⟨fun _=>by simp,fun _=>by simp,fun _=>rfl⟩
         |new x y=>
          simp only[pT,Bool.and_eq_true,Bool.not_eq_true',decide_eq_false_iff_not]at hkq
          obtain⟨k1,k2⟩:=hkq
          refine⟨fun _ e=>k1 (by injection e),fun _ e=>k2 (by injection e),fun vr=> ?_⟩
          show rG es b q (.new x y) vr=_
          unfold rG
          simp only[decide_eq_false k1,decide_eq_false k2]
        obtain⟨hk1,hk2,hρq⟩:=hk1
        refine HL.bt hle.mem (fun _=>rfl) h0 (hβ1 id hni) (fun pl _ hk=>hgi id hni' _ _ hk) fun vr _=>⟨fun hb=>hle.ref q2 vr (q2,vr) (hρq vr) hb,fun k v l hk=> ?_,fun pl _ hk=>hgi q2 hk1 _ _ hk⟩
        have hk:s.cl q2=some (.obj vr true (.mp k v l)):=hk
        show s1.cl q2=_
        rw[hoth q2 hk2 hk1,hk]
        rfl
       |false=>
        obtain⟨pl,mb,since,seen,c0,h1,h2,h3,h4⟩:=h0
        exact⟨pl,mb,since,seen,c0,(hβ1 id hni).trans h1,h2,hgi id hni' _ _ h3,fun vr hvr=>by omega⟩
      rw[hren]
      exact .inr ⟨id,v0,c0,hs,rfl,hβ1 id hni,fun pl hp=>⟨fun k hk=>hgi id hni' _ _ hk,fun hk=>by
       show oC b q (g pl.b)=_
       rw[hk];rfl⟩⟩
 ·have e:=hoth (.dH k) (fun _=>by simp) (fun _=>by simp)
  show s1.cl (.dH k)≠none
  rw[e]
  cases hs:s.cl (.dH k) with
  |none=>exact absurd hs hk
  |some en=>simp
 ·have e:=hoth (.dH k) (fun _=>by simp) (fun _=>by simp)
  have hh:s1.cl (.dH k)=some (.obj v' fr' c'):=hh
  rw[e]at hh
  cases hs:s.cl (.dH k) with
  |none=>rw[hs]at hh;cases hh
  |some en=>
   rw[hs]at hh
   cases en with
   |dead=>simp[eL.wu]at hh
   |obj v0 fr0 c0=>
    simp only[Option.map_some,eL.wu,Option.some.injEq,eL.obj.injEq]at hh
    obtain⟨rfl,rfl,_⟩:=hh
    exact⟨c0,rfl⟩
theorem vP{k t:Ty}{l:List (k.den×t.den)}:∀ {p:List qo} {x c':az},¬(nI (.mp k t l) p x).eval=some c'
 |[],x,c',h=>by simp only[nI,ai]at h
 | .arr::p,x,c',h=>by simp only[nI]at h;exact vP h
 | .idx i::p,x,c',h=>by simp only[nI,ai]at h
 | .fst::p,x,c',h=>by simp only[nI,ai]at h
 | .snd::p,x,c',h=>by simp only[nI,ai]at h
theorem yq{q:Id}{vq:Nat}{k t:Ty}{l:List (k.den×t.den)}{cu:Option (k.den×t.den)}:∀ {p:List qo} {x c':az},¬(nI (.kF q vq k t l cu) p x).eval=some c'
 |[],x,c',h=>by simp only[nI,ai]at h
 | .arr::p,x,c',h=>by simp only[nI]at h;exact yq h
 | .idx i::p,x,c',h=>by simp only[nI,ai]at h
 | .fst::p,x,c',h=>by simp only[nI,ai]at h
 | .snd::p,x,c',h=>by simp only[nI,ai]at h
theorem tF{l:List Value}{n:Nat}{vs:List Value}(h:(l.drop n).take vs.length=vs):dF l n vs=l:=by
 unfold dF
 have h2:l.drop n=vs++l.drop (n+vs.length):=by
  conv=>lhs;rw[←List.take_append_drop vs.length (l.drop n)]
  rw[h,List.drop_drop]
 have h3:=List.take_append_drop n l
 rw[h2]at h3
 simpa[List.append_assoc]using h3
theorem Inv.Ij(h:Inv C g β s a w){j:Nat}{p:List qo}(hat:(s.at j p).eval=some .dP){q:Nat}(hq:s.ef q=true){e:TypeId}{t:Ty}(hz:0 < t.size){s':AS}
  (he:((s.born q [.obj 0 false (.vec e t [])]).putAt j (.cT (.new q 0) 0 [] 0 0 0) p).eval=some s'):gH C s' a w:=by
 obtain⟨β',h1,h2,h3⟩:=h.Et hq (e:=e) hz
 cases p with
 |nil=>
  simp only[AS.at]at hat
  have hj:=ao.1 hat
  simp only[AS.putAt]at he
  obtain rfl:=ao.1 he
  refine⟨g,β',h1.Ip j ?_⟩
  have:=h.cS j
  rw[hj]at this
  rw[il this]
  exact h3
 |cons st p=>
  simp only[AS.at]at hat
  simp only[AS.putAt]at he
  have hslot:(s.born q [.obj 0 false (.vec e t [])]).slot j=s.slot j:=rfl
  rw[hslot]at he
  split at hat
  ·rename_i id ver p0 nn hj
   split at hat
   ·rename_i v fr c hob
    obtain⟨hv,hat⟩:=aA.1 hat
    obtain⟨⟨n,u⟩,hl,hat⟩:=al.1 hat
    have hu:=ao.1 hat
    simp only at hu
    subst hu
    have hent:=ez hob
    have hne:id≠ .new q 0:=fun e=>by rw[e,(hH hq).1 0]at hent;cases hent
    have hne':∀j',id≠ .new q j':=fun j' e=>by rw[e,(hH hq).1 j']at hent;cases hent
    have hent1:(s.born q [.obj 0 false (.vec e t [])]).cl id=some (.obj v fr c):=(gI _ hne').trans hent
    have hob1:(s.born q [.obj 0 false (.vec e t [])]).obj id=some (v,fr,c):=by simp only[AS.obj,hent1]
    simp only[hj,hob1]at he
    split at he
    ·simp only[ai]at he
    ·rename_i c1 hc1
     obtain⟨c',hup,he⟩:=al.1 he
     obtain rfl:=ao.1 he
     have hn:c.gA=false:=by
      cases c <;> first | rfl | (exact(hc1 _ _ _ rfl).elim) | (exact absurd hup vP) | (exact absurd hup yq)
     have hO:=h1.bZ id v fr c hent1
     obtain⟨pl,cur,e0,hp,hh,hg,hk,hV⟩:=hO.box hn
     have ht:=Trans.refl w g
     have hN:=tT hk
     have hle:=cW.bf (s:=s.born q [.obj 0 false (.vec e t [])]) (β:=β') (v':=v) (fr':=fr) (c':=c.wrap c') hent1 (Nat.le_refl _) ht (fun _ _=>rfl) (fun _=>rfl)
     refine⟨g,β',h1.step (dC _ _ _) ht hle (hP.bf h1.bZ (by rw[hent1];simp) hle (fun _ _=>rfl) (fun _ _ _ _ _ _ _ _=>⟨rfl,rfl⟩) ?_ (jv hent1 fun k v1 l e=>by subst e;exact absurd hup vP))⟩
     obtain⟨cs,k1,k2⟩:=h3
     have k2:cs=[.slice none 0 0]:=k2
     subst k2
     obtain⟨u1,u2,u3⟩:=jy (p0++st::p) c.strip (cur.toList.take (c.l5 cur.size)) n .dP _ c' [.slice none 0 0] (VO.of hV) hl k1 hup
     have u4:=u2.to (u3.kM hV.kM)
     have hcell:((cur.toList.take (c.l5 cur.size)).drop n).take 1=[.slice none 0 0]:=by
      rcases kg (p0++st::p) c.strip (cur.toList.take (c.l5 cur.size)) n .dP (VO.of hV) hl with⟨hn0,hc0⟩ | ⟨q1,q2⟩
      ·rw[←hc0]at hV
       simp only[V]at hV
       rw[hV,hn0]
       rfl
      ·simpa only[V,az.size]using q1
     rw[tF (vs:=[.slice none 0 0]) hcell]at u4
     have hsz:c'.size=c.strip.size:=by have e1:=u4.size;have e2:=hV.size;omega
     exact si.obj ⟨pl,cur,e0,hp,hh,hg,qq hk u4.mL hsz,by rw[qK c u4.mL,sk u4.mL hsz];exact V.mono hle u4⟩
   ·simp only[ai]at hat
  ·simp only[ai]at hat
theorem qk:∀(ids:List Id) {s:AS} {i:Id} {v:Nat} {fr:Bool} {c:az},s.cl i=some (.obj v fr c)→∃fr',(s.bq ids).cl i=some (.obj v fr' c)
 |[],s,i,v,fr,c,h=>⟨fr,h⟩
 |id::ids,s,i,v,fr,c,h=>by
  obtain⟨fr',h'⟩:=uE (id:=id) h
  exact qk ids h'
theorem Inv.H4(h:Inv C g β s a w){j:Nat}{p:List qo}{u:az}(hat:(s.at j p).eval=some u){t:Ty}{x:t.den}(ht:(s.gN t u).eval=some x){s':AS}
  (he:((s.bq u.shared).putAt j (.d t x) p).eval=some s'):gH C s' a w:=by
 cases p with
 |nil=>
  simp only[AS.at]at hat
  have hj:=ao.1 hat
  simp only[AS.putAt]at he
  obtain rfl:=ao.1 he
  have hs:=h.cS j
  rw[hj]at hs
  obtain⟨g',i1,_,_,cs,hR,hO⟩:=mV h hs ht
  exact⟨g',β,i1.Ip j (VS.of (a:= .d t x) (cs:=cs) (by simpa only[V]using hR) hO)⟩
 |cons st p=>
  simp only[AS.at]at hat
  simp only[AS.putAt]at he
  have hslot:(s.bq u.shared).slot j=s.slot j:=by simp only[AS.slot,iN]
  rw[hslot]at he
  split at hat
  ·rename_i id ver p0 nn hj
   split at hat
   ·rename_i v fr c hob
    obtain⟨hv,hat⟩:=aA.1 hat
    obtain⟨⟨n,u'⟩,hl,hat⟩:=al.1 hat
    have hu:=ao.1 hat
    simp only at hu
    subst hu
    have hent:=ez hob
    obtain⟨g',h1,h2,h3,h4⟩:=gq u'.shared h
    obtain⟨fr',hent1⟩:=qk u'.shared hent
    have hob1:(s.bq u'.shared).obj id=some (v,fr',c):=by simp only[AS.obj,hent1]
    simp only[hj,hob1]at he
    split at he
    ·simp only[ai]at he
    ·rename_i c1 hc1
     obtain⟨c',hup,he⟩:=al.1 he
     obtain rfl:=ao.1 he
     have hn:c.gA=false:=by
      cases c <;> first | rfl | (exact(hc1 _ _ _ rfl).elim) | (exact absurd hup vP) | (exact absurd hup yq)
     obtain⟨pl0,cur0,e00,hp0,hh0,hg0,hk0,hV0⟩:=(h.bZ id v fr c hent).box hn
     obtain⟨pl,cur,e0,hp,hh,hg,hk,hV⟩:=(h1.bZ id v fr' c hent1).box hn
     have hpl:pl0=pl:=by
      have hp0:β id=some pl0:=hp0
      have hp:β id=some pl:=hp
      rw[hp0]at hp
      exact Option.some.inj hp
     subst hpl
     have hcur:cur0=cur:=by
      have hh0:w.heap[pl0.b]? =_:=hh0
      have hh:w.heap[pl0.b]? =_:=hh
      rw[hh0]at hh
      simpa using(congrArg (fun o=>match o with | some (.cells x _ _)=>x | _=>cur0) hh)
     subst hcur
     obtain⟨cs,hVu,hcell⟩:∃cs,V (s.env w g β) u' cs∧((cur0.toList.take (c.l5 cur0.size)).drop n).take cs.length=cs:=by
      rcases kg (p0++st::p) c.strip (cur0.toList.take (c.l5 cur0.size)) n u' (VO.of hV0) hl with⟨hn0,hc0⟩ | ⟨q1,q2⟩
      ·refine⟨cur0.toList.take (c.l5 cur0.size),by rw[hc0];exact hV0,?_⟩
       rw[hn0,List.drop_zero,List.take_length]
      ·refine⟨_,q1,?_⟩
       rw[List.length_take,List.length_drop]
       congr 1
       omega
     have hR:=lW rfl h.bZ h2 u' t x cs hVu ht h4
     have hVx:V ((s.bq u'.shared).env w g' β) (.d t x) cs:=by simpa only[V]using hR
     have ht':=Trans.refl w g'
     have hle:=cW.bf (s:=s.bq u'.shared) (β:=β) (v':=v) (fr':=fr') (c':=c.wrap c') hent1 (Nat.le_refl _) ht' (fun _ _=>rfl) (fun _=>rfl)
     refine⟨g',β,h1.step (dC _ _ _) ht' hle (hP.bf h1.bZ (by rw[hent1];simp) hle (fun _ _=>rfl) (fun _ _ _ _ _ _ _ _=>⟨rfl,rfl⟩) ?_ (jv hent1 fun k v1 l e=>by subst e;exact absurd hup vP))⟩
     obtain⟨u1,u2,u3⟩:=jy (p0++st::p) c.strip (cur0.toList.take (c.l5 cur0.size)) n u' _ c' cs (VO.of hV) hl hVx hup
     have u4:=u2.to (u3.kM hV.kM)
     rw[tF (vs:=cs) hcell]at u4
     have hsz:c'.size=c.strip.size:=by have e1:=u4.size;have e2:=hV.size;omega
     exact si.obj ⟨pl0,cur0,e0,hp,hh,hg,qq hk u4.mL hsz,by rw[qK c u4.mL,sk u4.mL hsz];exact V.mono hle u4⟩
   ·simp only[ai]at hat
  ·simp only[ai]at hat
theorem qw{E:Env}:∀(t:Ty) (x:t.den) (u:az),(sr t x).eval=some u→∀cs,du E t cs x→V E u cs
 | .gv t,x,u,h,cs,hr=>by
  simp only[sr]at h
  obtain⟨h1,h2⟩:=bT.1 h
  obtain rfl:=ao.1 h2
  simp only[du]at hr
  simp only[V]
  exact hr.1 (Option.isNone_iff_eq_none.1 h1)
 | .pair a b,x,u,h,cs,hr=>by
  simp only[sr]at h
  obtain⟨u1,h1,h2⟩:=al.1 h
  obtain⟨u2,h3,h4⟩:=al.1 h2
  obtain rfl:=ao.1 h4
  simp only[du]at hr
  obtain⟨ca,cb,rfl,ha,hb⟩:=hr
  exact As (qw a x.1 u1 h1 ca ha) (qw b x.2 u2 h3 cb hb)
 | .int k,x,u,h,cs,hr=>by simp only[sr]at h;obtain rfl:=ao.1 h;simpa only[V]using hr
 | .bool,x,u,h,cs,hr=>by simp only[sr]at h;obtain rfl:=ao.1 h;simpa only[V]using hr
 | .str,x,u,h,cs,hr=>by simp only[sr]at h;obtain rfl:=ao.1 h;simpa only[V]using hr
 | .slice t,x,u,h,cs,hr=>by simp only[sr]at h;obtain rfl:=ao.1 h;simpa only[V]using hr
 | .unit,x,u,h,cs,hr=>by simp only[sr]at h;obtain rfl:=ao.1 h;simpa only[V]using hr
 | .arr n t,x,u,h,cs,hr=>by simp only[sr]at h;obtain rfl:=ao.1 h;simpa only[V]using hr
theorem CB{e:TypeId}{z:Nat}{c:az}{pl:Pl}{n:Nat}(hz:0 < z)(h1:n=pl.cap*z)(h2:pl.cap≤maxLen)(h3:c.size≤n):(az.bx e z c).o6 pl n e:=by
 cases z with
 |zero=>omega
 |succ z=>exact⟨rfl,h1,h2,h3⟩
theorem yM{e:TypeId}{z:Nat}{c:az}{n:Nat}(hz:0 < z):(az.bx e z c).l5 n=c.size:=by
 cases z with
 |zero=>omega
 |succ z=>rfl
theorem yf{e e':TypeId}{z:Nat}{c:az}{pl:Pl}{n:Nat}(hz:0 < z)(h:(az.bx e z c).o6 pl n e'):e'=e∧n=pl.cap*z∧pl.cap≤maxLen∧c.size≤n:=by
 cases z with
 |zero=>omega
 |succ z=>exact h
theorem zK{E:Env}{id:Id}{ver n:Nat}{p p':List qo}{y:Value}(h:VS E (.ptr id ver p n) y):VS E (.ptr id ver p' n) y:=by
 obtain⟨cs,h1,h2⟩:=h
 exact⟨cs,by simpa only[V]using h1,h2⟩
theorem Inv.H7(h:Inv C g β s a w){j:Nat}{id:Id}{ver n k v:Nat}{p p':List qo}(hj:s.slot j= .ptr id ver p n){e:TypeId}{t:Ty}{r:List t.den}(hob:s.obj id=some (v,false,.vec e t r))
  (hk:k < r.length) {u:az} (hu:(sr t (nth t r k)).eval=some u):
  gH C ((s.bf id (.obj v false (.bx e t.size (.pr (.d (.arr k t) (r.take k)) (.pr u (.d (.arr (r.drop (k+1)).length t) (r.drop (k+1)))))))).put (some j) (.ptr id ver p' n)) a w:=by
 have hent:=ez hob
 obtain⟨hz,hO⟩:lZ (s.env w g β) id false (.vec e t r):=h.bZ id v false _ hent
 have hO:(match β id with
  |none=>r=[]
  |some pl=>∃cur k,w.heap[pl.b]? =some (.cells cur e (0,0))∧cur.size=pl.cap*t.size∧r.length≤pl.cap∧pl.cap≤maxLen∧g pl.b= .own (.id id) k∧
    k≤r.length*t.size∧(false=false→k=0)∧bp (du (s.env w g β) t) (cur.toList.take (r.length*t.size)) r):=hO
 have ht:=Trans.refl w g
 have hle:cW (s.env w g β) ((s.bf id (.obj v false (.bx e t.size (.pr (.d (.arr k t) (r.take k)) (.pr u (.d (.arr (r.drop (k+1)).length t) (r.drop (k+1)))))))).env w g β):=
  cW.bf hent (Nat.le_refl _) ht (fun _ _=>rfl) (fun _=>rfl)
 have hI:=h.step (dC _ _ _) ht hle (hP.bf h.bZ (by rw[hent];simp) hle (fun _ _=>rfl) (fun _ _ _ _ _ _ _ _=>⟨rfl,rfl⟩) (hlk:=tY hent) (by
  cases hp:β id with
  |none=>rw[hp]at hO;simp only at hO;subst hO;simp at hk
  |some pl=>
   rw[hp]at hO
   obtain⟨cur,k0,q1,q2,q3,q4,q5,q6,q7,q8⟩:=hO
   have hk0:=q7 rfl
   subst hk0
   have hzz:∀c x,du (s.env w g β) t c x→c.length=t.size:=fun c x hx=>hx.size
   have c1:=bp.take hzz k q8
   have c2:=(q8.get hzz k hk)
   have c3:=bp.drop hzz (k+1) q8
   have hu2:V (s.env w g β) u (((cur.toList.take (r.length*t.size)).drop (k*t.size)).take t.size):=qw t _ u (by rw[vf hk]at hu;exact hu) _ c2
   have hus:=hu2.size
   have hlen:(cur.toList.take (r.length*t.size)).length=r.length*t.size:=bp.length hzz q8
   have hsz:r.length*t.size≤cur.size:=by rw[q2];exact Nat.mul_le_mul_right _ q3
   have hkk:(k+1)*t.size≤r.length*t.size:=Nat.mul_le_mul_right _ hk
   have hk1:(k+1)*t.size=k*t.size+t.size:=Nat.succ_mul k t.size
   have hul:u.size=t.size:=by rw[←hus,List.length_take,List.length_drop,hlen];omega
   have hm:(r.drop (k+1)).length*t.size=r.length*t.size - (k+1)*t.size:=by rw[List.length_drop,Nat.sub_mul]
   have hcs:(az.pr (.d (.arr k t) (r.take k)) (.pr u (.d (.arr (r.drop (k+1)).length t) (r.drop (k+1))))).size=r.length*t.size:=by
    simp only[az.size,Ty.size,hul,hm]
    omega
   refine si.obj ⟨pl,cur,e,hp,q1,q5,CB hz q2 q4 (by rw[hcs];exact hsz),?_⟩
   rw[yM hz,hcs]
   refine V.mono hle ?_
   show V _ (.pr (.d (.arr k t) (r.take k)) (.pr u (.d (.arr (r.drop (k+1)).length t) (r.drop (k+1))))) _
   simp only[V]
   generalize cur.toList.take (r.length*t.size)=R at*
   refine⟨R.take (k*t.size),R.drop (k*t.size),(List.take_append_drop _ _).symm,?_,(R.drop (k*t.size)).take t.size,R.drop ((k+1)*t.size),?_,hu2,?_⟩
   ·simp only[du]
    exact⟨by rw[List.length_take];omega,c1⟩
   ·rw[hk1,←List.drop_drop,List.take_append_drop]
   ·simp only[du]
    exact⟨trivial,c3⟩))
 refine⟨g,β,hI.Ip j ?_⟩
 have:=h.cS j
 rw[hj]at this
 exact zK (VS.mono hle this)
theorem sy:∀(l:List Nat) {s s1:AS},gH C s a w→(CQ s l).eval=some s1→gH C s1 a w
 |[],s,s1,h,he=>by
  simp only[CQ]at he
  obtain rfl:=ao.1 he
  exact h
 |j::l,s,s1,h,he=>by
  obtain⟨g,β,h⟩:=h
  simp only[CQ]at he
  split at he
  ·rename_i id ver k p n hj
   split at he
   ·rename_i v e t r hob
    obtain⟨h1,he⟩:=aA.1 he
    obtain⟨h2,he⟩:=bT.1 he
    obtain⟨u,h3,he⟩:=al.1 he
    exact sy l (h.H7 hj hob (of_decide_eq_true h2) h3) he
   ·simp only[ai]at he
  ·exact sy l ⟨g,β,h⟩ he
  ·simp only[ai]at he
theorem sq{s:AS}{id i:Id}(h:i≠id):(s.freeze id).cl i=s.cl i:=by
 unfold AS.freeze
 split
 ·exact cU s id i _ h
 ·rfl
theorem mc:∀(ids:List Id) {s:AS} {i:Id},i ∉ ids→(s.bq ids).cl i=s.cl i
 |[],_,_,_=>rfl
 |id::ids,s,i,h=>by
  have h1:i≠id:=fun e=>h (by rw[e];exact List.mem_cons_self)
  exact(mc ids fun hi=>h (List.mem_cons_of_mem _ hi)).trans (sq h1)
theorem Inv.Iw(h:Inv C g β s a w){j:Nat}{id:Id}{ver n k m v z:Nat}{p p':List qo}(hj:s.slot j= .ptr id ver p n){e:TypeId}{t:Ty}{l1 l2:List t.den}{u:az}
  (hob:s.obj id=some (v,false,.bx e z (.pr (.d (.arr k t) l1) (.pr u (.d (.arr m t) l2))))) (hz:z=t.size) (hz0:0 < z) (hid:id ∉ u.shared) {x:t.den} (hx:(s.gN t u).eval=some x):
  gH C (((s.bq u.shared).bf id (.obj v false (.vec e t (l1++x::l2)))).put (some j) (.ptr id ver p' n)) a w:=by
 have hent:=ez hob
 obtain⟨pl0,cur0,e0,hp0,hh0,hg0,hk0,hV0⟩:=(h.bZ id v false _ hent).box rfl
 obtain⟨g',h1,h2,h3,h4⟩:=gq u.shared h
 have hent1:(s.bq u.shared).cl id=some (.obj v false (.bx e z (.pr (.d (.arr k t) l1) (.pr u (.d (.arr m t) l2))))):=(mc _ hid).trans hent
 obtain⟨pl,cur,e1,hp,hh,hg,hk,hV⟩:=(h1.bZ id v false _ hent1).box rfl
 have hp:β id=some pl:=hp
 have hpl:pl0=pl:=by
  have hp0:β id=some pl0:=hp0
  rw[hp0]at hp
  exact Option.some.inj hp
 subst hpl
 have hcur:cur0=cur:=by
  have hh0:w.heap[pl0.b]? =_:=hh0
  have hh:w.heap[pl0.b]? =_:=hh
  rw[hh0]at hh
  simpa using(congrArg (fun o=>match o with | some (.cells x _ _)=>x | _=>cur0) hh)
 subst hcur
 obtain⟨rfl,q2,q4,q3⟩:=yf hz0 hk
 rw[yM hz0]at hV0
 have hV0:V (s.env w g β) (.pr (.d (.arr k t) l1) (.pr u (.d (.arr m t) l2))) _:=hV0
 have hss:=hV0.size
 simp only[V]at hV0
 obtain⟨ca,cb,hR,hA,cu,cc,hcb,hU,hB⟩:=hV0
 subst hcb
 simp only[du]at hA hB
 have hX:=lW rfl h.bZ h2 u t x cu hU hx h4
 have hzz:∀c x,du ((s.bq u.shared).env w g' β) t c x→c.length=t.size:=fun c x hx=>hx.size
 have cA:=hA.2.mono fun _ _ hx=>hx.mono h2.mem
 have cB:=hB.2.mono fun _ _ hx=>hx.mono h2.mem
 have hch:bp (du ((s.bq u.shared).env w g' β) t) (ca++(cu++cc)) (l1++x::l2):=bp.append cA ⟨cu,cc,rfl,hX,cB⟩
 have hlen:=bp.length hzz hch
 have hcs:(az.pr (.d (.arr k t) l1) (.pr u (.d (.arr m t) l2))).size=(l1++x::l2).length*t.size:=by rw[←hlen,←hR];exact hss.symm
 rw[hcs]at hR q3
 rw[hz]at q2
 have hle0:(l1++x::l2).length≤pl0.cap:=by
  rw[q2]at q3
  exact Nat.le_of_mul_le_mul_right q3 (by omega)
 have ht:=Trans.refl w g'
 have hle:cW ((s.bq u.shared).env w g' β) (((s.bq u.shared).bf id (.obj v false (.vec e1 t (l1++x::l2)))).env w g' β):=cW.bf hent1 (Nat.le_refl _) ht (fun _ _=>rfl) (fun _=>rfl)
 have hI:=h1.step (dC _ _ _) ht hle (hP.bf h1.bZ (by rw[hent1];simp) hle (fun _ _=>rfl) (fun _ _ _ _ _ _ _ _=>⟨rfl,rfl⟩) (hlk:=jv hent1 fun _ _ _ e=>by cases e) (by
  refine⟨by omega,?_⟩
  show(match β id with
   |none=>l1++x::l2=[]
   |some pl=>_)
  rw[hp]
  exact⟨cur0,0,hh,q2,hle0,q4,hg,Nat.zero_le _,fun _=>rfl,by rw[hR];exact hch.mono fun _ _ hx=>hx.mono hle.mem⟩))
 refine⟨g',β,hI.Ip j ?_⟩
 have:=h.cS j
 rw[hj]at this
 exact zK (VS.mono (h2.trans hle) this)
theorem xp:∀(l:List Nat) {s s1:AS},gH C s a w→(Fb s l).eval=some s1→gH C s1 a w
 |[],s,s1,h,he=>by
  simp only[Fb]at he
  obtain rfl:=ao.1 he
  exact h
 |j::l,s,s1,h,he=>by
  obtain⟨g,β,h⟩:=h
  simp only[Fb]at he
  split at he
  ·rename_i id ver p n hj
   split at he
   ·rename_i v e z k t l1 u m t' l2 hob
    obtain⟨h1,he⟩:=aA.1 he
    obtain⟨l2',h2,he⟩:=al.1 he
    obtain⟨x,h3,he⟩:=al.1 he
    simp only[Bool.and_eq_true,beq_iff_eq,Bool.not_eq_true',beq_eq_false_iff_ne]at h1
    obtain⟨⟨⟨h5,h6⟩,h7⟩,h8⟩:=h1
    obtain⟨et,hl⟩:=gU (gZ.1 h2)
    have et':t'=t:=by simpa using et
    subst et'
    simp only at hl
    subst hl
    refine xp l (h.Iw hj hob h6 (by omega) (fun hi=> ?_) h3) he
    have:(u.shared.any fun i=>decide (i=id))=true:=List.any_eq_true.2 ⟨id,hi,by simp⟩
    rw[this]at h8
    cases h8
   ·simp only[ai]at he
  ·simp only[ai]at he
theorem og:∀(l:List Iz) {s s1:AS},gH C s a w→(uC s l).eval=some s1→gH C s1 a w
 |[],s,s1,h,he=>by
  simp only[uC]at he
  obtain rfl:=ao.1 he
  exact h
 |o::l,s,s1,h,he=>by
  obtain⟨g,β,h⟩:=h
  unfold uC at he
  split at he
  ·exact og l ⟨g,β,h⟩ he
  obtain⟨u,hu,he⟩:=al.1 he
  obtain⟨x,hx,he⟩:=al.1 he
  obtain⟨s',hs,he⟩:=al.1 he
  exact og l (h.H4 hu hx hs) he
theorem jS(hC:∀i j,C.E.s (.new i j)=none):∀(l:List Ft) {s s1:AS},gH C s a w→(nk P s l).eval=some s1→gH C s1 a w
 |[],s,s1,h,he=>by
  simp only[nk]at he
  obtain rfl:=ao.1 he
  exact h
 |o::l,s,s1,h,he=>by
  obtain⟨g,β,h⟩:=h
  unfold nk at he
  split at he
  ·exact jS hC l ⟨g,β,h⟩ he
  obtain⟨u,hu,he⟩:=al.1 he
  split at he
  ·split at he
   ·rename_i e t b hel hv
    obtain⟨s',h1,h2⟩:=al.1 he
    exact jS hC l (h.Ij hu hv (v5 hel) h1) h2
   ·simp only[ai]at he
  ·split at he
   ·rename_i b j ver hhead
    split at he
    ·rename_i v fr c hob hm
     split at he
     ·have hbl:b < s.news.length:=by
       have:=ez hob
       simp only[AS.cl,List.getD_eq_getElem?_getD]at this
       cases hn:s.news[b]? with
       |none=>rw[hn]at this;simp at this
       |some es=>exact(List.getElem?_eq_some_iff.1 hn).1
      obtain⟨g1,β1,h1⟩:=h.pz hC hbl (by simpa using hm)
      exact jS hC l ⟨g1,β1,h1⟩ he
     ·simp only[ai]at he
    ·simp only[ai]at he
   ·simp only[ai]at he
theorem vN:∀(l:List Nat) {s s1:AS},gH C s a w→(Aj s l).eval=some s1→gH C s1 a w
 |[],s,s1,h,he=>by
  simp only[Aj]at he
  obtain rfl:=ao.1 he
  exact h
 |j::l,s,s1,h,he=>by
  obtain⟨g,β,h⟩:=h
  simp only[Aj]at he
  split at he
  ·rename_i id ver len hj
   split at he
   ·rename_i v e t r hob
    split at he
    ·obtain⟨h1,h2⟩:=bT.1 he
     have h1:len≤r.length:=by simpa using h1
     refine vN l ?_ h2
     have hent:=ez hob
     have hO:lZ (s.env w g β) id false (.vec e t r):=h.bZ id v false _ hent
     have ht:=Trans.refl w g
     have hle:cW (s.env w g β) ((s.bf id (.obj v false (.vec e t (r.take len)))).env w g β):=cW.bf hent (Nat.le_refl _) ht (fun _ _=>rfl) (fun _=>rfl)
     refine⟨g,β,h.step (dC _ _ _) ht hle (hP.bf h.bZ (by rw[hent];simp) hle (fun _ _=>rfl) (fun _ _ _ _ _ _ _ _=>⟨rfl,rfl⟩) ?_ (tY hent))⟩
     obtain⟨hz,hO⟩:=hO
     refine⟨hz,?_⟩
     have hO:(match β id with
      |none=>r=[]
      |some pl=>∃cur k,w.heap[pl.b]? =some (.cells cur e (0,0))∧cur.size=pl.cap*t.size∧r.length≤pl.cap∧pl.cap≤maxLen∧g pl.b= .own (.id id) k∧
        k≤r.length*t.size∧(false=false→k=0)∧bp (du (s.env w g β) t) (cur.toList.take (r.length*t.size)) r):=hO
     show(match β id with
      |none=>r.take len=[]
      |some pl=>_)
     cases hp:β id with
     |none=>rw[hp]at hO;simp only at hO;subst hO;simp
     |some pl=>
      rw[hp]at hO
      obtain⟨cur,k,q1,q2,q3,q4,q5,q6,q7,q8⟩:=hO
      have hk:=q7 rfl
      subst hk
      have hlen:(r.take len).length=len:=by simp;omega
      refine⟨cur,0,q1,q2,by omega,q4,q5,Nat.zero_le _,fun _=>rfl,?_⟩
      have:=bp.take (fun _ _ hx=>du.size hx) len q8
      rw[List.take_take,Nat.min_eq_left (Nat.mul_le_mul_right _ h1)]at this
      rw[hlen]
      exact this.mono fun _ _ hx=>hx.mono hle.mem
    ·simp only[ai]at he
   ·simp only[ai]at he
  ·simp only[ai]at he
theorem qW:∀(l:List (Nat×Ty)) {s s1:AS},gH C s a w→(asData s l).eval=some s1→gH C s1 a w
 |[],s,s1,h,he=>by
  simp only[asData]at he
  obtain rfl:=ao.1 he
  exact h
 | (j,t)::l,s,s1,h,he=>by
  obtain⟨g,β,h⟩:=h
  simp only[asData]at he
  obtain⟨x,h1,h2⟩:=al.1 he
  obtain⟨g',i1,_,_,cs,hR,hO⟩:=mV h (h.cS j) h1
  exact qW l ⟨g',β,i1.Ip j (VS.of (a:= .d t x) (cs:=cs) (by simpa only[V]using hR) hO)⟩ h2
theorem Inv.still:∀(l:List Nat) {s:AS},Inv C g β s a w→Inv C g β (s.still l) a w
 |[],s,h=>h
 |q::l,s,h=>by
  simp only[AS.still]
  split
  ·rename_i v fr i ver k t r cu hob
   exact Inv.still l (h.Gg (ez hob) (.inr ⟨rfl,rfl,rfl⟩))
  ·exact Inv.still l h
theorem tj{α:Type}(l:List α):(AE l).Perm l:=Quotient.exact (s:=EF α) (Quotient.exists_rep (Quotient.mk (EF α) l)).choose_spec
theorem Inv.canon:∀(l:List Id) {s:AS},Inv C g β s a w→Inv C g β (s.canon l) a w
 |[],s,h=>h
 |id::l,s,h=>by
  simp only[AS.canon]
  split
  ·rename_i v fr k t r hob
   have hent:=ez hob
   have ht:=Trans.refl w g
   have hle:cW (s.env w g β) ((s.bf id (.obj v fr (.mp k t (AE r)))).env w g β):=cW.bf hent (Nat.le_refl _) ht (fun _ _=>rfl) (fun _=>rfl)
   obtain⟨pl,es,clock,h1,h2,h3,⟨⟨l',h4,h5⟩,h6⟩,h7⟩:=h.bZ id v fr _ hent
   refine Inv.canon l (h.step (dC _ _ _) ht hle (hP.bf h.bZ (by rw[hent];simp) hle (fun _ _=>rfl) (fun _ _ _ _ _ _ _ _=>⟨rfl,rfl⟩)
    ⟨pl,es,clock,h1,h2,h3,⟨⟨l',h4.mono fun _ _ he=>he.mono hle.mem,h5.trans (tj r).symm⟩,(((tj r).map _).nodup_iff).2 h6⟩,h7⟩ ?_))
   intro ver k' v' l2 hl
   rw[hent]at hl
   simp only[Option.some.injEq,eL.obj.injEq]at hl
   obtain⟨rfl,rfl,_⟩:=hl
   exact⟨rfl,rfl,⟨_,_,_,rfl⟩,fun _ _=>⟨rfl,rfl⟩⟩
  ·exact Inv.canon l h
theorem jn(hC:∀i j,C.E.s (.new i j)=none){an:iY}{s1:AS}(h:gH C s a w)(he:(norm P an s).eval=some s1):gH C s1 a w:=by
 unfold norm at he
 obtain⟨su,h0u,he⟩:=al.1 he
 obtain⟨sd,h0d,he⟩:=al.1 he
 obtain⟨s0,h1,h2⟩:=al.1 he
 obtain⟨h3,h4⟩:=aA.1 h2
 obtain⟨sf,h5,h6⟩:=al.1 h4
 obtain⟨g0,β0,h0⟩:=h
 obtain⟨g1,i1,_⟩:=gq an.BT h0
 obtain⟨g,β,h⟩:=qW _ (og _ (xp _ ⟨g1,β0,(i1.still an.Jo).canon an.H0⟩ h0u) h0d) h1
 exact jS hC _ (sy _ ⟨g,β,h.bt hC h3⟩ h5) h6
end
end Go.Ab
namespace Go.Ab
section
variable {P:Program} {Γ:dX} {an:ej} {C:Ctx}
open Classical in
noncomputable def IY(p:Prop):Option Unit:=if p then some () else none
theorem Ey{p:Prop}(h:IY p=some ()):p:=by
 unfold IY at h
 split at h
 ·assumption
 ·cases h
theorem CN{X R:Type}{S:X→Prop}{k:X→Option R}{r:R}(h:GS S k=some r):(∃x,S x)∧∀x,S x→k x=some r:=by
 unfold GS at h
 split at h
 ·rename_i hx
  obtain rfl:=Option.some.inj h
  exact hx.choose_spec
 ·cases h
def Dv(P:Program)(Γ:dX)(an:ej)(N:Nat)(b:Code):Prop:=
 ∀le,an.gk (eg b)=some le→
  (le.set=none→∀s x,le.run s=some x→∃n,tp (norm P (an.loops (eg b))) (fun e=>norm P (an.outs (eg b) (za e))) (ev P Γ an N b) n s (fun e s'=>some (e,s'))=(le.out x).eval)∧
  ∀S,le.set=some S→∀s,(∃x,S s x)→∃n,tp (norm P (an.loops (eg b))) (fun e=>norm P (an.outs (eg b) (za e))) (ev P Γ an N b) n s (fun e s'=>IY (∃x,S s x∧(le.out x).eval=some (e,s')))=some ()
def yw(P:Program)(Γ:dX)(an:ej)(N:Nat):List Code→Prop
 |[]=>True
 |b::l=>Dv P Γ an N b∧yw P Γ an N l
theorem yw.append{N:Nat}:∀ {l l':List Code},yw P Γ an N (l++l')→yw P Γ an N l∧yw P Γ an N l'
 |[],_,h=>⟨trivial,h⟩
 |_::_,_,⟨h1,h2⟩=>⟨⟨h1,(yw.append h2).1⟩,(yw.append h2).2⟩
theorem ow{R:Type}{r:R}{b:Code}{nrm:AS→Out AS}{nrmX:Exit→AS→Out AS}{body:AS→(Exit→AS→Option R)→Option R}
  (hn:∀s s1 a w,gH C s a w→(nrm s).eval=some s1→gH C s1 a w) (hx:∀e s s1 a w,gH C s a w→(nrmX e s).eval=some s1→gH C s1 a w)
  (hb:∀(s:AS) (a:Act) (w:World) (k:Exit→AS→Option R) (Q:Exit→Act→World→Prop),gH C s a w→body s k=some r→(∀e s' a' w',gH C s' a' w'→k e s'=some r→Q e a' w')→b.wp P Q a w)
  {k:Exit→AS→Option R} {Q:Exit→Act→World→Prop} (hk:∀e s' a' w',gH C s' a' w'→k e s'=some r→Q e a' w'):
  ∀(n:Nat) (s:AS) (a:Act) (w:World),gH C s a w→tp nrm nrmX body n s k=some r→Code.rounds P b Q n a w
 | 0,s,a,w,_,h=>by simp[tp]at h
 |n+1,s,a,w,hs,h=>by
  simp only[tp]at h
  rw[rounds_succ]
  refine hb s a w _ _ hs h fun e s' a' w' hs' hke=> ?_
  have exits:∀e,(nrmX e s').run (k e)=some r→Q e a' w':=fun e hke=>by
   obtain⟨s1,h1,h2⟩:=iw.1 hke
   exact hk e s1 a' w' (hx e s' s1 a' w' hs' h1) h2
  cases e with
  |normal=>
   simp only at hke
   obtain⟨s1,h1,h2⟩:=iw.1 hke
   exact ow hn hx hb hk n s1 a' w' (hn s' s1 a' w' hs' h1) h2
  |_=>exact exits _ hke
theorem rj(hC:∀i j,C.E.s (.new i j)=none){j:Option oW}{run: {R:Type}→(Exit→AS→Option R)→Option R}{c:Code}{a:Act}{w:World}
  (hrun:∀ {R:Type} {r:R} (k:Exit→AS→Option R) (Q:Exit→Act→World→Prop),run k=some r→(∀e s' a' w',gH C s' a' w'→k e s'=some r→Q e a' w')→c.wp P Q a w)
  {R:Type} {r:R} {k:Exit→AS→Option R} {Q:Exit→Act→World→Prop} (h:sG P j run k=some r) (hk:∀e s' a' w',gH C s' a' w'→k e s'=some r→Q e a' w'):c.wp P Q a w:=by
 cases j with
 |none=>exact hrun k Q h hk
 |some j=>
  simp only[sG]at h
  cases hx:run fun e s=>(norm P j.an s).run (j.Gh e) with
  |none=>rw[hx]at h;cases h
  |some x=>
   rw[hx]at h
   simp only[ab]at h
   obtain⟨y,hy,h⟩:=iw.1 h
   refine hrun _ Q hx fun e s' a' w' hs' hK=> ?_
   obtain⟨s1,h1,h2⟩:=iw.1 hK
   have he:=j.ok _ _ _ h2
   rw[hy,Option.some.injEq]at he
   subst he
   exact hk e s1 a' w' (jn hC hs' h1) h
theorem jP(hm:P.follows .mixedOrders=true)(hΓ:Sound P Γ)(hC:∀i j,C.E.s (.new i j)=none){N:Nat}:∀(c:Code),yw P Γ an N (iJ c)→∀ {R:Type} {r:R} (s:AS) (a:Act) (w:World) (k:Exit→AS→Option R) (Q:Exit→Act→World→Prop),
  gH C s a w→ev P Γ an N c s k=some r→(∀e s' a' w',gH C s' a' w'→k e s'=some r→Q e a' w')→c.wp P Q a w
 | .skip,hL,_,_,s,a,w,k,Q,hs,h,hk=>wp_skip (hk _ _ _ _ hs h)
 | .region id ops draw,hL,_,_,s,a,w,k,Q,hs,h,hk=>by
  simp only[ev]at h
  refine rj hC (fun k Q h hk=> ?_) h hk
  cases draw with
  |true=>
   simp only at h
   split at h
   ·rename_i hE
    exact zM hm hΓ hs hE h fun s' a' w' hs' hk'=>hk _ _ _ _ hs' hk'
   ·cases h
  |false=>exact wp_region_list (tl hΓ ops.toList hs h fun s' a' w' hs' hk'=>hk _ _ _ _ hs' hk')
 | .seq x y,hL,_,_,s,a,w,k,Q,hs,h,hk=>by
  simp only[ev]at h
  refine wp_seq (rj hC (fun k Q h hk=>jP hm hΓ hC x hL.append.1 s a w k Q hs h hk) h fun e s' a' w' hs' hk'=> ?_)
  cases e with
  |normal=>exact jP hm hΓ hC y hL.append.2 s' a' w' k Q hs' hk' hk
  |_=>exact hk _ s' a' w' hs' hk'
 | .cond c x y,hL,_,_,s,a,w,k,Q,hs,h,hk=>by
  simp only[ev]at h
  split at h
  ·rename_i b hb
   have hc:a.eval c= .bool b:=by
    obtain⟨g,β,hi⟩:=hs
    have:=hi.ev c
    rw[hb]at this
    exact tS this
   refine wp_cond hc ?_
   cases b with
   |true=>exact jP hm hΓ hC x hL.append.1 s a w k Q hs h hk
   |false=>exact jP hm hΓ hC y hL.append.2 s a w k Q hs h hk
  ·cases h
 | .block id b,hL,_,_,s,a,w,k,Q,hs,h,hk=>by
  simp only[ev]at h
  refine wp_block (jP hm hΓ hC b hL s a w _ _ hs h fun e s' a' w' hs' hk'=> ?_)
  cases e with
  |exit i=>
   simp only at hk'
   simp only[Exit.inBlock]
   by_cases hi:i=id
   ·rw[if_pos hi]
    simp only[hi,decide_true]at hk'
    exact hk _ s' a' w' hs' hk'
   ·rw[if_neg hi]
    simp only[hi,decide_false]at hk'
    exact hk _ s' a' w' hs' hk'
  |_=>exact hk _ s' a' w' hs' hk'
 | .loop b,hL,R,r,s,a,w,k,Q,hs,h,hk=>by
  simp only[ev]at h
  obtain⟨s1,h1,h⟩:=iw.1 h
  have hs1:=jn hC hs h1
  obtain⟨hL1,hL2⟩:=(hL:Dv P Γ an N b∧yw P Γ an N (iJ b))
  split at h
  ·rename_i le hle
   unfold Ff at h
   cases hset:le.set with
   |some S=>
    rw[hset]at h
    simp only at h
    obtain⟨h2,h3⟩:=CN h
    obtain⟨n,hn⟩:=(hL1 le hle).2 S hset s1 h2
    refine wp_loop_rounds n (ow (fun s s1 a w hs hn=>jn hC hs hn) (fun e s s1 a w hs hn=>jn hC hs hn) (fun s a w k Q hs hb hk=>jP hm hΓ hC b hL2 s a w k Q hs hb hk) (fun e s' a' w' hs' he=> ?_) n s1 a w hs1 hn)
    obtain⟨x,hx1,hx2⟩:=Ey he
    obtain⟨y,hy,h4⟩:=iw.1 (h3 x hx1)
    rw[hx2,Option.some.injEq]at hy
    subst hy
    exact hk _ _ _ _ hs' h4
   |none=>
   rw[hset]at h
   simp only at h
   cases hr:le.run s1 with
   |none=>rw[hr]at h;cases h
   |some x=>
    rw[hr]at h
    simp only[ab]at h
    obtain⟨y,hy,h⟩:=iw.1 h
    obtain⟨n,hn⟩:=(hL1 le hle).1 hset s1 x hr
    rw[hy]at hn
    refine wp_loop_rounds n (ow (fun s s1 a w hs hn=>jn hC hs hn) (fun e s s1 a w hs hn=>jn hC hs hn) (fun s a w k Q hs hb hk=>jP hm hΓ hC b hL2 s a w k Q hs hb hk) (fun e s' a' w' hs' he=> ?_) n s1 a w hs1 hn)
    simp only[Option.some.injEq]at he
    subst he
    exact hk e s' a' w' hs' h
  ·exact wp_loop_rounds N (ow (fun s s1 a w hs hn=>jn hC hs hn) (fun e s s1 a w hs hn=>jn hC hs hn) (fun s a w k Q hs hb hk=>jP hm hΓ hC b hL2 s a w k Q hs hb hk) hk N s1 a w hs1 h)
 | .exit id,hL,_,_,s,a,w,k,Q,hs,h,hk=>wp_exit (hk _ _ _ _ hs h)
 | .ret,hL,_,_,s,a,w,k,Q,hs,h,hk=>wp_ret (hk _ _ _ _ hs h)
 | .rangeFunc ..,_,_,_,_,_,_,_,_,_,h,_=>by simp[ev]at h
 | .scope b,hL,_,_,s,a,w,k,Q,hs,h,hk=>by
  simp only[ev]at h
  refine wp_scope_straight (jP hm hΓ hC b hL s a w _ _ hs h fun e s' a' w' hs' hk'=> ?_)
  cases e with
  |goto l=>cases hk'
  |_=>exact hk _ s' a' w' hs' hk'
 | .label _,hL,_,_,s,a,w,k,Q,hs,h,hk=>wp_label (hk _ _ _ _ hs h)
 | .goto _,_,_,_,_,_,_,_,_,_,h,_=>by simp[ev]at h
 | .refuse _,_,_,_,_,_,_,_,_,_,h,_=>by simp[ev]at h
variable {g:Nat→jt} {β:Id→Option Pl} {s:AS} {a:Act} {w:World}
def vm(tmps:Array Value)(r:ResultVar):Sem Value:=
 match r with
 | .tmp t=>pure (tmps.getD t undef)
 | .cell a t=>do loadVar t (←asAddr (tmps.getD a undef))
theorem rI(h:Inv C g β s a w){r:ResultVar}{v:az}(he:(vo P s r).eval=some v):∃x,(vm a.tmps r).run P w= .ok x w∧VS (s.env w g β) v x:=by
 cases r with
 |tmp t=>
  simp only[vo]at he
  obtain rfl:=ao.1 he
  exact⟨_,by simp[vm],h.cS t⟩
 |cell t T=>
  simp only[vo]at he
  obtain⟨ad,z,hy,hr,hv⟩:=uZ h (h.cS t) he
  exact⟨z,by simp[vm,hy,asAddr,hr],hv⟩
theorem rH(h:Inv C g β s a w){r:ResultVar}{o:Option Ty}{y:AS×az}(he:(vn P s r o).eval=some y):
  ∃x g',(vm a.tmps r).run P w= .ok x w∧Inv C g' β y.1 a w∧cW (s.env w g β) (y.1.env w g' β)∧VS (y.1.env w g' β) y.2 x:=by
 cases o with
 |none=>
  simp only[vn]at he
  obtain⟨v,h1,h2⟩:=al.1 he
  obtain rfl:=ao.1 h2
  obtain⟨x,hx,hv⟩:=rI h h1
  exact⟨x,g,hx,h,cW.refl _,hv⟩
 |some t=>
  simp only[vn]at he
  obtain⟨v,h1,h2⟩:=al.1 he
  obtain⟨d,h3,h4⟩:=al.1 h2
  obtain rfl:=ao.1 h4
  obtain⟨x,hx,hv⟩:=rI h h1
  obtain⟨g',i1,e1,_,cs,hR,hO⟩:=mV h hv h3
  exact⟨x,g',hx,i1,e1,VS.of (a:= .d t d) (cs:=cs) (by simpa only[V]using hR) hO⟩
theorem ql:∀(l:List ResultVar) (ts:List (Option Ty)) {s:AS} {g:Nat→jt} (_:Inv C g β s a w) {y:AS×az},(rJ P s l ts).eval=some y→
  ∃(xs:List Value) (g':Nat→jt),(l.mapM (vm a.tmps)).run P w= .ok xs w∧Inv C g' β y.1 a w∧cW (s.env w g β) (y.1.env w g' β)∧VC (y.1.env w g' β) y.2 xs∧xs.length=l.length
 |[],ts,s,g,h,y,he=>by
  simp only[rJ]at he
  obtain rfl:=ao.1 he
  exact⟨[],g,by simp,h,cW.refl _,by simp[VC],rfl⟩
 |r::l,ts,s,g,h,y,he=>by
  simp only[rJ]at he
  obtain⟨u,h1,h2⟩:=al.1 he
  obtain⟨hc,h2⟩:=aA.1 h2
  obtain⟨us,h3,h4⟩:=al.1 h2
  obtain rfl:=ao.1 h4
  obtain⟨x,g1,hx,i1,e1,hv⟩:=rH h h1
  obtain⟨xs,g2,hxs,i2,e2,hvs,hl⟩:=ql l ts.tail i1 h3
  obtain⟨cs,hV,hO⟩:=(hv.mono e2).fa hc
  refine⟨x::xs,g2,?_,i2,e1.trans e2,by simp only[VC];exact⟨x,xs,cs,rfl,hV,hO,hvs⟩,by simp[hl]⟩
  simp only[List.mapM_cons,Sem.run_bind,hx,Result.andThen_ok,hxs,Sem.run_pure]
theorem DC{E:Env}{v:az}{xs:List Value}(h:VC E v xs):VS E v (.tuple xs.toArray):=by
 cases v <;> first
  | (simp only[VC]at h;done)
  |exact⟨xs,rfl,h⟩
  | (simp only[VC]at h;subst h;rfl)
theorem wx(h:Inv C g β s a w){fn:Func}{ts:List (Option Ty)}{y:AS×az}(he:(yh P fn ts s).eval=some y):
  ∃x g',(results fn a.tmps).run P w= .ok x w∧Inv C g' β y.1 a w∧VS (y.1.env w g' β) y.2 x:=by
 have key:∀xs:List Value,(fn.results.toList.mapM (vm a.tmps)).run P w= .ok xs w→(results fn a.tmps).run P w= .ok (if h:xs.length=1 then xs[0] else .tuple xs.toArray) w:=fun xs hxs=>by
  have e:results fn a.tmps=(do
   let vs ←fn.results.mapM (vm a.tmps)
   pure (if h:vs.size=1 then vs[0] else .tuple vs)):=rfl
  rw[e,Array.mapM_eq_mapM_toList]
  simp only[map_eq_pure_bind,Sem.run_bind,hxs,Result.andThen_ok,Sem.run_pure]
  congr 1
 unfold yh at he
 split at he
 ·rename_i r hr
  obtain⟨x,g',hx,hi,_,hv⟩:=rH h he
  refine⟨x,g',?_,hi,hv⟩
  rw[key [x] (by simp[hr,hx])]
  simp
 ·rename_i rs hne
  obtain⟨xs,g',hx,hi,_,hv,hl⟩:=ql _ _ h he
  refine⟨.tuple xs.toArray,g',?_,hi,DC hv⟩
  rw[key xs hx,dif_neg]
  rw[hl]
  intro h1
  obtain⟨r,hr⟩:=List.length_eq_one_iff.1 h1
  exact hne r hr
end
end Go.Ab
namespace Go.Ab
def lg(ids:List Id):jt→jt
 | .own (.id (.new i j)) k=> .own (.id (match idxOf (.new i j) ids with | some m=> .new 0 m | none=> .new 1 0)) k
 |l=>l
def EG(β:Id→Option Pl)(ids:List Id):Id→Option Pl
 | .dH k=>β (.dH k)
 | .new 0 m=>(ids[m]?).bind β
 | .new (_+1) _=>none
theorem CW{ids:List Id}{g:Nat→jt}{b off:Nat}(h:lN g b off):lN (fun b=>lg ids (g b)) b off:=by
 unfold lN at*
 simp only
 cases hg:g b with
 |free=>simp[lg]
 |own o k=>
  rw[hg]at h
  cases o with
  |fu=>exact h
  |id i=>cases i <;> exact h
theorem xI(s:AS)(v:az):(s.sx v).Nodup:=(lQ s _ _ _ (by simp)).filter _
theorem AR{s:AS}{v:az}{id:Id}(h:id∈s.sx v):∃i j,id= .new i j:=by
 unfold AS.sx at h
 have:=(List.mem_filter.1 h).2
 cases id with
 |dH k=>simp[Id.Gj]at this
 |new i j=>exact⟨i,j,rfl⟩
section
variable {P:Program} {Γ:dX} {C:Ctx} {g:Nat→jt} {β:Id→Option Pl} {s:AS} {a:Act} {w:World}
theorem CP(h:Inv C g β s a w)(hC:∀i j,C.E.s (.new i j)=none){v:az}{x:Value}(hv:VS (s.env w g β) v x):oT C.E (s.fin v) x w:=by
 unfold AS.fin
 have hn:=xI s v
 have hnew:∀id∈s.sx v,∃i j,id= .new i j:=fun id hid=>AR hid
 generalize s.sx v=ids at hn hnew
 generalize hG:s.Gc ids v=G
 have hval:G.val=v.ir (qx ids):=by rw[←hG];rfl
 have hold:∀k,G.st.cl (.dH k)=(s.cl (.dH k)).map (eL.fin ids):=fun k=>by
  rw[←hG]
  show(s.dd.map (eL.fin ids))[k]? =_
  rw[List.getElem?_map];rfl
 have hnw:∀m,G.st.cl (.new 0 m)=(ids[m]?).map fun id=>((s.cl id).getD .dead).fin ids:=fun m=>by
  rw[←hG]
  show(ids.map fun id=>((s.cl id).getD .dead).fin ids)[m]? =_
  rw[List.getElem?_map]
 have hns:∀i m,G.st.cl (.new (i+1) m)=none:=fun i m=>by simp[aT.st,AS.cl]
 let g':Nat→jt:=fun b=>lg ids (g b)
 let β':=EG β ids
 have hfin:∀e ver fr c,eL.fin ids e= .obj ver fr c→∃c0,e= .obj ver fr c0∧c=c0.ir (qx ids):=fun e ver fr c he=>by
  cases e with
  |dead=>cases he
  |obj v0 fr0 c0=>
   simp only[eL.fin,eL.obj.injEq]at he
   obtain⟨rfl,rfl,rfl⟩:=he
   exact⟨c0,rfl,rfl⟩
 have hle:oG (qx ids) (s.env w g β) (G.st.env w g' β'):=by
  refine⟨⟨fun b off v ⟨h1,h2⟩=>⟨h1,CW h2⟩,fun b ob h1 h2=>⟨by show lg ids (g b)= .free;have h1:g b= .free:=h1;rw[h1];rfl,h2⟩⟩,fun id ver r hr hb=> ?_⟩
  obtain⟨hb1,hb2⟩:=hb
  have hb1:s.cl id≠none:=hb1
  have hb2:∀v fr c,s.cl id=some (.obj v fr c)→ver≤v:=hb2
  cases id with
  |dH k=>
   simp only[qx,Option.some.injEq]at hr
   subst hr
   refine⟨⟨?_,fun v fr c hh=> ?_⟩,fun⟨fr,c,hh⟩=>⟨?_,rfl⟩⟩
   ·show G.st.cl (.dH k)≠none
    rw[hold];simpa using hb1
   ·have hh:G.st.cl (.dH k)=some (.obj v fr c):=hh
    rw[hold,Option.map_eq_some_iff]at hh
    obtain⟨e,he,hh⟩:=hh
    obtain⟨c0,rfl,_⟩:=hfin _ _ _ _ hh
    exact hb2 v fr c0 he
   ·have hh:G.st.cl (.dH k)=some (.obj ver fr c):=hh
    rw[hold,Option.map_eq_some_iff]at hh
    obtain⟨e,he,hh⟩:=hh
    obtain⟨c0,rfl,_⟩:=hfin _ _ _ _ hh
    exact⟨fr,c0,he⟩
  |new i j=>
   simp only[qx]at hr
   split at hr
   ·rename_i m hm
    simp only[Option.some.injEq]at hr
    subst hr
    have hid:=j7 hm
    obtain⟨e,he⟩:=Option.ne_none_iff_exists'.1 hb1
    have hg:G.st.cl (.new 0 m)=some (e.fin ids):=by rw[hnw,hid];simp[he]
    refine⟨⟨?_,fun v fr c hh=> ?_⟩,fun⟨fr,c,hh⟩=>⟨?_,?_⟩⟩
    ·show G.st.cl (.new 0 m)≠none
     rw[hg];simp
    ·have hh:G.st.cl (.new 0 m)=some (.obj v fr c):=hh
     rw[hg,Option.some.injEq]at hh
     obtain⟨c0,rfl,_⟩:=hfin _ _ _ _ hh
     exact hb2 v fr c0 he
    ·have hh:G.st.cl (.new 0 m)=some (.obj ver fr c):=hh
     rw[hg,Option.some.injEq]at hh
     obtain⟨c0,rfl,_⟩:=hfin _ _ _ _ hh
     exact⟨fr,c0,he⟩
    ·show(ids[m]?).bind β=β (.new i j)
     rw[hid];rfl
   ·cases hr
 have htr:Trans C.E.w w C.E.g g':=by
  have h0:=h.trans
  refine⟨h0.os,h0.tape,h0.output,h0.size,fun b hb=> ?_⟩
  have h1:=h0.Cy b hb
  show match C.E.g b with | .free=>lg ids (g b)= .free∧_ | .own .fu k=>lg ids (g b)= .own .fu k∧_ | .own (.id _) k=>(lg ids (g b)= .free∨∃i k',lg ids (g b)= .own (.id i) k'∧k≤k')∧_
  cases hgb:C.E.g b with
  |free=>simp only[hgb]at h1 ⊢;rw[h1.1];exact⟨rfl,h1.2⟩
  |own o k=>cases o with
   |fu=>simp only[hgb]at h1 ⊢;rw[h1.1];exact⟨rfl,h1.2⟩
   |id i=>
    simp only[hgb]at h1 ⊢
    refine⟨?_,h1.2⟩
    rcases h1.1 with h2 | ⟨i',k',h2,h3⟩
    ·rw[h2];exact .inl rfl
    ·rw[h2]
     right
     cases i' with
     |dH m=>exact⟨_,k',rfl,h3⟩
     |new i j=>exact⟨_,k',rfl,h3⟩
 have hobj:hP (G.st.env w g' β'):=by
  intro id ver fr c hid
  have hid:G.st.cl id=some (.obj ver fr c):=hid
  cases id with
  |dH k=>
   rw[hold,Option.map_eq_some_iff]at hid
   obtain⟨e,he,hid⟩:=hid
   obtain⟨c0,rfl,rfl⟩:=hfin _ _ _ _ hid
   refine nL hle (h.bZ (.dH k) ver fr c0 he) rfl fun pl _=>⟨rfl,fun n hg=> ?_,fun hg=> ?_⟩
   ·have hg:g pl.b= .own (.id (.dH k)) n:=hg
    show lg ids (g pl.b)=_
    rw[hg];rfl
   ·have hg:g pl.b= .free:=hg
    show lg ids (g pl.b)=_
    rw[hg];rfl
  |new i m=>
   cases i with
   |succ i=>rw[hns]at hid;cases hid
   |zero=>
    rw[hnw,Option.map_eq_some_iff]at hid
    obtain⟨id0,hid0,hid⟩:=hid
    obtain⟨c0,he,rfl⟩:=hfin _ _ _ _ hid
    have hent:s.cl id0=some (.obj ver fr c0):=by
     cases hs:s.cl id0 with
     |none=>rw[hs]at he;cases he
     |some e=>rw[hs]at he;simp only[Option.getD_some]at he;rw[he]
    obtain⟨i0,j0,rfl⟩:=hnew id0 (List.mem_of_getElem? hid0)
    refine nL hle (h.bZ (.new i0 j0) ver fr c0 hent) (by show(ids[m]?).bind β=_;rw[hid0];rfl) fun pl _=>⟨rfl,fun n hg=> ?_,fun hg=> ?_⟩
    ·have hg:g pl.b= .own (.id (.new i0 j0)) n:=hg
     show lg ids (g pl.b)=_
     rw[hg]
     simp only[lg,nf hn hid0]
    ·have hg:g pl.b= .free:=hg
     show lg ids (g pl.b)=_
     rw[hg];rfl
 have ho:∀id ver,C.E.pZ id ver→∃k,id= .dH k:=fun id ver hb=>by
  cases id with
  |dH k=>exact⟨k,rfl⟩
  |new i j=>exact absurd (hC i j) hb.1
 refine⟨g',β',by rw[hval];exact uk hle hv,hobj,htr,Trans.mem (E:=C.E) (E':=G.st.env w g' β') htr,fun id ver hb=> ?_,fun id ver hb hc=> ?_⟩
 ·obtain⟨k,rfl⟩:=ho id ver hb
  exact(hle.ref (.dH k) ver (.dH k,ver) rfl (h.le.pZ _ _ hb)).1
 ·obtain⟨k,rfl⟩:=ho id ver hb
  obtain⟨h1,h2⟩:=(hle.ref (.dH k) ver (.dH k,ver) rfl (h.le.pZ _ _ hb)).2 hc
  obtain⟨h3,h4⟩:=h.le.cur _ _ hb h1
  exact⟨h3,h2.trans h4⟩
theorem qR.len{E:Env}:∀ {as:List az} {vs:List Value},qR E as vs→as.length=vs.length
 |[],[],_=>rfl
 |_::_,_::_,⟨_,h⟩=>by simp[qR.len h]
 |[],_::_,h=>h.elim
 |_::_,[],h=>h.elim
theorem qR.get{E:Env}:∀ {as:List az} {vs:List Value},qR E as vs→∀i,VS E (as.getD i .undef) (vs.getD i undef)
 |[],[],_,i=>by simpa using VS.undef
 |_::_,_::_,⟨h,_⟩,0=>by simpa using h
 |_::_,_::_,⟨_,h⟩,i+1=>by simpa using qR.get h i
 |[],_::_,h,_=>h.elim
 |_::_,[],h,_=>h.elim
theorem Dp{w:World}{g:Nat→jt}{β:Id→Option Pl}{fn:Func}{args:List az}{dd:List eL}{iL:List Value}(hv:qR ((jD dd).env w g β) args iL)(ho:hP ((jD dd).env w g β)):
  Inv ⟨(jD dd).env w g β⟩ g β (start fn args dd) {tmps:=iL.toArray++Array.replicate (fn.ntmps - iL.toArray.size) undef,defers:=[]} w:=by
 have hl:=hv.len
 have hent:(start fn args dd).cl=(jD dd).cl:=by
  funext id
  cases id with
  |dH k=>rfl
  |new i j=>
   simp only[start,jD,AS.cl,List.getD_eq_getElem?_getD,List.getElem?_replicate]
   split <;> simp
 have henv:(start fn args dd).env w g β=(jD dd).env w g β:=by simp only[AS.env,hent]
 refine⟨rfl,by simp[start,hl],fun i=> ?_,by rw[henv];exact ho,Trans.refl _ _,by rw[henv];exact cW.refl _⟩
 rw[henv]
 have h1:(start fn args dd).slot i=args.getD i .undef:=by
  simp only[start,AS.slot,List.getD_eq_getElem?_getD,List.getElem?_append,List.getElem?_replicate]
  split
  ·rfl
  ·rw[List.getElem?_eq_none (l:=args) (by omega)]
   split <;> rfl
 have h2:(iL.toArray++Array.replicate (fn.ntmps - iL.toArray.size) undef).getD i undef=iL.getD i undef:=by
  simp only[Array.getD_eq_getD_getElem?,List.getD_eq_getElem?_getD,Array.getElem?_append,Array.getElem?_replicate]
  simp only[List.size_toArray,List.getElem?_toArray]
  split
  ·rfl
  ·rw[List.getElem?_eq_none (l:=iL) (by omega)]
   split <;> rfl
 rw[h1,h2]
 exact hv.get i
theorem lY.sR(hm:P.follows .mixedOrders=true)(hΓ:Sound P Γ){f:FuncId}{fn:Func}(hf:P.funcs[f]? =some fn)(hb:fn.body.isSome=true)(hname:(fn.name== "runtime.NumGoroutine")=false){en:Entry}{an:ej}{N:Nat}(hL:∀c,fn.body=some c→yw P Γ an N (iJ c))
  (h:∀args dd x,en.run args dd=some x→Fv P Γ an N fn args dd some=some (en.out args dd x)):lY P f en:=by
 intro w g β args dd iL x hv ho hx
 left
 obtain⟨c,hc⟩:=Option.isSome_iff_exists.1 hb
 refine⟨?_,?_⟩
 ·unfold callFunc
  have hname':¬fn.name= "runtime.NumGoroutine" :=by simpa using hname
  simp[hf,hname',hc]
 ·have hN:=h args dd x hx
  unfold Fv at hN
  rw[hc]at hN
  simp only at hN
  have hC:∀i j,((jD dd).env w g β).s (.new i j)=none:=fun i j=>by simp[AS.env,jD,AS.cl]
  refine calls_of_wp hf hc (jP (C:=⟨(jD dd).env w g β⟩) hm hΓ hC c (hL c hc) _ _ w _ _ ⟨g,β,Dp hv ho⟩ hN fun e s' a' w' hs' hk'=> ?_)
  have fin:(finish P an fn s').run (fun v=>some v)=some (en.out args dd x)→a'.defers=[]∧∃v,(results fn a'.tmps).run P w'= .ok v w'∧∃u,Ending.returned v= .returned u∧oT ((jD dd).env w g β) (en.out args dd x) u w':=fun hr=>by
   obtain⟨G,h1,h2⟩:=iw.1 hr
   simp only[Option.some.injEq]at h2
   subst h2
   unfold finish at h1
   obtain⟨sd,h0d,h1⟩:=al.1 h1
   obtain⟨s2,h3,h4⟩:=al.1 h1
   obtain⟨s3,h4a,h4⟩:=al.1 h4
   obtain⟨y,h5,h6⟩:=al.1 h4
   obtain⟨g0,β0,hi0⟩:=og _ hs' h0d
   obtain⟨g',β',hi⟩:=vN _ (jS hC _ ⟨g0,β0,hi0.drop _⟩ h3) h4a
   obtain⟨z,g2,h7,h8,h9⟩:=wx hi h5
   refine⟨hi.defers,z,h7,z,rfl,?_⟩
   rw[←ao.1 h6]
   exact CP h8 hC h9
  cases e with
  |normal=>exact fin hk'
  |ret=>exact fin hk'
  |_=>cases hk'
end
end Go.Ab
namespace Go.Ab
def dI(k:IntKind)(n:Int):Int:=k.wrap n
def bw(k:IntKind)(x y:Int):Int:=k.wrap (x+y)
def bS(k:IntKind)(x y:Int):Int:=k.wrap (x - y)
def eS(k:IntKind)(x y:Int):Int:=k.wrap (x*y)
def kV(k:IntKind)(x y:Int):Int:=k.wrap (x.tdiv y)
def gd(x y:Int):Int:=x.tmod y
def jC(k:IntKind)(x y:Int):Int:=k.wrap (x*2^(min y.toNat k.bits))
def bW(k:IntKind)(x y:Int):Int:=x.fdiv (2^(min y.toNat k.bits))
def Hc(k:IntKind)(x:Int):Int:=k.wrap (0 - x)
def FK(k:IntKind)(x:Int):Int:=ct .xor k (if k.signed then -1 else k.max) x
def ia(x y:Int):Bool:=x==y
def qS(x y:Int):Bool:=x !=y
def gM(x y:Int):Bool:=decide (x < y)
def wX(x y:Int):Bool:=decide (x≤y)
def na(x y:Int):Bool:=decide (x > y)
def kX(x y:Int):Bool:=decide (x≥y)
def seq(x y:ByteArray):Bool:=x.toList==y.toList
def zT(a:ByteArray)(i:Int):Int:=((a.data.toList.getD i.toNat 0).toNat:Int)
def imax(x y:Int):Int:=if x < y then y else x
def dY(i n:Int):Bool:=decide (0≤i∧i < n)
def inc(i n:Int):Bool:=decide (0≤i∧i≤n)
def iW(y:Int):Bool:=decide (0≤y)
def iK(y:Int):Bool:= !(decide (y=0))
open Classical in
noncomputable def cf.of{D X:Type}(st:D→AS)(aq:D→Prop)(F:D→X)(out:X→Out (Exit×AS)):cf:=
 {X,run:=fun s=>if h:∃d,st d=s∧aq d then some (F h.choose) else none,out}
open Classical in
theorem cf.sR{D X:Type}{st:D→AS}{aq:D→Prop}{F:D→X}{out:X→Out (Exit×AS)}(hinj:∀d d',st d=st d'→d=d'){d:D}(h:aq d):(cf.of st aq F out).run (st d)=some (F d):=by
 have hex:∃d',st d'=st d∧aq d':=⟨d,rfl,h⟩
 show(if h:∃d',st d'=st d∧aq d' then some (F h.choose) else none)=_
 rw[dif_pos hex,hinj _ _ hex.choose_spec.1]
open Classical in
noncomputable def oW.of{X:Type}(an:iY)(st:X→AS):oW:=
 {an,X,Gh:=fun e s=>if h:e= .normal∧∃x,st x=s then some h.2.choose else none,out:=fun x=> .ok (.normal,st x),
  ok:=fun e s x h=>by
   by_cases h1:e= .normal∧∃x,st x=s
   ·rw[dif_pos h1]at h
    have h2:=h1.2.choose_spec
    rw[Option.some.inj h]at h2
    rw[h1.1,←h2]
    rfl
   ·rw[dif_neg h1]at h;cases h}
open Classical in
theorem oW.A7{X:Type}{an:iY}{st:X→AS}(hinj:∀d d',st d=st d'→d=d')(x:X):(oW.of an st).Gh .normal (st x)=some x:=by
 have hex:Exit.normal= .normal∧∃y,st y=st x:=⟨rfl,x,rfl⟩
 show(if h:Exit.normal= .normal∧∃y,st y=st x then some h.2.choose else none)=_
 rw[dif_pos hex,hinj _ _ hex.2.choose_spec]
open Classical in
theorem Dv.of{P:Program}{Γ:dX}{an:ej}{N:Nat}{fn:Func}{i:Nat}{D X:Type}{st:D→AS}{aq:D→Prop}{F:D→X}{out:X→Out (Exit×AS)}
  (hle:an.gk (eg (j6 fn i))=some (cf.of st aq F out)) (h:∀d,aq d→∃n,zm P Γ an N fn i n (st d) (fun e s=>some (e,s))=(out (F d)).eval):Dv P Γ an N (j6 fn i):=by
 intro le hle'
 rw[hle]at hle'
 simp only[Option.some.injEq]at hle'
 subst hle'
 refine⟨fun _ s x hx=> ?_,fun S hS=>by cases hS⟩
 change (if h:∃d',st d'=s∧aq d' then some (F h.choose) else none)=some x at hx
 split at hx
 ·rename_i hex
  obtain rfl:=Option.some.inj hx
  obtain⟨h1,h2⟩:=hex.choose_spec
  obtain⟨n,hn⟩:=h _ h2
  refine⟨n,?_⟩
  show zm P Γ an N fn i n s _=_
  rw[h1]at hn
  exact hn
 ·cases hx
theorem wZ(P:Program)(Γ:dX)(an:ej)(N:Nat)(fn:Func)(i:Nat){R:Type}(n:Nat)(s:AS)(k:Exit→AS→Option R):
  zm P Γ an N fn i (n+1) s k=sL P Γ an N fn i s (fun s1=>zm P Γ an N fn i n s1 k) k:=rfl
theorem B4{P:Program}{Γ:dX}{an:ej}{N:Nat}{fn:Func}{i:Nat}{D X:Type}{st:D→AS}{aq:D→Prop}{F:D→X}{out:X→Out (Exit×AS)}(μ:D→Nat)
  (h:∀d,aq d→(∃d',aq d'∧μ d' < μ d∧F d'=F d∧∀ {R:Type} (kn:AS→Option R) (kx:Exit→AS→Option R),sL P Γ an N fn i (st d) kn kx=kn (st d'))∨
   (∃r,(out (F d)).eval=some r∧∀ {R:Type} (kn:AS→Option R) (kx:Exit→AS→Option R),sL P Γ an N fn i (st d) kn kx=kx r.1 r.2)):
  ∀d,aq d→∃n,zm P Γ an N fn i n (st d) (fun e s=>some (e,s))=(out (F d)).eval:=by
 have key:∀m d,μ d=m→aq d→∃n,zm P Γ an N fn i n (st d) (fun e s=>some (e,s))=(out (F d)).eval:=by
  intro m
  induction m using Nat.strongRecOn with
  |_ m ih=>
   intro d hm hp
   rcases h d hp with⟨d',hp',hlt,hF,hr⟩ | ⟨r,hr,hx⟩
   ·obtain⟨n,hn⟩:=ih (μ d') (by omega) d' rfl hp'
    exact⟨n+1,by rw[wZ,hr,hn,hF]⟩
   ·exact⟨1,by rw[wZ,hx,hr]⟩
 exact fun d hp=>key _ d rfl hp
open Classical in
theorem Em{P:Program}{Γ:dX}{an:ej}{N:Nat}{fn:Func}{i:Nat}{D X:Type}{st:D→AS}{aq:D→Prop}{F:D→X}{ex:X→Exit×AS}(μ:D→Nat)
  (h:∀d,aq d→(∃d',aq d'∧μ d' < μ d∧F d'=F d∧∀ {R:Type} (kn:AS→Option R) (kx:Exit→AS→Option R),sL P Γ an N fn i (st d) kn kx=kn (st d'))∨
   (∀ {R:Type} (kn:AS→Option R) (kx:Exit→AS→Option R),sL P Γ an N fn i (st d) kn kx=kx (ex (F d)).1 (ex (F d)).2)):
  ∀d,aq d→∃n,zm P Γ an N fn i n (st d) (fun e s=>some (e,s))=(Out.ok (ex (F d))).eval:=
 B4 (out:=fun x=> .ok (ex x)) μ fun d hp=>(h d hp).imp id fun h=>⟨_,rfl,h⟩
open Classical in
noncomputable def Entry.of{D X:Type}(params:List (Option Ty))(st:D→List az×List eL)(aq:D→Prop)(F:D→X)(out:X→aT):Entry:=
 {params,X,run:=fun args dd=>if h:∃d,st d=(args,dd)∧aq d then some (F h.choose) else none,out:=fun _ _=>out}
open Classical in
theorem Entry.sR{D X:Type}{params:List (Option Ty)}{st:D→List az×List eL}{aq:D→Prop}{F:D→X}{out:X→aT}(hinj:∀d d',st d=st d'→d=d'){d:D}(h:aq d):
  (Entry.of params st aq F out).run (st d).1 (st d).2=some (F d):=by
 have hex:∃d',st d'=((st d).1,(st d).2)∧aq d':=⟨d,rfl,h⟩
 show(if h:∃d',st d'=((st d).1,(st d).2)∧aq d' then some (F h.choose) else none)=_
 rw[dif_pos hex,hinj _ _ hex.choose_spec.1]
open Classical in
theorem lY.of{P:Program}{Γ:dX}(hm:P.follows .mixedOrders=true)(hΓ:Sound P Γ){f:FuncId}{fn:Func}(hf:P.funcs[f]? =some fn)(hb:fn.body.isSome=true)(hname:(fn.name== "runtime.NumGoroutine")=false){an:ej}{N:Nat}
  (hL:∀c,fn.body=some c→yw P Γ an N (iJ c)) {D X:Type} {params:List (Option Ty)} {st:D→List az×List eL} {aq:D→Prop} {F:D→X} {out:X→aT}
  (h:∀d,aq d→Fv P Γ an N fn (st d).1 (st d).2 some=some (out (F d))):lY P f (Entry.of params st aq F out):=by
 refine lY.sR hm hΓ hf hb hname hL fun args dd x hx=> ?_
 change (if h:∃d',st d'=(args,dd)∧aq d' then some (F h.choose) else none)=some x at hx
 split at hx
 ·rename_i hex
  obtain rfl:=Option.some.inj hx
  obtain⟨h1,h2⟩:=hex.choose_spec
  have:=h _ h2
  rw[h1]at this
  exact this
 ·cases hx
def HM(P:Program)(Γ:dX)(an:ej)(N:Nat)(fn:Func):Nat→Nat→Prop
 | 0,_=>True
 |n+1,i=>Dv P Γ an N (j6 fn i)∧HM P Γ an N fn n (i+1)
theorem HM.get{P:Program}{Γ:dX}{an:ej}{N:Nat}{fn:Func}:∀ {n i:Nat},HM P Γ an N fn n i→∀j,j < n→Dv P Γ an N (j6 fn (i+j))
 | 0,_,_,j,hj=>by omega
 |n+1,i,h,0,_=>h.1
 |n+1,i,h,j+1,hj=>by
  have:=HM.get h.2 j (by omega)
  rwa[show i+1+j=i+(j+1) by omega]at this
theorem yw.Ex{P:Program}{Γ:dX}{an:ej}{N:Nat}:∀(l:List Code),(∀j,j < l.length→Dv P Γ an N (l.getD j .skip))→yw P Γ an N l
 |[],_=>trivial
 |b::l,h=>⟨h 0 (by simp),yw.Ex l fun j hj=>by have:=h (j+1) (by simpa using hj);simpa using this⟩
theorem yw.fn{P:Program}{Γ:dX}{an:ej}{N:Nat}{fn:Func}(n:Nat)(hn:(match fn.body with | some c=>(iJ c).length | none=>0)=n)(h:HM P Γ an N fn n 0):∀c,fn.body=some c→yw P Γ an N (iJ c):=by
 intro c hc
 refine yw.Ex _ fun j hj=> ?_
 rw[hc]at hn
 simp only at hn
 have:=h.get j (by omega)
 unfold j6 at this
 rw[hc]at this
 simpa using this
theorem Dv.none{P:Program}{Γ:dX}{an:ej}{N:Nat}{fn:Func}{i:Nat}(h:an.gk (eg (j6 fn i))=none):Dv P Γ an N (j6 fn i):=fun le hle=>by
 rw[h]at hle;cases hle
def Ib:dX:=fun _ _=>none
theorem Sound.nil(P:Program):Sound P Ib:=fun _ _ _ h=>by cases h
def D5(f:FuncId)(p:List az→Bool)(en:Entry)(Γ:dX):dX:=fun g vs=>match Nat.beq g f with | true=>(match p vs with | true=>some en | false=>Γ g vs) | false=>Γ g vs
theorem Sound.cons{P:Program}{f:FuncId}{p:List az→Bool}{en:Entry}{Γ:dX}(h:lY P f en)(hΓ:Sound P Γ):Sound P (D5 f p en Γ):=fun g vs e hg=>by
 unfold D5 at hg
 split at hg
 ·rename_i he
  have:g=f:=Nat.eq_of_beq_eq_true he
  split at hg
  ·simp only[Option.some.injEq]at hg
   subst hg this
   exact h
  ·exact hΓ g vs e hg
 ·exact hΓ g vs e hg
theorem Gb{t:Ty}{x y:t.den}(h:az.d t x=az.d t y):x=y:=by
 injection h with _ h
def aK:List az→Bool:=fun _=>true
def C5:List az→Bool | .dP::_=>true | _=>false
def Dn:List az→Bool | .cT .. ::_=>true | _=>false
@[simp] theorem ah{α:Type}(x y:Option α):aC true x y=x:=rfl
@[simp] theorem ae{α:Type}(x y:Option α):aC false x y=y:=rfl
@[simp] theorem aa{α β:Type}(x:α)(f:α→Option β):ab (some x) f=f x:=rfl
@[simp] theorem pV{α:Type}(x:Option α):nd x x=x:=by simp[nd]
structure SG(P:Program) where
 f:FuncId
 p:List az→Bool
 e:Entry
 h:lY P f e
def eX{P:Program}:List (SG P)→dX
 |[]=>Ib
 |a::l=>D5 a.f a.p a.e (eX l)
theorem Sound.eX{P:Program}:∀l:List (SG P),Sound P (eX l)
 |[]=>Sound.nil P
 |a::l=>Sound.cons a.h (Sound.eX l)
abbrev SA:=List az×List eL
noncomputable def cq(P:Program)(G:dX)(an:ej)(N:Nat)(fn:Func){D:Type}(st:D→SA){R:Type}(d:D)(k:aT→Option R):Option R:=Fv P G an N fn (st d).1 (st d).2 k
noncomputable def cP(P:Program)(G:dX)(an:ej)(N:Nat)(fn:Func)(i:Nat){D:Type}(st:D→AS){R:Type}(d:D)(kn:AS→Option R)(kx:Exit→AS→Option R):Option R:=sL P G an N fn i (st d) kn kx
abbrev cr{D X Y:Type}(A: {R:Type}→D→(aT→Option R)→Option R)(aq:D→Prop)(add:D→Y→X)(F:D→Y)(out:X→aT):Prop:=
 ∀d,aq d→A d some=some (out (add d (F d)))
abbrev fg(P:Program)(G:dX)(an:ej)(N:Nat)(fn:Func)(i:Nat){D X Y:Type}(st:D→AS)(aq:D→Prop)(add:D→Y→X)(F:D→Y)(out:X→Out (Exit×AS)):Prop:=
 ∀d,aq d→∃n,zm P G an N fn i n (st d) (fun e s=>some (e,s))=(out (add d (F d))).eval
abbrev gg{D X Y:Type}(R: {R:Type}→D→(AS→Option R)→(Exit→AS→Option R)→Option R)(st:D→AS)(aq:D→Prop)(add:D→Y→X)(F:D→Y)(ex:X→Exit×AS)(C:Prop):Prop:=
 ∀μ:D→Nat,(∀d,aq d→(∃d',aq d'∧μ d' < μ d∧add d' (F d')=add d (F d)∧∀ {T:Type} (kn:AS→Option T) (kx:Exit→AS→Option T),R d kn kx=kn (st d'))∨
  (∀ {T:Type} (kn:AS→Option T) (kx:Exit→AS→Option T),R d kn kx=kx (ex (add d (F d))).1 (ex (add d (F d))).2))→C
abbrev oU{D X Y:Type}(R: {R:Type}→D→(AS→Option R)→(Exit→AS→Option R)→Option R)(st:D→AS)(aq:D→Prop)(add:D→Y→X)(F:D→Y)(out:X→Out (Exit×AS))(C:Prop):Prop:=
 ∀μ:D→Nat,(∀d,aq d→(∃d',aq d'∧μ d' < μ d∧add d' (F d')=add d (F d)∧∀ {T:Type} (kn:AS→Option T) (kx:Exit→AS→Option T),R d kn kx=kn (st d'))∨
  (∃r,(out (add d (F d))).eval=some r∧∀ {T:Type} (kn:AS→Option T) (kx:Exit→AS→Option T),R d kn kx=kx r.1 r.2))→C
theorem gj{P:Program}{G:dX}{an:ej}{N:Nat}{fn:Func}{i:Nat}{D X Y:Type}{st:D→AS}{aq:D→Prop}{add:D→Y→X}{F:D→Y}{ex:X→Exit×AS}:
  gg (cP P G an N fn i st) st aq add F ex (fg P G an N fn i st aq add F fun x=> .ok (ex x)):=fun μ h=>Em (F:=fun d=>add d (F d)) μ h
theorem p9{P:Program}{G:dX}{an:ej}{N:Nat}{fn:Func}{i:Nat}{D X Y:Type}{st:D→AS}{aq:D→Prop}{add:D→Y→X}{F:D→Y}{out:X→Out (Exit×AS)}:
  oU (cP P G an N fn i st) st aq add F out (fg P G an N fn i st aq add F out):=fun μ h=>B4 (F:=fun d=>add d (F d)) (out:=out) μ h
def ky:List (Nat×iY)→Nat→iY
 |[],_=> {}
 |a::l,r=>bif Nat.beq r a.1 then a.2 else ky l r
def kr:List (Nat×iY×iY)→Nat→Bool→iY
 |[],_,_=> {}
 |a::l,r,b=>bif Nat.beq r a.1 then(bif b then a.2.2 else a.2.1) else kr l r b
def kY{α:Type 1}:List (Nat×α)→Nat→Option α
 |[],_=>none
 |a::l,r=>bif Nat.beq r a.1 then some a.2 else kY l r
inductive Lf where
 |d (t:Ty)
 |n
@[reducible] def Lf.den:Lf→Type
 | .d t=>t.den
 | .n=>Nat
@[reducible] def Lf.HI:List Lf→Type
 |[]=>Unit
 |[a]=>a.den
 |a::b::l=>a.den×Lf.HI (b::l)
abbrev HU:=List (Sigma Lf.den)
def Lf.mk:(ts:List Lf)→Lf.HI ts→HU
 |[],_=> []
 |[a],x=> [⟨a,x⟩]
 |a::b::l,x=>⟨a,x.1⟩::Lf.mk (b::l) x.2
theorem Lf.mk_inj:∀(ts:List Lf) (x y:Lf.HI ts),Lf.mk ts x=Lf.mk ts y→x=y
 |[],_,_,_=>rfl
 |[a],x,y,h=>by
  injection h with h _
  injection h
 |a::b::l,(x,u),(y,v),h=>by
  injection h with h h2
  injection h with _ h
  have h:x=y:=h
  rw[h,Lf.mk_inj (b::l) u v h2]
def az.leaves:az→HU
 | .d .unit _=> []
 | .d (.arr _ t) l=> [⟨.d (.slice t),l⟩]
 | .d t x=> [⟨.d t,x⟩]
 | .eI t x=> [⟨.d t,x⟩]
 | .vec _ t l=> [⟨.d (.slice t),l⟩]
 | .mp k v l=> [⟨.d (.slice (.pair k v)),l⟩]
 | .kF _ _ k v l _=> [⟨.d (.slice (.pair k v)),l⟩]
 | .cT _ _ _ _ _ n=> [⟨.n,n⟩]
 | .pr a b=>a.leaves++b.leaves
 | .cons a b=>a.leaves++b.leaves
 | .fn _ c=>c.leaves
 | .bx _ _ c=>c.leaves
 |_=> []
def eL.leaves:eL→HU
 | .obj _ _ c=>c.leaves
 | .dead=> []
def SA.leaves(s:SA):HU:=s.1.flatMap az.leaves++s.2.flatMap eL.leaves
def AS.leaves(s:AS):HU:=s.cS.flatMap az.leaves++(s.dd.flatMap eL.leaves++s.news.flatMap (·.flatMap eL.leaves))
theorem cv(ts:List Lf){st:Lf.HI ts→SA}(h:∀d,SA.leaves (st d)=Lf.mk ts d)(d d':Lf.HI ts)(e:st d=st d'):d=d':=Lf.mk_inj ts d d' (by rw[←h,←h,e])
theorem fk(ts:List Lf){st:Lf.HI ts→AS}(h:∀d,AS.leaves (st d)=Lf.mk ts d)(d d':Lf.HI ts)(e:st d=st d'):d=d':=Lf.mk_inj ts d d' (by rw[←h,←h,e])
noncomputable def Entry.cF{D X Y:Type}(params:List (Option Ty))(st:D→SA)(aq:D→Prop)(add:D→Y→X)(F:D→Y)(out:X→aT):Entry:=Entry.of params st aq (fun d=>add d (F d)) out
noncomputable def cf.cF{D X Y:Type}(st:D→AS)(aq:D→Prop)(add:D→Y→X)(F:D→Y)(out:X→Out (Exit×AS)):cf:=cf.of st aq (fun d=>add d (F d)) out
noncomputable def bC{D:Type}(E:Entry)(st:D→SA):D→Option E.X:=fun d=>E.run (st d).1 (st d).2
noncomputable def dO{D:Type}(E:cf)(st:D→AS):D→Option E.X:=fun d=>E.run (st d)
abbrev bD{D X Y:Type}(call:D→Option X)(aq:D→Prop)(add:D→Y→X)(F:D→Y):Prop:=∀ {d:D},aq d→call d=some (add d (F d))
theorem cz{D X Y:Type}{params:List (Option Ty)}{st:D→SA}{aq:D→Prop}{add:D→Y→X}{F:D→Y}{out:X→aT}(hinj:∀d d',st d=st d'→d=d'):
  bD (bC (Entry.cF params st aq add F out) st) aq add F:=fun h=>Entry.sR hinj h
theorem fw{D X Y:Type}{st:D→AS}{aq:D→Prop}{add:D→Y→X}{F:D→Y}{out:X→Out (Exit×AS)}(hinj:∀d d',st d=st d'→d=d'):
  bD (dO (cf.cF st aq add F out) st) aq add F:=fun h=>cf.sR hinj h
def H6(P:Program)(fn:Func):Bool:=P.follows .mixedOrders && fn.body.isSome && !(fn.name== "runtime.NumGoroutine")
def IQ(fn:Func):Nat:=match fn.body with | some c=>(iJ c).length | none=>0
theorem lY.fn{P:Program}{l:List (SG P)}{f:FuncId}{fn:Func}{an:ej}{N:Nat}{D X Y:Type}{params:List (Option Ty)}{st:D→SA}{aq:D→Prop}{add:D→Y→X}{F:D→Y}{out:X→aT}(n:Nat)
  (hc:(P.funcs[f]?,H6 P fn,IQ fn)=(some fn,true,n))
  (h:cr (@cq P (eX l) an N fn D st) aq add F out)
  (hL:HM P (eX l) an N fn n 0):lY P f (Entry.cF params st aq add F out):=by
 injection hc with h1 h2
 injection h2 with h2 h3
 unfold H6 at h2
 simp only[Bool.and_eq_true,Bool.not_eq_true']at h2
 exact lY.of h2.1.1 (Sound.eX l) h1 h2.1.2 h2.2 (yw.fn n h3 hL) h
theorem Dv.cF{P:Program}{Γ:dX}{an:ej}{N:Nat}{fn:Func}{i:Nat}{D X Y:Type}{st:D→AS}{aq:D→Prop}{add:D→Y→X}{F:D→Y}{out:X→Out (Exit×AS)}
  (h:fg P Γ an N fn i st aq add F out) (hle:an.gk (eg (j6 fn i))=some (cf.cF st aq add F out)):Dv P Γ an N (j6 fn i):=Dv.of hle h
abbrev tu:Ty:=(.int .u64)
abbrev ti:Ty:=(.int .i64)
abbrev tb:Ty:=(.int .u8)
abbrev tB:Ty:=(.slice tb)
abbrev Bs:=(List Int)
abbrev tH:Ty:=(.arr 32 tb)
abbrev tU:Ty:=(.slice tu)
abbrev qf:Ty:=(.pair tH (.pair ti .unit))
abbrev oQ:=(Bs×(Int×Unit))
abbrev Dq:Ty:=(.pair tu (.pair tu .unit))
abbrev Sg:=(Int×(Int×Unit))
abbrev It:Ty:=(.pair ti (.pair (.slice Dq) (.pair tu .unit)))
abbrev At:=(Int×((List Sg)×(Int×Unit)))
abbrev jV:Ty:=(.pair qf (.pair It .unit))
abbrev jc:=(oQ×(At×Unit))
abbrev oS:Ty:=(.pair tU (.pair ti (.pair ti (.pair tu .unit))))
abbrev oF:=(Bs×(Int×(Int×(Int×Unit))))
abbrev lV:Ty:=(.pair (.slice oS) .unit)
abbrev Lk:=((List oF)×Unit)
abbrev nb:Ty:=(.pair ti (.pair lV .unit))
abbrev jA:=(Int×(Lk×Unit))
abbrev kq:Ty:=(.pair (.slice jV) (.pair (.slice nb) (.pair ti .unit)))
abbrev gX:=((List jc)×((List jA)×(Int×Unit)))
end Go.Ab
