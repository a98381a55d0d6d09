/-
  Made short by a program of mine (wip/tools/mini.py).
-/
import Derived.Test.YtglpcfdjdabdnaaGreatS11x1
import Derived.Lib.Builder
import Derived.Lib.UnsafeStr
import Derived.Lib.AppendZeros
import Derived.Scope
import Derived.Laws.Externs
import Derived.KernelRfl
import Derived.ProofKit
import Derived.OpenShut
import Derived.Deep.Slices
import Derived.Carry
set_option linter.unusedVariables false
set_option linter.unusedSimpArgs false
namespace Go.Ab
section
variable {P:Program} {C:Ctx} {g:Nat→ix} {β:Id→Option Pl} {s:AS} {a:Act} {w:World} {o:Oper}
theorem ye:∀(c:aC) (f off:Nat) (v:aC),partOf c f=some (off,v)→(loc c (gW f)).eval=some (off,v):=by
 intro c f
 induction f generalizing c with
 |zero=>
  intro off v h
  cases c with
  |d t y=>
   cases t <;> simp only[partOf,reduceCtorEq]at h
   simp only[Option.some.injEq,Prod.mk.injEq]at h
   obtain⟨rfl,rfl⟩:=h
   rfl
  |pr b c=>
   simp only[partOf,Option.some.injEq,Prod.mk.injEq]at h
   obtain⟨rfl,rfl⟩:=h
   simp only[gW,loc]
   cases b <;> rfl
  |_=>simp only[partOf,reduceCtorEq]at h
 |succ f ih=>
  intro off v h
  cases c with
  |d t y=>
   cases t with
   |pair ta tb=>
    simp only[partOf]at h
    cases hp:partOf (.d tb y.2) f with
    |none=>rw[hp]at h;cases h
    |some r=>
     rw[hp]at h
     simp only[Option.some.injEq,Prod.mk.injEq]at h
     obtain⟨rfl,rfl⟩:=h
     simp only[gW,loc,aw]
     exact⟨_,ih _ _ _ hp,rfl⟩
   |_=>simp only[partOf,reduceCtorEq]at h
  |pr b c=>
   simp only[partOf]at h
   cases hp:partOf c f with
   |none=>rw[hp]at h;cases h
   |some r=>
    rw[hp]at h
    simp only[Option.some.injEq,Prod.mk.injEq]at h
    obtain⟨rfl,rfl⟩:=h
    simp only[gW,loc,aw]
    exact⟨_,ih _ _ _ hp,rfl⟩
  |_=>simp only[partOf,reduceCtorEq]at h
theorem wC(a b:aC):(pA a b).agg=true:=by unfold pA;split <;> rfl
theorem tn{v x v':aC}{i:Nat}(h:(m9 v (gW i) x).eval=some v'):v'.agg=true:=by
 have fin:∀ {o:Out aC} {f:aC→aC},(∀a,(f a).agg=true)→(o.bind fun a=>Out.ok (f a)).eval=some v'→v'.agg=true:=by
  intro o f hf hh
  obtain⟨_,_,h2⟩:=aw.1 hh
  obtain rfl:=ax.1 h2
  exact hf _
 cases i <;> simp only[gW]at h
 all_goals
  cases v with
  |d t y=>cases t <;> first | (simp only[m9,ak]at h;done) | (simp only[m9]at h;exact fin (fun _=>wC _ _) h)
  |pr b c=>simp only[m9]at h;exact fin (fun _=>wC _ _) h
  |_=>simp only[m9,ak]at h
theorem nM{E:Env}(hev:∀x,VS E (s.ev x) (a.eval x)){fs:Array Field}{places:Array (Nat×Nat)}(hpl:∀(i:Nat) (f:Field),fs[i]? =some f→places[i]? =some (f.offset,P.cellsOf f.type)):
  ∀(ps:List (Nat×Operand)) (v v':aC) (cells:Array Value),(iu P fs s ps v).eval=some v'→V E v cells.toList→v.agg=true→
   ∃cells',Instr.fill (places[·]?) cells (ps.map fun(i,x)=>(i,a.eval x))=some cells'∧V E v' cells'.toList∧v'.agg=true
 |[],v,v',cells,h,hV,hag=>by
  obtain rfl:=ax.1 h
  exact⟨cells,rfl,hV,hag⟩
 | (i,x)::ps,v,v',cells,h,hV,hag=>by
  simp only[iu]at h
  split at h
  ·rename_i f off fK hf hp
   obtain⟨h1,h2⟩:=aE.1 h
   obtain⟨v1,h3,h4⟩:=aw.1 h2
   simp only[Bool.and_eq_true,beq_iff_eq]at h1
   obtain⟨⟨rfl,hfo⟩,hfx⟩:=h1
   obtain⟨hcel,_⟩:=iS hfx
   obtain⟨cs,hVx,hO⟩:=(hev x).eE hcel
   have hcells:=hO.cells hVx.one
   have hloc:=ye _ _ _ _ hp
   obtain⟨u1,u2,u3⟩:=iw (gW i) v cells.toList f.offset fK (s.ev x) v1 cs (VO.of hV) hloc hVx h3
   have hnv:v1.fM=false:=u3.jv hV.jv
   have hsz:P.cellsOf f.type=cs.length:=by rw[(nv hfx).2.1];exact hVx.size.symm
   obtain⟨cells',q1,q2,q3⟩:=nM hev hpl ps v1 v' (dd cells.toList f.offset cs).toArray h4 (by simpa using u2.to hnv) (tn h3)
   refine⟨cells',?_,q2,q3⟩
   rw[List.map_cons,tD (by rw[hpl i f hf,hsz]) hcells (by simpa using u1)]
   exact q1
  ·simp only[ak]at h
theorem wZ{α γ:Type}(f:α→Sem γ)(r:α→γ):∀(l:List α),(∀x∈l,(f x).run P w= .ok (r x) w)→(l.mapM f).run P w= .ok (l.map r) w
 |[],_=>by simp
 |x::xs,h=>by
  rw[List.mapM_cons]
  simp only[Sem.run_bind,h x (by simp),Result.andThen_ok,wZ f r xs (fun y hy=>h y (by simp[hy])),Sem.run_pure,List.map_cons]
theorem xE(h:Inv C g β s a w){T:TypeId}{parts:Array (Nat×Operand)}(ho:o.op= .build T parts){s':AS}(he:(np P s o.dst T parts.toList).eval=some s'):eZ P o a w (fQ C s'):=by
 unfold np at he
 split at he
 ·rename_i fs hT
  split at he
  ·rename_i z hzo
   obtain⟨h1,h2⟩:=aE.1 he
   obtain⟨v,h3,h4⟩:=aw.1 h2
   obtain rfl:=ax.1 h4
   simp only[Bool.and_eq_true,List.all_eq_true]at h1
   obtain⟨⟨hz,hag⟩,hinf⟩:=h1
   obtain⟨i,zv,hi,hzv,hV,hO⟩:=jU hz (s.env w g β)
   let places:Array (Nat×Nat):=fs.map fun f=>(f.offset,P.cellsOf f.type)
   have hpl:∀(i:Nat) (f:Field),fs[i]? =some f→places[i]? =some (f.offset,P.cellsOf f.type):=by
    intro i f hf
    simp[places,hf]
   obtain⟨cells',q1,q2,q3⟩:=nM (a:=a) h.ev hpl parts.toList z v zv.cells h3 hV hag
   have hm:(fs.mapM fun f=>(do pure (f.offset,←sizeOf f.type):Sem (Nat×Nat))).run P w= .ok places w:=by
    rw[Array.mapM_eq_mapM_toList]
    have:=wZ (P:=P) (w:=w) (fun f=>(do pure (f.offset,←sizeOf f.type):Sem (Nat×Nat))) (fun f=>(f.offset,P.cellsOf f.type)) fs.toList (by
     intro f hf
     obtain⟨j,hj⟩:=Option.isSome_iff_exists.1 (hinf f hf)
     rw[Sem.run_bind,run_sizeOf hj,gL hj]
     rfl)
    rw[Sem.run_map,this]
    show Result.ok _ w=Result.ok _ w
    congr 1
    apply Array.ext'
    simp[places]
   refine h.value (x:= .agg cells') (VS.of q2 (by rw[q3];simp[fe])) (dR (f:=Instr.build T (parts.map fun(i,x)=>(i,a.eval x))) (by simp only[execOp,ho]) ?_)
   have q1':Instr.fill (places[·]?) zv.cells (parts.map fun(i,x)=>(i,a.eval x)).toList=some cells':=by rw[qn];exact q1
   simp only[Instr.build,Sem.run_bind,zeroValue,typeInfo,run_program,hi,Result.andThen_ok,Sem.run_pure,hzv,run_underlying hT,hm,q1']
  ·simp only[ak]at he
 ·rename_i n e hT
  split at he
  ·rename_i t ht
   obtain⟨h1,h2⟩:=aE.1 he
   obtain⟨r,h3,h4⟩:=aw.1 h2
   obtain rfl:=ax.1 h4
   simp only[Bool.and_eq_true,beq_iff_eq]at h1
   obtain⟨hsz,hz⟩:=h1
   obtain⟨g1,i1,e1,t1,f1⟩:=fy r.2 h
   obtain⟨i,zv,hi,hzv,hV,hO⟩:=jU hz ((s.bj r.2).env w g1 β)
   simp only[V,cT]at hV
   obtain⟨cells',q1,q2⟩:=lM (a:=a) rfl h.bN e1 h.ev parts.toList _ r zv.cells h3 f1 hV.2
   have hlr:r.1.length=n:=by
    have:∀(ps:List (Nat×Operand)) (l:List t.den) (r:List t.den×List Id),(fT t s ps l).eval=some r→r.1.length=l.length:=by
     intro ps
     induction ps with
     |nil=>intro l r hh;obtain rfl:=ax.1 hh;rfl
     |cons p ps ih=>
      intro l r hh
      obtain⟨i,x⟩:=p
      simp only[fT]at hh
      obtain⟨_,h2⟩:=aE.1 hh
      obtain⟨y,h3,h4⟩:=aw.1 h2
      obtain⟨r',h5,h6⟩:=aw.1 h4
      obtain rfl:=ax.1 h6
      have:=ih _ _ h5
      simpa using this
    rw[this _ _ _ h3]
    simp
   refine .inl ⟨.agg cells',w,dR (f:=Instr.build T (parts.map fun(i,x)=>(i,a.eval x))) (by simp only[execOp,ho]) ?_,g1,β,i1.put o.dst ⟨cells'.toList,?_,by simp[fe,aC.agg,Ty.agg]⟩⟩
   ·have q1':Instr.fill (fun i=>some (i*t.size,t.size)) zv.cells (parts.map fun(i,x)=>(i,a.eval x)).toList=some cells':=by rw[qn];exact q1
    cases hie:P.info? e with
    |none=>
     exfalso
     unfold xo ug at ht
     simp only[depth]at ht
     have:P.underlying e=none:=by simp[Program.underlying,hie]
     rw[this]at ht
     cases ht
    |some ie=>
     have hse:=run_sizeOf hie w
     rw[←gL hie,hsz]at hse
     simp only[Instr.build,Sem.run_bind,zeroValue,typeInfo,run_program,hi,Result.andThen_ok,Sem.run_pure,hzv,run_underlying hT,hse,q1']
   ·simp only[V,cT]
    exact⟨hlr,q2⟩
  ·simp only[ak]at he
 ·simp only[ak]at he
theorem qw{T X ty e:TypeId}{i:TypeInfo}(hT:P.underlying T=some (.slice e))(hX:P.underlying X=some .string∨∃e',P.underlying X=some (.slice e'))(hi:P.info? e=some i)
  {b sLen sCap:Nat} {cur:Array Value} (hg:w.heap[b]? =some (.cells cur e (0,0))) {x:Value} {n:Nat} {news:List Value} (h1:∀u∈news,u.oneCell'=true)
  (hlen:(Builtin.lenOf x).run P w= .ok n w) (hf:(Builtin.firstCells i.size n x).run P w= .ok news.toArray w) (hroom:sLen+n≤sCap) (hfit:sLen*i.size+news.length≤cur.size):
  (Builtin.append_ #[T,X] ty #[.slice (some ⟨b,0,none⟩) sLen sCap,x]).run P w= .ok (.slice (some ⟨b,0,none⟩) (sLen+n) sCap) (w.setRow b (dd cur.toList (sLen*i.size) news).toArray):=by
 have hst:=run_storeCells_at P b (sLen*i.size) e news 0 cur w hg (by simpa using hfit) h1
 simp only[Nat.add_zero]at hst
 rcases hX with hX | ⟨e',hX⟩ <;> simp[Builtin.append_,run_underlying hT,run_underlying hX,sizeOf,typeInfo,hi,hlen,hroom,hf,Addr.add_lit,hst,dd]
theorem mU{T X ty e:TypeId}{i:TypeInfo}(hT:P.underlying T=some (.slice e))(hX:P.underlying X=some .string∨∃e',P.underlying X=some (.slice e'))(hi:P.info? e=some i)
  {x:Value} (hlen:(Builtin.lenOf x).run P w= .ok 0 w) (hf:(Builtin.firstCells i.size 0 x).run P w= .ok #[] w):
  (Builtin.append_ #[T,X] ty #[.slice none 0 0,x]).run P w= .ok (.slice none 0 0) w:=by
 rcases hX with hX | ⟨e',hX⟩ <;> simp[Builtin.append_,run_underlying hT,run_underlying hX,sizeOf,typeInfo,hi,hlen,hf]
theorem qv{T X ty e:TypeId}{i:TypeInfo}{zv:Value}(hT:P.underlying T=some (.slice e))(hX:P.underlying X=some .string∨∃e',P.underlying X=some (.slice e'))(hi:P.info? e=some i)(hzv:i.zero=some zv)
  {ad:Option Addr} {sLen sCap:Nat} {dj:List Value} (ho:(Builtin.firstCells i.size sLen (.slice ad sLen sCap)).run P w.drew= .ok dj.toArray w.drew) {x:Value} {n:Nat} {news:List Value}
  (hlen:(Builtin.lenOf x).run P w= .ok n w) (hf:(Builtin.firstCells i.size n x).run P w.drew= .ok news.toArray w.drew) (hroom:sCap < sLen+n)
  (h63:((sLen+n:Nat):Int)≤9223372036854775807) (hfit:(sLen+n)*i.bytes≤140737488355328):
  (Builtin.append_ #[T,X] ty #[.slice ad sLen sCap,x]).run P w= .ok (.slice (some ⟨w.heap.size,0,none⟩) (sLen+n) (grownCap w (sLen+n) sCap e))
   (w.drew.alloc (.cells (dj.toArray++news.toArray++Builtin.zeroCells zv.cells (grownCap w (sLen+n) sCap e - (sLen+n))) e)):=by
 have hn:¬(sLen+n≤sCap):=by omega
 have h63':¬(9223372036854775807 < ((sLen:Int)+(n:Int))):=by omega
 have hfit':=growslice_fits (bytes:=i.bytes) hroom hfit
 have h48':¬(281474976710656 < Builtin.nextslicecap (sLen+n) sCap*i.bytes):=by omega
 rcases hX with hX | ⟨e',hX⟩
 all_goals
  simp[Builtin.append_,run_underlying hT,run_underlying hX,sizeOf,typeInfo,zeroValue,hi,hzv,hlen,hn,h63',h48',Question.forced,hf,ho,newRow,grownCap]
  congr 2
  apply Array.ext'
  simp[List.append_assoc]
end
end Go.Ab
namespace Go.Ab
section
variable {P:Program} {C:Ctx} {g:Nat→ix} {β:Id→Option Pl} {s:AS} {a:Act} {w:World} {o:Oper}
theorem Bu(h:Inv C g β s a w){v:aC}{y:Value}(hv:VS (s.env w g β) v y){t:Ty}{m:List t.den}(he:(s.yf (.slice t) v).eval=some m):
  ∃ad cap vs,y= .slice ad m.length cap∧(0 < m.length→ad.isSome=true)∧(∀j u,vs[j]? =some u→∃bb off,ad=some ⟨bb,off,none⟩∧w.cell? ⟨bb,off+j,none⟩=some u)∧bg (cT (s.env w g β) t) vs m:=by
 have hp:(s.fP (.slice t) v).eval=some m:=he
 cases v <;> first | (simp only[AS.fP,ak]at hp;done) | skip
 case da=>
  simp only[AS.fP,ax]at hp
  subst hp
  exact⟨none,0,[],gQ hv,by simp,fun j u hj=>by simp at hj,rfl⟩
 case d t' x=>
  simp only[AS.fP]at hp
  have hp:=gg.1 hp
  have ha:(aC.d t' x).agg=false:=tw hp
  have hV:=hv.single rfl ha
  simp only[V]at hV
  have hv:VS (s.env w g β) (.d (.slice t) m) y:=VS.of (cs:=[y]) (by simp only[V];exact mm hp hV) rfl
  obtain⟨ad,cap,vs,hy,_,hs,hr,hc⟩:=ko hv
  exact⟨ad,cap,vs,hy,hs,fun j u hj=>let⟨bb,off,e,hh⟩:=hr j u hj;⟨bb,off,e,hh.1⟩,hc⟩
 case bU id ver p c i len=>
  simp only[AS.fP]at hp
  obtain⟨⟨n,t',l⟩,h1,h2⟩:=aw.1 hp
  obtain⟨h3,h4⟩:=bF.1 h2
  obtain⟨hml,hmc⟩:=zF (E:=s.env w g β) (gg.1 h4)
  rw[hml]
  simp only[decide_eq_true_eq]at h3
  obtain⟨hc,hlen⟩:=h3
  suffices hg:∃ad cap vs,y= .slice ad (cut l i len).length cap∧(0 < (cut l i len).length→ad.isSome=true)∧(∀j u,vs[j]? =some u→∃bb off,ad=some ⟨bb,off,none⟩∧w.cell? ⟨bb,off+j,none⟩=some u)∧bg (cT (s.env w g β) t') vs (cut l i len) by
   obtain⟨ad,cap,vs,e1,e2,e3,e4⟩:=hg
   exact⟨ad,cap,vs,e1,e2,e3,hmc _ e4⟩
  obtain⟨fr,c0,hent,hrow⟩:=qu rfl h.bN h1
  obtain⟨ad,cap,hy,hle,hsome,hb,hcur⟩:=j4 hv
  have hcur:=hcur ⟨fr,c0,hent⟩
  have hxl:(cut l i len).length=len:=mn hlen
  rcases hrow with⟨hp,hl,_⟩ | ⟨pl,cur,e,hp,hh,hsz,hch,hbound⟩
  ·rw[hp]at hcur
   simp only at hcur
   obtain⟨rfl,rfl,rfl⟩:=hcur
   have:cut l i 0=[]:=by simp[cut]
   refine⟨none,0,[],by rw[hxl];exact hy,by rw[hxl];omega,fun _ _ hh=>by simp at hh,?_⟩
   rw[this];rfl
  ·rw[hp]at hcur
   simp only at hcur
   have hmul:(i+len)*t'.size≤l.length*t'.size:=Nat.mul_le_mul_right _ hlen
   rw[Nat.add_mul]at hmul
   refine⟨ad,cap,_,by rw[hxl];exact hy,by rw[hxl];exact hsome,?_,oF hch i len⟩
   rw[sj _ _ _ _ _ hmul]
   intro j v hj
   rw[List.getElem?_take]at hj
   split at hj
   ·rename_i hjl
    rw[List.getElem?_drop,hc]at hj
    have hlp:0 < len:=by
     rcases Nat.eq_zero_or_pos len with h0 | h0
     ·subst h0;simp at hjl
     ·exact h0
    refine⟨pl.b,c,hcur.1 (.inl hlp),?_⟩
    have hh':w.heap[pl.b]? =some (.cells cur e (0,0)):=hh
    rw[cell_of_row w pl.b (c+j) cur e (0,0) hh']
    simpa using hj
   ·cases hj
theorem qP(h:Inv C g β s a w){t:Ty}{X:TypeId}{x:aC}{y:Value}(hx:VS (s.env w g β) x y){m:List t.den}(he:(nH P s t X x).eval=some m):
  (P.underlying X=some .string∨∃e',P.underlying X=some (.slice e'))∧∃news:List Value,bg (cT (s.env w g β) t) news m∧(Builtin.lenOf y).run P w= .ok m.length w∧
   ∀w',w'.heap=w.heap→(Builtin.firstCells t.size m.length y).run P w'= .ok news.toArray w':=by
 have sl:∀(x:aC),VS (s.env w g β) x y→(match P.underlying X with
   |some (.slice _)=>s.yf (.slice t) x
   |_=> .fail).eval=some m→(P.underlying X=some .string∨∃e',P.underlying X=some (.slice e'))∧∃news:List Value,bg (cT (s.env w g β) t) news m∧(Builtin.lenOf y).run P w= .ok m.length w∧
   ∀w',w'.heap=w.heap→(Builtin.firstCells t.size m.length y).run P w'= .ok news.toArray w':=by
  intro x hx he
  split at he
  ·rename_i e' hX
   refine⟨.inr ⟨e',hX⟩,?_⟩
   obtain⟨ad,cap,vs,rfl,hsome,hrow,hch⟩:=Bu h hx he
   have hlen:=bg.length (fun _ _ hx=>cT.size hx) hch
   refine⟨vs,hch,rfl,fun w' hw'=> ?_⟩
   cases ad with
   |none=>
    have hm0:m.length=0:=by
     rcases Nat.eq_zero_or_pos m.length with h0 | h0
     ·exact h0
     ·have:=hsome h0;simp at this
    have:vs=[]:=List.eq_nil_of_length_eq_zero (by rw[hlen,hm0,Nat.zero_mul])
    subst this
    rfl
   |some ad=>
    refine run_firstCells_some (P:=P) w' t.size _ ad _ _ vs hlen (fun j v hj=> ?_)
    obtain⟨bb,off,e1,hh⟩:=hrow j v hj
    simp only[Option.some.injEq]at e1
    subst e1
    rw[Addr.add_lit]
    simpa[World.cell?,hw']using hh
  ·simp only[ak]at he
 unfold nH at he
 split at he
 ·rename_i st
  split at he
  ·rename_i hX
   refine⟨.inl hX,?_⟩
   obtain⟨e,hm⟩:=fV (gg.1 he)
   have e':Ty.int .u8=t:=by simpa using e
   subst e'
   simp only at hm
   subst hm
   have hy:=mJ hx
   subst hy
   have hlen:(bk st).length=st.size:=by simp only[bk,List.length_map,Array.length_toList];rfl
   refine⟨(bk st).map (Value.int .u8),j8 _,by rw[hlen];rfl,fun w' _=> ?_⟩
   rw[hlen]
   simp only[Builtin.firstCells,Sem.run_pure]
   congr 1
   apply Array.ext'
   rw[ByteArray.extract_zero_size]
   simp[bk]
  ·simp only[ak]at he
 ·exact sl _ hx he
theorem lp(z:Array Value)(n:Nat):(Builtin.zeroCells z n).size=n*z.size:=by simp[Builtin.zeroCells]
theorem zG(h:Inv C g β s a w){c:Call}{x y:Operand}{T X:TypeId}(ho:o.op= .call c)(hc:c.callee= .builtin .copy)(ha:c.args.toList=[x,y])(ht:c.argTypes.toList=[T,X]){s':AS}
  (he:(rG P s o.dst T X (s.ev x) (s.ev y)).eval=some s'):eZ P o a w (fQ C s'):=by
 obtain⟨cal,args,tys⟩:=c
 simp only at hc ha ht
 have ha':args= #[x,y]:=by apply Array.ext';simpa using ha
 have ht':tys= #[T,X]:=by apply Array.ext';simpa using ht
 subst hc ha' ht'
 have hx:=h.ev x
 have hy:=h.ev y
 have fin:∀z w',(Builtin.copy_ #[T,X] 0 #[a.eval x,a.eval y]).run P w= .ok z w'→(∃g' β',Inv C g' β' s' (a.put o.dst z) w')→eZ P o a w (fQ C s'):=by
  intro z w' h1 h2
  refine .inl ⟨z,w',lE ho (f:=Builtin.copy_ #[T,X] 0 #[a.eval x,a.eval y]) (fun ty cs xs hxs=> ?_) h1,h2⟩
  subst hxs
  have e1:Builtin.copy_ #[T,X] 0 #[a.eval x,a.eval y]=Builtin.copy_ #[T,X] ty #[a.eval x,a.eval y]:=rfl
  rw[e1]
  simp[builtin]
 unfold rG at he
 split at he
 ·rename_i e t b id ver len hel hxs
  obtain⟨hT,hz,i,zv,hi,his,hib,hzv,hzr⟩:=lH hel
  obtain⟨m,hm,he⟩:=aw.1 he
  obtain⟨hX,news,hch,hlen,hfc⟩:=qP h hy hm
  have hnl:=hch.length (fun _ _ hx=>cT.size hx)
  have h1news:∀u∈news,u.oneCell'=true:=bg.all (fun _ _ hx=>hx.one) hch
  rw[←his]at hfc
  split at he
  ·rename_i ve n t' l hob
   obtain⟨h1,he1⟩:=aE.1 he
   simp only[Bool.and_eq_true,beq_iff_eq]at h1
   obtain⟨hve,hln⟩:=h1
   subst hve hln
   obtain⟨l',hl',he2⟩:=aw.1 he1
   obtain⟨et,hl'⟩:=fV (gg.1 hl')
   have et':t'=t:=by simpa using et
   subst et'
   simp only at hl'
   subst hl'
   obtain⟨hml,he3⟩:=bF.1 he2
   have hml:m.length≤len:=by simpa using hml
   obtain rfl:=ax.1 he3
   have hent:=eB hob
   rw[hxs]at hx
   obtain⟨ad,cap,hxv,hlc,hsome,hbnd,hcur⟩:=j4 hx
   have hcur:=hcur ⟨false,_,hent⟩
   obtain⟨pl,cur,e0,hp,hh,hg,hk,hV⟩:=(h.bN id ve false _ hent).box rfl
   have hp:β id=some pl:=hp
   have hh:w.heap[pl.b]? =some (.cells cur e0 (0,0)):=hh
   have hg:g pl.b= .own (.id id) 0:=hg
   have hcur':(match β id with
    |some pl=>(0 < len∨0=0→ad=some ⟨pl.b,0,none⟩)∧(([.arr]:List pa)=[]→0=0→cap=pl.cap)
    |none=>ad=none∧len=0∧cap=0):=hcur
   rw[hp]at hcur'
   simp only at hcur'
   have had:=hcur'.1 (.inr trivial)
   subst had
   have hV:V (s.env w g β) (.d (.arr len t') l) (cur.toList.take cur.size):=hV
   rw[←Array.length_toList,List.take_length]at hV
   simp only[V,cT]at hV
   obtain⟨hll,hVc⟩:=hV
   have hcl:=hVc.length (fun _ _ hx=>cT.size hx)
   have hfit:news.length≤cur.size:=by
    rw[hnl]
    have:cur.size=l.length*t'.size:=by simpa using hcl
    rw[this,hll]
    exact Nat.mul_le_mul_right _ hml
   have hst:=run_storeCells_at P pl.b 0 e0 news 0 cur w hh (by simpa using hfit) h1news
   have hrun:(Builtin.copy_ #[T,X] 0 #[a.eval x,a.eval y]).run P w= .ok (goInt m.length) (w.setRow pl.b (dd cur.toList 0 news).toArray):=by
    have hmin:Nat.min m.length len=m.length:=Nat.min_eq_left hml
    rw[hxv]
    simp only[Nat.add_zero,Nat.zero_add]at hst
    simp[Builtin.copy_,run_underlying hT,hlen,sizeOf,typeInfo,hi,hmin,hfc w rfl,hst,dd]
   have htr:=Trans.setRow w hg (dd cur.toList 0 news).toArray
   have hle:cW (s.env w g β) ((s.bz id (.obj ve false (.d (.arr len t') (m++l.drop m.length)))).env (w.setRow pl.b (dd cur.toList 0 news).toArray) g β):=cW.bz hent (Nat.le_refl _) htr (fun _ _=>rfl) (fun _=>rfl)
   have i1:=h.step (dK _ _ _) htr hle (gz.bz h.bN (by rw[hent];simp) hle (fun _ _=>rfl) (fun i ver fr c pl2 hi hs2 hp2=>⟨setRow_other w pl.b pl2.b _ (h.apart hg hi hs2 hp2),rfl⟩) (pY.obj ⟨pl,_,e0,hp,setRow_heap w pl.b cur _ e0 (0,0) hh,hg,trivial,by
    show V _ (.d (.arr len t') (m++l.drop m.length)) ((dd cur.toList 0 news).toArray.toList.take (dd cur.toList 0 news).toArray.size)
    rw[←Array.length_toList,List.take_length]
    simp only[V,cT]
    refine⟨by rw[List.length_append,List.length_drop];omega,?_⟩
    have e2:dd cur.toList 0 news=news++cur.toList.drop (m.length*t'.size):=by
     simp[dd,hnl]
    have q:bg (cT (s.env w g β) t') (dd cur.toList 0 news) (m++l.drop m.length):=by
     rw[e2]
     exact bg.append hch (bg.drop (fun _ _ hx=>cT.size hx) m.length hVc)
    exact q.mono fun _ _ hx=>hx.mono hle.mem⟩))
   exact fin _ _ hrun ⟨g,β,i1.put o.dst ⟨[.int .i64 (m.length:Int)],by simp only[V,cT],rfl⟩⟩
  ·exact(ak.1 he).elim
 ·exact(ak.1 he).elim
theorem vG(h:Inv C g β s a w){c:Call}{x y:Operand}{T X:TypeId}(ho:o.op= .call c)(hc:c.callee= .builtin .append)(ha:c.args.toList=[x,y])(ht:c.argTypes.toList=[T,X]){s':AS}
  {nl dt:Bool} (he:(kH P s nl dt o.dst T X (s.ev x) (s.ev y)).eval=some s'):eZ P o a w (fQ C s'):=by
 obtain⟨cal,args,tys⟩:=c
 simp only at hc ha ht
 have ha':args= #[x,y]:=by apply Array.ext';simpa using ha
 have ht':tys= #[T,X]:=by apply Array.ext';simpa using ht
 subst hc ha' ht'
 have hx:=h.ev x
 have hy:=h.ev y
 have fin:∀z w',(Builtin.append_ #[T,X] 0 #[a.eval x,a.eval y]).run P w= .ok z w'→(∃g' β',Inv C g' β' s' (a.put o.dst z) w')→eZ P o a w (fQ C s'):=by
  intro z w' h1 h2
  refine .inl ⟨z,w',lE ho (f:=Builtin.append_ #[T,X] 0 #[a.eval x,a.eval y]) (fun ty cs xs hxs=> ?_) h1,h2⟩
  subst hxs
  have e1:Builtin.append_ #[T,X] 0 #[a.eval x,a.eval y]=Builtin.append_ #[T,X] ty #[a.eval x,a.eval y]:=rfl
  rw[e1]
  simp[builtin]
 unfold kH at he
 split at he
 ·rename_i e t b q hel hd
  obtain⟨hT,hz,i,zv,hi,his,hib,hzv,hzr⟩:=iF hel
  obtain⟨m,hm,he⟩:=aw.1 he
  obtain⟨hX,news,hch,hlen,hfc⟩:=qP h hy hm
  have hnl:=hch.length (fun _ _ hx=>cT.size hx)
  have h1news:∀u∈news,u.oneCell'=true:=bg.all (fun _ _ hx=>hx.one) hch
  rw[←his]at hfc
  have hzc:zv.cells.size=t.size:=by have:=(hzr (s.env w g β)).size;simpa using this
  have hzcc:∀n,(Builtin.zeroCells zv.cells n).size=n*t.size:=fun n=>by rw[lp,hzc]
  have grow:∀(ad:Option Addr) (sLen sCap:Nat) (dj:List Value) (l0:List t.den),a.eval x= .slice ad sLen sCap→dj.length=sLen*t.size→l0.length=sLen→bg (cT (s.env w g β) t) dj l0→
    (Builtin.firstCells i.size sLen (.slice ad sLen sCap)).run P w.drew= .ok dj.toArray w.drew→sCap < sLen+m.length→du (sLen+m.length) b=true→
    ∃(cur:Array Value) (cap:Nat),(Builtin.append_ #[T,X] 0 #[a.eval x,a.eval y]).run P w= .ok (.slice (some ⟨w.heap.size,0,none⟩) (sLen+m.length) cap) (w.drew.alloc (.cells cur e))∧
     cur.size=cap*t.size∧sLen+m.length≤cap∧cap≤maxLen∧cur.toList.take ((sLen+m.length)*t.size)=dj++news:=by
   intro ad sLen sCap dj l0 hxv hlo hl0 hco hfo hroom hra
   simp only[du,decide_eq_true_eq]at hra
   have hr:=qv (P:=P) (w:=w) (ty:=0) hT hX hi hzv hfo hlen (hfc w.drew rfl) hroom (by omega) (by rw[hib];exact hra.1)
   rw[hxv]
   refine⟨_,_,hr,?_,grownCap_ge _ _ _ _,grownCap_le_maxLen _ _ _ _ (by unfold maxLen;omega),?_⟩
   ·have hge:=grownCap_ge w (sLen+m.length) sCap e
    simp only[Array.size_append,List.size_toArray,hzcc,hlo,hnl,←Nat.add_mul]
    congr 1
    omega
   ·have hl2:(dj++news).length=(sLen+m.length)*t.size:=by rw[List.length_append,hlo,hnl,Nat.add_mul]
    simp only[Array.toList_append]
    rw[←hl2]
    exact List.take_left
  split at he
  ·rename_i hxn
   rw[hxn]at hx
   have hxv:=gQ hx
   cases dt with
   |true=>
    simp only at he
    obtain⟨hra,he⟩:=bF.1 he
    obtain rfl:=ax.1 he
    simp only[Bool.and_eq_true,decide_eq_true_eq]at hra
    obtain⟨hra,hm0⟩:=hra
    obtain⟨cur,cap,hr,q1,q2,q3,q4⟩:=grow none 0 0 [] [] hxv (by simp) rfl rfl rfl (by omega) (by simpa using hra)
    simp only[Nat.zero_add,List.nil_append]at hr q2 q4
    have hch1:bg (cT (s.env w.drew g β) t) news m:=hch.mono fun _ _ hx=>hx.mono (cW.same (s:=s) (β:=β) (Trans.drew w g)).mem
    refine fin _ _ hr ⟨iM g w.heap.size .free,β,(h.drew.nT (.cells cur e)).put o.dst ⟨[.slice (some ⟨w.heap.size,0,none⟩) m.length cap],?_,rfl⟩⟩
    simp only[V,cT]
    refine⟨fun h0=>(by cases h0),fun m' hm'=> ?_⟩
    obtain rfl:m=m':=Option.some.inj hm'
    refine⟨_,cap,cur.toList.take (m.length*t.size),rfl,q2,fun _=>rfl,fun j v hj=>⟨_,_,rfl,?_,?_⟩,?_⟩
    ·show(w.drew.alloc (.cells cur e)).cell? ⟨w.drew.heap.size,0+j,none⟩=some v
     rw[World.cell?_alloc_new,Nat.zero_add]
     rw[List.getElem?_take]at hj
     split at hj
     ·simpa using hj
     ·cases hj
    ·show kf (iM g w.heap.size .free) w.heap.size (0+j)
     unfold kf;rw[fa];trivial
    ·rw[q4]
     exact hch1.mono fun _ _ hx=>hx.mono (Trans.mem (E:=s.env w.drew g β) (E':=s.env (w.drew.alloc (.cells cur e)) (iM g w.drew.heap.size .free) β) (Trans.alloc w.drew g (.cells cur e) .free))
   |false=>
   simp only at he
   obtain⟨hq,he⟩:=aE.1 he
   obtain⟨hra,he⟩:=bF.1 he
   obtain rfl:=ax.1 he
   by_cases hm0:m.length=0
   ·have hmn:m=[]:=List.eq_nil_of_length_eq_zero hm0
    subst hmn
    have hnn:news=[]:=List.eq_nil_of_length_eq_zero (by rw[hnl];simp)
    subst hnn
    obtain⟨β',i1,e1,v1⟩:=h.Bk hq (e:=e) hz
    refine fin (.slice none 0 0) w ?_ ⟨g,β',?_⟩
    ·rw[hxv]
     exact mU (P:=P) hT hX hi hlen (hfc w rfl)
    ·exact i1.put o.dst v1
   ·obtain⟨cur,cap,hr,q1,q2,q3,q4⟩:=grow none 0 0 [] [] hxv (by simp) rfl rfl rfl (by omega) (by simpa using hra)
    simp only[Nat.zero_add,List.nil_append]at hr q2 q4
    obtain⟨g2,β2,i2,v2⟩:=(h.drew).uY hq (e:=e) (l:=m) (cur:=cur) (cap:=cap) hz (by rw[q4];exact hch.mono fun _ _ hx=>hx.mono (cW.same (s:=s) (β:=β) (Trans.drew w g)).mem) q1 q2 q3
    refine fin _ _ hr ⟨g2,β2,?_⟩
    exact i2.put o.dst v2
  ·rename_i id ver len hxs
   rw[hxs]at hx
   obtain⟨ad,cap,hxv,hlc,hsome,hbnd,hcur⟩:=j4 hx
   split at he
   ·rename_i v fr e' t' l hob
    obtain⟨h1,he1⟩:=aE.1 he
    clear he
    simp only[Bool.and_eq_true,beq_iff_eq]at h1
    obtain⟨hve,hee⟩:=h1
    subst hve hee
    obtain⟨l',hl',he2⟩:=aw.1 he1
    obtain⟨et,hl'⟩:=fV (gg.1 hl')
    have et':t'=t:=by simpa using et
    subst et'
    simp only at hl'
    subst hl'
    obtain⟨hll0,he2b⟩:=bF.1 he2
    have hll0:len≤l.length:=by simpa using hll0
    obtain⟨hfl,he3⟩:=bF.1 he2b
    obtain⟨hra,he4⟩:=bF.1 he3
    obtain rfl:=ax.1 he4
    clear he1 he2 he2b he3 he4
    have hent:=eB hob
    have hcur:=hcur ⟨fr,_,hent⟩
    obtain⟨_,hO⟩:=h.bN id v fr _ hent
    have hO':(match β id with
     |none=>l=[]
     |some pl=>∃cur k,w.heap[pl.b]? =some (.cells cur e (0,0))∧cur.size=pl.cap*t'.size∧l.length≤pl.cap∧pl.cap≤maxLen∧g pl.b= .own (.id id) k∧
       k≤l.length*t'.size∧(fr=false→k=0)∧bg (cT (s.env w g β) t') (cur.toList.take (l.length*t'.size)) l):=hO
    have hcur':(match β id with
     |some pl=>(0 < len∨0=0→ad=some ⟨pl.b,0,none⟩)∧(([]:List pa)=[]→0=0→cap=pl.cap)
     |none=>ad=none∧len=0∧cap=0):=hcur
    have hfr:fr=false∨len=l.length:=by
     simp only[Bool.or_eq_true,Bool.not_eq_true',decide_eq_true_eq]at hfl
     exact hfl
    have hne:s.ck id≠none:=by rw[hent];simp
    have fresh:∀(cur:Array Value) (cp:Nat) (g0:Nat→ix),Trans w (w.drew.alloc (.cells cur e)) g (iM g0 w.heap.size (.own (.id (id)) 0))→
      (∀i ver fr c pl,i≠id→s.ck i=some (.obj ver fr c)→β i=some pl→g0 pl.b=g pl.b)→cur.size=cp*t'.size→len+m.length≤cp→cp≤maxLen→
      bg (cT (s.env w g β) t') (cur.toList.take ((len+m.length)*t'.size)) (l.take len++m)→len≤l.length→
      ∃g' β',Inv C g' β' ((s.bz id (.obj (v+1) fr (.vec e t' (l.take len++m)))).put o.dst (.bU id (v+1) [] 0 0 (len+m.length))) (a.put o.dst (.slice (some ⟨w.heap.size,0,none⟩) (len+m.length) cp)) (w.drew.alloc (.cells cur e)):=by
     intro cur cp g0 ht hg0 q1 q2 q3 q4 q5
     have hll:(l.take len++m).length=len+m.length:=by simp;omega
     have hle:cW (s.env w g β) ((s.bz id (.obj (v+1) fr (.vec e t' (l.take len++m)))).env (w.drew.alloc (.cells cur e)) (iM g0 w.heap.size (.own (.id id) 0)) (o3 β id (some ⟨w.heap.size,cp⟩))):=
      cW.bz hent (by omega) ht (fun i hi=>mM _ _ _ hi) (fun hh=>by omega)
     have i1:=h.step (dK _ _ _) ht hle (gz.bz h.bN hne hle (fun i hi=>mM _ _ _ hi) (fun i ver fr' c' pl hi hs2 hp2=>by
       have hlt:pl.b < w.heap.size:=((h.bN i ver fr' c' hs2).label (pl:=pl) hp2).1
       exact⟨lT w.drew _ hlt,by rw[fv _ _ _ (by omega)];exact hg0 i ver fr' c' pl hi hs2 hp2⟩) (by
      refine⟨hz,?_⟩
      show(match o3 β id (some ⟨w.heap.size,cp⟩) id with
       |none=>(l.take len++m)=[]
       |some pl=>_)
      rw[iv]
      refine⟨cur,0,lS w.drew _,q1,by rw[hll];exact q2,q3,fa _ _ _,Nat.zero_le _,fun _=>rfl,?_⟩
      rw[hll]
      exact q4.mono fun _ _ hx=>hx.mono hle.mem))
     refine⟨_,_,i1.put o.dst ⟨_,?_,rfl⟩⟩
     simp only[V]
     have hself:=eS s id (.obj (v+1) fr (.vec e t' (l.take len++m))) hne
     refine⟨_,_,rfl,q2,fun _=>rfl,⟨by show(s.bz id _).ck id≠none;rw[hself];simp,fun v' fr' c' hh=> ?_⟩,fun _=> ?_⟩
     ·have hh':(s.bz id (.obj (v+1) fr (.vec e t' (l.take len++m)))).ck id=some (.obj v' fr' c'):=hh
      rw[hself]at hh'
      simp only[Option.some.injEq,eP.obj.injEq]at hh'
      omega
     ·show(match o3 β id (some ⟨w.heap.size,cp⟩) id with
       |some pl=>_
       |none=>_)
      rw[iv]
      exact⟨fun _=>rfl,fun _ _=>rfl⟩
    cases hp:β id with
    |none=>
     rw[hp]at hO' hcur'
     simp only at hO' hcur'
     obtain⟨rfl,rfl,rfl⟩:=hcur'
     subst hO'
     by_cases hm0:m.length=0
     ·have hmn:m=[]:=List.eq_nil_of_length_eq_zero hm0
      subst hmn
      have hnn:news=[]:=List.eq_nil_of_length_eq_zero (by rw[hnl];simp)
      subst hnn
      have ht:=Trans.refl w g
      have hle:cW (s.env w g β) ((s.bz id (.obj (v+1) fr (.vec e t' []))).env w g β):=cW.bz hent (by omega) ht (fun _ _=>rfl) (fun _=>rfl)
      have i1:=h.step (dK _ _ _) ht hle (gz.bz h.bN hne hle (fun _ _=>rfl) (fun _ _ _ _ _ _ _ _=>⟨rfl,rfl⟩) (by
       refine⟨hz,?_⟩
       show(match β id with
        |none=>([]:List t'.den)=[]
        |some pl=>_)
       rw[hp]))
      refine fin (.slice none 0 0) w ?_ ⟨g,β,i1.put o.dst ⟨_,?_,rfl⟩⟩
      ·rw[hxv]
       exact mU (P:=P) hT hX hi hlen (hfc w rfl)
      ·simp only[V]
       have hself:=eS s id (.obj (v+1) fr (.vec e t' [])) hne
       refine⟨_,_,rfl,Nat.le_refl _,fun hh=>by simp at hh,⟨by show(s.bz id _).ck id≠none;rw[hself];simp,fun v' fr' c' hh=> ?_⟩,fun _=> ?_⟩
       ·have hh':(s.bz id (.obj (v+1) fr (.vec e t' []))).ck id=some (.obj v' fr' c'):=hh
        rw[hself]at hh'
        simp only[Option.some.injEq,eP.obj.injEq]at hh'
        omega
       ·show(match β id with
         |some pl=>_
         |none=>_)
        rw[hp]
        exact⟨rfl,by simp,rfl⟩
     ·obtain⟨cur,cp,hr,q1,q2,q3,q4⟩:=grow none 0 0 [] [] hxv (by simp) rfl rfl rfl (by omega) hra
      refine fin _ _ hr (fresh cur cp g (Trans.trans (Trans.drew w g) (Trans.alloc w.drew g _ _)) (fun _ _ _ _ _ _ _ _=>rfl) q1 q2 q3 ?_ (by simp))
      rw[q4]
      simpa using hch
    |some pl=>
     rw[hp]at hO' hcur'
     simp only at hO' hcur'
     obtain⟨had,hcap⟩:=hcur'
     have had:=had (.inr trivial)
     have hcap:=hcap trivial trivial
     subst had hcap
     obtain⟨cur,k,p1,p2,p3,p4,p5,p6,p7,p8⟩:=hO'
     have hk:k≤len*t'.size:=by
      rcases hfr with hf | hf
      ·rw[p7 hf];exact Nat.zero_le _
      ·rw[hf];exact p6
     have hmul:len*t'.size≤l.length*t'.size:=Nat.mul_le_mul_right _ hll0
     have hmulc:l.length*t'.size≤cur.size:=by rw[p2];exact Nat.mul_le_mul_right _ p3
     have htk:=bg.take (fun _ _ hx=>cT.size hx) len p8
     rw[List.take_take,Nat.min_eq_left hmul]at htk
     have hlo:(cur.toList.take (len*t'.size)).length=len*t'.size:=by simp;omega
     by_cases hroom:len+m.length≤pl.cap
     ·have hrm:(len+m.length)*t'.size≤cur.size:=by rw[p2];exact Nat.mul_le_mul_right _ hroom
      have hfit:len*i.size+news.length≤cur.size:=by rw[his,hnl,←Nat.add_mul];exact hrm
      have hr:=qw (P:=P) (w:=w) (ty:=0) hT hX hi p1 h1news hlen (hfc w rfl) hroom hfit
      rw[his]at hr hfit
      have ht:Trans w (w.setRow pl.b (dd cur.toList (len*t'.size) news).toArray) g g:=by
       refine⟨by simp,by simp,by simp,by simp,fun b' hb=> ?_⟩
       by_cases hbe:b'=pl.b
       ·subst hbe
        rw[p5]
        refine⟨.inr ⟨id,k,rfl,Nat.le_refl _⟩,fun off u hoff hu=> ?_⟩
        rw[cell_of_row w pl.b off cur e (0,0) p1]at hu
        rw[cell_setRow_same w pl.b off cur _ e (0,0) p1]
        simp only[dd,List.append_assoc,List.getElem?_toArray]
        rw[List.getElem?_append_left (by rw[hlo];omega),List.getElem?_take,if_pos (by omega)]
        simpa using hu
       ·rw[setRow_other w pl.b b' _ hbe]
        cases hgb:g b' with
        |free=>exact⟨rfl,rfl⟩
        |own o' k=>cases o' with
         |eQ=>exact⟨rfl,rfl⟩
         |id i'=>exact⟨.inr ⟨i',k,rfl,Nat.le_refl _⟩,fun off v _ hv=>by rw[cell_setRow_other w pl.b _ _ hbe];exact hv⟩
      have hle:cW (s.env w g β) ((s.bz id (.obj (v+1) fr (.vec e t' (l.take len++m)))).env (w.setRow pl.b (dd cur.toList (len*t'.size) news).toArray) g β):=
       cW.bz hent (by omega) ht (fun _ _=>rfl) (fun _=>rfl)
      have hll:(l.take len++m).length=len+m.length:=by simp;omega
      have hspl:(dd cur.toList (len*t'.size) news).length=cur.toList.length:=fW (by simpa using hfit)
      have i1:=h.step (dK _ _ _) ht hle (gz.bz h.bN hne hle (fun _ _=>rfl) (fun i ver fr c pl2 hi hs2 hp2=>⟨setRow_other w pl.b pl2.b _ (h.apart p5 hi hs2 hp2),rfl⟩) (by
       refine⟨hz,?_⟩
       show(match β id with
        |none=>(l.take len++m)=[]
        |some pl=>_)
       rw[hp]
       refine⟨_,k,setRow_heap w pl.b cur _ e (0,0) p1,by rw[List.size_toArray,hspl];simpa using p2,by rw[hll];exact hroom,p4,p5,?_,p7,?_⟩
       ·rw[hll,Nat.add_mul];omega
       ·rw[hll,show(dd cur.toList (len*t'.size) news).toArray.toList=dd cur.toList (len*t'.size) news from rfl]
        have e1:(dd cur.toList (len*t'.size) news).take ((len+m.length)*t'.size)=cur.toList.take (len*t'.size)++news:=by
         unfold dd
         have hl2:(cur.toList.take (len*t'.size)++news).length=(len+m.length)*t'.size:=by rw[List.length_append,hlo,hnl,Nat.add_mul]
         rw[←hl2]
         exact List.take_left
        rw[e1]
        exact(bg.append htk hch).mono fun _ _ hx=>hx.mono hle.mem))
      rw[←hxv]at hr
      refine fin _ _ hr ⟨g,β,i1.put o.dst ⟨_,?_,rfl⟩⟩
      simp only[V]
      have hself:=eS s id (.obj (v+1) fr (.vec e t' (l.take len++m))) hne
      refine⟨_,_,rfl,hroom,fun _=>rfl,⟨by show(s.bz id _).ck id≠none;rw[hself];simp,fun v' fr' c' hh=> ?_⟩,fun _=> ?_⟩
      ·have hh':(s.bz id (.obj (v+1) fr (.vec e t' (l.take len++m)))).ck id=some (.obj v' fr' c'):=hh
       rw[hself]at hh'
       simp only[Option.some.injEq,eP.obj.injEq]at hh'
       omega
      ·show(match β id with
        |some pl=>_
        |none=>_)
       rw[hp]
       exact⟨fun _=>rfl,fun _ _=>rfl⟩
     ·have hfo:(Builtin.firstCells i.size len (.slice (some ⟨pl.b,0,none⟩) len pl.cap)).run P w.drew= .ok (cur.toList.take (len*t'.size)).toArray w.drew:=by
       refine run_firstCells_some (P:=P) w.drew i.size _ _ _ _ _ (by rw[hlo,his]) (fun j u hj=> ?_)
       rw[Addr.add_lit,Nat.zero_add]
       show w.cell? ⟨pl.b,j,none⟩=some u
       rw[cell_of_row w pl.b j cur e (0,0) p1]
       rw[List.getElem?_take]at hj
       split at hj
       ·simpa using hj
       ·cases hj
      obtain⟨cur2,cp,hr,q1,q2,q3,q4⟩:=grow (some ⟨pl.b,0,none⟩) len pl.cap (cur.toList.take (len*t'.size)) (l.take len) hxv hlo (by simp;omega) htk hfo (by omega) hra
      have hlt:pl.b < w.heap.size:=(Array.getElem?_eq_some_iff.1 p1).1
      have hfree:Trans w w.drew g (iM g pl.b .free):=by
       refine⟨rfl,rfl,rfl,Nat.le_refl _,fun b' hb=> ?_⟩
       by_cases hbe:b'=pl.b
       ·subst hbe
        rw[p5,fa]
        exact⟨.inl rfl,fun _ _ _ hh=>hh⟩
       ·rw[fv _ _ _ hbe]
        exact(Trans.drew w g).zu b' hb
      refine fin _ _ hr (fresh cur2 cp (iM g pl.b .free) (Trans.trans hfree (Trans.alloc w.drew _ _ _)) (fun i ver fr c pl2 hi hs2 hp2=>fv _ _ _ (h.apart p5 hi hs2 hp2)) q1 q2 q3 ?_ hll0)
      rw[q4]
      exact bg.append htk hch
   ·simp only[ak]at he
  ·simp only[ak]at he
 ·simp only[ak]at he
end
end Go.Ab
namespace Go.Ab
abbrev xt:=Id→Nat→Option (Id×Nat)
structure mP(ρ:xt)(E E':Env):Prop where
 mem:lr E E'
 ref:∀id ver r,ρ id ver=some r→E.rf id ver→E'.rf r.1 r.2∧(E'.cur r.1 r.2→E.cur id ver∧E'.β r.1=E.β id)
theorem zf(ρ:xt)(a:aC):(a.fZ ρ).agg=a.agg:=by
 cases a with
 |ptr id v p n=>simp only[aC.fZ];cases ρ id v <;> rfl
 |bU id v p c i l=>simp only[aC.fZ];cases ρ id v <;> rfl
 |jt id v=>simp only[aC.fZ];cases ρ id v <;> rfl
 |_=>rfl
mutual
theorem vz{ρ:xt}{E E':Env}(h:mP ρ E E'):∀ {a:aC} {cs:List Value},V E a cs→V E' (a.fZ ρ) cs
 | .undef,_,hv=>by simp only[V]at hv
 | .gone,_,hv=>by simpa only[aC.fZ,V]using hv
 | .da,_,hv=>by simpa only[aC.fZ,V]using hv
 | .kc,_,hv=>by simpa only[aC.fZ,V]using hv
 | .ka,_,hv=>by simpa only[aC.fZ,V]using hv
 | .lJ,_,hv=>by simpa only[aC.fZ,V]using hv
 | .sb l,_,hv=>by
  simp only[aC.fZ,V]at hv ⊢
  obtain⟨b,cap,arr,e,h1,h2,h3,h4,h5⟩:=hv
  obtain⟨h6,h7⟩:=h.mem.fz b _ h3 h4
  exact⟨b,cap,arr,e,h1,h2,h6,h7,h5⟩
 | .d t x,_,hv=>by simp only[aC.fZ,V]at hv ⊢;exact hv.mono h.mem
 | .pr a b,_,hv=>by
  simp only[aC.fZ,V]at hv ⊢
  obtain⟨ca,cb,e,ha,hb⟩:=hv
  exact⟨ca,cb,e,vz h ha,vz h hb⟩
 | .ptr id ver p n,_,hv=>by
  have h1:=hv.one
  simp only[aC.fZ]
  cases hr:ρ id ver with
  |none=>
   simp only[V]at hv ⊢
   obtain⟨a,e,_⟩:=hv
   exact⟨_,e,h1 _ (by simp[e])⟩
  |some r=>
   simp only[V]at hv ⊢
   obtain⟨a,e,hb,hc⟩:=hv
   obtain⟨b1,b2⟩:=h.ref id ver r hr hb
   refine⟨a,e,b1,fun c=> ?_⟩
   obtain⟨c1,e1⟩:=b2 c
   rw[e1];exact hc c1
 | .ej t x,_,hv=>by
  simp only[aC.fZ,V]at hv ⊢
  obtain⟨b,off,vs,e,hr,hx⟩:=hv
  exact⟨b,off,vs,e,hr.mono h.mem,hx.mono h.mem⟩
 | .bU id ver p c i len,_,hv=>by
  have h1:=hv.one
  simp only[aC.fZ]
  cases hr:ρ id ver with
  |none=>
   simp only[V]at hv ⊢
   obtain⟨a,cap,e,_⟩:=hv
   exact⟨_,e,h1 _ (by simp[e])⟩
  |some r=>
   simp only[V]at hv ⊢
   obtain⟨a,cap,e,hl,hs,hb,hc⟩:=hv
   obtain⟨b1,b2⟩:=h.ref id ver r hr hb
   refine⟨a,cap,e,hl,hs,b1,fun c=> ?_⟩
   obtain⟨c1,e1⟩:=b2 c
   rw[e1];exact hc c1
 | .fn f c,_,hv=>by
  simp only[aC.fZ,V]at hv ⊢
  obtain⟨vs,e,hc⟩:=hv
  exact⟨vs,e,xv h hc⟩
 | .cons _ _,_,hv=>by simp only[V]at hv
 | .nil,_,hv=>by simp only[V]at hv
 | .vec ..,_,hv=>by simp only[V]at hv
 | .bx ..,_,hv=>by simp only[V]at hv
 | .jt id ver,_,hv=>by
  have h1:=hv.one
  simp only[aC.fZ]
  cases hr:ρ id ver with
  |none=>
   simp only[V]at hv ⊢
   obtain⟨b,e,_⟩:=hv
   exact⟨_,e,h1 _ (by simp[e])⟩
  |some r=>
   simp only[V]at hv ⊢
   obtain⟨b,e,hb,hc⟩:=hv
   obtain⟨b1,b2⟩:=h.ref id ver r hr hb
   refine⟨b,e,b1,fun c=> ?_⟩
   obtain⟨c1,e1⟩:=b2 c
   rw[e1];exact hc c1
 | .mp ..,_,hv=>by simp only[V]at hv
theorem xv{ρ:xt}{E E':Env}(h:mP ρ E E'):∀ {a:aC} {vs:List Value},VC E a vs→VC E' (a.fZ ρ) vs
 | .nil,_,hv=>by simpa only[aC.fZ,VC]using hv
 | .cons a b,_,hv=>by
  simp only[aC.fZ,VC]at hv ⊢
  obtain⟨v,vs',cs,e,ha,ho,hb⟩:=hv
  exact⟨v,vs',cs,e,vz h ha,by rw[zf];exact ho,xv h hb⟩
 | .undef,_,hv=>by simp only[VC]at hv
 | .gone,_,hv=>by simp only[VC]at hv
 | .da,_,hv=>by simp only[VC]at hv
 | .kc,_,hv=>by simp only[VC]at hv
 | .ka,_,hv=>by simp only[VC]at hv
 | .lJ,_,hv=>by simp only[VC]at hv
 | .sb _,_,hv=>by simp only[VC]at hv
 | .d t x,_,hv=>by simp only[VC]at hv
 | .pr a b,_,hv=>by simp only[VC]at hv
 | .ptr ..,_,hv=>by simp only[VC]at hv
 | .ej ..,_,hv=>by simp only[VC]at hv
 | .bU ..,_,hv=>by simp only[VC]at hv
 | .fn ..,_,hv=>by simp only[VC]at hv
 | .vec ..,_,hv=>by simp only[VC]at hv
 | .bx ..,_,hv=>by simp only[VC]at hv
 | .jt ..,_,hv=>by simp only[VC]at hv
 | .mp ..,_,hv=>by simp only[VC]at hv
end
theorem rA{ρ:xt}{E E':Env}(h:mP ρ E E'){a:aC}{v:Value}(hv:VS E a v):VS E' (a.fZ ρ) v:=by
 by_cases hc:a.eE=true
 ·obtain⟨cs,h1,h2⟩:=hv.eE hc
  exact VS.of (vz h h1) (by rw[zf];exact h2)
 ·cases a <;> first | (exact absurd rfl hc) | skip
  ·trivial
  ·obtain⟨vs,e,hvc⟩:=hv
   have:=xv h hvc
   simp only[aC.fZ]at this ⊢
   exact⟨vs,e,this⟩
  ·exact hv
  ·obtain⟨cs,h1,_⟩:=hv
   simp only[V]at h1
  ·obtain⟨cs,h1,_⟩:=hv
   simp only[V]at h1
  ·obtain⟨cs,h1,_⟩:=hv
   simp only[V]at h1
theorem Af(ρ:xt)(c:aC):(c.fZ ρ).strip=c.strip.fZ ρ:=by
 cases c <;> first
  |rfl
  | (rename_i id ver p n;simp only[aC.strip,aC.fZ];cases ρ id ver <;> rfl)
  | (rename_i id ver p c i len;simp only[aC.strip,aC.fZ];cases ρ id ver <;> rfl)
  | (rename_i i v;simp only[aC.strip,aC.fZ];cases ρ i v <;> rfl)
theorem pS(ρ:xt):∀c:aC,(c.fZ ρ).size=c.size
 | .pr a b=>by simp only[aC.fZ,aC.size,pS ρ a,pS ρ b]
 | .ptr id ver p n=>by simp only[aC.fZ];cases ρ id ver <;> rfl
 | .bU id ver p c i len=>by simp only[aC.fZ];cases ρ id ver <;> rfl
 | .jt id ver=>by simp only[aC.fZ];cases ρ id ver <;> rfl
 | .undef | .gone | .da | .kc | .ka | .lJ | .d _ _ | .ej _ _ | .fn _ _ | .cons _ _ | .nil | .vec .. | .sb _ | .bx .. | .mp .. =>rfl
theorem AG(ρ:xt){c:aC}(n:Nat):(c.fZ ρ).ku n=c.ku n:=by
 cases c with
 |bx e z c=>cases z with
  |zero=>rfl
  |succ z=>exact pS ρ c
 |_=>first | rfl | (simp only[aC.fZ];split <;> rfl)
theorem zx(ρ:xt){c:aC}{pl:Pl}{n:Nat}{e:TypeId}(h:c.nk pl n e):(c.fZ ρ).nk pl n e:=by
  cases c <;> first
    | (rename_i e' z c;cases z with
       |zero=>exact h
       |succ z=>exact⟨h.1,h.2.1,h.2.2.1,by rw[pS];exact h.2.2.2⟩)
    |exact h
    |trivial
    | (rename_i id ver p n;simp only[aC.fZ];cases ρ id ver <;> trivial)
    | (rename_i id ver p c i len;simp only[aC.fZ];cases ρ id ver <;> trivial)
    | (rename_i i v;simp only[aC.fZ];cases ρ i v <;> trivial)
theorem lQ{ρ:xt}{E E':Env}(h:mP ρ E E'){id id':Id}{fr:Bool}{c:aC}(ho:mh E id fr c)(hβ:E'.β id'=E.β id)
  (hb:∀pl,E.β id=some pl→E'.w.heap[pl.b]? =E.w.heap[pl.b]? ∧(∀k,E.g pl.b= .own (.id id) k→E'.g pl.b= .own (.id id') k)∧(E.g pl.b= .free→E'.g pl.b= .free)):mh E' id' fr (c.fZ ρ):=by
 by_cases hn:c.fM=false
 ·obtain⟨pl,cur,e,h1,h2,h3,h5,h4⟩:=ho.box hn
  obtain⟨b1,b2,b3⟩:=hb pl h1
  have h6:=vz h h4
  refine pY.obj ⟨pl,cur,e,by rw[hβ,h1],by rw[b1,h2],?_,zx ρ h5,by rw[Af,AG];exact h6⟩
  cases fr with
  |true=>exact b3 h3
  |false=>exact b2 0 h3
 ·cases c <;> first
   | (exact absurd rfl hn)
   |skip
  rotate_left
  ·obtain⟨pl,es,clock,h1,h2,h3,h4⟩:=ho
   obtain⟨b1,b2,_⟩:=hb pl h1
   exact⟨pl,es,clock,by rw[hβ,h1],by rw[b1,h2],b2 0 h3,h4.mono fun _ _ he=>he.mono h.mem⟩
  rename_i e t l
  obtain⟨hz,ho⟩:=ho
  refine⟨hz,?_⟩
  rw[hβ]
  cases hp:E.β id with
  |none=>rw[hp]at ho;exact ho
  |some pl=>
   rw[hp]at ho
   simp only at ho ⊢
   obtain⟨b1,b2,_⟩:=hb pl hp
   obtain⟨cur,k,h1,h2,h3,h4,h5,h6,h7,h8⟩:=ho
   exact⟨cur,k,by rw[b1,h1],h2,h3,h4,b2 k h5,h6,h7,h8.mono fun c x hx=>hx.mono h.mem⟩
def o8(E:Env):List aC→List Value→Prop
 |[],[]=>True
 |a::as,v::vs=>VS E a v∧o8 E as vs
 |_,_=>False
def aZ.st(G:aZ):AS:= {cl:=[],dj:=G.dj,news:=[G.news]}
def iy(dj:List eP):AS:= {cl:=[],dj,news:=[]}
def na(E:Env)(G:aZ)(v:Value)(w':World):Prop:=
 ∃g' β',VS (G.st.env w' g' β') G.val v∧gz (G.st.env w' g' β')∧Trans E.w w' E.g g'∧cW E (G.st.env w' g' β')
def lP(P:Program)(f:FuncId)(en:Entry):Prop:=
 ∀w g β args dj jz x,o8 ((iy dj).env w g β) args jz→gz ((iy dj).env w g β)→en.run args dj=some x→
  ((callFunc f jz.toArray).run P w= .ok (.enter f jz.toArray) w∧
   Calls P f jz.toArray w fun e w'=>∃v,e= .returned v∧na ((iy dj).env w g β) (en.out args dj x) v w')∨
  (∃v w',(callFunc f jz.toArray).run P w= .ok (.value v) w'∧na ((iy dj).env w g β) (en.out args dj x) v w')
def Sound(P:Program)(Γ:dV):Prop:=∀f vs en,Γ f vs=some en→lP P f en
theorem o8.mono{E E':Env}(h:cW E E'):∀ {as:List aC} {vs:List Value},o8 E as vs→o8 E' as vs
 |[],[],_=>trivial
 |_::_,_::_,⟨h1,h2⟩=>⟨h1.mono h,o8.mono h h2⟩
theorem o8.fZ{ρ:xt}{E E':Env}(h:mP ρ E E'):∀ {as:List aC} {vs:List Value},o8 E as vs→o8 E' (as.map (aC.fZ ρ)) vs
 |[],[],_=>trivial
 |_::_,_::_,⟨h1,h2⟩=>⟨rA h h1,o8.fZ h h2⟩
theorem o8.append{E:Env}:∀ {as:List aC} {vs:List Value} {bs:List aC} {us:List Value},o8 E as vs→o8 E bs us→o8 E (as++bs) (vs++us)
 |[],[],_,_,_,h=>h
 |_::_,_::_,_,_,⟨h1,h2⟩,h=>⟨h1,o8.append h2 h⟩
theorem Aw{E:Env}:∀ {c:aC} {vs:List Value},VC E c vs→o8 E c.list vs
 | .cons a b,vs,h=>by
  simp only[VC]at h
  obtain⟨v,vs',cs,rfl,ha,ho,hb⟩:=h
  exact⟨VS.of ha ho,Aw hb⟩
 | .nil,vs,h=>by
  simp only[VC]at h
  subst h
  trivial
 | .undef,_,hv=>by simp only[VC]at hv
 | .gone,_,hv=>by simp only[VC]at hv
 | .da,_,hv=>by simp only[VC]at hv
 | .kc,_,hv=>by simp only[VC]at hv
 | .ka,_,hv=>by simp only[VC]at hv
 | .lJ,_,hv=>by simp only[VC]at hv
 | .sb _,_,hv=>by simp only[VC]at hv
 | .d t x,_,hv=>by simp only[VC]at hv
 | .pr a b,_,hv=>by simp only[VC]at hv
 | .ptr ..,_,hv=>by simp only[VC]at hv
 | .ej ..,_,hv=>by simp only[VC]at hv
 | .bU ..,_,hv=>by simp only[VC]at hv
 | .fn ..,_,hv=>by simp only[VC]at hv
 | .vec ..,_,hv=>by simp only[VC]at hv
 | .bx ..,_,hv=>by simp only[VC]at hv
 | .jt ..,_,hv=>by simp only[VC]at hv
 | .mp ..,_,hv=>by simp only[VC]at hv
theorem Inv.Fa{C:Ctx}{g:Nat→ix}{β:Id→Option Pl}{s:AS}{a:Act}{w:World}(h:Inv C g β s a w):∀l:List Operand,o8 (s.env w g β) (l.map s.ev) (l.map a.eval)
 |[]=>trivial
 |x::l=>⟨h.ev x,h.Fa l⟩
theorem rF{E E':Env}{s:AS}(hs:E.s=s.ck)(ho:gz E)(he:cW E E'):∀(ps:List (Option Ty)) (vs:List aC) (ys:List Value) (r:List aC×List Id),o8 E vs ys→(s.conv ps vs).eval=some r→DP E E' r.2→o8 E' r.1 ys
 |[],[],ys,r,hv,h,_=>by
  simp only[AS.conv,ax]at h
  subst h
  cases ys with
  |nil=>trivial
  |cons _ _=>exact hv.elim
 |some t::ps,v::vs,y::ys,r,⟨hv,hvs⟩,h,hf=>by
  simp only[AS.conv]at h
  obtain⟨x,h1,h2⟩:=aw.1 h
  obtain⟨r',h3,h4⟩:=aw.1 h2
  obtain rfl:=ax.1 h4
  obtain⟨cs,hV,hO⟩:=hv.eE (lC h1)
  refine⟨VS.of (cs:=cs) ?_ ?_,rF hs ho he ps vs ys r' hvs h3 fun id hid=>hf id (List.mem_append.2 (.inr hid))⟩
  ·simp only[V]
   exact kp hs ho he v t x cs hV h1 fun id hid=>hf id (List.mem_append.2 (.inl hid))
  ·show fe t.agg cs y
   rw[←sQ h1];exact hO
 |none::ps,v::vs,y::ys,r,⟨hv,hvs⟩,h,hf=>by
  simp only[AS.conv]at h
  obtain⟨r',h3,h4⟩:=aw.1 h
  obtain rfl:=ax.1 h4
  exact⟨hv.mono he,rF hs ho he ps vs ys r' hvs h3 hf⟩
 |[],_::_,_,_,_,h,_=>by simp only[AS.conv,ak]at h
 |some _::_,[],_,_,_,h,_=>by simp only[AS.conv,ak]at h
 |none::_,[],_,_,_,h,_=>by simp only[AS.conv,ak]at h
end Go.Ab
namespace Go.Ab
theorem iW{id:Id}:∀ {ids:List Id} {k:Nat},idxOf id ids=some k→ids[k]? =some id
 |[],_,h=>by simp[idxOf]at h
 |x::xs,k,h=>by
  simp only[idxOf]at h
  split at h
  ·rename_i e
   simp only[Option.some.injEq]at h
   subst h e
   rfl
  ·simp only[Option.map_eq_some_iff]at h
   obtain⟨j,hj,rfl⟩:=h
   simpa using iW hj
theorem lz{id:Id}:∀ {ids:List Id} {k:Nat},ids.Nodup→ids[k]? =some id→idxOf id ids=some k
 |[],_,_,h=>by simp at h
 |x::xs,0,hn,h=>by
  simp only[List.getElem?_cons_zero,Option.some.injEq]at h
  simp[idxOf,h]
 |x::xs,k+1,hn,h=>by
  simp only[List.getElem?_cons_succ]at h
  obtain⟨h1,h2⟩:=List.nodup_cons.1 hn
  have hne:x≠id:=fun e=>h1 (e▸List.mem_of_getElem? h)
  simp[idxOf,hne,lz h2 h]
theorem lN(s0:AS)(all:List Id)(t:Nat):∀(ids:List Id) (es:List eP) (s:AS),(AS.fU s0 all t s ids es).cl=s.cl
 |[],_,_=>by simp[AS.fU]
 |_::_,[],_=>by simp[AS.fU]
 |id::ids,e::es,s=>by rw[AS.fU,lN s0 all t ids es,dK]
theorem sK(s:AS)(ids:List Id)(t:Nat)(es:List eP):(s.made ids t es).cl=s.cl:=by cases es <;> rfl
theorem nu(s0:AS)(all:List Id)(t:Nat):∀(ids:List Id) (es:List eP) (s:AS),ids.Nodup→es.length=ids.length→(∀id∈ids,s.ck id≠none)→
  (∀id,id ∉ ids→(AS.fU s0 all t s ids es).ck id=s.ck id)∧
  ∀(k:Nat) (id:Id) (e:eP),ids[k]? =some id→es[k]? =some e→(AS.fU s0 all t s ids es).ck id=some (s0.iQ all t (s0.lD id) e)
 |[],es,s,_,_,_=>⟨fun _ _=>by simp[AS.fU],fun k id e h=>by simp at h⟩
 |_::_,[],s,_,hl,_=>by simp at hl
 |i::ids,e::es,s,hn,hl,hp=>by
  obtain⟨h1,h2⟩:=List.nodup_cons.1 hn
  have hp':∀id∈ids,(s.bz i (s0.iQ all t (s0.lD i) e)).ck id≠none:=fun id hid=>by
   rw[dW s i id _ (fun e=>h1 (e▸hid))]
   exact hp id (List.mem_cons_of_mem _ hid)
  obtain⟨r1,r2⟩:=nu s0 all t ids es (s.bz i (s0.iQ all t (s0.lD i) e)) h2 (by simpa using hl) hp'
  rw[AS.fU]
  refine⟨fun id hid=> ?_,fun k id e' hk he=> ?_⟩
  ·simp only[List.mem_cons,not_or]at hid
   rw[r1 id hid.2,dW s i id _ hid.1]
  ·cases k with
   |zero=>
    simp only[List.getElem?_cons_zero,Option.some.injEq]at hk he
    subst hk he
    rw[r1 i h1,eS s i _ (hp i (List.mem_cons_self ..))]
   |succ k=>
    simp only[List.getElem?_cons_succ]at hk he
    exact r2 k id e' hk he
theorem vV(s:AS)(ids:List Id)(t:Nat)(es:List eP)(hv:es=[]∨s.dO t=true):
  (∀id,(es=[]∨∀j,id≠ .new t j)→(s.made ids t es).ck id=s.ck id)∧(es≠ []→∀j,(s.made ids t es).ck (.new t j)=(es[j]?).map (s.iQ ids t 0)):=by
 cases es with
 |nil=>exact⟨fun _ _=>rfl,fun h=>absurd rfl h⟩
 |cons e es=>
  have hv:s.dO t=true:=by
   rcases hv with h | h
   ·cases h
   ·exact h
  refine⟨fun id h=> ?_,fun _ j=> ?_⟩
  ·rcases h with h | h
   ·cases h
   ·exact gB _ h
  ·rw[AS.made,kL (gl hv).2,List.getElem?_map]
def ia(ids:List Id):ix→ix
 | .free=> .free
 | .own .eQ n=> .own .eQ n
 | .own (.id i) n=>match idxOf i ids with | some k=> .own (.id (.fK k)) n | none=> .own .eQ n
def oe(β:Id→Option Pl)(ids:List Id):Id→Option Pl
 | .fK k=>(ids[k]?).bind β
 | .new _ _=>none
def gZ(g:Nat→ix)(size:Nat)(ids:List Id)(t:Nat)(b:Nat):ix→ix
 | .free=> .free
 | .own .eQ n=>if b < size then g b else .own .eQ n
 | .own (.id i) n=> .own (.id (CM ids t i)) n
def kg(β β':Id→Option Pl)(ids:List Id)(t:Nat)(some?:Bool)(id:Id):Option Pl:=
 match idxOf id ids with
 |some k=>β' (.fK k)
 |none=>match id with
  | .new i j=>if i=t∧some?=true then β' (.new 0 j) else β (.new i j)
  |id=>β id
theorem Bb{ids:List Id}{l:ix}{off:Nat}(h:kf (fun _=>l) 0 off):kf (fun _=>ia ids l) 0 off:=by
 cases l with
 |free=>trivial
 |own o k=>cases o with
  |eQ=>exact h
  |id i=>simp only[ia];cases idxOf i ids <;> exact h
section
variable {P:Program} {C:Ctx} {g:Nat→ix} {β:Id→Option Pl} {s:AS} {a:Act} {w:World} {o:Oper}
theorem CN(ids:List Id):
  mP (s.kF ids) (s.env w g β) ((iy (ids.map (s.hZ ids))).env w (fun b=>ia ids (g b)) (oe β ids)):=by
 refine⟨⟨fun b off v ⟨h1,h2⟩=>⟨h1,?_⟩,fun b ob h1 h2=>⟨by show ia ids (g b)= .free;have h1:g b= .free:=h1;rw[h1];rfl,h2⟩⟩,fun id ver r hr _=> ?_⟩
 ·exact Bb (l:=g b) h2
 ·unfold AS.kF at hr
  split at hr
  ·rename_i k v fr c hk ho
   split at hr
   ·rename_i hver
    simp only[Option.some.injEq]at hr
    subst hr hver
    have hid:=iW hk
    have hent:=eB ho
    refine⟨⟨?_,fun _ _ _ _=>Nat.zero_le _⟩,fun _=>⟨⟨fr,c,hent⟩,?_⟩⟩
    ·show(ids.map (s.hZ ids))[k]? ≠none
     simp[hid]
    ·show(ids[k]?).bind β=β id
     rw[hid];rfl
   ·cases hr
  ·cases hr
theorem Ck(ids:List Id)(hn:ids.Nodup)(h:gz (s.env w g β)):gz ((iy (ids.map (s.hZ ids))).env w (fun b=>ia ids (g b)) (oe β ids)):=by
 intro id ver fr c hid
 have hid:(iy (ids.map (s.hZ ids))).ck id=some (.obj ver fr c):=hid
 cases id with
 |new i j=>simp[iy,AS.ck]at hid
 |fK k=>
  simp only[iy,AS.ck,List.getElem?_map,Option.map_eq_some_iff]at hid
  obtain⟨id1,hk,he⟩:=hid
  unfold AS.hZ at he
  split at he
  ·rename_i v fr1 c1 hent
   simp only[eP.obj.injEq]at he
   obtain⟨rfl,rfl,rfl⟩:=he
   refine lQ (CN ids) (h id1 v fr1 c1 hent) (by show(ids[k]?).bind β=β id1;rw[hk];rfl) fun pl hp=>⟨rfl,fun n hg=> ?_,fun hg=> ?_⟩
   ·have hg:g pl.b= .own (.id id1) n:=hg
    show ia ids (g pl.b)=_
    rw[hg]
    simp[ia,lz hn hk]
   ·have hg:g pl.b= .free:=hg
    show ia ids (g pl.b)=_
    rw[hg];rfl
  ·cases he
theorem rC(h:Inv C g β s a w){ids:List Id}(hn:ids.Nodup)(hp:∀id∈ids,∃r,s.obj id=some r){G:aZ}{t:Nat}(hl:G.dj.length=ids.length)(hv:G.news=[]∨s.dO t=true){v:Value}{w':World}
  (ha:na ((iy (ids.map (s.hZ ids))).env w (fun b=>ia ids (g b)) (oe β ids)) G v w'):
  ∃g' β',Inv C g' β' (AS.fU s ids t (s.made ids t G.news) ids G.dj) a w'∧VS ((AS.fU s ids t (s.made ids t G.news) ids G.dj).env w' g' β') (G.val.fZ (s.jM ids t)) v:=by
 obtain⟨g1,β1,hval,hobjs,htr,hle⟩:=ha
 have htr:Trans w w' (fun b=>ia ids (g b)) g1:=htr
 obtain⟨m1,m2⟩:=vV s ids t G.news hv
 have hpe:∀id∈ids,s.ck id≠none:=fun id hid=>by
  obtain⟨⟨v,fr,c⟩,hr⟩:=hp id hid
  rw[eB hr];simp
 have hnew:∀id,s.ck id≠none→G.news=[]∨∀j,id≠ .new t j:=fun id hid=>by
  rcases hv with hv | hv
  ·exact .inl hv
  ·exact .inr fun j e=>hid (by rw[e];exact(gl hv).1 j)
 obtain⟨n1,n2⟩:=nu s ids t ids G.dj (s.made ids t G.news) hn hl (fun id hid=>by rw[m1 id (hnew id (hpe id hid))];exact hpe id hid)
 have hvt:∀j,G.news≠ []→Id.new t j ∉ ids:=fun j hne hid=>by
  rcases hv with hv | hv
  ·exact hne hv
  ·exact hpe _ hid ((gl hv).1 j)
 generalize hs2:AS.fU s ids t (s.made ids t G.news) ids G.dj=s2 at*
 have hgO:∀(k:Nat) (id:Id),ids[k]? =some id→∃e,G.dj[k]? =some e∧s2.ck id=some (s.iQ ids t (s.lD id) e):=fun k id hk=>by
  have hlt:k < G.dj.length:=by rw[hl];exact(List.getElem?_eq_some_iff.1 hk).1
  exact⟨_,List.getElem?_eq_getElem hlt,n2 k id _ hk (List.getElem?_eq_getElem hlt)⟩
 have hgN:G.news≠ []→∀j,s2.ck (.new t j)=(G.news[j]?).map (s.iQ ids t 0):=fun hne j=>by
  rw[n1 _ (hvt j hne),m2 hne j]
 have hgS:∀id,id ∉ ids→(G.news=[]∨∀j,id≠ .new t j)→s2.ck id=s.ck id:=fun id h1 h2=>by
  rw[n1 id h1,m1 id h2]
 have hverOf:∀id∈ids,∃fr c,s.ck id=some (.obj (s.lD id) fr c):=fun id hid=>by
  obtain⟨⟨v,fr,c⟩,hr⟩:=hp id hid
  refine⟨fr,c,?_⟩
  rw[eB hr]
  simp[AS.lD,hr]
 have hfor:∀b n,b < w.heap.size→g1 b= .own .eQ n→(g b= .own .eQ n∨∃i,g b= .own (.id i) n∧idxOf i ids=none):=fun b n hb hg=>by
  have h1:=htr.zu b hb
  cases hgb:g b with
  |free=>simp only[hgb,ia]at h1;rw[h1.1]at hg;cases hg
  |own o k=>cases o with
   |eQ=>simp only[hgb,ia]at h1;rw[h1.1]at hg;left;exact hg
   |id i=>
    cases hi:idxOf i ids with
    |none=>
     simp only[hgb,ia,hi]at h1
     rw[h1.1]at hg
     simp only[ix.own.injEq,true_and]at hg
     subst hg
     exact .inr ⟨i,rfl,hi⟩
    |some k'=>
     simp only[hgb,ia,hi]at h1
     rcases h1.1 with h2 | ⟨_,_,h2,_⟩ <;> (rw[h2]at hg;cases hg)
 let g2:Nat→ix:=fun b=>gZ g w.heap.size ids t b (g1 b)
 let β2:Id→Option Pl:=kg β β1 ids t (!G.news.isEmpty)
 have hβO:∀k id,ids[k]? =some id→β2 id=β1 (.fK k):=fun k id hk=>by
  show kg _ _ _ _ _ id=_
  simp[kg,lz hn hk]
 have hβN:G.news≠ []→∀j,β2 (.new t j)=β1 (.new 0 j):=fun hne j=>by
  show kg _ _ _ _ _ _=_
  have:idxOf (.new t j) ids=none:=by
   cases hi:idxOf (.new t j) ids with
   |none=>rfl
   |some k=>exact absurd (List.mem_of_getElem? (iW hi)) (hvt j hne)
  have hne':G.news.isEmpty=false:=by cases hh:G.news with
   |nil=>exact absurd hh hne
   |cons _ _=>rfl
  simp[kg,this,hne']
 have hβS:∀id,id ∉ ids→(G.news=[]∨∀j,id≠ .new t j)→β2 id=β id:=fun id h1 h2=>by
  show kg _ _ _ _ _ _=_
  have:idxOf id ids=none:=by
   cases hi:idxOf id ids with
   |none=>rfl
   |some k=>exact absurd (List.mem_of_getElem? (iW hi)) h1
  cases id with
  |fK k=>simp[kg,this]
  |new i j=>
   have:¬(i=t∧(!G.news.isEmpty)=true):=by
    rintro⟨rfl,h3⟩
    rcases h2 with h2 | h2
    ·rw[h2]at h3;cases h3
    ·exact h2 j rfl
   simp only[kg, *,if_false]
 have htr2:Trans w w' g g2:=by
  refine⟨htr.os,htr.tape,htr.output,htr.size,fun b hb=> ?_⟩
  have h1:=htr.zu b hb
  show match g b with | .free=>gZ g w.heap.size ids t b (g1 b)= .free∧_ | .own .eQ k=>gZ g w.heap.size ids t b (g1 b)= .own .eQ k∧_ | .own (.id _) k=>(gZ g w.heap.size ids t b (g1 b)= .free∨∃i k',gZ g w.heap.size ids t b (g1 b)= .own (.id i) k'∧k≤k')∧_
  cases hgb:g b with
  |free=>simp only[hgb,ia]at h1 ⊢;rw[h1.1];exact⟨rfl,h1.2⟩
  |own o k=>cases o with
   |eQ=>simp only[hgb,ia]at h1 ⊢;rw[h1.1];simp only[gZ,hb,if_true,hgb];exact⟨trivial,h1.2⟩
   |id i=>
    cases hi:idxOf i ids with
    |none=>
     simp only[hgb,ia,hi]at h1 ⊢
     rw[h1.1]
     simp only[gZ,hb,if_true,hgb]
     exact⟨.inr ⟨i,k,rfl,Nat.le_refl _⟩,fun off v _ hv=>by simpa only[World.cell?,h1.2]using hv⟩
    |some k'=>
     simp only[hgb,ia,hi]at h1 ⊢
     refine⟨?_,h1.2⟩
     rcases h1.1 with h2 | ⟨i',k'',h2,h3⟩
     ·rw[h2];exact .inl rfl
     ·rw[h2];exact .inr ⟨_,k'',rfl,h3⟩
 have hmem:lr (G.st.env w' g1 β1) (s2.env w' g2 β2):=by
  refine⟨fun b off v ⟨h1,h2⟩=> ?_,fun b ob h1 h2=>⟨by show gZ g w.heap.size ids t b (g1 b)= .free;have h1:g1 b= .free:=h1;rw[h1];rfl,h2⟩⟩
  refine⟨h1,?_⟩
  have h2:kf g1 b off:=h2
  show kf g2 b off
  unfold kf at h2 ⊢
  show match gZ g w.heap.size ids t b (g1 b) with | .free=>True | .own _ k=>off < k
  cases hgb:g1 b with
  |free=>simp[gZ]
  |own o k=>
   rw[hgb]at h2
   cases o with
   |eQ=>
    simp only[gZ]
    by_cases hb:b < w.heap.size
    ·rw[if_pos hb]
     rcases hfor b k hb hgb with h3 | ⟨i,h3,_⟩ <;> (rw[h3];exact h2)
    ·rw[if_neg hb];exact h2
   |id i=>exact h2
 have hentOut:∀(base:Nat) (e:eP) (ver:Nat) (fr:Bool) (c:aC),s.iQ ids t base e= .obj ver fr c→∃v0 c0,e= .obj v0 fr c0∧ver=base+v0∧c=c0.fZ (s.jM ids t):=fun base e ver fr c he=>by
  cases e with
  |dead=>cases he
  |obj v0 fr0 c0=>
   simp only[AS.iQ,eP.obj.injEq]at he
   obtain⟨rfl,rfl,rfl⟩:=he
   exact⟨v0,c0,rfl,rfl,rfl⟩
 have hout:mP (s.jM ids t) (G.st.env w' g1 β1) (s2.env w' g2 β2):=by
  refine⟨hmem,fun id ver r hr hb=> ?_⟩
  cases id with
  |fK k=>
   obtain⟨hb1,hb2⟩:=hb
   have hb1:G.dj[k]? ≠none:=hb1
   have hk:k < ids.length:=by
    rcases Nat.lt_or_ge k ids.length with h' | h'
    ·exact h'
    ·exact absurd (List.getElem?_eq_none (by omega)) hb1
   have hid:ids[k]? =some ids[k]:=List.getElem?_eq_getElem hk
   simp only[AS.jM,hid,Option.some.injEq]at hr
   subst hr
   obtain⟨e,he1,he2⟩:=hgO k _ hid
   refine⟨⟨by show s2.ck _≠none;rw[he2];simp,fun v fr c hh=> ?_⟩,fun⟨fr,c,hh⟩=>⟨?_,hβO k _ hid⟩⟩
   ·have hh:s2.ck ids[k]=some (.obj v fr c):=hh
    rw[he2,Option.some.injEq]at hh
    obtain⟨v0,c0,rfl,rfl,_⟩:=hentOut _ _ _ _ _ hh
    have:=hb2 v0 fr c0 he1
    omega
   ·have hh:s2.ck ids[k]=some (.obj (s.lD ids[k]+ver) fr c):=hh
    rw[he2,Option.some.injEq]at hh
    obtain⟨v0,c0,rfl,hv0,_⟩:=hentOut _ _ _ _ _ hh
    obtain rfl:ver=v0:=by omega
    exact⟨fr,c0,he1⟩
  |new i j=>
   simp only[AS.jM,Option.some.injEq]at hr
   subst hr
   obtain⟨hb1,hb2⟩:=hb
   have hb1:([G.news].getD i [])[j]? ≠none:=hb1
   have hb2:∀v fr c,([G.news].getD i [])[j]? =some (.obj v fr c)→ver≤v:=hb2
   cases i with
   |succ i=>simp at hb1
   |zero=>
    simp only[List.getD_cons_zero]at hb1 hb2
    have hne:G.news≠ []:=fun e=>by rw[e]at hb1;simp at hb1
    obtain⟨e,he⟩:=Option.ne_none_iff_exists'.1 hb1
    have he2:=hgN hne j
    rw[he,Option.map_some]at he2
    refine⟨⟨by show s2.ck (.new t j)≠none;rw[he2];simp,fun v fr c hh=> ?_⟩,fun⟨fr,c,hh⟩=>⟨?_,hβN hne j⟩⟩
    ·have hh:s2.ck (.new t j)=some (.obj v fr c):=hh
     rw[he2,Option.some.injEq]at hh
     obtain⟨v0,c0,rfl,rfl,_⟩:=hentOut _ _ _ _ _ hh
     have:=hb2 v0 fr c0 he
     simp only
     omega
    ·have hh:s2.ck (.new t j)=some (.obj ver fr c):=hh
     rw[he2,Option.some.injEq]at hh
     obtain⟨v0,c0,rfl,hv0,_⟩:=hentOut _ _ _ _ _ hh
     obtain rfl:ver=v0:=by omega
     exact⟨fr,c0,he⟩
 have hle2:cW (s.env w g β) (s2.env w' g2 β2):=by
  refine⟨Trans.mem htr2,fun id ver hb=> ?_,fun id ver hb hc=> ?_⟩
  ·obtain⟨hb1,hb2⟩:=hb
   have hb1:s.ck id≠none:=hb1
   have hb2:∀v fr c,s.ck id=some (.obj v fr c)→ver≤v:=hb2
   by_cases hid:id∈ids
   ·obtain⟨k,hk⟩:=List.mem_iff_getElem?.1 hid
    obtain⟨e,he1,he2⟩:=hgO k id hk
    obtain⟨fr1,c1,hs1⟩:=hverOf id hid
    refine⟨by show s2.ck _≠none;rw[he2];simp,fun v fr c hh=> ?_⟩
    have hh:s2.ck id=some (.obj v fr c):=hh
    rw[he2,Option.some.injEq]at hh
    obtain⟨v0,c0,rfl,rfl,_⟩:=hentOut _ _ _ _ _ hh
    have:=hb2 _ _ _ hs1
    omega
   ·have:=hgS id hid (hnew id hb1)
    exact⟨by show s2.ck _≠none;rw[this];exact hb1,fun v fr c hh=>hb2 v fr c (this.symm.trans hh)⟩
  ·obtain⟨hb1,hb2⟩:=hb
   have hb1:s.ck id≠none:=hb1
   have hb2:∀v fr c,s.ck id=some (.obj v fr c)→ver≤v:=hb2
   obtain⟨fr,c,hh⟩:=hc
   have hh:s2.ck id=some (.obj ver fr c):=hh
   by_cases hid:id∈ids
   ·obtain⟨k,hk⟩:=List.mem_iff_getElem?.1 hid
    obtain⟨e,he1,he2⟩:=hgO k id hk
    obtain⟨fr1,c1,hs1⟩:=hverOf id hid
    rw[he2,Option.some.injEq]at hh
    obtain⟨v0,c0,rfl,hv0,_⟩:=hentOut _ _ _ _ _ hh
    have hver:=hb2 _ _ _ hs1
    obtain rfl:v0=0:=by omega
    have hver':ver=s.lD id:=by omega
    refine⟨⟨fr1,c1,by rw[hver'];exact hs1⟩,?_⟩
    show β2 id=β id
    rw[hβO k id hk]
    have hin:s.hZ ids id= .obj 0 fr1 (c1.fZ (s.kF ids)):=by simp[AS.hZ,hs1]
    have h0:((iy (ids.map (s.hZ ids))).env w (fun b=>ia ids (g b)) (oe β ids)).rf (.fK k) 0:=by
     refine⟨?_,fun _ _ _ _=>Nat.zero_le _⟩
     show(ids.map (s.hZ ids))[k]? ≠none
     simp[hk]
    have:=(hle.cur (.fK k) 0 h0 ⟨fr,c0,he1⟩).2
    have this:β1 (.fK k)=(ids[k]?).bind β:=this
    rw[this,hk];rfl
   ·have:=hgS id hid (hnew id hb1)
    exact⟨⟨fr,c,this.symm.trans hh⟩,hβS id hid (hnew id hb1)⟩
 have hobj2:gz (s2.env w' g2 β2):=by
  intro id ver fr c hh
  have hh:s2.ck id=some (.obj ver fr c):=hh
  by_cases hid:id∈ids
  ·obtain⟨k,hk⟩:=List.mem_iff_getElem?.1 hid
   obtain⟨e,he1,he2⟩:=hgO k id hk
   rw[he2,Option.some.injEq]at hh
   obtain⟨v0,c0,rfl,_,rfl⟩:=hentOut _ _ _ _ _ hh
   refine lQ hout (hobjs (.fK k) v0 fr c0 he1) (hβO k id hk) fun pl _=>⟨rfl,fun n hg=> ?_,fun hg=> ?_⟩
   ·have hg:g1 pl.b= .own (.id (.fK k)) n:=hg
    show gZ g w.heap.size ids t pl.b (g1 pl.b)=_
    rw[hg]
    simp[gZ,CM,List.getD_eq_getElem?_getD,hk]
   ·have hg:g1 pl.b= .free:=hg
    show gZ g w.heap.size ids t pl.b (g1 pl.b)=_
    rw[hg];rfl
  ·by_cases hne:G.news≠ []∧∃j,id= .new t j
   ·obtain⟨hne,j,rfl⟩:=hne
    rw[hgN hne j,Option.map_eq_some_iff]at hh
    obtain⟨e,he,hh⟩:=hh
    obtain⟨v0,c0,rfl,_,rfl⟩:=hentOut _ _ _ _ _ hh
    refine lQ hout (hobjs (.new 0 j) v0 fr c0 (by show([G.news].getD 0 [])[j]? =_;simpa using he)) (hβN hne j) fun pl _=>⟨rfl,fun n hg=> ?_,fun hg=> ?_⟩
    ·have hg:g1 pl.b= .own (.id (.new 0 j)) n:=hg
     show gZ g w.heap.size ids t pl.b (g1 pl.b)=_
     rw[hg]
     rfl
    ·have hg:g1 pl.b= .free:=hg
     show gZ g w.heap.size ids t pl.b (g1 pl.b)=_
     rw[hg];rfl
   ·have hor:G.news=[]∨∀j,id≠ .new t j:=by
     by_cases hh:G.news=[]
     ·exact .inl hh
     ·exact .inr fun j e=>hne ⟨hh,j,e⟩
    rw[hgS id hid hor]at hh
    have ho:=h.bN id ver fr c hh
    refine ho.mono hle2 (hβS id hid hor) fun pl hpl=> ?_
    have hpl:β id=some pl:=hpl
    obtain⟨hb,hlab⟩:=ho.label (pl:=pl) hpl
    have hb:pl.b < w.heap.size:=hb
    have h1:=htr.zu pl.b hb
    have hidx:idxOf id ids=none:=by
     cases hi:idxOf id ids with
     |none=>rfl
     |some k=>exact absurd (List.mem_of_getElem? (iW hi)) hid
    show w'.heap[pl.b]? =w.heap[pl.b]? ∧gZ g w.heap.size ids t pl.b (g1 pl.b)=g pl.b
    rcases hlab with⟨k,hk⟩ | ⟨_,hk⟩
    ·have hk:g pl.b= .own (.id id) k:=hk
     simp only[hk,ia,hidx]at h1
     rw[h1.1]
     simp only[gZ,hb,if_true]
     exact⟨h1.2,trivial⟩
    ·have hk:g pl.b= .free:=hk
     simp only[hk,ia]at h1
     rw[h1.1,hk]
     exact⟨h1.2,rfl⟩
 have hsl:s2.cl=s.cl:=by rw[←hs2,lN,sK]
 exact⟨g2,β2,h.step hsl htr2 hle2 hobj2,rA hout hval⟩
end
end Go.Ab
namespace Go.Ab
theorem ki(s:AS):∀(n:Nat) (todo acc:List Id),acc.Nodup→(s.reach n todo acc).Nodup
 | 0,_,acc,h=>by simpa[AS.reach]using h
 |_+1,[],acc,h=>by simpa[AS.reach]using h
 |n+1,id::todo,acc,h=>by
  rw[AS.reach]
  split
  ·exact ki s n todo acc h
  ·rename_i hc
   refine ki s n _ _ ?_
   rw[List.nodup_append]
   refine⟨h,by simp,fun x hx y hy e=> ?_⟩
   simp only[List.mem_singleton]at hy
   subst hy e
   exact hc (by simpa using hx)
theorem wj(s:AS)(vs:List aC):(s.yU vs).Nodup:=ki s _ _ _ (by simp)
section
variable {P:Program} {C:Ctx} {g:Nat→ix} {β:Id→Option Pl} {s:AS} {a:Act} {w:World} {o:Oper}
theorem xN(h:Inv C g β s a w){f:FuncId}{en:Entry}(hd:lP P f en){ids:List Id}(hn:ids.Nodup){vs:List aC}{ys:List Value}(hv:o8 (s.env w g β) vs ys)
  (hr:(execOp a.eval o).run P w=(callFunc f ys.toArray).run P w) {s':AS} (he:(s.enter en o.dst ids vs).eval=some s'):eZ P o a w (fQ C s'):=by
 unfold AS.enter at he
 obtain⟨hall,he⟩:=aE.1 he
 obtain⟨x,hx,he⟩:=rK.1 he
 have hp:∀id∈ids,∃r,s.obj id=some r:=fun id hid=>by
  have:=List.all_eq_true.1 hall id hid
  exact Option.isSome_iff_exists.1 this
 have hdo:=hd w (fun b=>ia ids (g b)) (oe β ids) (vs.map (aC.fZ (s.kF ids))) (ids.map (s.hZ ids)) ys x (o8.fZ (CN ids) hv) (Ck ids hn h.bN) hx
 have key:∀v w',na ((iy (ids.map (s.hZ ids))).env w (fun b=>ia ids (g b)) (oe β ids)) (en.out (vs.map (aC.fZ (s.kF ids))) (ids.map (s.hZ ids)) x) v w'→fQ C s' (a.put o.dst v) w':=by
  intro v w' ha
  unfold AS.back at he
  cases hdst:o.dst with
  |some t=>
   rw[hdst]at he
   obtain⟨hg,he⟩:=aE.1 he
   obtain rfl:=ax.1 he
   simp only[Bool.and_eq_true,beq_iff_eq,Bool.or_eq_true]at hg
   obtain⟨hl,hg⟩:=hg
   have hvir:(en.out (vs.map (aC.fZ (s.kF ids))) (ids.map (s.hZ ids)) x).news=[]∨s.dO t=true:=by
    rcases hg with hg | hg
    ·exact .inl (by simpa using hg)
    ·exact .inr hg
   obtain⟨g2,β2,h1,h2⟩:=rC h hn hp hl hvir ha
   exact⟨g2,β2,h1.put (some t) h2⟩
  |none=>
   rw[hdst]at he
   obtain⟨hg,he⟩:=aE.1 he
   obtain rfl:=ax.1 he
   simp only[Bool.and_eq_true,beq_iff_eq]at hg
   obtain⟨hl,hg⟩:=hg
   have hnew:(en.out (vs.map (aC.fZ (s.kF ids))) (ids.map (s.hZ ids)) x).news=[]:=by simpa using hg
   obtain⟨g2,β2,h1,_⟩:=rC (t:=0) h hn hp hl (.inl hnew) ha
   rw[hnew]at h1
   exact⟨g2,β2,h1⟩
 rcases hdo with⟨hen,hc⟩ | ⟨v,w',hva,ha⟩
 ·exact .inr (.inr ⟨f,ys.toArray,w,hr.trans hen,hc.mono fun e w' ⟨v,he,ha⟩=>⟨v,he,key v w' ha⟩⟩)
 ·exact .inl ⟨v,w',hr.trans hva,key v w' ha⟩
theorem zC(h:Inv C g β s a w){c:Call}{F:Operand}{f:FuncId}{caps:aC}{en:Entry}(ho:o.op= .call c)(hc:c.callee= .value F)(hF:s.ev F= .fn f caps)(hd:lP P f en){s':AS}
  (he:(s.call en o.dst (c.args.toList.map s.ev++caps.list)).eval=some s'):eZ P o a w (fQ C s'):=by
 obtain⟨cal,args,tys⟩:=c
 simp only at hc he
 subst hc
 obtain⟨vs,hy,hvc⟩:=A0 (hF▸h.ev F)
 have hargs:=(h.Fa args.toList).append (Aw hvc)
 have hr:(execOp a.eval o).run P w=(callFunc f (args.toList.map a.eval++vs).toArray).run P w:=by
  have e1:execOp a.eval o=(do let d ←resolve a.eval {callee:= .value F,args,argTypes:=tys} o.type;invoke d.target d.args):=by simp only[execOp,ho]
  rw[e1]
  simp only[resolve,hy,Deferred.ofValue,Sem.run_bind,Sem.run_pure,Result.andThen_ok,invoke]
  congr 2
  simp
 unfold AS.call at he
 obtain⟨r,h1,h2⟩:=aw.1 he
 obtain⟨g',i1,e1,_,f1⟩:=fy r.2 h
 exact xN i1 hd (wj _ _) (rF rfl h.bN e1 _ _ _ r hargs h1 f1) hr h2
end
end Go.Ab
namespace Go.Ab
section
variable {P:Program} {C:Ctx} {g:Nat→ix} {β:Id→Option Pl} {s:AS} {a:Act} {w:World} {o:Oper}
theorem gK{b:Builtin}{args:Array Operand}{ts:Array TypeId}{F:TypeId→Array Value→Sem Value}{x:Value}{w':World}{s':AS}(ho:o.op= .call {callee:= .builtin b,args,argTypes:=ts})
  (hb:∀ty cs xs,builtin b ts ty cs xs=(do pure (.value (←F ty xs)))) (hf:∀ty,(F ty (args.map a.eval)).run P w= .ok x w') (h2:∃g' β',Inv C g' β' s' (a.put o.dst x) w'):eZ P o a w (fQ C s'):=by
 refine .inl ⟨x,w',?_,h2⟩
 simp only[execOp,ho,resolve,Sem.run_bind,Sem.run_pure,Result.andThen_ok,invoke]
 rw[hb,Sem.run_bind,hf]
 rfl
theorem xJ(h:Inv C g β s a w){src dst:TypeId}{x:Operand}(ho:o.op= .convert src dst x){id:Id}{ver:Nat}(hx:s.ev x= .ptr id ver [] 0){v:aC}(he:(tz P s src dst id ver).eval=some v):eZ P o a w (fQ C (s.put o.dst v)):=by
 have hv:=h.ev x
 rw[hx]at hv
 obtain⟨ad,hy,hb,hc⟩:=kB hv
 have fin:v= .ptr id ver [] 0→(convert src dst (a.eval x)).run P w= .ok (a.eval x) w→eZ P o a w (fQ C (s.put o.dst v)):=by
  intro h1 h2
  subst h1
  exact h.value hv (dR (f:=convert src dst (a.eval x)) (by simp only[execOp,ho]) h2)
 unfold tz at he
 split at he
 ·rename_i v0 fr e c hob
  have hent:=eB hob
  obtain⟨pl',cur,e',hp',hh,hg,hk,hV⟩:=(h.bN id v0 fr _ hent).box rfl
  have hk:e'=e:=hk
  subst hk
  have hV:V (s.env w g β) c (cur.toList.take cur.size):=hV
  rw[←Array.length_toList,List.take_length]at hV
  have hh:w.heap[pl'.b]? =some (.cells cur e' (0,0)):=hh
  have hsz:=hV.size
  have hsz:cur.toList.length=c.size:=hsz
  have hsh:w.shape? pl'.b=some (e',c.size):=by simp only[World.shape?,hh];rw[←hsz];simp
  have hp':β id=some pl':=hp'
  split at he
  ·rename_i t hS hD
   obtain⟨h1,h2⟩:=aE.1 he
   have h2:=ax.1 h2
   simp only[Bool.and_eq_true,beq_iff_eq,Bool.not_eq_true',beq_eq_false_iff_ne]at h1
   obtain⟨⟨rfl,h3⟩,h4⟩:=h1
   obtain⟨pl,hp,rfl⟩:=hc ⟨fr,_,hent⟩
   have hp:β id=some pl:=hp
   rw[hp']at hp
   obtain rfl:pl'=pl:=by simpa using hp
   refine fin h2.symm ?_
   rw[hy]
   cases hi:P.info? t with
   |none=>exact absurd (by simp[Program.cellsOf,hi]) h3
   |some j=>
    have hj:j.size≠0:=by rw[←gL hi]at*;exact h3
    exact Go.Lib.run_to_unsafe w _ hS hD hi hj hsh (by show 0 < c.size;omega)
  ·rename_i u hS hD
   obtain⟨h1,h2⟩:=aE.1 he
   have h2:=ax.1 h2
   simp only[Bool.and_eq_true,beq_iff_eq,Bool.not_eq_true',beq_eq_false_iff_ne]at h1
   obtain⟨⟨rfl,h3⟩,h4⟩:=h1
   obtain⟨pl,hp,rfl⟩:=hc ⟨fr,_,hent⟩
   have hp:β id=some pl:=hp
   rw[hp']at hp
   obtain rfl:pl'=pl:=by simpa using hp
   refine fin h2.symm ?_
   rw[hy]
   cases hi:P.info? u with
   |none=>exact absurd (by simp[Program.cellsOf,hi]) h3
   |some j=>exact Go.Lib.run_from_unsafe w _ hS hD hi hsh h4
  ·simp only[ak]at he
 ·simp only[ak]at he
theorem AX(h:Inv C g β s a w){T U:TypeId}{op:BinOp}{x y:Operand}(ho:o.op= .binOp op T x y U){i j:Id}{v1 v2:Nat}(hx:s.ev x= .ptr i v1 [] 0)(hy:s.ev y= .ptr j v2 [] 0){v:aC}(he:(DM P s T op i v1 j v2).eval=some v):
  eZ P o a w (fQ C (s.put o.dst v)):=by
 unfold DM at he
 split at he
 ·rename_i v' fr c hob
  obtain⟨h1,h2⟩:=aE.1 he
  simp only[Bool.and_eq_true,beq_iff_eq,decide_eq_true_eq]at h1
  obtain⟨⟨⟨rfl,rfl⟩,rfl⟩,hpt⟩:=h1
  have hent:=eB hob
  have hvx:=h.ev x
  have hvy:=h.ev y
  rw[hx]at hvx
  rw[hy]at hvy
  obtain⟨ad,hax,_,hc⟩:=kB hvx
  obtain⟨ad',hay,_,hc'⟩:=kB hvy
  obtain⟨pl,hp,rfl⟩:=hc ⟨fr,c,hent⟩
  obtain⟨pl',hp',rfl⟩:=hc' ⟨fr,c,hent⟩
  rw[hp]at hp'
  obtain rfl:pl=pl':=by simpa using hp'
  have hT:∃t j,P.underlying T=some (.pointer t)∧P.info? t=some j:=by
   unfold Ef at hpt
   split at hpt
   ·rename_i t ht
    obtain⟨j,hj⟩:=Option.isSome_iff_exists.1 hpt
    exact⟨t,j,ht,hj⟩
   ·cases hpt
  obtain⟨t,j,hT,hj⟩:=hT
  have hq:(Op.equal T (.pointer (some ⟨pl.b,0,none⟩)) (.pointer (some ⟨pl.b,0,none⟩))).run P w= .ok true w:=
   fG fun d=>by simp[Op.equalIn,run_underlying hT,sizeOf,typeInfo,hj,run_sameAddr_same]
  have hgd:(eqGuard op T x y (a.eval x) (a.eval y)).run P w= .ok () w:=by rw[hax,hay];exact gV (by simp) rfl
  have fin:∀z,(binOp op T (a.eval x) (a.eval y)).run P w= .ok z w→VS (s.env w g β) v z→eZ P o a w (fQ C (s.put o.dst v)):=by
   intro z h1 h3
   refine h.value h3 ?_
   simp[execOp,ho,h1,hgd]
  split at h2
  ·obtain rfl:=ax.1 h2
   refine fin (.bool true) ?_ (kG true)
   rw[hax,hay]
   simp[binOp,hq]
  ·obtain rfl:=ax.1 h2
   refine fin (.bool false) ?_ (kG false)
   rw[hax,hay]
   simp[binOp,hq]
  ·simp only[ak]at h2
 ·simp only[ak]at he
theorem CI{c:Call}{b:Builtin}{x:Operand}(hc:c.callee= .builtin b)(ha:c.args.toList=[x]):c= {callee:= .builtin b,args:= #[x],argTypes:=c.argTypes}:=by
 obtain⟨cal,args,tys⟩:=c
 simp only at hc ha
 have ha':args= #[x]:=by apply Array.ext';simpa using ha
 subst hc ha'
 rfl
theorem yE{c:Call}{b:Builtin}{x y:Operand}(hc:c.callee= .builtin b)(ha:c.args.toList=[x,y]):c= {callee:= .builtin b,args:= #[x,y],argTypes:=c.argTypes}:=by
 obtain⟨cal,args,tys⟩:=c
 simp only at hc ha
 have ha':args= #[x,y]:=by apply Array.ext';simpa using ha
 subst hc ha'
 rfl
theorem E4{ts:Array TypeId}{T:TypeId}(h:ts.toList=[T]):ts= #[T]:=by apply Array.ext';simpa using h
theorem DF{ts:Array TypeId}{T U:TypeId}(h:ts.toList=[T,U]):ts= #[T,U]:=by apply Array.ext';simpa using h
theorem AO(h:Inv C g β s a w){c:Call}{x:Operand}{T e:TypeId}(ho:o.op= .call c)(hc:c.callee= .builtin .cap)(ha:c.args.toList=[x])(ht:c.argTypes.toList=[T])(hx:s.ev x= .da)(hT:P.underlying T=some (.slice e)):
  eZ P o a w (fQ C (s.put o.dst (.d (.int .i64) (0:Int)))):=by
 rw[CI hc ha,E4 ht]at ho
 have hv:=h.ev x
 rw[hx]at hv
 have hy:=gQ hv
 refine gK ho (F:=fun ty xs=>Builtin.cap_ #[T] ty xs) (fun ty cs xs=>rfl) (x:= .int .i64 0) (w':=w) (fun ty=> ?_) ⟨g,β,h.put o.dst (gJ _ _)⟩
 simp[Builtin.cap_,run_underlying hT,hy,goInt]
theorem xf(h:Inv C g β s a w){c:Call}{x:Operand}{id:Id}{ver len:Nat}(ho:o.op= .call c)(hc:c.callee= .builtin .unsafeSliceData)(ha:c.args.toList=[x])(hx:s.ev x= .bU id ver [] 0 0 len)(hl:0 < len):
  eZ P o a w (fQ C (s.put o.dst (.ptr id ver [.idx 0] 0))):=by
 rw[CI hc ha]at ho
 have hv:=h.ev x
 rw[hx]at hv
 obtain⟨ad,cap,hy,hcap,hs,hb,hcur⟩:=j4 hv
 obtain⟨ad,rfl⟩:=Option.isSome_iff_exists.1 (hs hl)
 refine gK ho (F:=fun ty xs=>Builtin.unsafeSliceData_ c.argTypes ty xs) (fun ty cs xs=>rfl) (x:= .pointer (some ad)) (w':=w) (fun ty=> ?_) ⟨g,β,h.put o.dst ?_⟩
 ·rw[show(#[x].map a.eval)= #[a.eval x] by simp,hy]
  exact Go.Lib.run_unsafeSliceData_row w _ _ _ _ _ (by omega)
 ·refine⟨[.pointer (some ad)],?_,rfl⟩
  simp only[V]
  refine⟨ad,rfl,hb,fun hc=> ?_⟩
  have h1:=hcur hc
  cases hp:(s.env w g β).β id with
  |none=>rw[hp]at h1;simp only at h1;cases h1.1
  |some pl=>
   rw[hp]at h1
   simp only at h1
   exact⟨pl,rfl,by simpa using h1.1 (.inl hl)⟩
theorem wB(h:Inv C g β s a w){c:Call}{mx:Bool}(ho:o.op= .call c)(hc:c.callee= .builtin (if mx then .max else .min)){v:aC}(he:(zY mx (c.args.toList.map s.ev)).eval=some v):eZ P o a w (fQ C (s.put o.dst v)):=by
 unfold zY at he
 split at he
 ·rename_i k x k' y hxy
  obtain⟨h1,h2⟩:=aE.1 he
  obtain rfl:=ax.1 h2
  have h1:k=k':=by simpa using h1
  subst h1
  have hal:∃p q,c.args.toList=[p,q]∧s.ev p= .d (.int k) x∧s.ev q= .d (.int k) y:=by
   match hh:c.args.toList,hxy with
   |[p,q],hxy=>simp only[List.map_cons,List.map_nil,List.cons.injEq]at hxy;exact⟨p,q,rfl,hxy.1,hxy.2.1⟩
   |[],hxy=>simp at hxy
   |[_],hxy=>simp at hxy
   |_::_::_::_,hxy=>simp at hxy
  obtain⟨p,q,ha,hp,hq⟩:=hal
  rw[yE hc ha]at ho
  have hvp:=h.ev p
  have hvq:=h.ev q
  rw[hp]at hvp
  rw[hq]at hvq
  have ep:=kW hvp
  have eq:=kW hvq
  cases mx with
  |true=>
   refine gK ho (F:=fun ty xs=>Builtin.max_ c.argTypes ty xs) (fun ty cs xs=>rfl) (x:= .int k (if x < y then y else x)) (w':=w) (fun ty=> ?_) ⟨g,β,h.put o.dst (gJ _ _)⟩
   rw[show(#[p,q].map a.eval)= #[a.eval p,a.eval q] by simp,ep,eq]
   simp[Builtin.max_,Builtin.max2]
  |false=>
   refine gK ho (F:=fun ty xs=>Builtin.min_ c.argTypes ty xs) (fun ty cs xs=>rfl) (x:= .int k (if y < x then y else x)) (w':=w) (fun ty=> ?_) ⟨g,β,h.put o.dst (gJ _ _)⟩
   rw[show(#[p,q].map a.eval)= #[a.eval p,a.eval q] by simp,ep,eq]
   simp[Builtin.min_,Builtin.min2]
 ·simp only[ak]at he
theorem sW(z:Array Value)(n:Nat):Builtin.zeroCells z n=madeCells z (n*z.size):=rfl
theorem zM(h:Inv C g β s a w){c:Call}{x y:Operand}{T X:TypeId}{k:IntKind}{n:Int}(ho:o.op= .call c)(hc:c.callee= .builtin .append)(ha:c.args.toList=[x,y])(ht:c.argTypes.toList=[T,X])(hx:s.ev x= .da)(hy:s.ev y= .d (.int k) n){s':AS}
  (he:(v7 P s o.dst T X n).eval=some s'):eZ P o a w (fQ C s'):=by
 rw[yE hc ha,DF ht]at ho
 have hvx:=h.ev x
 have hvy:=h.ev y
 rw[hx]at hvx
 rw[hy]at hvy
 have ex:=gQ hvx
 have ey:=kW hvy
 unfold v7 at he
 split at he
 ·rename_i e t b q kn hel hd hX
  obtain⟨hT,hz,i,zv,hi,his,hib,hzv,hzr⟩:=lH hel
  obtain⟨hq,h2⟩:=aE.1 he
  obtain⟨h3,h4⟩:=bF.1 h2
  obtain rfl:=ax.1 h4
  simp only[Bool.and_eq_true,decide_eq_true_eq,du]at h3
  obtain⟨h5,h7,h8⟩:=h3
  obtain⟨m,rfl⟩:=Int.eq_ofNat_of_zero_le (Int.le_of_lt h5)
  simp only[Int.toNat_natCast]at h7 h8 ⊢
  have hzc:zv.cells.size=t.size:=by have:=(hzr (s.env w g β)).size;simpa using this
  have hr:=fun ty=>Go.Lib.run_append_nil_zeros (P:=P) w T X ty e i zv k kn hT hX hi hzv m (by omega) (by rw[his];exact hz) (by omega) (by rw[hib];omega)
  obtain⟨cap,hcap⟩:∃cap,grownCap w m 0 e=cap:=⟨_,rfl⟩
  have c1:m≤cap:=by rw[←hcap];exact grownCap_ge _ _ _ _
  have c2:cap≤maxLen:=by rw[←hcap];exact grownCap_le_maxLen _ _ _ _ (by unfold maxLen;omega)
  rw[hcap]at hr
  obtain⟨cur,hcur⟩:∃cur,Builtin.zeroCells zv.cells m++Builtin.zeroCells zv.cells (cap - m)=cur:=⟨_,rfl⟩
  rw[hcur]at hr
  have s1:cur.size=cap*t.size:=by
   rw[←hcur,Array.size_append,lp,lp,hzc,←Nat.add_mul]
   congr 1
   omega
  have hall:=jx (hzr (s.env w.drew g β)) m
  have s2:cur.toList.take (m*t.size)=(madeCells zv.cells (m*t.size)).toList:=by
   rw[←hcur,Array.toList_append,sW,hzc]
   have hl:(madeCells zv.cells (m*t.size)).toList.length=m*t.size:=by simp[size_madeCells]
   rw[List.take_append_of_le_length (by omega),List.take_of_length_le (by omega)]
  obtain⟨g2,β2,i2,hv2⟩:=(h.drew).uY hq (e:=e) (l:=List.replicate m t.zero) (cur:=cur) (cap:=cap) hz (by rw[List.length_replicate,s2];exact hall) s1 (by rw[List.length_replicate];exact c1) c2
  rw[List.length_replicate]at hv2
  refine gK ho (F:=fun ty xs=>Builtin.append_ #[T,X] ty xs) (fun ty cs xs=>rfl) (fun ty=> ?_) ⟨g2,β2,i2.put o.dst hv2⟩
  rw[show(#[x,y].map a.eval)= #[a.eval x,a.eval y] by simp,ex,ey]
  exact hr ty
 ·simp only[ak]at he
theorem tY:∀(xs:List Int) (a:Addr) (acc:ByteArray),(∀j x,xs[j]? =some x→w.cell? (a.add j)=some (.int .u8 x))→
  (loadBytes a acc xs.length).run P w= .ok ⟨acc.data++(xs.map fun n=>UInt8.ofNat n.toNat).toArray⟩ w
 |[],a,acc,_=>by simp[loadBytes]
 |x::l,a,acc,h=>by
  have h0:w.cell? a=some (.int .u8 x):=by
   have:=h 0 x rfl
   simpa[Addr.add]using this
  have ih:=tY l (a.add 1) (acc.push x.toNat.toUInt8) (fun j y hy=>by
   have:=h (j+1) y (by simpa using hy)
   have e:(a.add 1).add j=a.add (j+1):=by
    unfold Addr.add
    by_cases hj:j=0
    ·subst hj;simp
    ·simp[hj];omega
   rw[e];exact this)
  simp only[List.length_cons,loadBytes,Sem.run_bind,run_load,h0,Result.andThen]
  rw[ih]
  congr 1
  apply ByteArray.ext
  simp[ByteArray.push]
theorem Ao(h:Inv C g β s a w){c:Call}{x y:Operand}{T U:TypeId}{id:Id}{ver:Nat}{n:Int}(ho:o.op= .call c)(hc:c.callee= .builtin .unsafeString)(ha:c.args.toList=[x,y])(ht:c.argTypes.toList=[T,U])
  (hx:s.ev x= .ptr id ver [.idx 0] 0) (hy:s.ev y= .d (.int .i64) n) {s':AS} (he:(xl P s o.dst T id ver n).eval=some s'):eZ P o a w (fQ C s'):=by
 rw[yE hc ha,DF ht]at ho
 have hvx:=h.ev x
 rw[hx]at hvx
 obtain⟨ad,hax,_,hcp⟩:=kB hvx
 have hvy:=h.ev y
 rw[hy]at hvy
 have hay:=kW hvy
 unfold xl at he
 split at he
 ·rename_i v e l u hob hT
  obtain⟨h1,h2⟩:=aE.1 he
  obtain⟨h3,h4⟩:=bF.1 h2
  obtain rfl:=ax.1 h4
  simp only[Bool.and_eq_true,beq_iff_eq]at h1
  obtain⟨⟨rfl,rfl⟩,hce⟩:=h1
  simp only[decide_eq_true_eq]at h3
  obtain⟨h5,h6⟩:=h3
  obtain⟨n,rfl⟩:=Int.eq_ofNat_of_zero_le (Int.le_of_lt h5)
  have h6:n≤(l:List Int).length:=by omega
  have hent:=eB hob
  obtain⟨pl,hp,rfl⟩:=hcp ⟨false,_,hent⟩
  have hp:β id=some pl:=hp
  have hO:mh (s.env w g β) id false (.vec u (.int .u8) l):=h.bN id v false _ hent
  obtain⟨hz,hO⟩:=hO
  have hO:(match β id with
   |none=>l=[]
   |some pl=>∃cur k,w.heap[pl.b]? =some (.cells cur u (0,0))∧cur.size=pl.cap*(Ty.int .u8).size∧(l:List Int).length≤pl.cap∧pl.cap≤maxLen∧g pl.b= .own (.id id) k∧
     k≤(l:List Int).length*(Ty.int .u8).size∧(false=false→k=0)∧bg (cT (s.env w g β) (.int .u8)) (cur.toList.take ((l:List Int).length*(Ty.int .u8).size)) l):=hO
  rw[hp]at hO
  obtain⟨cur,k,q1,q2,q3,q4,q5,q6,q7,q8⟩:=hO
  have hk:=q7 rfl
  subst hk
  have hone:(Ty.int .u8).size=1:=rfl
  rw[hone,Nat.mul_one]at q2 q8
  have hvs:=lv q8
  have hsh:w.shape? pl.b=some (u,cur.size):=by simp only[World.shape?,q1]
  have hcell:∀j z,((l:List Int).take n)[j]? =some z→w.cell? ((⟨pl.b,0,none⟩:Addr).add j)=some (.int .u8 z):=fun j z hj=>by
   rw[List.getElem?_take]at hj
   split at hj
   ·rename_i hjn
    have hjl:j < (l:List Int).length:=by omega
    rw[Addr.add_lit,Nat.zero_add]
    simp only[World.cell?,q1]
    have:(cur.toList.take (l:List Int).length)[j]? =some (.int .u8 z):=by rw[hvs,List.getElem?_map,hj];rfl
    rw[List.getElem?_take,if_pos hjl]at this
    simpa using this
   ·cases hj
  have hlen:((l:List Int).take n).length=n:=by rw[List.length_take];omega
  have hlb:=tY (P:=P) (w:=w) ((l:List Int).take n) ⟨pl.b,0,none⟩ .empty hcell
  rw[hlen]at hlb
  have hlies:=Go.Lib.liesAt_bytes (P:=P) (e:=u) (by simpa using hce) (cur.size / P.cellsOf u) n (by
   rw[show P.cellsOf u=1 by simpa using hce,Nat.div_one];omega)
  have hfz:∃w',w.freeze ⟨pl.b,0,none⟩ n=w'∧w'.os=w.os∧w'.tape=w.tape∧w'.output=w.output∧w'.heap.size=w.heap.size∧∀b',b'≠pl.b→w'.heap[b']? =w.heap[b']? :=by
   refine⟨_,rfl,?_⟩
   unfold World.freeze
   rw[if_neg (by omega)]
   refine⟨rfl,rfl,rfl,by simp,fun b' hb'=> ?_⟩
   simp only[Array.getElem?_modify]
   rw[if_neg (fun e=>hb' e.symm)]
  obtain⟨w',hw',f1,f2,f3,f4,f5⟩:=hfz
  have i1:=h.kill hent q5 f1 f2 f3 f4 f5
  have h63:¬(9223372036854775807:Int) < (n:Int):=by unfold maxLen at q4;omega
  have hneg:¬(n:Int) < 0:=by omega
  have hn0:n≠0:=by omega
  have hmax:IntKind.i64.max=9223372036854775807:=rfl
  refine gK ho (F:=fun ty xs=>Builtin.unsafeString_ #[T,U] ty xs) (fun ty cs xs=>rfl) (x:= .string (gj ((l:List Int).take n))) (w':=w') (fun ty=> ?_) ⟨_,β,i1.put o.dst ⟨[.string (gj ((l:List Int).take n))],by simp only[V,cT];rfl,rfl⟩⟩
  rw[show(#[x,y].map a.eval)= #[a.eval x,a.eval y] by simp,hax,hay]
  have hdef:Builtin.unsafeString_ #[T,U] ty #[.pointer (some ⟨pl.b,0,none⟩),.int .i64 n]=
    (do
     let n ←Go.asInt (.int .i64 n)
     if n < 0 then runtimePanic (.error "unsafe.String: len out of range")
     if n > IntKind.i64.max then unsupported (.unsafePointer "String: a length above the largest int")
     if n=0 then pure (.string .empty)
     else if ←variablesAt ⟨pl.b,0,none⟩ (←elemOf T) n.toNat then do
      let s ←loadBytes ⟨pl.b,0,none⟩ .empty n.toNat
      freeze ⟨pl.b,0,none⟩ n.toNat
      pure (.string s)
     else unsupported (.unsafePointer "String: not so many bytes at ptr")):=rfl
  rw[hdef]
  simp[Go.asInt,asIntOf,hmax,h63,hneg,hn0,variablesAt,hsh,elemOf,run_underlying hT,hlies,hlb,hw',gj]
 ·simp only[ak]at he
end
end Go.Ab
namespace Go.Ab
section
variable {P:Program} {C:Ctx} {g:Nat→ix} {β:Id→Option Pl} {s:AS} {a:Act} {w:World} {o:Oper}
theorem wx(h:Inv C g β s a w){c:Call}{T T2:TypeId}{m k:Operand}(hop:o.op= .call c)(hc:c.callee= .builtin .delete)(ha:c.args.toList=[m,k])(ht:c.argTypes.toList=[T,T2]){s':AS}(he:(mz P s T (s.ev m) (s.ev k)).eval=some s'):eZ P o a w (fQ C (s'.put o.dst .nil)):=by
 have hop:o.op= .call {callee:= .builtin .delete,args:= #[m,k],argTypes:= #[T,T2]}:=by rw[hop,yE hc ha,DF ht]
 unfold mz at he
 split at he
 ·rename_i K V' kt vt id ver hm hx
  obtain⟨l,h1,he⟩:=aw.1 he
  obtain⟨kx,h2,he⟩:=aw.1 he
  obtain rfl:=ax.1 he
  obtain⟨hT,hK,_⟩:=nG hm
  have hvx:=h.ev m
  rw[hx]at hvx
  obtain⟨fr,pl,es,clock,g1,g2,g3,g4,g5,g6⟩:=mA h h1 hvx
  have hk:=mE (h.ev k) h2
  have hck:=hM (P:=P) (w:=w) es.isEmpty depth K kt hK 10000 (by decide) _ _ hk
  obtain⟨r,hf,hr⟩:=oN (P:=P) (w:=w) hK hk g6
  have fin:∀(es':Array MapEntry) (clock':Nat),(∀ty,(Builtin.delete_ #[T,T2] ty (#[m,k].map a.eval)).run P w= .ok (.tuple #[]) {w with heap:=w.heap.setIfInBounds pl.b (.map es' clock')})→Alike (qU (s.env w g β) kt vt) es'.toList (wD kt kx l)→
    eZ P o a w (fQ C ((s.bz id (.obj ver false (.mp kt vt (wD kt kx l)))).put o.dst .nil)):=fun es' clock' hrun hal=>
   gK (F:=fun ty xs=>Builtin.delete_ #[T,T2] ty xs) hop (fun _ _ _=>rfl) hrun ⟨g,β,(h.BD g1 g2 g4 g5 hal).put o.dst rfl⟩
  cases r with
  |none=>
   simp only at hr
   refine fin es clock (fun ty=> ?_) (by simp only[wD,hr];exact g6)
   simp[Builtin.delete_,run_underlying hT,g3,Go.MapKept.run_getObj_map g4,hck,hf,Go.MapKept.run_setObj_map _ g4]
  |some u=>
   obtain⟨j,u⟩:=u
   obtain⟨e,m1,m2,rfl⟩:=hr
   refine fin (es.eraseIdxIfInBounds j) clock (fun ty=> ?_) ?_
   ·simp[Builtin.delete_,run_underlying hT,g3,Go.MapKept.run_getObj_map g4,hck,hf,Go.MapKept.run_setObj_map _ g4]
   ·simp only[wD,m1,Array.toList_eraseIdxIfInBounds]
    exact g6.erase j
 ·simp only[ak]at he
theorem vF{Γ:dV}(hΓ:Sound P Γ){bN:List Nat}(h:Inv C g β s a w){s':AS}(he:(iE P Γ bN o s).eval=some s'):eZ P o a w (fQ C s'):=by
 unfold iE at he
 split at he
 ·rename_i x hop
  obtain rfl:=ax.1 he
  exact tP h (.inl hop)
 ·rename_i x hop
  obtain rfl:=ax.1 he
  exact tP h (.inr hop)
 ·rename_i c x y hop
  obtain⟨v,h1,h2⟩:=aw.1 he
  obtain rfl:=ax.1 h2
  exact z9 h hop h1
 ·rename_i T hop
  split at he
  ·rename_i z q hz hq
   obtain⟨h1,h2⟩:=aE.1 he
   obtain rfl:=ax.1 h2
   simp only[Bool.and_eq_true]at h1
   exact xy h hop h1.1 h1.2
  ·exact(ak.1 he).elim
 ·rename_i T x hop
  exact AH h hop he
 ·rename_i T parts hop
  exact xE h hop he
 ·rename_i T n parts hop
  exact qV h hop he
 ·rename_i T x hop
  obtain⟨v,h1,h2⟩:=aw.1 he
  obtain rfl:=ax.1 h2
  exact zV h hop h1
 ·rename_i T x v hop
  obtain⟨v,h1,h2⟩:=aw.1 he
  obtain rfl:=ax.1 h2
  exact yq h hop h1
 ·rename_i x hop
  exact tg h hop he
 ·rename_i op T x y U hop
  split at he
  ·rename_i i v1 j v2 hx hy
   obtain⟨v,h1,h2⟩:=aw.1 he
   obtain rfl:=ax.1 h2
   exact AX h hop hx hy h1
  ·obtain⟨v,h1,h2⟩:=aw.1 he
   obtain rfl:=ax.1 h2
   exact xC h hop h1
 ·rename_i op T x hop
  obtain⟨v,h1,h2⟩:=aw.1 he
  obtain rfl:=ax.1 h2
  exact Ap h hop h1
 ·rename_i T U x hop
  split at he
  ·rename_i id ver len hTU hx
   exact xI h hop hx he
  ·rename_i id ver hx
   obtain⟨v,h1,h2⟩:=aw.1 he
   obtain rfl:=ax.1 h2
   exact xJ h hop hx h1
  ·obtain⟨v,h1,h2⟩:=aw.1 he
   obtain rfl:=ax.1 h2
   exact uC h hop h1
 ·rename_i T x hop
  exact yr h hop he
 ·rename_i f first caps hop
  obtain⟨h1,h2⟩:=aE.1 he
  obtain rfl:=ax.1 h2
  simp only[Bool.and_eq_true]at h1
  exact td h hop h1.1 h1.2
 ·rename_i T l c hop
  obtain⟨n,h1,h2⟩:=aw.1 he
  obtain⟨m,h3,h4⟩:=aw.1 h2
  exact r0 h hop h1 h3 h4
 ·rename_i T x lo hi hop
  obtain⟨v,h1,h2⟩:=aw.1 he
  obtain rfl:=ax.1 h2
  exact ym h hop h1
 ·rename_i T x f hop
  obtain⟨v,h1,h2⟩:=aw.1 he
  obtain rfl:=ax.1 h2
  exact rL h hop h1
 ·rename_i T x f hop
  obtain⟨v,h1,h2⟩:=aw.1 he
  obtain rfl:=ax.1 h2
  exact xO h hop h1
 ·rename_i T x i hop
  obtain⟨n,h0,he⟩:=aw.1 he
  obtain⟨v,h1,h2⟩:=aw.1 he
  obtain rfl:=ax.1 h2
  exact rV h hop h0 h1
 ·rename_i T x i hop
  obtain⟨n,h0,he⟩:=aw.1 he
  obtain⟨v,h1,h2⟩:=aw.1 he
  obtain rfl:=ax.1 h2
  exact xT h hop h0 h1
 ·rename_i x i hop
  obtain⟨v,h1,h2⟩:=aw.1 he
  obtain rfl:=ax.1 h2
  exact uG h hop h1
 ·rename_i T hop
  exact uU h hop he
 ·rename_i T x i ok hop
  obtain⟨v,h1,h2⟩:=aw.1 he
  obtain rfl:=ax.1 h2
  exact wo h hop h1
 ·rename_i T m k x hop
  obtain⟨s1,h1,h2⟩:=aw.1 he
  obtain rfl:=ax.1 h2
  exact wz h hop h1
 ·rename_i c hop
  split at he
  ·rename_i hc
   split at he
   ·rename_i m k T T2 ha ht
    obtain⟨s1,h1,h2⟩:=aw.1 he
    obtain rfl:=ax.1 h2
    exact wx h hop hc ha ht h1
   ·exact(ak.1 he).elim
  ·rename_i hc
   split at he
   ·rename_i x y T X ha ht
    exact zG h hop hc ha ht he
   ·exact(ak.1 he).elim
  ·rename_i hc
   split at he
   ·rename_i x T ha ht
    obtain⟨v,h1,h2⟩:=aw.1 he
    obtain rfl:=ax.1 h2
    exact Bd h hop hc ha ht h1
   ·exact(ak.1 he).elim
  ·rename_i hc
   split at he
   ·rename_i x y T X ha ht
    split at he
    ·rename_i k n hx hy
     exact zM h hop hc ha ht hx hy he
    ·exact vG h hop hc ha ht he
   ·exact(ak.1 he).elim
  ·rename_i hc
   split at he
   ·rename_i x T ha ht
    split at he
    ·rename_i e hx hT
     obtain rfl:=ax.1 he
     exact AO h hop hc ha ht hx hT
    ·exact(ak.1 he).elim
   ·exact(ak.1 he).elim
  ·rename_i hc
   obtain⟨v,h1,h2⟩:=aw.1 he
   obtain rfl:=ax.1 h2
   exact wB (mx:=true) h hop hc h1
  ·rename_i hc
   obtain⟨v,h1,h2⟩:=aw.1 he
   obtain rfl:=ax.1 h2
   exact wB (mx:=false) h hop hc h1
  ·rename_i hc
   split at he
   ·rename_i x ha
    split at he
    ·rename_i id ver len hx
     obtain⟨h1,h2⟩:=bF.1 he
     obtain rfl:=ax.1 h2
     exact xf h hop hc ha hx (by simpa using h1)
    ·exact(ak.1 he).elim
   ·exact(ak.1 he).elim
  ·rename_i hc
   split at he
   ·rename_i x y T U ha ht
    split at he
    ·rename_i id ver n hx hy
     exact Ao h hop hc ha ht hx hy he
    ·exact(ak.1 he).elim
   ·exact(ak.1 he).elim
  ·rename_i F hc
   split at he
   ·rename_i f caps hF
    split at he
    ·rename_i en hen
     exact zC h hop hc hF (hΓ f _ en hen) he
    ·exact(ak.1 he).elim
   ·exact(ak.1 he).elim
  ·exact(ak.1 he).elim
 ·exact(ak.1 he).elim
end
end Go.Ab
namespace Go.Ab
def jo(P:Program)(ops:Array Oper)(o:Oper)(a:Act)(w:World)(K:Act→World→Prop):Prop:=
 if Region.wanted o (yielded ops a.tmps) then eZ P o a w K else K (a.put o.dst undef) w
theorem jo.mono{P:Program}{ops:Array Oper}{o:Oper}{a:Act}{w:World}{K K':Act→World→Prop}(h:jo P ops o a w K)(hk:∀a w,K a w→K' a w):jo P ops o a w K':=by
 unfold jo at*
 split
 ·rename_i hw;rw[if_pos hw]at h;exact h.mono hk
 ·rename_i hw;rw[if_neg hw]at h;exact hk _ _ h
theorem eZ.some{P:Program}{o:Oper}{a:Act}{w:World}{K:Act→World→Prop}(h:eZ P o a w K):∃a' w',K a' w':=by
 rcases h with⟨x,w',_,h⟩ | ⟨w',_,h⟩ | ⟨f,args,w',_,h⟩
 ·exact⟨_,_,h⟩
 ·exact⟨_,_,h⟩
 ·obtain⟨e,w'',_,⟨x,_,hx⟩,_⟩:=h []
  exact⟨_,_,hx⟩
theorem jo.some{P:Program}{ops:Array Oper}{o:Oper}{a:Act}{w:World}{K:Act→World→Prop}(h:jo P ops o a w K):∃a' w',K a' w':=by
 unfold jo at h
 split at h
 ·exact h.some
 ·exact⟨_,_,h⟩
theorem jo.wpList{P:Program}{ops:Array Oper}{o:Oper}{a:Act}{w:World}{Q:Exit→Act→World→Prop}{l:List Oper}(h:jo P ops o a w (wpList P ops Q l)):Go.wpList P ops Q (o::l) a w:=by
 unfold jo at h
 unfold Go.wpList
 split
 ·rename_i hw;rw[if_pos hw]at h;exact .inl h.wp
 ·rename_i hw;rw[if_neg hw]at h;exact h
theorem jo.wpOp{P:Program}{ops:Array Oper}{o:Oper}{i:Nat}{a:Act}{w:World}{Q:Exit→Act→World→Prop}{K:Act→World→Prop}(ho:ops[i]? =Option.some o)(h:jo P ops o a w K):Go.wpOp P ops Q i K a w:=by
 unfold jo at h
 unfold Go.wpOp
 simp only[ho]
 split
 ·rename_i hw;rw[if_pos hw]at h;exact .inl h.wp
 ·rename_i hw;rw[if_neg hw]at h;exact h
theorem Bw{s:AS}{q:Nat}{v:aC}(h:s.slot q=v)(hq:q < s.cl.length):s.put (some q) v=s:=by
 have hv:s.cl[q]=v:=by simpa[AS.slot,List.getD_eq_getElem?_getD,hq]using h
 simp only[AS.put]
 rw[←hv,List.set_getElem_self]
theorem zj{s:AS}{q:Nat}{t:Ty}{x:t.den}(h:s.slot q= .d t x):q < s.cl.length:=by
 rcases Nat.lt_or_ge q s.cl.length with h' | h'
 ·exact h'
 ·simp[AS.slot,List.getD_eq_getElem?_getD,List.getElem?_eq_none h']at h
def oq(P:Program)(Γ:dV)(bN:List Nat)(ops:Array Oper)(o:Oper)(s:AS):Option AS:=
 match o.guard with
 |none=>(iE P Γ bN o s).eval
 |some (j,want)=>match(ops[j]?).bind (·.dst) with
  |some q=>match s.slot q with
   | .d .bool b=>if b=want then(iE P Γ bN o s).eval else some (s.put o.dst .nil)
   | .nil=>some (s.put o.dst .nil)
   |_=>none
  |none=>none
theorem v5{R:Type}{P:Program}{Γ:dV}{bN:List Nat}{ops:Array Oper}{o:Oper}{s:AS}{k:AS→Option R}{r:R}(h:Df P Γ bN ops o s k=some r):∃s',oq P Γ bN ops o s=some s'∧k s'=some r:=by
 unfold Df at h
 unfold oq
 split at h
 ·rename_i hg
  simp only[hg]
  exact iI.1 h
 ·rename_i j want hg
  simp only[hg]
  split at h
  ·rename_i q hq
   simp only[hq]
   split at h
   ·rename_i b hb
    have e:=Bw hb (zj hb)
    simp only[hb]
    cases want <;> cases b <;> simp only[aF]at h <;> rw[e]at h
    ·obtain⟨s',h1,h2⟩:=iI.1 h
     exact⟨s',by simpa using h1,h2⟩
    ·exact⟨_,by simp,h⟩
    ·exact⟨_,by simp,h⟩
    ·obtain⟨s',h1,h2⟩:=iI.1 h
     exact⟨s',by simpa using h1,h2⟩
   ·rename_i hb
    simp only[hb]
    exact⟨_,rfl,h⟩
   ·cases h
  ·cases h
section
variable {P:Program} {C:Ctx} {g:Nat→ix} {β:Id→Option Pl} {s:AS} {a:Act} {w:World} {o:Oper}
theorem yA(h:Inv C g β s a w){ops:Array Oper}{j q:Nat}{b:Bool}(hq:(ops[j]?).bind (·.dst)=some q)(hb:s.slot q= .d .bool b):yielded ops a.tmps j=some b:=by
 have hv:=h.cl q
 rw[hb]at hv
 have hv:=rh hv
 have hl:=zj hb
 rw[←h.size]at hl
 unfold yielded
 rw[hq,Option.bind_some]
 have:a.tmps[q]? =some (.bool b):=by
  rw[Array.getElem?_eq_getElem hl]
  simpa[Array.getD,hl]using hv
 rw[this]
theorem xr(h:Inv C g β s a w){ops:Array Oper}{j q:Nat}(hq:(ops[j]?).bind (·.dst)=some q)(hb:s.slot q= .nil):yielded ops a.tmps j=none:=by
 have hv:=h.cl q
 rw[hb]at hv
 have hv:a.tmps.getD q undef= .tuple #[]:=hv
 unfold yielded
 rw[hq,Option.bind_some]
 split
 ·rename_i b hb
  rw[Array.getD_eq_getD_getElem?,hb]at hv
  cases hv
 ·rfl
theorem tG{Γ:dV}(hΓ:Sound P Γ){bN:List Nat}{ops:Array Oper}(h:fQ C s a w){s':AS}(he:oq P Γ bN ops o s=some s'):jo P ops o a w (fQ C s'):=by
 obtain⟨g,β,h⟩:=h
 unfold oq at he
 unfold jo
 split at he
 ·rename_i hg
  have:Region.wanted o (yielded ops a.tmps)=true:=by simp[Region.wanted,hg]
  rw[if_pos this]
  exact vF hΓ h he
 ·rename_i j want hg
  split at he
  ·rename_i q hq
   split at he
   ·rename_i b hb
    have hy:=yA h hq hb
    have hw:Region.wanted o (yielded ops a.tmps)=(b==want):=by simp[Region.wanted,hg,hy]
    rw[hw]
    by_cases e:b=want
    ·rw[if_pos e]at he
     rw[if_pos (by simp[e])]
     exact vF hΓ h he
    ·rw[if_neg e]at he
     rw[if_neg (by simp[e])]
     simp only[Option.some.injEq]at he
     subst he
     exact⟨g,β,h.put o.dst rfl⟩
   ·rename_i hb
    have hy:=xr h hq hb
    have hw:Region.wanted o (yielded ops a.tmps)=false:=by simp[Region.wanted,hg,hy]
    rw[hw,if_neg (by simp)]
    simp only[Option.some.injEq]at he
    subst he
    exact⟨g,β,h.put o.dst rfl⟩
   ·cases he
  ·cases he
theorem yX{R:Type}{x y:Option R}{r:R}(h:nd x y=some r):x=some r∧y=some r:=by
 unfold nd at h
 split at h
 ·rename_i e;exact⟨h,e▸h⟩
 ·cases h
theorem yc(h:Inv C g β s a w){x y:Operand}{n:Nat}(hn:r9 s x y=some n){T:TypeId}(hT:lY.isSl P T=true):∃b,(0 < n→b=false)∧(Op.equal T (a.eval x) (a.eval y)).run P w= .ok b w∧
  iY (a.eval x)=false∧a.eval x≠ .nilIface∧∀op,binOp op T (a.eval x) (a.eval y)=(match op with | .eql=>do pure (.bool (←Op.equal T (a.eval x) (a.eval y))) | .neq=>do pure (.bool (!(←Op.equal T (a.eval x) (a.eval y)))) | _=>binOp op T (a.eval x) (a.eval y)):=by
 have hx:=h.ev x
 have hy:=h.ev y
 unfold lY.isSl at hT
 split at hT <;> try (cases hT;done)
 rename_i e hU
 unfold r9 at hn
 split at hn
 ·rename_i t l h1 h2
  rw[h1]at hx;rw[h2]at hy
  obtain⟨ad,cap,vs,hv,_,hs,_⟩:=ko hx
  have hv2:=gQ hy
  rw[hv,hv2]
  refine⟨ad.isNone,fun hp=> ?_,?_,rfl,by simp,fun op=>by cases op <;> rfl⟩
  ·obtain rfl:=Option.some.inj hn
   obtain⟨ad',rfl⟩:=Option.isSome_iff_exists.1 (hs hp)
   rfl
  ·cases ad with
   |none=>exact fG fun d=>by simp[Op.equalIn,run_underlying hU]
   |some ad=>exact fG fun d=>by simp[Op.equalIn,run_underlying hU]
 ·rename_i t l h1 h2
  rw[h1]at hx;rw[h2]at hy
  obtain⟨ad,cap,vs,hv,_,hs,_⟩:=ko hy
  have hv2:=gQ hx
  rw[hv,hv2]
  refine⟨ad.isNone,fun hp=> ?_,?_,rfl,by simp,fun op=>by cases op <;> rfl⟩
  ·obtain rfl:=Option.some.inj hn
   obtain⟨ad',rfl⟩:=Option.isSome_iff_exists.1 (hs hp)
   rfl
  ·exact fG fun d=>by simp[Op.equalIn,run_underlying hU]
 ·cases hn
theorem pB(h:Inv C g β s a w){x y:Operand}{n:Nat}{T U:TypeId}(hn:r9 s x y=some n)(hT:lY.isSl P T=true):
  (o.op= .binOp .eql T x y U→∃b,(0 < n→b=false)∧eZ P o a w (fQ C (s.put o.dst (.d .bool b))))∧(o.op= .binOp .neq T x y U→∃b,(0 < n→b=true)∧eZ P o a w (fQ C (s.put o.dst (.d .bool b)))):=by
 obtain⟨b,h1,h2,h3,h4,h5⟩:=yc (w:=w) h hn hT
 have hg:∀op,(eqGuard op T x y (a.eval x) (a.eval y)).run P w= .ok () w:=fun op=>gV h4 h3
 refine⟨fun ho=>⟨b,h1,h.value (kG b) ?_⟩,fun ho=>⟨!b,fun hp=>by rw[h1 hp];rfl,h.value (kG (!b)) ?_⟩⟩
 ·have h6:(binOp .eql T (a.eval x) (a.eval y)).run P w= .ok (.bool b) w:=by rw[h5 .eql];simp[h2]
  simp[execOp,ho,hg,h6]
 ·have h6:(binOp .neq T (a.eval x) (a.eval y)).run P w= .ok (.bool (!b)) w:=by rw[h5 .neq];simp[h2]
  simp[execOp,ho,hg,h6]
theorem w4{R:Type}{c:Bool}{x y:Option R}{r:R}(h:aF c x y=some r):(c=true∧x=some r)∨(c=false∧y=some r):=by
 cases c
 ·exact .inr ⟨rfl,h⟩
 ·exact .inl ⟨rfl,h⟩
theorem zL{Γ:dV}(hΓ:Sound P Γ){bN:List Nat}{ops:Array Oper}{R:Type}{k:AS→Option R}{r:R}(h:fQ C s a w)(he:Cf P Γ bN ops o s k=some r):
  jo P ops o a w fun a' w'=>∃s',fQ C s' a' w'∧k s'=some r:=by
 have plain:Df P Γ bN ops o s k=some r→jo P ops o a w fun a' w'=>∃s',fQ C s' a' w'∧k s'=some r:=fun he=>by
  obtain⟨s1,h1,h2⟩:=v5 he
  exact(tG hΓ h h1).mono fun a' w' hs=>⟨s1,hs,h2⟩
 have step:∀(hg:o.guard=none) (b:Bool),eZ P o a w (fQ C (s.put o.dst (.d .bool b)))→k (s.put o.dst (.d .bool b))=some r→jo P ops o a w fun a' w'=>∃s',fQ C s' a' w'∧k s'=some r:=fun hg b hr hk=>by
  unfold jo
  have:Region.wanted o (yielded ops a.tmps)=true:=by simp[Region.wanted,hg]
  rw[if_pos this]
  exact hr.mono fun a' w' hs=>⟨_,hs,hk⟩
 unfold Cf at he
 split at he
 ·rename_i T x y U hg ho
  split at he
  ·rename_i n hn hT
   obtain⟨g,β,hi⟩:=h
   obtain⟨b,hb,hr⟩:=(pB (o:=o) (U:=U) hi hn hT).1 ho
   refine step hg b hr ?_
   rcases w4 he with⟨hc,hk⟩ | ⟨_,hk⟩
   ·rw[hb (by simpa using hc)];exact hk
   ·obtain⟨k1,k2⟩:=yX hk
    cases b
    ·exact k2
    ·exact k1
  ·exact plain he
 ·rename_i T x y U hg ho
  split at he
  ·rename_i n hn hT
   obtain⟨g,β,hi⟩:=h
   obtain⟨b,hb,hr⟩:=(pB (o:=o) (U:=U) hi hn hT).2 ho
   refine step hg b hr ?_
   rcases w4 he with⟨hc,hk⟩ | ⟨_,hk⟩
   ·rw[hb (by simpa using hc)];exact hk
   ·obtain⟨k1,k2⟩:=yX hk
    cases b
    ·exact k2
    ·exact k1
  ·exact plain he
 ·exact plain he
theorem qI{Γ:dV}(hΓ:Sound P Γ){bN:List Nat}{ops:Array Oper}{R:Type}{Q:Exit→Act→World→Prop}:∀(l:List Oper) {s:AS} {a:Act} {w:World} {k:AS→Option R} {r:R},fQ C s a w→Cg P Γ bN ops l s k=some r→
  (∀s' a' w',fQ C s' a' w'→k s'=some r→Q .normal a' w')→wpList P ops Q l a w
 |[],s,a,w,k,r,h,he,hk=>hk s a w h he
 |o::l,s,a,w,k,r,h,he,hk=>by
  have he:Cf P Γ bN ops o s (fun s'=>s'.seen fun s'=>Cg P Γ bN ops l s' k)=some r:=he
  simp only[AS.pP]at he
  exact((zL hΓ h he).mono fun a' w' ⟨s',hs,h2⟩=>qI hΓ l hs h2 hk).wpList
end
end Go.Ab
namespace Go.Ab
theorem AS.AY{s t:AS}(h1:s.cl=t.cl)(h2:s.news.length=t.news.length)(h3:∀id,s.ck id=t.ck id):s=t:=by
 obtain⟨a,b,c⟩:=s
 obtain⟨a',b',c'⟩:=t
 simp only at h1 h2
 subst h1
 have hb:b=b':=List.ext_getElem? fun k=>h3 (.fK k)
 subst hb
 have hc:c=c':=by
  apply List.ext_getElem h2
  intro i h h'
  apply List.ext_getElem?
  intro j
  have:=h3 (.new i j)
  simpa[AS.ck,List.getD_eq_getElem?_getD,h,h']using this
 rw[hc]
def eP.xd:eP→eP→Prop
 | .obj v _ c,.obj v' _ c'=>v=v'∧c=c'
 | .dead,.dead=>True
 |_,_=>False
def lg:Option eP→Option eP→Prop
 |some a,some b=>a.xd b
 |none,none=>True
 |_,_=>False
def eP.yN:eP→eP
 | .obj v _ c=> .obj v true c
 | .dead=> .dead
theorem eP.BG(a:eP):a.xd a:=by cases a <;> simp[eP.xd]
theorem Aj(a:Option eP):lg a a:=by cases a <;> simp[lg,eP.BG]
theorem Ai(a:Option eP):lg (a.map eP.yN) a:=by
 cases a with
 |none=>trivial
 |some x=>cases x <;> simp[lg,eP.xd,eP.yN]
theorem eP.Cd(a:eP):a.yN.yN=a.yN:=by cases a <;> rfl
structure gG(f:nb)(s t:AS):Prop where
 cl:∀i∈f.cl,t.slot i=s.slot i
 ws:∀id∈f.ws,t.ck id=s.ck id
 rs:∀id∈f.rs,lg (t.ck id) (s.ck id)
 dO:∀q,f.dst=some q→t.dO q=s.dO q
structure DH where
 v:aC
 up:Id→Option eP
 fz:List Id
structure App(d:Option Tmp)(E:DH)(s s':AS):Prop where
 cl:s'.cl=(s.put d E.v).cl
 len:s'.news.length=s.news.length
 ck:∀id,s'.ck id=match E.up id with | some e=>some e | none=>if id∈E.fz then(s.ck id).map eP.yN else s.ck id
theorem App.Dd{d:Option Tmp}{E:DH}{s s1 s2:AS}(h1:App d E s s1)(h2:App d E s s2):s1=s2:=
 AS.AY (by rw[h1.cl,h2.cl]) (by rw[h1.len,h2.len]) fun id=>by rw[h1.ck,h2.ck]
structure uq(f:nb)(s:AS)(E:DH):Prop where
 up:∀id e,E.up id=some e→(id∈f.ws∧s.ck id≠none)∨∃q j,f.dst=some q∧id= .new q j
 fz:∀id∈E.fz,id∈f.rs
theorem oQ(s:AS)(id:Id)(e:eP):(s.bz id e).news.length=s.news.length:=by cases id <;> simp[AS.bz]
theorem s8(s:AS)(id i:Id):(s.freeze id).ck i=if i=id then(s.ck i).map eP.yN else s.ck i:=by
 unfold AS.freeze
 cases hs:s.ck id with
 |none=>
  by_cases hi:i=id
  ·subst hi;simp[hs]
  ·simp[hi]
 |some e=>
  cases e with
  |dead=>
   by_cases hi:i=id
   ·subst hi;simp[hs,eP.yN]
   ·simp[hi]
  |obj v fr c=>
   simp only
   by_cases hi:i=id
   ·subst hi
    rw[eS s i _ (by rw[hs];simp)]
    simp[hs,eP.yN]
   ·rw[dW s id i _ hi];simp[hi]
theorem eL(i:Id):∀(ids:List Id) (s:AS),(s.bj ids).ck i=if i∈ids then(s.ck i).map eP.yN else s.ck i
 |[],s=>by simp[AS.bj]
 |id::ids,s=>by
  rw[AS.bj,eL i ids,s8]
  by_cases h1:i=id
  ·subst h1
   by_cases h2:i∈ids
   ·simp[h2,Option.map_map,Function.comp_def,eP.Cd]
   ·simp[h2]
  ·simp[h1]
theorem xW(s:AS)(id:Id):(s.freeze id).news.length=s.news.length:=by
 unfold AS.freeze
 split
 ·exact oQ _ _ _
 ·rfl
theorem iG:∀(ids:List Id) (s:AS),(s.bj ids).news.length=s.news.length
 |[],_=>rfl
 |id::ids,s=>by rw[AS.bj,iG ids,xW]
theorem lk{s:AS}{q:Nat}:s.dO q=true↔q < s.news.length∧∀j,s.ck (.new q j)=none:=by
 refine⟨fun h=>⟨(gl h).2,(gl h).1⟩,fun⟨h1,h2⟩=> ?_⟩
 unfold AS.dO
 rw[List.getElem?_eq_getElem h1]
 have h0:=h2 0
 simp only[AS.ck,List.getD_eq_getElem?_getD,List.getElem?_eq_getElem h1,Option.getD_some]at h0
 cases hh:s.news[q]with
 |nil=>rfl
 |cons x xs=>rw[hh]at h0;simp at h0
theorem App.qh(d:Option Tmp)(v:aC)(ids:List Id)(s:AS):App d ⟨v,fun _=>none,ids⟩ s ((s.bj ids).put d v):=by
 refine⟨?_,?_,fun id=> ?_⟩
 ·cases d <;> simp[AS.put,gU]
 ·cases d <;> simp[AS.put,iG]
 ·rw[nV,eL]
theorem App.oa(d:Option Tmp)(v:aC)(s:AS):App d ⟨v,fun _=>none,[]⟩ s (s.put d v):=App.qh d v [] s
def p9(q:Nat)(es:List eP):Id→Option eP
 | .new i j=>if i=q then es[j]? else none
 | .fK _=>none
theorem AV(s:AS){q:Nat}(hq:q < s.news.length)(es:List eP)(id:Id):(s.born q es).ck id=match id with | .new i j=>if i=q then es[j]? else s.ck (.new i j) | .fK k=>s.ck (.fK k):=by
 cases id with
 |fK k=>rfl
 |new i j=>
  simp only
  by_cases h:i=q
  ·subst h;rw[if_pos rfl];exact kL hq _ j
  ·rw[if_neg h];exact gB _ fun j' e=>by simp only[Id.new.injEq]at e;exact h e.1
theorem App.yI{s:AS}{q:Nat}(hv:s.dO q=true)(v:aC)(ids:List Id)(es:List eP):App (some q) ⟨v,p9 q es,ids⟩ s (((s.bj ids).born q es).put (some q) v):=by
 obtain⟨h1,h2⟩:=lk.1 hv
 refine⟨?_,?_,fun id=> ?_⟩
 ·simp[AS.put,gU]
 ·simp[AS.put,AS.born,iG]
 ·rw[nV,AV _ (by rw[iG];exact h1)]
  cases id with
  |fK k=>simp only[p9];exact eL _ _ _
  |new i j=>
   simp only[p9]
   by_cases h:i=q
   ·subst h
    rw[if_pos rfl]
    cases he:es[j]? with
    |none=>simp[h2]
    |some e=>simp
   ·rw[if_neg h]
    simp only[if_neg h]
    exact eL _ _ _
theorem App.BE{s:AS}{id:Id}{e0:eP}(hs:s.ck id=some e0)(d:Option Tmp)(v:aC)(e:eP):App d ⟨v,fun i=>if i=id then some e else none,[]⟩ s ((s.bz id e).put d v):=by
 refine⟨?_,?_,fun i=> ?_⟩
 ·cases d <;> simp[AS.put]
 ·cases d <;> simp[AS.put,oQ]
 ·rw[nV]
  by_cases hi:i=id
  ·subst hi
   rw[eS s i _ (by rw[hs];simp)]
   simp
  ·rw[dW s id i _ hi];simp[hi]
section
variable {P:Program} {Γ:dV} {bN:List Nat} {ops:Array Oper} {o:Oper} {s t:AS}
def o9(P:Program)(Γ:dV)(bN:List Nat)(ops:Array Oper)(o:Oper)(s s':AS):Prop:=
 ∃E,App o.dst E s s'∧uq (fh Γ ops s o) s E∧∀t,gG (fh Γ ops s o) s t→∃t',(iE P Γ bN o t).eval=some t'∧App o.dst E t t'
theorem qM{xs:Array Operand}{i:Nat}(h:Operand.tmp i∈xs.toList):i∈ru xs:=by
 unfold ru
 exact List.mem_filterMap.2 ⟨_,h,rfl⟩
theorem gG.ev(h:gG (fh Γ ops s o) s t){x:Operand}(hx:x∈o.op.operands.toList):t.ev x=s.ev x:=by
 cases x with
 |tmp i=>exact h.cl i (List.mem_append.2 (.inl (qM hx)))
 |_=>rfl
theorem wN(v:Value):(ofConst v).ids=[]:=by unfold ofConst;split <;> rfl
theorem oO{x:Operand}(hx:x∈o.op.operands.toList){id:Id}(hid:id∈(s.ev x).ids):id∈(fh Γ ops s o).rs:=by
 refine List.mem_append.2 (.inl ?_)
 unfold wO
 cases x with
 |tmp i=>exact List.mem_flatMap.2 ⟨i,qM hx,hid⟩
 |const v=>simp[AS.ev,wN]at hid
 |global _=>simp[AS.ev,aC.ids]at hid
 |func f=>simp[AS.ev,aC.ids]at hid
theorem gG.xd(h:gG (fh Γ ops s o) s t){x:Operand}(hx:x∈o.op.operands.toList){id:Id}(hid:id∈(s.ev x).ids):lg (t.ck id) (s.ck id):=
 h.rs id (oO hx hid)
theorem pR{id:Id}(h:lg (t.ck id) (s.ck id)):(t.obj id=none∧s.obj id=none)∨∃v f f' c,t.obj id=some (v,f,c)∧s.obj id=some (v,f',c):=by
 unfold AS.obj
 revert h
 cases t.ck id with
 |none=>cases s.ck id with
  |none=>intro _;simp
  |some b=>intro h;exact h.elim
 |some a=>cases s.ck id with
  |none=>intro h;exact h.elim
  |some b=>cases a <;> cases b <;> intro h <;> first
    |exact h.elim
    | (left;exact⟨rfl,rfl⟩)
    | (obtain⟨rfl,rfl⟩:=h;right;exact⟨_,_,_,_,rfl,rfl⟩)
theorem qt{id:Id}(h:lg (t.ck id) (s.ck id))(ver:Nat)(p:List pa):t.row id ver p=s.row id ver p:=by
 unfold AS.row
 rcases pR h with⟨h1,h2⟩ | ⟨v,f,f',c,h1,h2⟩ <;> rw[h1,h2]
theorem ij:∀(v:aC) (ty:Ty),(∀id∈v.ids,lg (t.ck id) (s.ck id))→t.fP ty v=s.fP ty v
 | .bU id ver p c i len,ty,h=>by
  cases ty <;> first
   |rfl
   | (simp only[AS.fP];rw[qt (h id (by simp[aC.ids]))])
 | .pr a b,ty,h=>by
  cases ty <;> first
   |rfl
   | (simp only[AS.fP];rw[ij a _ fun id hid=>h id (by simp[aC.ids,hid]),ij b _ fun id hid=>h id (by simp[aC.ids,hid])])
 | .undef,ty,_ | .gone,ty,_ | .da,ty,_ | .kc,ty,_ | .ka,ty,_ | .lJ,ty,_ | .d _ _,ty,_ | .ptr ..,ty,_ | .ej ..,ty,_ | .fn ..,ty,_ | .cons ..,ty,_ | .nil,ty,_ | .vec ..,ty,_ | .bx ..,ty,_ | .jt ..,ty,_ | .mp ..,ty,_ | .sb _,ty,_=>by
  cases ty <;> simp only[AS.fP]
theorem jO:∀(v:aC),∀id∈v.shared,id∈v.ids
 | .bU ..,id,h=>by simpa[aC.shared,aC.ids]using h
 | .pr a b,id,h=>by
  simp only[aC.shared,List.mem_append,aC.ids]at h ⊢
  rcases h with h | h
  ·exact .inl (jO a id h)
  ·exact .inr (jO b id h)
 | .undef,_,h | .gone,_,h | .da,_,h | .kc,_,h | .ka,_,h | .lJ,_,h | .d _ _,_,h | .ptr ..,_,h | .ej ..,_,h | .fn ..,_,h | .cons ..,_,h | .nil,_,h | .vec ..,_,h | .bx ..,_,h | .jt ..,_,h | .mp ..,_,h | .sb _,_,h=>by
  simp[aC.shared]at h
theorem wm{T:TypeId}{x:aC}(h:∀id∈x.ids,lg (t.ck id) (s.ck id)):py P t T x=py P s T x:=by
 unfold py
 split
 ·rename_i id ver p n
  rcases pR (h id (by simp[aC.ids])) with⟨h1,h2⟩ | ⟨v,f,f',c,h1,h2⟩ <;> rw[h1,h2]
 ·rfl
 ·rfl
theorem uA{n:Nat}{lo hi:Option Operand}(hl:∀x,lo=some x→t.ev x=s.ev x)(hh:∀x,hi=some x→t.ev x=s.ev x):bounds t n lo hi=bounds s n lo hi:=by
 unfold bounds
 cases lo <;> cases hi <;> simp only[] <;> first
  |rfl
  | (rw[hl _ rfl,hh _ rfl])
  |rw[hl _ rfl]
  |rw[hh _ rfl]
theorem vg{T:TypeId}{x:aC}{lo hi:Option Operand}(h:∀id∈x.ids,lg (t.ck id) (s.ck id))(hl:∀x,lo=some x→t.ev x=s.ev x)(hh:∀x,hi=some x→t.ev x=s.ev x):
  oV P t T x lo hi=oV P s T x lo hi:=by
 have hb:∀n,bounds t n lo hi=bounds s n lo hi:=fun n=>uA hl hh
 unfold oV
 split <;> first
  |rfl
  | (rw[qt (h _ (by simp[aC.ids]))];simp only[hb];done)
  | (simp only[hb];done)
theorem qj{T:TypeId}{x:aC}{i:Int}(h:∀id∈x.ids,lg (t.ck id) (s.ck id)):iX P t T x i=iX P s T x i:=by
 unfold iX
 split <;> first
  |rfl
  |rw[qt (h _ (by simp[aC.ids]))]
theorem vP{obj:Bool}{src dst:TypeId}{x:aC}(h:∀id∈x.ids,lg (t.ck id) (s.ck id)):tx P t obj src dst x=tx P s obj src dst x:=by
 unfold tx
 split
 ·rfl
 ·unfold AQ
  split <;> first
   |rfl
   | (simp only[AS.yf,ij _ _ h])
theorem zI{T:TypeId}{op:BinOp}{i:Id}{v:Nat}{j:Id}{w:Nat}(h:lg (t.ck i) (s.ck i)):DM P t T op i v j w=DM P s T op i v j w:=by
 unfold DM
 rcases pR h with⟨h1,h2⟩ | ⟨v,f,f',c,h1,h2⟩ <;> rw[h1,h2]
theorem vR{src dst:TypeId}{id:Id}{ver:Nat}(h:lg (t.ck id) (s.ck id)):tz P t src dst id ver=tz P s src dst id ver:=by
 unfold tz
 rcases pR h with⟨h1,h2⟩ | ⟨v,f,f',c,h1,h2⟩
 ·rw[h1,h2]
 ·rw[h1,h2]
  cases c <;> first
   |rfl
   | (rename_i e z c;cases z <;> rfl)
theorem lf{ty:Ty}:∀(ps:List (Nat×Operand)) (l:List ty.den),(∀x∈ps,t.ev x.2=s.ev x.2∧∀id∈(s.ev x.2).ids,lg (t.ck id) (s.ck id))→fT ty t ps l=fT ty s ps l
 |[],_,_=>rfl
 | (i,x)::ps,l,h=>by
  obtain⟨h1,h2⟩:=h (i,x) (List.mem_cons_self ..)
  simp only[fT]
  simp only at h1 h2
  rw[h1,ij _ _ h2]
  congr 2
  funext y
  rw[lf ps _ fun z hz=>h z (List.mem_cons_of_mem _ hz)]
theorem kC{ty:Ty}:∀(ps:List (Nat×Operand)) (l:List ty.den) (r:List ty.den×List Id),(fT ty s ps l).eval=some r→∀id∈r.2,∃x∈ps,id∈(s.ev x.2).ids
 |[],l,r,h,id,hid=>by
  obtain rfl:=ax.1 h
  cases hid
 | (i,x)::ps,l,r,h,id,hid=>by
  simp only[fT]at h
  obtain⟨h1,h2⟩:=aE.1 h
  obtain⟨y,h3,h4⟩:=aw.1 h2
  obtain⟨r',h5,h6⟩:=aw.1 h4
  obtain rfl:=ax.1 h6
  rcases List.mem_append.1 hid with hid | hid
  ·exact⟨(i,x),List.mem_cons_self ..,jO _ _ hid⟩
  ·obtain⟨z,hz,hz2⟩:=kC ps _ r' h5 id hid
   exact⟨z,List.mem_cons_of_mem _ hz,hz2⟩
theorem mW{fs:Array Field}:∀(ps:List (Nat×Operand)) (v:aC),(∀x∈ps,t.ev x.2=s.ev x.2)→iu P fs t ps v=iu P fs s ps v
 |[],_,_=>rfl
 | (i,x)::ps,v,h=>by
  have h1:=h (i,x) (List.mem_cons_self ..)
  simp only at h1
  simp only[iu,h1]
  have ih:∀v,iu P fs t ps v=iu P fs s ps v:=fun v=>mW ps v fun z hz=>h z (List.mem_cons_of_mem _ hz)
  simp only[ih]
theorem pf:∀(l:List Operand),(∀x∈l,t.ev x=s.ev x)→iP t l=iP s l
 |[],_=>rfl
 |x::l,h=>by
  simp only[iP]
  rw[h x (List.mem_cons_self ..),pf l fun y hy=>h y (List.mem_cons_of_mem _ hy)]
theorem qO{ty:Ty}{X:TypeId}{x:aC}(h:∀id∈x.ids,lg (t.ck id) (s.ck id)):nH P t ty X x=nH P s ty X x:=by
 unfold nH
 split
 ·rfl
 ·simp only[AS.yf,ij _ _ h]
theorem gN{v:aC}(h:∀t,gG (fh Γ ops s o) s t→(iE P Γ bN o t).eval=some (t.put o.dst v)):o9 P Γ bN ops o s (s.put o.dst v):=
 ⟨⟨v,fun _=>none,[]⟩,App.oa _ _ _,⟨fun _ _ h=>by simp at h,fun _ h=>by simp at h⟩,fun t ht=>⟨_,h t ht,App.oa _ _ _⟩⟩
theorem im{F:AS→Out aC}(ho:∀t,iE P Γ bN o t=(F t).bind fun v=> .ok (t.put o.dst v))(hF:∀t,gG (fh Γ ops s o) s t→F t=F s){s':AS}(he:(iE P Γ bN o s).eval=some s'):o9 P Γ bN ops o s s':=by
 rw[ho]at he
 obtain⟨v,h1,h2⟩:=aw.1 he
 obtain rfl:=ax.1 h2
 refine gN fun t ht=> ?_
 rw[ho,hF t ht,aw]
 exact⟨v,h1,rfl⟩
theorem rp{v:aC}{ids:List Id}(hi:∀id∈ids,id∈(fh Γ ops s o).rs)(h:∀t,gG (fh Γ ops s o) s t→(iE P Γ bN o t).eval=some ((t.bj ids).put o.dst v)):o9 P Γ bN ops o s ((s.bj ids).put o.dst v):=
 ⟨⟨v,fun _=>none,ids⟩,App.qh _ _ _ _,⟨fun _ _ h=>by simp at h,hi⟩,fun t ht=>⟨_,h t ht,App.qh _ _ _ _⟩⟩
theorem kY{v:aC}{ids:List Id}{q:Nat}{es:List eP}(hd:o.dst=some q)(hv:s.dO q=true)(hi:∀id∈ids,id∈(fh Γ ops s o).rs)
  (h:∀t,gG (fh Γ ops s o) s t→t.dO q=true→(iE P Γ bN o t).eval=some (((t.bj ids).born q es).put o.dst v)):o9 P Γ bN ops o s (((s.bj ids).born q es).put o.dst v):=by
 refine⟨⟨v,p9 q es,ids⟩,by rw[hd];exact App.yI hv _ _ _,⟨fun id e h=> .inr ?_,hi⟩,fun t ht=> ?_⟩
 ·cases id with
  |fK _=>simp[p9]at h
  |new i j=>
   simp only[p9]at h
   split at h
   ·rename_i hq;exact⟨q,j,hd,by rw[hq]⟩
   ·cases h
 ·have hv':t.dO q=true:=by rw[ht.dO q hd];exact hv
  exact⟨_,h t ht hv',by rw[hd];exact App.yI hv' _ _ _⟩
theorem mw{v:aC}{id:Id}{e0 e:eP}(hs:s.ck id=some e0)(hw:id∈(fh Γ ops s o).ws)(h:∀t,gG (fh Γ ops s o) s t→t.ck id=s.ck id→(iE P Γ bN o t).eval=some ((t.bz id e).put o.dst v)):
  o9 P Γ bN ops o s ((s.bz id e).put o.dst v):=by
 refine⟨⟨v,fun i=>if i=id then some e else none,[]⟩,App.BE hs _ _ _,⟨fun i e' h=> .inl ?_,fun _ h=>by simp at h⟩,fun t ht=> ?_⟩
 ·simp only at h
  split at h
  ·rename_i hi;subst hi;exact⟨hw,by rw[hs];simp⟩
  ·cases h
 ·have:=ht.ws id hw
  exact⟨_,h t ht this,App.BE (this.trans hs) _ _ _⟩
end
end Go.Ab
namespace Go.Ab
section
variable {P:Program} {Γ:dV} {bN:List Nat} {ops:Array Oper} {o:Oper} {s t:AS}
theorem vj{T:TypeId}{x v:aC}{s':AS}(h:(nQ P s T x v).eval=some s'):
  ∃id e0 e,x.ids=[id]∧s.ck id=some e0∧s'=s.bz id e∧∀t:AS,t.ck id=s.ck id→(nQ P t T x v).eval=some (t.bz id e):=by
 unfold nQ at h
 split at h
 ·rename_i id ver p n
  cases hob:s.obj id with
  |none=>rw[hob]at h;simp only[ak]at h
  |some r=>
   obtain⟨ve,fr,c⟩:=r
   rw[hob]at h
   obtain⟨h1,h2⟩:=aE.1 h
   obtain⟨r,h3,h4⟩:=aw.1 h2
   obtain⟨h5,h6⟩:=aE.1 h4
   obtain⟨h7,h8⟩:=bF.1 h6
   obtain⟨c',h9,h10⟩:=aw.1 h8
   obtain rfl:=ax.1 h10
   refine⟨id,_,_,rfl,eB hob,rfl,fun t ht=> ?_⟩
   have hob':t.obj id=some (ve,fr,c):=by simp only[AS.obj,ht];exact hob
   unfold nQ
   simp only[hob']
   exact aE.2 ⟨h1,aw.2 ⟨r,h3,aE.2 ⟨h5,bF.2 ⟨h7,aw.2 ⟨c',h9,ax.2 rfl⟩⟩⟩⟩⟩
 ·simp only[ak]at h
theorem xK{c:Call}{x y:Operand}{T X:TypeId}(hop:o.op= .call c)(hc:c.callee= .builtin .copy)(ha:c.args.toList=[x,y])(ht:c.argTypes.toList=[T,X]){s':AS}
  (he:(rG P s o.dst T X (s.ev x) (s.ev y)).eval=some s'):o9 P Γ bN ops o s s':=by
 have hao:∀t:AS,iE P Γ bN o t=rG P t o.dst T X (t.ev x) (t.ev y):=fun t=>by
  unfold iE
  rw[hop]
  simp only[hc,ha,ht]
 have hmem:∀z,z=x∨z=y→z∈o.op.operands.toList:=fun z hz=>by
  rw[hop]
  simp only[Op.operands,Call.operands,hc,List.nil_append,Array.toList_append,ha]
  simpa using hz
 have hx:∀t,gG (fh Γ ops s o) s t→t.ev x=s.ev x:=fun t h=>h.ev (hmem x (.inl rfl))
 have hy:∀t,gG (fh Γ ops s o) s t→t.ev y=s.ev y:=fun t h=>h.ev (hmem y (.inr rfl))
 have hm:∀t,gG (fh Γ ops s o) s t→∀ty,nH P t ty X (s.ev y)=nH P s ty X (s.ev y):=fun t h ty=>qO fun id hid=>h.xd (hmem y (.inr rfl)) hid
 unfold rG at he
 split at he
 ·rename_i e t b id ver len hel hxs
  obtain⟨m,h1,he⟩:=aw.1 he
  split at he
  ·rename_i ve n t' l hob
   obtain⟨h2,he1⟩:=aE.1 he
   obtain⟨l',h3,he2⟩:=aw.1 he1
   obtain⟨h4,he3⟩:=bF.1 he2
   obtain rfl:=ax.1 he3
   have hw:id∈(fh Γ ops s o).ws:=by
    show id∈writes Γ s o
    unfold writes
    rw[hop]
    simp only[hc,ha,hxs]
    simp[aC.ids]
   refine mw (eB hob) hw fun t ht hte=> ?_
   rw[hao t,hx t ht,hy t ht]
   have hob':t.obj id=some (ve,false,.d (.arr n t') l):=by simp only[AS.obj,hte];exact hob
   unfold rG
   simp only[hel,hxs]
   refine aw.2 ⟨m,by rw[hm t ht];exact h1,?_⟩
   simp only[hob']
   exact aE.2 ⟨h2,aw.2 ⟨l',h3,bF.2 ⟨h4,ax.2 rfl⟩⟩⟩
  ·exact(ak.1 he).elim
 ·exact(ak.1 he).elim
theorem uv{c:Call}{x y:Operand}{T X:TypeId}(hop:o.op= .call c)(hc:c.callee= .builtin .append)(ha:c.args.toList=[x,y])(ht:c.argTypes.toList=[T,X])(hne:∀k n,s.ev x= .da→s.ev y= .d (.int k) n→False){s':AS}
  (he:(kH P s (zO bN o.dst) (Cm bN o.dst) o.dst T X (s.ev x) (s.ev y)).eval=some s'):o9 P Γ bN ops o s s':=by
 have hao:∀t:AS,t.ev x=s.ev x→t.ev y=s.ev y→iE P Γ bN o t=kH P t (zO bN o.dst) (Cm bN o.dst) o.dst T X (t.ev x) (t.ev y):=fun t e1 e2=>by
  unfold iE
  rw[hop]
  simp only[hc,ha,ht]
  split
  ·rename_i k n hx hy
   rw[e1]at hx
   rw[e2]at hy
   exact(hne k n hx hy).elim
  ·rfl
 have hmem:∀z,z=x∨z=y→z∈o.op.operands.toList:=fun z hz=>by
  rw[hop]
  simp only[Op.operands,Call.operands,hc,List.nil_append,Array.toList_append,ha]
  simpa using hz
 have hx:∀t,gG (fh Γ ops s o) s t→t.ev x=s.ev x:=fun t h=>h.ev (hmem x (.inl rfl))
 have hy:∀t,gG (fh Γ ops s o) s t→t.ev y=s.ev y:=fun t h=>h.ev (hmem y (.inr rfl))
 have hm:∀t,gG (fh Γ ops s o) s t→∀ty,nH P t ty X (s.ev y)=nH P s ty X (s.ev y):=fun t h ty=>qO fun id hid=>h.xd (hmem y (.inr rfl)) hid
 unfold kH at he
 split at he
 ·rename_i e ty b q hel hd
  obtain⟨m,h1,h2⟩:=aw.1 he
  split at h2
  ·rename_i hnx
   cases hdt:Cm bN o.dst with
   |true=>
    rw[hdt]at h2
    simp only at h2
    obtain⟨h5,h6⟩:=bF.1 h2
    obtain rfl:=ax.1 h6
    refine gN fun t ht=> ?_
    rw[hao t (hx t ht) (hy t ht),hx t ht,hy t ht]
    unfold kH
    simp only[hd]at hdt hel ⊢
    simp only[hel,hnx,hdt]
    refine aw.2 ⟨m,by rw[hm t ht];exact h1,?_⟩
    exact bF.2 ⟨h5,ax.2 rfl⟩
   |false=>
   rw[hdt]at h2
   simp only at h2
   obtain⟨h3,h4⟩:=aE.1 h2
   obtain⟨h5,h6⟩:=bF.1 h4
   obtain rfl:=ax.1 h6
   refine kY (ids:=[]) hd h3 (fun _ h=>by cases h) fun t ht hv=> ?_
   rw[hao t (hx t ht) (hy t ht),hx t ht,hy t ht]
   unfold kH
   simp only[hd]at hdt hel ⊢
   simp only[hel,hnx,hdt]
   refine aw.2 ⟨m,by rw[hm t ht];exact h1,?_⟩
   exact aE.2 ⟨hv,bF.2 ⟨h5,ax.2 rfl⟩⟩
  ·rename_i id ver len hnx
   split at h2
   ·rename_i v fr e' t' l hob
    obtain⟨h3,h4⟩:=aE.1 h2
    obtain⟨l',h5,h6⟩:=aw.1 h4
    obtain⟨h7,h8⟩:=bF.1 h6
    obtain⟨h9,h10⟩:=bF.1 h8
    obtain⟨h11,h12⟩:=bF.1 h10
    obtain rfl:=ax.1 h12
    have hw:id∈(fh Γ ops s o).ws:=by
     show id∈writes Γ s o
     unfold writes
     rw[hop]
     simp only[hc,ha,hnx]
     simp[aC.ids]
    refine mw (eB hob) hw fun t ht hte=> ?_
    rw[hao t (hx t ht) (hy t ht),hx t ht,hy t ht]
    have hob':t.obj id=some (v,fr,.vec e' t' l):=by simp only[AS.obj,hte];exact hob
    unfold kH
    simp only[hd]at hel ⊢
    simp only[hel,hnx]
    refine aw.2 ⟨m,by rw[hm t ht];exact h1,?_⟩
    simp only[hob']
    exact aE.2 ⟨h3,aw.2 ⟨l',h5,bF.2 ⟨h7,bF.2 ⟨h9,bF.2 ⟨h11,ax.2 rfl⟩⟩⟩⟩⟩
   ·simp only[ak]at h2
  ·simp only[ak]at h2
 ·simp only[ak]at he
theorem qs:∀(n:Nat) (todo acc:List Id),∀id∈acc,id∈s.reach n todo acc
 | 0,_,_,id,h=>h
 |_+1,[],_,id,h=>h
 |n+1,x::todo,acc,id,h=>by
  rw[AS.reach]
  split
  ·exact qs n todo acc id h
  ·exact qs n _ _ id (List.mem_append.2 (.inl h))
theorem kh:∀(n:Nat) (todo acc:List Id),(∀id∈s.reach n todo acc,((t.ck id).getD .dead).ids=((s.ck id).getD .dead).ids)→t.reach n todo acc=s.reach n todo acc
 | 0,_,_,_=>rfl
 |_+1,[],_,_=>rfl
 |n+1,x::todo,acc,h=>by
  rw[AS.reach]at h
  rw[AS.reach,AS.reach]
  split
  ·rename_i hc
   rw[if_pos hc]at h
   exact kh n todo acc h
  ·rename_i hc
   rw[if_neg hc]at h
   have hx:=h x (qs n _ _ x (List.mem_append.2 (.inr (List.mem_singleton.2 rfl))))
   rw[hx]
   exact kh n _ _ h
theorem Ci(e:Option eP):((e.map eP.yN).getD .dead).ids=(e.getD .dead).ids:=by
 cases e with
 |none=>rfl
 |some x=>cases x <;> rfl
theorem ra(ids:List Id)(n:Nat)(todo acc:List Id):(s.bj ids).reach n todo acc=s.reach n todo acc:=by
 refine kh n todo acc fun id _=> ?_
 rw[eL]
 split
 ·exact Ci _
 ·rfl
theorem oG:∀(ps:List (Option Ty)) (vs:List aC),(∀v∈vs,∀id∈v.ids,lg (t.ck id) (s.ck id))→t.conv ps vs=s.conv ps vs
 |[],[],_=>rfl
 |[],_::_,_=>rfl
 |some _::_,[],_=>rfl
 |none::_,[],_=>rfl
 |some ty::ps,v::vs,h=>by
  simp only[AS.conv]
  rw[ij v ty (h v (List.mem_cons_self ..)),oG ps vs fun x hx=>h x (List.mem_cons_of_mem _ hx)]
 |none::ps,v::vs,h=>by
  simp only[AS.conv]
  rw[oG ps vs fun x hx=>h x (List.mem_cons_of_mem _ hx)]
theorem oH:∀(ps:List (Option Ty)) (vs:List aC) (r:List aC×List Id),(s.conv ps vs).eval=some r→r.1.flatMap aC.ids=jW ps vs∧∀id∈r.2,∃v∈vs,id∈v.ids
 |[],[],r,h=>by
  simp only[AS.conv,ax]at h
  subst h
  exact⟨rfl,fun _ h=>by cases h⟩
 |some ty::ps,v::vs,r,h=>by
  simp only[AS.conv]at h
  obtain⟨x,h1,h2⟩:=aw.1 h
  obtain⟨r',h3,h4⟩:=aw.1 h2
  obtain rfl:=ax.1 h4
  obtain⟨i1,i2⟩:=oH ps vs r' h3
  refine⟨by simp[jW,i1,aC.ids],fun id hid=> ?_⟩
  rcases List.mem_append.1 hid with hid | hid
  ·exact⟨v,List.mem_cons_self ..,jO v id hid⟩
  ·obtain⟨u,hu,hu2⟩:=i2 id hid
   exact⟨u,List.mem_cons_of_mem _ hu,hu2⟩
 |none::ps,v::vs,r,h=>by
  simp only[AS.conv]at h
  obtain⟨r',h3,h4⟩:=aw.1 h
  obtain rfl:=ax.1 h4
  obtain⟨i1,i2⟩:=oH ps vs r' h3
  refine⟨by simp[jW,i1],fun id hid=> ?_⟩
  obtain⟨u,hu,hu2⟩:=i2 id hid
  exact⟨u,List.mem_cons_of_mem _ hu,hu2⟩
 |[],_::_,_,h=>by simp only[AS.conv,ak]at h
 |some _::_,[],_,h=>by simp only[AS.conv,ak]at h
 |none::_,[],_,h=>by simp only[AS.conv,ak]at h
theorem wk:∀(c:aC),∀v∈c.list,∀id∈v.ids,id∈c.ids
 | .cons a b,v,hv,id,hid=>by
  simp only[aC.list,List.mem_cons]at hv
  simp only[aC.ids,List.mem_append]
  rcases hv with rfl | hv
  ·exact .inl hid
  ·exact .inr (wk b v hv id hid)
 | .sb _,_,h,_,_ | .undef,_,h,_,_ | .gone,_,h,_,_ | .da,_,h,_,_ | .kc,_,h,_,_ | .ka,_,h,_,_ | .lJ,_,h,_,_ | .d _ _,_,h,_,_ | .ptr ..,_,h,_,_ | .ej ..,_,h,_,_
 | .fn ..,_,h,_,_ | .pr ..,_,h,_,_ | .nil,_,h,_,_ | .vec ..,_,h,_,_ | .bx ..,_,h,_,_ | .jt ..,_,h,_,_ | .mp ..,_,h,_,_ | .bU ..,_,h,_,_=>by simp[aC.list]at h
theorem qR{ids:List Id}(h:∀id∈ids,t.ck id=s.ck id):t.kF ids=s.kF ids:=by
 funext id ver
 unfold AS.kF
 cases hi:idxOf id ids with
 |none=>rfl
 |some k=>
  have:t.obj id=s.obj id:=by simp only[AS.obj,h id (List.mem_of_getElem? (iW hi))]
  rw[this]
theorem qT{id:Id}(h:t.ck id=s.ck id):t.lD id=s.lD id:=by simp only[AS.lD,AS.obj,h]
theorem pH{ids:List Id}(h:∀id∈ids,t.ck id=s.ck id)(q:Nat):t.jM ids q=s.jM ids q:=by
 funext id ver
 cases id with
 |new i j=>rfl
 |fK k=>
  simp only[AS.jM]
  cases hk:ids[k]? with
  |none=>rfl
  |some id=>simp only[qT (h id (List.mem_of_getElem? hk))]
theorem pg{ids:List Id}(h:∀id∈ids,t.ck id=s.ck id)(q b:Nat):t.iQ ids q b=s.iQ ids q b:=by
 funext e
 cases e <;> simp only[AS.iQ,pH h]
theorem vU{ids:List Id}(h:∀id∈ids,t.ck id=s.ck id){id:Id}(hid:id∈ids):t.hZ ids id=s.hZ ids id:=by
 unfold AS.hZ
 rw[h id hid,qR h]
def gY(s:AS)(ids:List Id)(d:Option Tmp)(G:aZ):AS:=
 (AS.fU s ids (d.getD 0) (s.made ids (d.getD 0) G.news) ids G.dj).put d (G.val.fZ (s.jM ids (d.getD 0)))
theorem tt{ids:List Id}{d:Option Tmp}{G:aZ}{s':AS}:(s.back ids d G).eval=some s'↔(G.dj.length=ids.length∧(G.news=[]∨∃q,d=some q∧s.dO q=true))∧s'=gY s ids d G:=by
 unfold AS.back
 cases d with
 |none=>
  rw[aE,ax]
  simp only[Bool.and_eq_true,beq_iff_eq,List.isEmpty_iff,gY,AS.put,Option.getD_none]
  constructor
  ·rintro⟨⟨h1,h2⟩,rfl⟩
   rw[h2];exact⟨⟨h1,.inl rfl⟩,rfl⟩
  ·rintro⟨⟨h1,h2⟩,rfl⟩
   rcases h2 with h2 | ⟨q,hq,_⟩
   ·rw[h2];exact⟨⟨h1,rfl⟩,rfl⟩
   ·cases hq
 |some q=>
  rw[aE,ax]
  simp only[Bool.and_eq_true,beq_iff_eq,Bool.or_eq_true,List.isEmpty_iff,gY,Option.getD_some]
  constructor
  ·rintro⟨⟨h1,h2⟩,rfl⟩
   exact⟨⟨h1,h2.imp id fun h=>⟨q,rfl,h⟩⟩,rfl⟩
  ·rintro⟨⟨h1,h2⟩,rfl⟩
   refine⟨⟨h1,h2.imp id fun⟨q',hq,h⟩=> ?_⟩,rfl⟩
   obtain rfl:q=q':=by simpa using hq
   exact h
theorem qK(s0:AS)(all:List Id)(q:Nat):∀(ids:List Id) (es:List eP) (s:AS),(AS.fU s0 all q s ids es).news.length=s.news.length
 |[],_,_=>by simp[AS.fU]
 |_::_,[],_=>by simp[AS.fU]
 |id::ids,e::es,s=>by rw[AS.fU,qK s0 all q ids es,oQ]
theorem Bc(s:AS)(ids:List Id)(q:Nat)(es:List eP):(s.made ids q es).news.length=s.news.length:=by
 cases es <;> simp[AS.made,AS.born]
def oh(ids:List Id)(d:Option Tmp)(G:aZ)(id:Id):Prop:=id∈ids∨(G.news≠ []∧∃q j,d=some q∧id= .new q j)
theorem rB{ids:List Id}{d:Option Tmp}{G:aZ}(hn:ids.Nodup)(hp:∀id∈ids,s.ck id≠none)(hl:G.dj.length=ids.length)(hv:G.news=[]∨∃q,d=some q∧s.dO q=true):
  (∀id,¬oh ids d G id→(gY s ids d G).ck id=s.ck id)∧
  (∀(k:Nat) (id:Id) (e:eP),ids[k]? =some id→G.dj[k]? =some e→(gY s ids d G).ck id=some (s.iQ ids (d.getD 0) (s.lD id) e))∧
  (∀q j,G.news≠ []→d=some q→(gY s ids d G).ck (.new q j)=(G.news[j]?).map (s.iQ ids q 0))∧
  (∀q j,G.news≠ []→d=some q→s.ck (.new q j)=none):=by
 have hv':G.news=[]∨s.dO (d.getD 0)=true:=by
  rcases hv with h | ⟨q,rfl,h⟩
  ·exact .inl h
  ·exact .inr h
 obtain⟨m1,m2⟩:=vV s ids (d.getD 0) G.news hv'
 have hnone:∀q j,G.news≠ []→d=some q→s.ck (.new q j)=none:=fun q j h1 h2=>by
  rcases hv' with h | h
  ·exact absurd h h1
  ·subst h2;exact(lk.1 h).2 j
 have hnew:∀id,s.ck id≠none→G.news=[]∨∀j,id≠ .new (d.getD 0) j:=fun id hid=>by
  rcases hv with h | ⟨q,rfl,h⟩
  ·exact .inl h
  ·exact .inr fun j e=>hid (by rw[e];exact(lk.1 h).2 j)
 obtain⟨n1,n2⟩:=nu s ids (d.getD 0) ids G.dj (s.made ids (d.getD 0) G.news) hn hl (fun id hid=>by rw[m1 id (hnew id (hp id hid))];exact hp id hid)
 refine⟨fun id hid=> ?_,fun k id e h1 h2=> ?_,fun q j h1 h2=> ?_,hnone⟩
 ·unfold oh at hid
  simp only[not_or]at hid
  rw[gY,nV,n1 id hid.1]
  refine m1 id ?_
  by_cases hne:G.news=[]
  ·exact .inl hne
  ·right
   intro j e
   rcases hv with h | ⟨q,hq,_⟩
   ·exact hne h
   ·exact hid.2 ⟨hne,q,j,hq,by rw[e,hq];rfl⟩
 ·rw[gY,nV,n2 k id e h1 h2]
 ·subst h2
  have hnot:Id.new q j ∉ ids:=fun hid=>hp _ hid (hnone q j h1 rfl)
  rw[gY,nV,n1 _ hnot]
  exact m2 h1 j
open Classical in
theorem xG{c:Call}{F:Operand}{f:FuncId}{caps:aC}{en:Entry}(hop:o.op= .call c)(hc:c.callee= .value F)(hF:s.ev F= .fn f caps)(hΓ:Γ f (c.args.toList.map s.ev++caps.list)=some en){s':AS}
  (he:(s.call en o.dst (c.args.toList.map s.ev++caps.list)).eval=some s'):o9 P Γ bN ops o s s':=by
 have hmem:∀z,z=F∨z∈c.args.toList→z∈o.op.operands.toList:=fun z hz=>by
  rw[hop]
  simp only[Op.operands,Call.operands,hc,Array.toList_append,List.mem_append]
  rcases hz with rfl | hz
  ·exact .inl (by simp)
  ·exact .inr hz
 have hvids:∀v∈c.args.toList.map s.ev++caps.list,∀id∈v.ids,id∈(fh Γ ops s o).rs:=fun v hv id hid=>by
  rcases List.mem_append.1 hv with hv | hv
  ·obtain⟨x,hx,rfl⟩:=List.mem_map.1 hv
   exact oO (hmem x (.inr hx)) hid
  ·refine oO (hmem F (.inl rfl)) ?_
   rw[hF]
   exact wk caps v hv id hid
 generalize hvs:c.args.toList.map s.ev++caps.list=vs at he hvids hΓ
 have hws:(fh Γ ops s o).ws=s.reach 64 (jW en.params vs) []:=by
  show writes Γ s o=_
  unfold writes
  rw[hop]
  simp only[hc,hF,hvs,hΓ]
 have hao:∀t,gG (fh Γ ops s o) s t→iE P Γ bN o t=t.call en o.dst vs:=fun t ht=>by
  unfold iE
  rw[hop]
  have h1:t.ev F= .fn f caps:=by rw[ht.ev (hmem F (.inl rfl)),hF]
  have h2:c.args.toList.map t.ev=c.args.toList.map s.ev:=List.map_congr_left fun x hx=>ht.ev (hmem x (.inr hx))
  obtain⟨cal,args,tys⟩:=c
  simp only at hc hvs h2
  subst hc
  simp only[h1,h2,hvs,hΓ]
 unfold AS.call at he
 obtain⟨r,h1,h2⟩:=aw.1 he
 obtain⟨hr1,hr2⟩:=oH _ _ r h1
 have hlends:∀t:AS,(t.bj r.2).yU r.1=t.reach 64 (jW en.params vs) []:=fun t=>by
  unfold AS.yU
  rw[ra,hr1]
 rw[hlends]at h2
 generalize hW:s.reach 64 (jW en.params vs) []=W at h2 hws
 have hWn:W.Nodup:=by rw[←hW];exact ki s _ _ _ (by simp)
 unfold AS.enter at h2
 obtain⟨hall,h3⟩:=aE.1 h2
 obtain⟨x,hx,h4⟩:=rK.1 h3
 obtain⟨⟨hl,hv⟩,rfl⟩:=tt.1 h4
 generalize hG:en.out (r.1.map (aC.fZ ((s.bj r.2).kF W))) (W.map ((s.bj r.2).hZ W)) x=G at hl hv h4 ⊢
 have hp:∀id∈W,(s.bj r.2).ck id≠none:=fun id hid=>by
  have:=List.all_eq_true.1 hall id hid
  obtain⟨⟨v,fr,c⟩,hr⟩:=Option.isSome_iff_exists.1 this
  rw[eB hr];simp
 obtain⟨b1,b2,b3,b4⟩:=rB (s:=s.bj r.2) (d:=o.dst) hWn hp hl hv
 have hfzent:∀(u:AS) id,u.ck id=none↔(u.bj r.2).ck id=none:=fun u id=>by
  rw[eL];split <;> simp
 let E:DH:=⟨G.val.fZ ((s.bj r.2).jM W (o.dst.getD 0)),fun id=>if oh W o.dst G id then(gY (s.bj r.2) W o.dst G).ck id else none,r.2⟩
 have hslots:∀u:AS,(gY (u.bj r.2) W o.dst G).cl=(u.put o.dst (G.val.fZ ((u.bj r.2).jM W (o.dst.getD 0)))).cl:=fun u=>by
  unfold gY
  cases o.dst <;> simp[AS.put,lN,sK,gU]
 have hlen:∀u:AS,(gY (u.bj r.2) W o.dst G).news.length=u.news.length:=fun u=>by
  unfold gY
  cases o.dst <;> simp[AS.put,qK,Bc,iG]
 refine⟨E,⟨hslots s,hlen s,fun id=> ?_⟩,⟨fun id e hup=> ?_,fun id hid=> ?_⟩,fun t ht=> ?_⟩
 ·by_cases hto:oh W o.dst G id
  ·have hup:E.up id=(gY (s.bj r.2) W o.dst G).ck id:=if_pos hto
   rw[hup]
   cases hb:(gY (s.bj r.2) W o.dst G).ck id with
   |some e=>rfl
   |none=>
    rcases hto with hid | ⟨hne,q,j,hq,rfl⟩
    ·obtain⟨k,hk⟩:=List.mem_iff_getElem?.1 hid
     have hlt:k < G.dj.length:=by rw[hl];exact(List.getElem?_eq_some_iff.1 hk).1
     rw[b2 k id _ hk (List.getElem?_eq_getElem hlt)]at hb
     cases hb
    ·have:=(hfzent s _).2 (b4 q j hne hq)
     simp[this]
  ·have hup:E.up id=none:=if_neg hto
   rw[hup,b1 id hto,eL]
 ·by_cases hto:oh W o.dst G id
  ·rcases hto with hid | ⟨_,q,j,hq,rfl⟩
   ·left
    refine⟨by rw[hws];exact hid,fun h=>hp id hid ((hfzent s id).1 h)⟩
   ·exact .inr ⟨q,j,hq,rfl⟩
  ·have:E.up id=none:=if_neg hto
   rw[this]at hup;cases hup
 ·obtain⟨v,hv,hid⟩:=hr2 id hid
  exact hvids v hv id hid
 ·have hco:t.conv en.params vs=s.conv en.params vs:=oG _ _ fun v hv id hid=>ht.rs id (hvids v hv id hid)
  have hag:∀id∈W,t.ck id=s.ck id:=fun id hid=>ht.ws id (by rw[hws];exact hid)
  have hagf:∀id∈W,(t.bj r.2).ck id=(s.bj r.2).ck id:=fun id hid=>by
   rw[eL,eL,hag id hid]
  have hWt:t.reach 64 (jW en.params vs) []=W:=by
   rw[←hW]
   refine kh _ _ _ fun id hid=> ?_
   rw[hag id (by rw[←hW];exact hid)]
  have hvt:G.news=[]∨∃q,o.dst=some q∧(t.bj r.2).dO q=true:=hv.imp id fun⟨q,hq,h⟩=>⟨q,hq,by
   rw[jS]at h ⊢
   rw[ht.dO q hq];exact h⟩
  have hpt:∀id∈W,(t.bj r.2).ck id≠none:=fun id hid=>by rw[hagf id hid];exact hp id hid
  obtain⟨d1,d2,d3,d4⟩:=rB (s:=t.bj r.2) (d:=o.dst) hWn hpt hl hvt
  refine⟨gY (t.bj r.2) W o.dst G,?_,⟨?_,hlen t,fun id=> ?_⟩⟩
  ·rw[hao t ht]
   unfold AS.call
   rw[hco]
   refine aw.2 ⟨r,h1,?_⟩
   rw[hlends,hWt]
   unfold AS.enter
   have hA:(t.bj r.2).kF W=(s.bj r.2).kF W:=qR hagf
   have hO:W.map ((t.bj r.2).hZ W)=W.map ((s.bj r.2).hZ W):=List.map_congr_left fun id hid=>vU hagf hid
   refine aE.2 ⟨?_,rK.2 ⟨x,?_,?_⟩⟩
   ·refine List.all_eq_true.2 fun id hid=> ?_
    have:=List.all_eq_true.1 hall id hid
    simp only[AS.obj]at this ⊢
    rw[hagf id hid]
    exact this
   ·rw[hA,hO,←hx]
   ·rw[hA,hO,hG]
    exact tt.2 ⟨⟨hl,hvt⟩,rfl⟩
  ·rw[hslots t,pH hagf]
  ·by_cases hto:oh W o.dst G id
   ·have hup:E.up id=(gY (s.bj r.2) W o.dst G).ck id:=if_pos hto
    rw[hup]
    rcases hto with hid | ⟨hne,q,j,hq,rfl⟩
    ·obtain⟨k,hk⟩:=List.mem_iff_getElem?.1 hid
     have hlt:k < G.dj.length:=by rw[hl];exact(List.getElem?_eq_some_iff.1 hk).1
     rw[b2 k id _ hk (List.getElem?_eq_getElem hlt),d2 k id _ hk (List.getElem?_eq_getElem hlt),pg hagf,qT (hagf id hid)]
    ·rw[b3 q j hne hq,d3 q j hne hq,pg hagf]
     cases hn:G.news[j]? with
     |some e=>rfl
     |none=>
      have:=(hfzent t _).2 (d4 q j hne hq)
      simp[this]
   ·have hup:E.up id=none:=if_neg hto
    rw[hup,d1 id hto,eL]
end
end Go.Ab
namespace Go.Ab
section
variable {P:Program} {Γ:dV} {bN:List Nat} {ops:Array Oper} {o:Oper} {s t:AS}
theorem Out.bind_assoc{α β γ:Type}(o:Out α)(f:α→Out β)(g:β→Out γ):(o.bind f).bind g=o.bind fun a=>(f a).bind g:=by
 induction o with
 |ok a=>rfl
 |fail=>rfl
 |jD c r ih=>simp only[Out.bind,ih]
 |get x h ih=>simp only[Out.bind,ih]
 |br c x y ih1 ih2=>simp only[Out.bind,ih1,ih2]
theorem wR{parts:Array (Nat×Operand)}{x:Nat×Operand}(h:x∈parts.toList):x.2∈(parts.toList.map (·.2)).toArray.toList:=List.mem_map.2 ⟨x,h,rfl⟩
theorem zz{T:TypeId}{x:Operand}(hop:o.op= .box T x){s':AS}(he:(vJ P s (isObj bN o.dst) o.dst T (s.ev x)).eval=some s'):o9 P Γ bN ops o s s':=by
 have hao:∀t,iE P Γ bN o t=vJ P t (isObj bN o.dst) o.dst T (t.ev x):=fun t=>by unfold iE;rw[hop]
 have hm:x∈o.op.operands.toList:=by rw[hop];simp[Op.operands]
 unfold vJ at he
 split at he
 ·rename_i q hd
  split at he
  ·rename_i ho
   obtain⟨h1,h2⟩:=aE.1 he
   obtain rfl:=ax.1 h2
   simp only[Bool.and_eq_true]at h1
   refine kY (ids:=[]) hd h1.1 (fun _ h=>by cases h) fun t ht hv=> ?_
   rw[hao,ht.ev hm]
   unfold vJ
   simp only[hd]at ho ⊢
   simp only[ho]
   exact aE.2 ⟨by simp[hv,h1.2],ax.2 rfl⟩
  ·rename_i ho
   split at he
   ·rename_i ty hty
    obtain⟨h1,h2⟩:=aE.1 he
    obtain⟨y,h3,h4⟩:=aw.1 h2
    obtain rfl:=ax.1 h4
    refine rp (fun id hid=>oO hm (jO _ _ hid)) fun t ht=> ?_
    rw[hao,ht.ev hm]
    unfold vJ
    simp only[hd]at ho ⊢
    simp only[ho,hty]
    refine aE.2 ⟨h1,aw.2 ⟨y,?_,ax.2 rfl⟩⟩
    rw[ij _ _ fun id hid=>ht.xd hm hid];exact h3
   ·simp only[ak]at he
 ·simp only[ak]at he
theorem xm{T:TypeId}{x:Operand}(hop:o.op= .sliceToArrayPointer T x){s':AS}(he:(oX P s o.dst T (s.ev x)).eval=some s'):o9 P Γ bN ops o s s':=by
 have hao:∀t,iE P Γ bN o t=oX P t o.dst T (t.ev x):=fun t=>by unfold iE;rw[hop]
 have hm:x∈o.op.operands.toList:=by rw[hop];simp[Op.operands]
 unfold oX at he
 split at he
 ·rename_i n e hT
  split at he
  ·rename_i ty hty
   obtain⟨h1,h2⟩:=aE.1 he
   obtain⟨l,h3,h4⟩:=aw.1 h2
   obtain⟨h5,h6⟩:=bF.1 h4
   obtain rfl:=ax.1 h6
   refine rp (fun id hid=>oO hm (jO _ _ hid)) fun t ht=> ?_
   rw[hao,ht.ev hm]
   unfold oX
   simp only[hT,hty]
   refine aE.2 ⟨h1,aw.2 ⟨l,?_,bF.2 ⟨h5,ax.2 rfl⟩⟩⟩
   rw[ij _ _ fun id hid=>ht.xd hm hid];exact h3
  ·simp only[ak]at he
 ·simp only[ak]at he
theorem vN{T:TypeId}{parts:Array (Nat×Operand)}(hop:o.op= .build T parts){s':AS}(he:(np P s o.dst T parts.toList).eval=some s'):o9 P Γ bN ops o s s':=by
 have hao:∀t,iE P Γ bN o t=np P t o.dst T parts.toList:=fun t=>by unfold iE;rw[hop]
 have hm:∀x∈parts.toList,x.2∈o.op.operands.toList:=fun x hx=>by rw[hop];exact wR hx
 unfold np at he
 split at he
 ·rename_i fs hT
  split at he
  ·rename_i z hz
   obtain⟨h1,h2⟩:=aE.1 he
   obtain⟨v,h3,h4⟩:=aw.1 h2
   obtain rfl:=ax.1 h4
   refine gN fun t ht=> ?_
   rw[hao]
   unfold np
   simp only[hT,hz]
   refine aE.2 ⟨h1,aw.2 ⟨v,?_,ax.2 rfl⟩⟩
   rw[mW _ _ fun x hx=>ht.ev (hm x hx)];exact h3
  ·simp only[ak]at he
 ·rename_i n e hT
  split at he
  ·rename_i ty hty
   obtain⟨h1,h2⟩:=aE.1 he
   obtain⟨r,h3,h4⟩:=aw.1 h2
   obtain rfl:=ax.1 h4
   refine rp (fun id hid=> ?_) fun t ht=> ?_
   ·obtain⟨x,hx,hi⟩:=kC _ _ _ h3 id hid
    exact oO (hm x hx) hi
   ·rw[hao]
    unfold np
    simp only[hT,hty]
    refine aE.2 ⟨h1,aw.2 ⟨r,?_,ax.2 rfl⟩⟩
    rw[lf _ _ fun x hx=>⟨ht.ev (hm x hx),fun id hid=>ht.xd (hm x hx) hid⟩];exact h3
  ·simp only[ak]at he
 ·simp only[ak]at he
theorem qc{T:TypeId}{n:Nat}{parts:Array (Nat×Operand)}(hop:o.op= .buildSlice T n parts){s':AS}(he:(gI P s (zO bN o.dst) (isObj bN o.dst) o.dst T n parts.toList).eval=some s'):o9 P Γ bN ops o s s':=by
 have hao:∀t,iE P Γ bN o t=gI P t (zO bN o.dst) (isObj bN o.dst) o.dst T n parts.toList:=fun t=>by unfold iE;rw[hop]
 have hm:∀x∈parts.toList,x.2∈o.op.operands.toList:=fun x hx=>by rw[hop];exact wR hx
 unfold gI at he
 split at he
 ·rename_i e ty b q hel hd
  obtain⟨h1,h2⟩:=aE.1 he
  obtain⟨r,h3,h4⟩:=aw.1 h2
  have hsh:∀id∈r.2,id∈(fh Γ ops s o).rs:=fun id hid=>by
   obtain⟨x,hx,hi⟩:=kC _ _ _ h3 id hid
   exact oO (hm x hx) hi
  have hco:∀t,gG (fh Γ ops s o) s t→∀l,fT ty t parts.toList l=fT ty s parts.toList l:=fun t ht l=>lf _ _ fun x hx=>⟨ht.ev (hm x hx),fun id hid=>ht.xd (hm x hx) hid⟩
  split at h4
  ·rename_i ho
   obtain⟨h5,h6⟩:=aE.1 h4
   obtain rfl:=ax.1 h6
   refine kY hd h5 hsh fun t ht hv=> ?_
   rw[hao]
   unfold gI
   simp only[hd]at ho hel ⊢
   simp only[hel,ho]
   refine aE.2 ⟨h1,aw.2 ⟨r,by rw[hco t ht];exact h3,aE.2 ⟨hv,ax.2 rfl⟩⟩⟩
  ·rename_i ho
   obtain rfl:=ax.1 h4
   refine rp hsh fun t ht=> ?_
   rw[hao]
   unfold gI
   simp only[hd]at ho hel ⊢
   simp only[hel,ho]
   exact aE.2 ⟨h1,aw.2 ⟨r,by rw[hco t ht];exact h3,ax.2 rfl⟩⟩
 ·simp only[ak]at he
theorem qZ{T:TypeId}{x y:Operand}(hop:o.op= .makeSlice T x y){len cap:Int}(hx:(asInt (s.ev x)).eval=some len)(hy:(asInt (s.ev y)).eval=some cap){s':AS}(he:(ja P s o.dst T len cap).eval=some s'):o9 P Γ bN ops o s s':=by
 have hao:∀t,iE P Γ bN o t=(asInt (t.ev x)).bind fun l=>(asInt (t.ev y)).bind fun c=>ja P t o.dst T l c:=fun t=>by unfold iE;rw[hop]
 have hm:∀z,z=x∨z=y→z∈o.op.operands.toList:=fun z hz=>by rw[hop];simpa[Op.operands]using hz
 unfold ja at he
 split at he
 ·rename_i e ty b q hel hd
  obtain⟨h1,h2⟩:=aE.1 he
  obtain⟨h3,h4⟩:=bF.1 h2
  obtain rfl:=ax.1 h4
  refine kY (ids:=[]) hd h1 (fun _ h=>by cases h) fun t ht hv=> ?_
  rw[hao,ht.ev (hm x (.inl rfl)),ht.ev (hm y (.inr rfl))]
  refine aw.2 ⟨len,hx,aw.2 ⟨cap,hy,?_⟩⟩
  unfold ja
  simp only[hel,hd]
  exact aE.2 ⟨hv,bF.2 ⟨h3,ax.2 rfl⟩⟩
 ·simp only[ak]at he
theorem uV{id:Id}{ver:Nat}{kt vt:Ty}(h:lg (t.ck id) (s.ck id)):t.jK id ver kt vt=s.jK id ver kt vt:=by
 unfold AS.jK
 rcases pR h with⟨h1,h2⟩ | ⟨v,f,f',c,h1,h2⟩
 ·rw[h1,h2]
 ·rw[h1,h2]
  cases c <;> rfl
theorem tc{T:TypeId}{m k:aC}{ok:Bool}(h:∀id∈m.ids,lg (t.ck id) (s.ck id)):my P t T m k ok=my P s T m k ok:=by
 unfold my
 split
 ·rename_i id ver hm
  rw[uV (h id (by simp[aC.ids]))]
 ·rfl
theorem tO{id:Id}{ver:Nat}{kt vt:Ty}{l:List (kt.den×vt.den)}(h:(s.jK id ver kt vt).eval=some l):∃e,s.ck id=some e:=by
 unfold AS.jK at h
 split at h
 ·rename_i v fr k' v' l' hob
  exact⟨_,eB hob⟩
 ·simp only[ak]at h
theorem qL{id:Id}{ver:Nat}{kt vt:Ty}(h:t.ck id=s.ck id):t.jK id ver kt vt=s.jK id ver kt vt:=by
 unfold AS.jK AS.obj
 rw[h]
theorem tf{T:TypeId}{m k v:aC}{s':AS}(h:(mB P s T m k v).eval=some s'):
  ∃id e0 e,m.ids=[id]∧s.ck id=some e0∧s'=s.bz id e∧∀t:AS,t.ck id=s.ck id→(mB P t T m k v).eval=some (t.bz id e):=by
 unfold mB at h
 split at h
 ·rename_i K V kt vt id ver hm
  obtain⟨l,h1,h⟩:=aw.1 h
  obtain⟨kx,h2,h⟩:=aw.1 h
  obtain⟨vx,h3,h⟩:=aw.1 h
  obtain rfl:=ax.1 h
  obtain⟨e0,he0⟩:=tO h1
  refine⟨id,e0,_,rfl,he0,rfl,fun t ht=> ?_⟩
  unfold mB
  simp only[hm]
  exact aw.2 ⟨l,by rw[qL ht];exact h1,aw.2 ⟨kx,h2,aw.2 ⟨vx,h3,ax.2 rfl⟩⟩⟩
 ·simp only[ak]at h
theorem te{T:TypeId}{m k:aC}{s':AS}(h:(mz P s T m k).eval=some s'):
  ∃id e0 e,m.ids=[id]∧s.ck id=some e0∧s'=s.bz id e∧∀t:AS,t.ck id=s.ck id→(mz P t T m k).eval=some (t.bz id e):=by
 unfold mz at h
 split at h
 ·rename_i K V kt vt id ver hm
  obtain⟨l,h1,h⟩:=aw.1 h
  obtain⟨kx,h2,h⟩:=aw.1 h
  obtain rfl:=ax.1 h
  obtain⟨e0,he0⟩:=tO h1
  refine⟨id,e0,_,rfl,he0,rfl,fun t ht=> ?_⟩
  unfold mz
  simp only[hm]
  exact aw.2 ⟨l,by rw[qL ht];exact h1,aw.2 ⟨kx,h2,ax.2 rfl⟩⟩
 ·simp only[ak]at h
theorem tq{s':AS}(he:(iE P Γ bN o s).eval=some s'):o9 P Γ bN ops o s s':=by
 have he0:=he
 have one:∀x,o.op.operands= #[x]→∀t,gG (fh Γ ops s o) s t→t.ev x=s.ev x∧∀id∈(s.ev x).ids,lg (t.ck id) (s.ck id):=fun x hx t ht=>
  have hm:x∈o.op.operands.toList:=by rw[hx];simp
  ⟨ht.ev hm,fun _ hid=>ht.xd hm hid⟩
 unfold iE at he
 split at he
 ·rename_i x hop
  obtain rfl:=ax.1 he
  refine gN fun t ht=> ?_
  unfold iE
  rw[hop]
  simp only
  rw[(one x (by rw[hop];rfl) t ht).1];rfl
 ·rename_i x hop
  obtain rfl:=ax.1 he
  refine gN fun t ht=> ?_
  unfold iE
  rw[hop]
  simp only
  rw[(one x (by rw[hop];rfl) t ht).1];rfl
 ·rename_i c x y hop
  refine im (F:=fun t=>y8 (t.ev c) (t.ev x) (t.ev y)) (fun t=>by unfold iE;rw[hop]) (fun t ht=> ?_) he0
  rw[ht.ev (by rw[hop];simp[Op.operands]),ht.ev (by rw[hop];simp[Op.operands]),ht.ev (by rw[hop];simp[Op.operands])]
 ·rename_i T hop
  split at he
  ·rename_i z q hz hq
   obtain⟨h1,h2⟩:=aE.1 he
   obtain rfl:=ax.1 h2
   simp only[Bool.and_eq_true]at h1
   refine kY (ids:=[]) hq h1.1 (fun _ h=>by cases h) fun t ht hv=> ?_
   unfold iE
   rw[hop]
   simp only[hz,hq]
   exact aE.2 ⟨by simp[hv,h1.2],ax.2 rfl⟩
  ·exact(ak.1 he).elim
 ·rename_i T x hop
  exact zz hop he
 ·rename_i T parts hop
  exact vN hop he
 ·rename_i T n parts hop
  exact qc hop he
 ·rename_i T x hop
  refine im (F:=fun t=>py P t T (t.ev x)) (fun t=>by unfold iE;rw[hop]) (fun t ht=> ?_) he0
  obtain⟨h1,h2⟩:=one x (by rw[hop];rfl) t ht
  rw[h1,wm h2]
 ·rename_i T x v hop
  obtain⟨s1,h1,h2⟩:=aw.1 he
  obtain rfl:=ax.1 h2
  obtain⟨id,e0,e,hid,hs,rfl,hl⟩:=vj h1
  refine mw hs ?_ fun t ht hte=> ?_
  ·show id∈writes Γ s o
   unfold writes
   rw[hop]
   simp only[hid,List.mem_singleton]
  ·unfold iE
   rw[hop]
   simp only
   rw[ht.ev (x:=x) (by rw[hop];simp[Op.operands]),ht.ev (x:=v) (by rw[hop];simp[Op.operands])]
   exact aw.2 ⟨_,hl t hte,ax.2 rfl⟩
 ·rename_i x hop
  split at he
  ·rename_i id v p n hx
   obtain rfl:=ax.1 he
   refine gN fun t ht=> ?_
   unfold iE
   rw[hop]
   simp only[(one x (by rw[hop];rfl) t ht).1,hx];rfl
  ·rename_i ty y hx
   obtain rfl:=ax.1 he
   refine gN fun t ht=> ?_
   unfold iE
   rw[hop]
   simp only[(one x (by rw[hop];rfl) t ht).1,hx];rfl
  ·rename_i f c hx
   obtain rfl:=ax.1 he
   refine gN fun t ht=> ?_
   unfold iE
   rw[hop]
   simp only[(one x (by rw[hop];rfl) t ht).1,hx];rfl
  ·exact(ak.1 he).elim
 ·rename_i op T x y U hop
  have hmx:x∈o.op.operands.toList:=by rw[hop];simp[Op.operands]
  have hmy:y∈o.op.operands.toList:=by rw[hop];simp[Op.operands]
  split at he
  ·rename_i i v1 j v2 hx hy
   obtain⟨v,h1,h2⟩:=aw.1 he
   obtain rfl:=ax.1 h2
   refine gN fun t ht=> ?_
   unfold iE
   rw[hop]
   simp only[ht.ev hmx,ht.ev hmy,hx,hy]
   exact aw.2 ⟨v,by rw[zI (ht.xd hmx (by rw[hx];simp[aC.ids]))];exact h1,rfl⟩
  ·rename_i hne
   obtain⟨v,h1,h2⟩:=aw.1 he
   obtain rfl:=ax.1 h2
   refine gN fun t ht=> ?_
   unfold iE
   rw[hop]
   simp only[ht.ev hmx,ht.ev hmy]
   exact aw.2 ⟨v,h1,rfl⟩
 ·rename_i op T x hop
  refine im (F:=fun t=>EA op (t.ev x)) (fun t=>by unfold iE;rw[hop]) (fun t ht=> ?_) he0
  rw[(one x (by rw[hop];rfl) t ht).1]
 ·rename_i T U x hop
  split at he
  ·rename_i id ver len hTU hx
   unfold vQ at he
   split at he
   ·rename_i v e0 l e hob hD
    split at he
    ·rename_i hE
     obtain⟨h1,h2⟩:=aE.1 he
     obtain⟨h3,h4⟩:=bF.1 h2
     obtain rfl:=ax.1 h4
     refine mw (eB hob) ?_ fun t ht hte=> ?_
     ·show id∈writes Γ s o
      unfold writes
      rw[hop]
      simp only[hTU,hx]
      simp[aC.ids]
     ·have hob':t.obj id=some (v,false,.vec e0 (.int .u8) l):=by simp only[AS.obj,hte];exact hob
      unfold iE
      rw[hop]
      simp only[hTU,(one x (by rw[hop];rfl) t ht).1,hx]
      unfold vQ
      simp only[hob',hD,hE]
      exact aE.2 ⟨h1,bF.2 ⟨h3,ax.2 rfl⟩⟩
    ·exact(ak.1 he).elim
   ·exact(ak.1 he).elim
  ·rename_i id ver hx
   obtain⟨v,h1,h2⟩:=aw.1 he
   obtain rfl:=ax.1 h2
   refine gN fun t ht=> ?_
   obtain⟨h3,h4⟩:=one x (by rw[hop];rfl) t ht
   unfold iE
   rw[hop]
   simp only[h3,hx]
   exact aw.2 ⟨v,by rw[vR (h4 _ (by rw[hx];simp[aC.ids]))];exact h1,rfl⟩
  ·rename_i hne
   obtain⟨v,h1,h2⟩:=aw.1 he
   obtain rfl:=ax.1 h2
   refine gN fun t ht=> ?_
   obtain⟨h3,h4⟩:=one x (by rw[hop];rfl) t ht
   unfold iE
   rw[hop]
   simp only[h3]
   exact aw.2 ⟨v,by rw[vP h4];exact h1,rfl⟩
 ·rename_i T x hop
  exact xm hop he
 ·rename_i f first caps hop
  obtain⟨h1,h2⟩:=aE.1 he
  obtain rfl:=ax.1 h2
  refine gN fun t ht=> ?_
  have hc:iP t caps.toList=iP s caps.toList:=pf _ fun x hx=>ht.ev (by rw[hop];simp only[Op.operands,Array.toList_append];exact List.mem_append.2 (.inr hx))
  unfold iE
  rw[hop]
  simp only[hc]
  exact aE.2 ⟨h1,ax.2 rfl⟩
 ·rename_i T l c hop
  obtain⟨n,h1,h2⟩:=aw.1 he
  obtain⟨m,h3,h4⟩:=aw.1 h2
  exact qZ hop h1 h3 h4
 ·rename_i T x lo hi hop
  refine im (F:=fun t=>oV P t T (t.ev x) lo hi) (fun t=>by unfold iE;rw[hop]) (fun t ht=> ?_) he0
  have hm:∀z,(z=x∨lo=some z∨hi=some z)→z∈o.op.operands.toList:=fun z hz=>by
   rw[hop]
   simp only[Op.operands,Array.toList_append,List.mem_append]
   rcases hz with rfl | rfl | rfl
   ·left;left;left;simp
   ·left;left;right;simp
   ·left;right;simp
  have hx:=hm x (.inl rfl)
  rw[ht.ev hx]
  exact vg (fun id hid=>ht.xd hx hid) (fun y hy=>ht.ev (hm y (.inr (.inl hy)))) (fun y hy=>ht.ev (hm y (.inr (.inr hy))))
 ·rename_i T x f hop
  refine im (F:=fun t=>mu P T (t.ev x) f) (fun t=>by unfold iE;rw[hop]) (fun t ht=> ?_) he0
  rw[(one x (by rw[hop];rfl) t ht).1]
 ·rename_i T x f hop
  refine im (F:=fun t=>uI P T (t.ev x) f) (fun t=>by unfold iE;rw[hop]) (fun t ht=> ?_) he0
  rw[(one x (by rw[hop];rfl) t ht).1]
 ·rename_i T x i hop
  refine im (F:=fun t=>(asInt (t.ev i)).bind fun i=>iX P t T (t.ev x) i) (fun t=>by unfold iE;rw[hop,Out.bind_assoc]) (fun t ht=> ?_) he0
  have hx:x∈o.op.operands.toList:=by rw[hop];simp[Op.operands]
  rw[ht.ev (x:=i) (by rw[hop];simp[Op.operands]),ht.ev hx]
  congr 1
  funext i
  exact qj fun id hid=>ht.xd hx hid
 ·rename_i T x i hop
  refine im (F:=fun t=>(asInt (t.ev i)).bind fun i=>uP P T (t.ev x) i) (fun t=>by unfold iE;rw[hop,Out.bind_assoc]) (fun t ht=> ?_) he0
  rw[ht.ev (x:=i) (by rw[hop];simp[Op.operands]),ht.ev (x:=x) (by rw[hop];simp[Op.operands])]
 ·rename_i x i hop
  refine im (F:=fun t=>Out.opt ((t.ev x).list[i]?)) (fun t=>by unfold iE;rw[hop]) (fun t ht=> ?_) he0
  rw[(one x (by rw[hop];rfl) t ht).1]
 ·rename_i T hop
  have he1:=he
  unfold nF at he1
  split at he1
  ·rename_i K V kt vt q hm hd
   obtain⟨h1,h2⟩:=aE.1 he1
   obtain rfl:=ax.1 h2
   refine kY (ids:=[]) hd h1 (fun _ h=>by cases h) fun t ht hv=> ?_
   unfold iE
   rw[hop]
   simp only
   unfold nF
   simp only[hm,hd]
   exact aE.2 ⟨hv,ax.2 rfl⟩
  ·exact(ak.1 he1).elim
 ·rename_i T x i ok hop
  refine im (F:=fun t=>my P t T (t.ev x) (t.ev i) ok) (fun t=>by unfold iE;rw[hop]) (fun t ht=> ?_) he0
  have hx:x∈o.op.operands.toList:=by rw[hop];simp[Op.operands]
  rw[ht.ev (x:=i) (by rw[hop];simp[Op.operands]),ht.ev hx]
  exact tc fun id hid=>ht.xd hx hid
 ·rename_i T m k x hop
  obtain⟨s1,h1,h2⟩:=aw.1 he
  obtain rfl:=ax.1 h2
  obtain⟨id,e0,e,hid,hs,rfl,hl⟩:=tf h1
  refine mw hs ?_ fun t ht hte=> ?_
  ·show id∈writes Γ s o
   unfold writes
   rw[hop]
   simp only[hid,List.mem_singleton]
  ·unfold iE
   rw[hop]
   simp only
   rw[ht.ev (x:=m) (by rw[hop];simp[Op.operands]),ht.ev (x:=k) (by rw[hop];simp[Op.operands]),ht.ev (x:=x) (by rw[hop];simp[Op.operands])]
   exact aw.2 ⟨_,hl t hte,ax.2 rfl⟩
 ·rename_i c hop
  obtain⟨cal,args,tys⟩:=c
  simp only at he
  split at he
  ·split at he
   ·rename_i m k T T2 ha ht'
    have hmm:m∈o.op.operands.toList:=by rw[hop];simp only[Op.operands,Call.operands,List.nil_append,Array.toList_append,ha];simp
    have hmk:k∈o.op.operands.toList:=by rw[hop];simp only[Op.operands,Call.operands,List.nil_append,Array.toList_append,ha];simp
    obtain⟨s1,h1,h2⟩:=aw.1 he
    obtain rfl:=ax.1 h2
    obtain⟨id,e0,e,hid,hs,rfl,hl⟩:=te h1
    refine mw hs ?_ fun t ht hte=> ?_
    ·show id∈writes Γ s o
     unfold writes
     rw[hop]
     simp only[ha,hid,List.mem_singleton]
    ·unfold iE
     rw[hop]
     simp only[ha,ht']
     rw[ht.ev hmm,ht.ev hmk]
     exact aw.2 ⟨_,hl t hte,ax.2 rfl⟩
   ·exact(ak.1 he).elim
  ·split at he
   ·rename_i x y T X ha ht'
    exact xK hop rfl ha ht' he
   ·exact(ak.1 he).elim
  ·split at he
   ·rename_i x T ha ht'
    refine im (F:=fun t=>Co P T (t.ev x)) (fun t=>by unfold iE;rw[hop];simp only[ha,ht']) (fun t ht=> ?_) he0
    rw[ht.ev (by rw[hop];simp only[Op.operands,Call.operands,List.nil_append,Array.toList_append,ha];simp)]
   ·exact(ak.1 he).elim
  ·split at he
   ·rename_i x y T X ha ht'
    have hmx:x∈o.op.operands.toList:=by rw[hop];simp only[Op.operands,Call.operands,List.nil_append,Array.toList_append,ha];simp
    have hmy:y∈o.op.operands.toList:=by rw[hop];simp only[Op.operands,Call.operands,List.nil_append,Array.toList_append,ha];simp
    split at he
    ·rename_i k n hx hy
     have he1:=he
     unfold v7 at he1
     split at he1
     ·rename_i e t0 b q kn hel hd hX
      obtain⟨h1,h2⟩:=aE.1 he1
      obtain⟨h3,h4⟩:=bF.1 h2
      obtain rfl:=ax.1 h4
      refine kY (ids:=[]) hd h1 (fun _ h=>by cases h) fun t ht hv=> ?_
      unfold iE
      rw[hop]
      simp only[ha,ht',ht.ev hmx,ht.ev hmy,hx,hy]
      unfold v7
      simp only[hel,hd,hX]
      exact aE.2 ⟨hv,bF.2 ⟨h3,ax.2 rfl⟩⟩
     ·exact(ak.1 he1).elim
    ·rename_i hne
     exact uv hop rfl ha ht' hne he
   ·exact(ak.1 he).elim
  ·split at he
   ·rename_i x T ha ht'
    have hmx:x∈o.op.operands.toList:=by rw[hop];simp only[Op.operands,Call.operands,List.nil_append,Array.toList_append,ha];simp
    split at he
    ·rename_i e hx hT
     obtain rfl:=ax.1 he
     refine gN fun t ht=> ?_
     unfold iE
     rw[hop]
     simp only[ha,ht',ht.ev hmx,hx,hT];rfl
    ·exact(ak.1 he).elim
   ·exact(ak.1 he).elim
  ·refine im (F:=fun t=>zY true (args.toList.map t.ev)) (fun t=>by unfold iE;rw[hop]) (fun t ht=> ?_) he0
   congr 1
   exact List.map_congr_left fun x hx=>ht.ev (by rw[hop];simp only[Op.operands,Call.operands,List.nil_append,Array.toList_append];exact hx)
  ·refine im (F:=fun t=>zY false (args.toList.map t.ev)) (fun t=>by unfold iE;rw[hop]) (fun t ht=> ?_) he0
   congr 1
   exact List.map_congr_left fun x hx=>ht.ev (by rw[hop];simp only[Op.operands,Call.operands,List.nil_append,Array.toList_append];exact hx)
  ·split at he
   ·rename_i x ha
    have hmx:x∈o.op.operands.toList:=by rw[hop];simp only[Op.operands,Call.operands,List.nil_append,Array.toList_append,ha];simp
    split at he
    ·rename_i id ver len hx
     obtain⟨h1,h2⟩:=bF.1 he
     obtain rfl:=ax.1 h2
     refine gN fun t ht=> ?_
     unfold iE
     rw[hop]
     simp only[ha,ht.ev hmx,hx]
     exact bF.2 ⟨h1,rfl⟩
    ·exact(ak.1 he).elim
   ·exact(ak.1 he).elim
  ·split at he
   ·rename_i x y T U ha ht'
    have hmx:x∈o.op.operands.toList:=by rw[hop];simp only[Op.operands,Call.operands,List.nil_append,Array.toList_append,ha];simp
    have hmy:y∈o.op.operands.toList:=by rw[hop];simp only[Op.operands,Call.operands,List.nil_append,Array.toList_append,ha];simp
    split at he
    ·rename_i id ver n hx hy
     have he1:=he
     unfold xl at he1
     split at he1
     ·rename_i v e l u hob hT
      obtain⟨h1,h2⟩:=aE.1 he1
      obtain⟨h3,h4⟩:=bF.1 h2
      obtain rfl:=ax.1 h4
      refine mw (eB hob) ?_ fun t ht hte=> ?_
      ·show id∈writes Γ s o
       unfold writes
       rw[hop]
       simp only[ha,hx]
       simp[aC.ids]
      ·have hob':t.obj id=some (v,false,.vec e (.int .u8) l):=by simp only[AS.obj,hte];exact hob
       unfold iE
       rw[hop]
       simp only[ha,ht',ht.ev hmx,ht.ev hmy,hx,hy]
       unfold xl
       simp only[hob',hT]
       exact aE.2 ⟨h1,bF.2 ⟨h3,ax.2 rfl⟩⟩
     ·exact(ak.1 he1).elim
    ·exact(ak.1 he).elim
   ·exact(ak.1 he).elim
  ·rename_i F _
   split at he
   ·rename_i f caps hF
    split at he
    ·rename_i en hen
     exact xG hop rfl hF hen he
    ·exact(ak.1 he).elim
   ·exact(ak.1 he).elim
  ·exact(ak.1 he).elim
 ·exact(ak.1 he).elim
end
end Go.Ab
namespace Go.Ab
section
variable {P:Program} {Γ:dV} {bN:List Nat} {ops:Array Oper} {o:Oper} {s t:AS}
def Loc(P:Program)(Γ:dV)(bN:List Nat)(ops:Array Oper)(o:Oper)(s s':AS):Prop:=
 ∃E,App o.dst E s s'∧uq (fh Γ ops s o) s E∧∀t,gG (fh Γ ops s o) s t→∃t',oq P Γ bN ops o t=some t'∧App o.dst E t t'
theorem rR{s':AS}(he:oq P Γ bN ops o s=some s'):Loc P Γ bN ops o s s':=by
 unfold oq at he
 split at he
 ·rename_i hg
  obtain⟨E,h1,h2,h3⟩:=tq (ops:=ops) he
  refine⟨E,h1,h2,fun t ht=> ?_⟩
  obtain⟨t',h4,h5⟩:=h3 t ht
  exact⟨t',by unfold oq;simp only[hg];exact h4,h5⟩
 ·rename_i j want hg
  split at he
  ·rename_i q hq
   split at he
   ·rename_i b hb
    have hsl:∀t,gG (fh Γ ops s o) s t→t.slot q= .d .bool b:=fun t ht=>by
     rw[ht.cl q (List.mem_append.2 (.inr (by unfold qi;simp only[hg,hq];simp)))];exact hb
    by_cases e:b=want
    ·rw[if_pos e]at he
     obtain⟨E,h1,h2,h3⟩:=tq (ops:=ops) he
     refine⟨E,h1,h2,fun t ht=> ?_⟩
     obtain⟨t',h4,h5⟩:=h3 t ht
     exact⟨t',by unfold oq;simp only[hg,hq,hsl t ht,if_pos e];exact h4,h5⟩
    ·rw[if_neg e]at he
     simp only[Option.some.injEq]at he
     subst he
     exact⟨⟨.nil,fun _=>none,[]⟩,App.oa _ _ _,⟨fun _ _ h=>by simp at h,fun _ h=>by simp at h⟩,fun t ht=>⟨_,by unfold oq;simp only[hg,hq,hsl t ht,if_neg e],App.oa _ _ _⟩⟩
   ·rename_i hb
    have hsl:∀t,gG (fh Γ ops s o) s t→t.slot q= .nil:=fun t ht=>by
     rw[ht.cl q (List.mem_append.2 (.inr (by unfold qi;simp only[hg,hq];simp)))];exact hb
    simp only[Option.some.injEq]at he
    subst he
    exact⟨⟨.nil,fun _=>none,[]⟩,App.oa _ _ _,⟨fun _ _ h=>by simp at h,fun _ h=>by simp at h⟩,fun t ht=>⟨_,by unfold oq;simp only[hg,hq,hsl t ht],App.oa _ _ _⟩⟩
   ·cases he
  ·cases he
theorem vp(h:gG (fh Γ ops s o) s t):writes Γ t o=writes Γ s o:=by
 have hws:∀id∈writes Γ s o,t.ck id=s.ck id:=h.ws
 unfold writes at hws ⊢
 split
 ·rename_i x v hop
  rw[h.ev (by rw[hop];simp[Op.operands])]
 ·rename_i m k v hop
  rw[h.ev (by rw[hop];simp[Op.operands])]
 ·rename_i T U x hop
  rw[h.ev (by rw[hop];simp[Op.operands])]
 ·rename_i c hop
  obtain⟨cal,args,tys⟩:=c
  simp only[hop]at hws
  simp only
  split
  ·split
   ·rename_i x l ha
    rw[h.ev (by rw[hop];simp only[Op.operands,Call.operands,List.nil_append,Array.toList_append,ha];simp)]
   ·rfl
  ·split
   ·rename_i x l ha
    rw[h.ev (by rw[hop];simp only[Op.operands,Call.operands,List.nil_append,Array.toList_append,ha];simp)]
   ·rfl
  ·split
   ·rename_i x l ha
    rw[h.ev (by rw[hop];simp only[Op.operands,Call.operands,List.nil_append,Array.toList_append,ha];simp)]
   ·rfl
  ·split
   ·rename_i x l ha
    rw[h.ev (by rw[hop];simp only[Op.operands,Call.operands,List.nil_append,Array.toList_append,ha];simp)]
   ·rfl
  ·rename_i F
   simp only at hws
   have hm:∀z,z=F∨z∈args.toList→z∈o.op.operands.toList:=fun z hz=>by
    rw[hop]
    simp only[Op.operands,Call.operands,Array.toList_append,List.mem_append]
    rcases hz with rfl | hz
    ·exact .inl (by simp)
    ·exact .inr hz
   have h1:t.ev F=s.ev F:=h.ev (hm F (.inl rfl))
   have h2:args.toList.map t.ev=args.toList.map s.ev:=List.map_congr_left fun x hx=>h.ev (hm x (.inr hx))
   rw[h1]
   split
   ·rename_i f caps hF
    simp only[hF]at hws
    rw[h2]
    split
    ·rename_i en hen
     simp only[hen]at hws
     exact kh _ _ _ fun id hid=>by rw[hws id hid]
    ·rfl
   ·rfl
  ·rfl
 ·rfl
theorem rM(h:gG (fh Γ ops s o) s t):fh Γ ops t o=fh Γ ops s o:=by
 have h1:=vp h
 have h2:wO t o=wO s o:=by
  unfold wO
  unfold List.flatMap
  congr 1
  exact List.map_congr_left fun i hi=>by rw[h.cl i (List.mem_append.2 (.inl hi))]
 unfold fh
 rw[h1,h2]
theorem j9{xs ys:List Id}(h:meets xs ys=false){id:Id}(hx:id∈xs):id ∉ ys:=by
 intro hy
 have:meets xs ys=true:=by
  unfold meets
  exact List.any_eq_true.2 ⟨id,hx,List.any_eq_true.2 ⟨id,hy,by simp⟩⟩
 rw[h]at this;cases this
theorem jy{d:Option Tmp}{ids:List Id}(h:sI d ids=false){q:Nat}(hd:d=some q)(j:Nat):Id.new q j ∉ ids:=by
 intro hy
 have:sI d ids=true:=by
  subst hd
  exact List.any_eq_true.2 ⟨_,hy,by simp⟩
 rw[h]at this;cases this
theorem nY{f g:nb}(h:f.D4 g=false){q:Nat}(hd:f.dst=some q):q ∉ g.cl∧g.dst≠some q:=by
 unfold nb.D4 at h
 rw[hd]at h
 simp only[Bool.or_eq_false_iff,List.any_eq_false,decide_eq_true_eq,decide_eq_false_iff_not]at h
 exact⟨fun hx=>h.1 q hx rfl,h.2⟩
theorem xg(s:AS)(d:Option Tmp)(v:aC)(i:Nat)(h:d≠some i):(s.put d v).slot i=s.slot i:=by
 cases d with
 |none=>rfl
 |some q=>rw[sJ,if_neg];rintro⟨rfl,_⟩;exact h rfl
theorem App.slot{d:Option Tmp}{E:DH}{s s':AS}(h:App d E s s')(i:Nat)(hi:d≠some i):s'.slot i=s.slot i:=by
 rw[←xg s d E.v i hi]
 simp only[AS.slot,h.cl]
theorem vA{f f':nb}{E:DH}{s s1:AS}(ha:App f.dst E s s1)(hw:uq f s E)(hsub:∀id∈f'.ws,id∈f'.rs)(h1:f.D4 f'=false)(h2:meets f.ws f'.rs=false)(h3:meets f'.ws f.rs=false)
  (h4:sI f.dst f'.rs=false):(∀i∈f'.cl,s1.slot i=s.slot i)∧(∀id∈f'.ws,s1.ck id=s.ck id)∧(∀id∈f'.rs,lg (s1.ck id) (s.ck id))∧∀q,f'.dst=some q→s1.dO q=s.dO q:=by
 have hup:∀id∈f'.rs,E.up id=none:=fun id hid=>by
  cases hu:E.up id with
  |none=>rfl
  |some e=>
   rcases hw.up id e hu with⟨h,_⟩ | ⟨q,j,hd,rfl⟩
   ·exact absurd hid (j9 h2 h)
   ·exact absurd hid (jy h4 hd j)
 refine⟨fun i hi=>ha.slot i fun hd=>(nY h1 hd).1 hi,fun id hid=> ?_,fun id hid=> ?_,fun q hq=> ?_⟩
 ·rw[ha.ck,hup id (hsub id hid)]
  have:id ∉ E.fz:=fun hz=>j9 h3 hid (hw.fz id hz)
  simp only[if_neg this]
 ·rw[ha.ck,hup id hid]
  simp only
  split
  ·exact Ai _
  ·exact Aj _
 ·have hne:∀j,(s1.ck (.new q j)=none↔s.ck (.new q j)=none):=fun j=>by
   rw[ha.ck]
   cases hu:E.up (.new q j) with
   |none=>
    simp only
    split <;> simp
   |some e=>
    rcases hw.up _ e hu with⟨_,h⟩ | ⟨q',j',hd,he⟩
    ·simp[h]
    ·simp only[Id.new.injEq]at he
     obtain⟨rfl,_⟩:=he
     exact absurd hq (nY h1 hd).2
  rw[Bool.eq_iff_iff,lk,lk,ha.len]
  exact and_congr Iff.rfl (forall_congr' hne)
theorem nw(s:AS)(o:Oper):∀id∈(fh Γ ops s o).ws,id∈(fh Γ ops s o).rs:=fun _ hid=>List.mem_append.2 (.inr hid)
theorem swap{o':Oper}{s1 s2:AS}(h1:oq P Γ bN ops o s=some s1)(h2:oq P Γ bN ops o' s1=some s2)(hi:(fh Γ ops s o).indep (fh Γ ops s1 o')=true):
  ∃t1,oq P Γ bN ops o' s=some t1∧oq P Γ bN ops o t1=some s2∧fh Γ ops s o'=fh Γ ops s1 o'∧fh Γ ops t1 o=fh Γ ops s o:=by
 unfold nb.indep at hi
 simp only[Bool.and_eq_true,Bool.not_eq_true']at hi
 obtain⟨⟨⟨⟨⟨i1,i2⟩,i3⟩,i4⟩,i5⟩,i6⟩:=hi
 obtain⟨E,a1,w1,l1⟩:=rR h1
 obtain⟨E',a2,w2,l2⟩:=rR h2
 obtain⟨g1,g2,g3,g4⟩:=vA (f:=fh Γ ops s o) (f':=fh Γ ops s1 o') a1 w1 (nw _ _) i1 i3 i4 i5
 have hag:gG (fh Γ ops s1 o') s1 s:=⟨fun i hi=>(g1 i hi).symm,fun id hid=>(g2 id hid).symm,fun id hid=>by
  have:=g3 id hid
  revert this
  cases s1.ck id <;> cases s.ck id <;> simp only[lg] <;> intro h <;> first | trivial | exact h | skip
  rename_i a b
  cases a <;> cases b <;> simp_all [eP.xd],fun q hq=>(g4 q hq).symm⟩
 obtain⟨t1,k1,k2⟩:=l2 s hag
 have hf':=rM hag
 have w2':uq (fh Γ ops s1 o') s E':=⟨fun id e hu=>by
  rcases w2.up id e hu with⟨h,hn⟩ | h
  ·exact .inl ⟨h,by rw[←g2 id h];exact hn⟩
  ·exact .inr h,w2.fz⟩
 obtain⟨m1,m2,m3,m4⟩:=vA (f:=fh Γ ops s1 o') (f':=fh Γ ops s o) k2 w2' (nw _ _) i2 i4 i3 i6
 have hag2:gG (fh Γ ops s o) s t1:=⟨m1,m2,m3,m4⟩
 obtain⟨t2,k3,k4⟩:=l1 t1 hag2
 refine⟨t1,k1,?_,hf',rM hag2⟩
 rw[k3]
 congr 1
 have hup1:∀id e,E.up id=some e→E'.up id=none∧id ∉ E'.fz:=fun id e hu=>by
  rcases w1.up id e hu with⟨h,hn⟩ | ⟨q,j,hd,rfl⟩
  ·refine⟨?_,fun hz=>j9 i3 h (w2.fz id hz)⟩
   cases hu':E'.up id with
   |none=>rfl
   |some e'=>
    rcases w2.up id e' hu' with⟨h',_⟩ | ⟨q,j,hd,rfl⟩
    ·exact absurd (nw _ _ id h') (j9 i3 h)
    ·exact absurd (nw _ _ _ h) (jy i6 hd j)
  ·refine⟨?_,fun hz=>jy i5 hd j (w2.fz _ hz)⟩
   cases hu':E'.up (.new q j) with
   |none=>rfl
   |some e'=>
    rcases w2.up _ e' hu' with⟨h',_⟩ | ⟨q',j',hd',he⟩
    ·exact absurd (nw _ _ _ h') (jy i5 hd j)
    ·simp only[Id.new.injEq]at he
     obtain⟨rfl,_⟩:=he
     exact absurd hd' (nY i1 hd).2
 have hup2:∀id e,E'.up id=some e→E.up id=none∧id ∉ E.fz:=fun id e hu=>by
  have hn:E.up id=none:=by
   cases hu1:E.up id with
   |none=>rfl
   |some e1=>rw[(hup1 id e1 hu1).1]at hu;cases hu
  refine⟨hn,fun hz=> ?_⟩
  rcases w2.up id e hu with⟨h,_⟩ | ⟨q,j,hd,rfl⟩
  ·exact j9 i4 h (w1.fz id hz)
  ·exact jy i6 hd j (w1.fz _ hz)
 refine AS.AY ?_ (by rw[k4.len,k2.len,a2.len,a1.len]) fun id=> ?_
 ·have e1:∀(u u':AS) (d:Option Tmp) (v:aC),u.cl=u'.cl→(u.put d v).cl=(u'.put d v).cl:=fun u u' d v h=>by cases d <;> simp[AS.put,h]
  rw[k4.cl,a2.cl,e1 t1 (s.put o'.dst E'.v) _ _ k2.cl,e1 s1 (s.put o.dst E.v) _ _ a1.cl]
  cases hd:o.dst with
  |none=>cases o'.dst <;> rfl
  |some q=>
   cases hd':o'.dst with
   |none=>rfl
   |some q'=>
    have hne:q'≠q:=fun e=>(nY (f:=fh Γ ops s o) i1 hd).2 (by show o'.dst=some q;rw[hd',e])
    simp only[AS.put]
    exact List.set_comm _ _ hne
 ·rw[k4.ck,k2.ck,a2.ck,a1.ck]
  cases hu:E.up id with
  |some e=>
   obtain⟨h3,h4⟩:=hup1 id e hu
   simp only[h3,if_neg h4]
  |none=>
   simp only
   cases hu':E'.up id with
   |some e=>
    obtain⟨_,h4⟩:=hup2 id e hu'
    simp only[if_neg h4]
   |none=>
    simp only
    by_cases z1:id∈E.fz <;> by_cases z2:id∈E'.fz <;> simp only[if_pos,if_neg,z1,z2,not_false_eq_true]
end
end Go.Ab
namespace Go.Ab
section
variable {P:Program} {Γ:dV} {bN:List Nat} {ops:Array Oper}
def vy(P:Program)(Γ:dV)(bN:List Nat)(ops:Array Oper)(fs:Nat→nb):List Nat→AS→AS→Prop
 |[],s,sn=>s=sn
 |i::l,s,sn=>∃o,ops[i]? =some o∧fh Γ ops s o=fs i∧∃s',oq P Γ bN ops o s=some s'∧vy P Γ bN ops fs l s' sn
theorem vy.AL{fs:Nat→nb}{i:Nat}{l2:List Nat}{sn:AS}:∀(l1:List Nat) {s:AS},vy P Γ bN ops fs (l1++i::l2) s sn→(∀j∈l1,(fs j).indep (fs i)=true)→vy P Γ bN ops fs (i::(l1++l2)) s sn
 |[],_,h,_=>h
 |j::l1,s,h,hi=>by
  obtain⟨oj,h1,h2,s1,h3,h4⟩:=h
  obtain⟨oi,h5,h6,s2,h7,h8⟩:=vy.AL l1 h4 fun j hj=>hi j (List.mem_cons_of_mem _ hj)
  have hd:=hi j (List.mem_cons_self ..)
  rw[←h2,←h6]at hd
  obtain⟨t1,k1,k2,k3,k4⟩:=swap h3 h7 hd
  exact⟨oi,h5,by rw[k3,h6],t1,k1,oj,h1,by rw[k4,h2],s2,k2,h8⟩
theorem tJ{R:Type}{anc:List Nat}{k:AS→Option R}{r:R}:∀(l:List Oper) (i:Nat) (acc:List (Nat×nb)) (s:AS) (f0:Nat→nb),(∀n o,l[n]? =some o→ops[i+n]? =some o)→(∀x∈acc,f0 x.1=x.2∧x.1 < i)→
  tI P Γ bN ops anc i l acc s k=some r→∃fs sn,(∀j,j < i→fs j=f0 j)∧vy P Γ bN ops fs (List.range' i l.length) s sn∧k sn=some r∧
   (∀x∈acc,∀m,i≤m→m < i+l.length→(anc.getD m 0).testBit x.1=true∨x.2.indep (fs m)=true)∧(∀m1 m2,i≤m1→m1 < m2→m2 < i+l.length→(anc.getD m2 0).testBit m1=true∨(fs m1).indep (fs m2)=true)
 |[],i,acc,s,f0,_,_,h=>⟨f0,s,fun _ _=>rfl,rfl,h,fun _ _ m h1 h2=>by simp at h2;omega,fun _ _ h1 h2 h3=>by simp at h3;omega⟩
 |o::l,i,acc,s,f0,ho,hf,h=>by
  unfold tI at h
  split at h
  ·rename_i hall
   simp only[AS.pP]at h
   obtain⟨s',h1,h2⟩:=v5 (k:=fun s'=>tI P Γ bN ops anc (i+1) l ((i,fh Γ ops s o)::acc) s' k) h
   have hacc:∀x∈(i,fh Γ ops s o)::acc,(if x.1=i then fh Γ ops s o else f0 x.1)=x.2∧x.1 < i+1:=fun x hx=>by
    rcases List.mem_cons.1 hx with rfl | hx
    ·simp
    ·obtain⟨q1,q2⟩:=hf x hx
     rw[if_neg (by omega)]
     exact⟨q1,by omega⟩
   obtain⟨fs,sn,g1,g2,g3,g4,g5⟩:=tJ l (i+1) ((i,fh Γ ops s o)::acc) s' (fun n=>if n=i then fh Γ ops s o else f0 n)
    (fun n o' hn=>by have:=ho (n+1) o' (by simpa using hn);rw[←this];congr 1;omega) hacc h2
   have gi:fs i=fh Γ ops s o:=by rw[g1 i (by omega),if_pos rfl]
   refine⟨fs,sn,fun j hj=>by rw[g1 j (by omega),if_neg (by omega)],?_,g3,fun x hx m h3 h4=> ?_,fun m1 m2 h3 h4 h5=> ?_⟩
   ·rw[List.length_cons,List.range'_succ]
    exact⟨o,ho 0 o rfl,gi.symm,s',h1,g2⟩
   ·rcases Nat.eq_or_lt_of_le h3 with rfl | h3
    ·have:=List.all_eq_true.1 hall x hx
     simp only[Bool.or_eq_true]at this
     rcases this with h | h
     ·exact .inl h
     ·right;rw[gi];exact h
    ·exact g4 x (List.mem_cons_of_mem _ hx) m (by omega) (by simp only[List.length_cons]at h4;omega)
   ·rcases Nat.eq_or_lt_of_le h3 with rfl | h3
    ·rw[gi]
     exact g4 (i,fh Γ ops s o) (List.mem_cons_self ..) m2 (by omega) (by simp only[List.length_cons]at h5;omega)
    ·exact g5 m1 m2 (by omega) h4 (by simp only[List.length_cons]at h5;omega)
  ·cases h
theorem vC{acc:List Nat}{j:Nat}:∀ {l:List Edge},(l.foldr (fun e m=>Nat.lor (Nat.lor (Nat.pow 2 e.on) (acc.getD e.on 0)) m) 0).testBit j=true→∃e∈l,j=e.on∨(acc.getD e.on 0).testBit j=true
 |[],h=>by simp at h
 |e::l,h=>by
  rw[List.foldr_cons,show ∀x y,Nat.lor x y=x ||| y from fun _ _=>rfl,show ∀x y,Nat.lor x y=x ||| y from fun _ _=>rfl,Nat.testBit_or,Nat.testBit_or,show Nat.pow 2 e.on=2^e.on from rfl,Nat.testBit_two_pow]at h
  simp only[Bool.or_eq_true,decide_eq_true_eq]at h
  rcases h with(h | h) | h
  ·exact⟨e,List.mem_cons_self ..,.inl h.symm⟩
  ·exact⟨e,List.mem_cons_self ..,.inr h⟩
  ·obtain⟨e',h1,h2⟩:=vC h
   exact⟨e',List.mem_cons_of_mem _ h1,h2⟩
theorem tp:∀(l:List Oper) (acc:List Nat),(∀i,i < acc.length→(l.foldl (fun acc o=>acc++ [ur acc o]) acc)[i]? =acc[i]?)∧
  ∀i o,l[i]? =some o→(l.foldl (fun acc o=>acc++ [ur acc o]) acc)[acc.length+i]? =some (ur ((l.foldl (fun acc o=>acc++ [ur acc o]) acc).take (acc.length+i)) o)
 |[],acc=>⟨fun _ _=>rfl,fun i o h=>by simp at h⟩
 |x::l,acc=>by
  obtain⟨h1,h2⟩:=tp l (acc++ [ur acc x])
  simp only[List.foldl_cons]
  refine⟨fun i hi=> ?_,fun i o hi=> ?_⟩
  ·rw[h1 i (by simp;omega),List.getElem?_append_left hi]
  ·cases i with
   |zero=>
    simp only[List.getElem?_cons_zero,Option.some.injEq]at hi
    subst hi
    rw[Nat.add_zero,h1 _ (by simp)]
    have:(l.foldl (fun acc o=>acc++ [ur acc o]) (acc++ [ur acc x])).take acc.length=acc:=by
     apply List.ext_getElem?
     intro j
     rw[List.getElem?_take]
     split
     ·rename_i hj
      rw[h1 j (by simp;omega),List.getElem?_append_left hj]
     ·rename_i hj
      rw[List.getElem?_eq_none (by omega)]
    rw[this]
    simp
   |succ i=>
    have:=h2 i o (by simpa using hi)
    simp only[List.length_append,List.length_cons,List.length_nil,Nat.zero_add]at this
    rw[show acc.length+(i+1)=acc.length+1+i by omega]
    exact this
theorem Az{l:List Oper}{i:Nat}{o:Oper}(hi:l[i]? =some o){j:Nat}(hj:((vD l).getD i 0).testBit j=true):∃e∈o.after.toList,Region.binds .any e=true∧(j=e.on∨((vD l).getD e.on 0).testBit j=true):=by
 have h:=(tp l []).2 i o hi
 have e:vD l=l.foldl (fun acc o=>acc++ [ur acc o]) []:=rfl
 rw[←e]at h
 simp only[List.length_nil,Nat.zero_add]at h
 rw[List.getD_eq_getElem?_getD,h]at hj
 obtain⟨e,h1,h3⟩:=vC hj
 obtain⟨h1,h2⟩:=List.mem_filter.1 h1
 refine⟨e,h1,h2,h3.imp id fun h4=> ?_⟩
 rw[List.getD_eq_getElem?_getD,List.getElem?_take]at h4
 split at h4
 ·rw[List.getD_eq_getElem?_getD];exact h4
 ·simp at h4
def ui(n:Nat)(listed:Array Bool):List Nat:=(List.range n).filter fun i=> !listed.getD i true
theorem pz{n:Nat}{listed:Array Bool}{i:Nat}:i∈ui n listed↔i < n∧listed.getD i true=false:=by simp[ui]
theorem oZ(n:Nat)(listed:Array Bool):(ui n listed).Pairwise (· < ·):=(List.pairwise_lt_range).filter _
theorem rQ{listed:Array Bool}{i j:Nat}(d:Bool)(hi:i < listed.size):(listed.setIfInBounds i true).getD j d=if j=i then true else listed.getD j d:=by
 simp only[Array.getD_eq_getD_getElem?,Array.getElem?_setIfInBounds]
 by_cases h:i=j
 ·subst h;simp[hi]
 ·simp[h,Ne.symm h]
theorem CC{listed:Array Bool}{i:Nat}(hi:i < listed.size){l1 l2:List Nat}(h:ui listed.size listed=l1++i::l2):ui listed.size (listed.setIfInBounds i true)=l1++l2:=by
 have hs:=oZ listed.size listed
 rw[h]at hs
 obtain⟨p1,p2,p3⟩:=List.pairwise_append.1 hs
 obtain⟨p4,_⟩:=List.pairwise_cons.1 p2
 have e:ui listed.size (listed.setIfInBounds i true)=(ui listed.size listed).filter fun j=>decide (j≠i):=by
  unfold ui
  rw[List.filter_filter]
  refine List.filter_congr fun j _=> ?_
  rw[rQ true hi]
  by_cases hj:j=i
  ·simp[hj]
  ·simp[hj]
 rw[e,h,List.filter_append,List.filter_cons]
 have f1:l1.filter (fun j=>decide (j≠i))=l1:=List.filter_eq_self.2 fun j hj=>by
  have:=p3 j hj i (List.mem_cons_self ..)
  simp;omega
 have f2:l2.filter (fun j=>decide (j≠i))=l2:=List.filter_eq_self.2 fun j hj=>by
  have:=p4 j hj
  simp;omega
 rw[f1,f2]
 simp
theorem zr{C:Ctx}(hΓ:Sound P Γ){fs:Nat→nb}{sn:AS}{Q:Exit→Act→World→Prop}(hE:uD ops.toList=true)
  (hind:∀m1 m2,m1 < m2→m2 < ops.size→((vD ops.toList).getD m2 0).testBit m1=true∨(fs m1).indep (fs m2)=true) (hQ:∀a w,fQ C sn a w→Q .normal a w):
  ∀(fuel:Nat) (listed:Array Bool) (s:AS) (a:Act) (w:World),listed.size=ops.size→(ui ops.size listed).length=fuel→
   (∀i,i < ops.size→listed.getD i true=true→∀j,((vD ops.toList).getD i 0).testBit j=true→listed.getD j false=true)→vy P Γ bN ops fs (ui ops.size listed) s sn→fQ C s a w→wpAny P .any ops Q fuel listed a w:=by
 have hedge:∀i o,ops[i]? =some o→∀e∈o.after.toList,Region.binds .any e=true→e.on < i:=fun i o hi e he hb=>by
  have:=List.all_eq_true.1 hE (o,i) (List.mem_zipIdx_iff_getElem?.2 (by simpa using hi))
  have:=List.all_eq_true.1 this e he
  simpa[hb]using this
 have hrdy:∀(listed:Array Bool),listed.size=ops.size→∀i,i∈Region.ready .any ops listed↔i∈ui ops.size listed∧∀o,ops[i]? =some o→∀e∈o.after.toList,Region.binds .any e=true→listed.getD e.on false=true:=fun listed _ i=>by
  rw[pz]
  unfold Region.ready
  simp only[List.mem_filter,List.mem_range,Bool.and_eq_true,Bool.not_eq_true']
  constructor
  ·rintro⟨h1,h2,h3⟩
   refine⟨⟨h1,h2⟩,fun o ho e he hb=> ?_⟩
   rw[ho]at h3
   simp only[Option.map_some,Option.getD_some,Array.all_eq_true',Bool.or_eq_true,Bool.not_eq_true']at h3
   rcases h3 e (by simpa using he) with h | h
   ·rw[hb]at h;cases h
   ·exact h
  ·rintro⟨⟨h1,h2⟩,h3⟩
   refine⟨h1,h2,?_⟩
   obtain⟨o,ho⟩:∃o,ops[i]? =some o:=⟨ops[i],by simp[h1]⟩
   rw[ho]
   simp only[Option.map_some,Option.getD_some,Array.all_eq_true',Bool.or_eq_true,Bool.not_eq_true']
   intro e he
   cases hb:Region.binds .any e with
   |false=>exact .inl rfl
   |true=>exact .inr (h3 o ho e (by simpa using he) hb)
 have hsome:∀(listed:Array Bool),listed.size=ops.size→Region.ready .any ops listed=[]→ui ops.size listed=[]:=fun listed hs hr=>by
  cases hu:ui ops.size listed with
  |nil=>rfl
  |cons i l=>
   exfalso
   have hi:i∈ui ops.size listed:=by rw[hu];exact List.mem_cons_self ..
   have hso:=oZ ops.size listed
   rw[hu]at hso
   have:i∈Region.ready .any ops listed:=(hrdy listed hs i).2 ⟨hi,fun o ho e he hb=>by
    have hlt:=hedge i o ho e he hb
    have hin:=(pz.1 hi).1
    cases hl:listed.getD e.on true with
    |false=>
     have hm:e.on∈ui ops.size listed:=pz.2 ⟨by omega,hl⟩
     rw[hu]at hm
     rcases List.mem_cons.1 hm with h | h
     ·omega
     ·have:=(List.pairwise_cons.1 hso).1 _ h;omega
    |true=>
     have:e.on < listed.size:=by omega
     simp only[Array.getD_eq_getD_getElem?,Array.getElem?_eq_getElem this,Option.getD_some]at hl ⊢
     exact hl⟩
   rw[hr]at this
   cases this
 intro fuel
 induction fuel with
 |zero=>
  intro listed s a w hs hl _ hr hst
  have hn:ui ops.size listed=[]:=List.eq_nil_of_length_eq_zero hl
  refine⟨?_,?_⟩
  ·cases hre:Region.ready .any ops listed with
   |nil=>rfl
   |cons i l=>
    have:i∈Region.ready .any ops listed:=by rw[hre];exact List.mem_cons_self ..
    have:=((hrdy listed hs i).1 this).1
    rw[hn]at this;cases this
  ·rw[hn]at hr
   have:s=sn:=hr
   subst this
   exact hQ a w hst
 |succ fuel ih=>
  intro listed s a w hs hl hcl hr hst
  refine⟨fun hre=> ?_,fun i hi=> ?_⟩
  ·have:=hsome listed hs hre
   rw[this]at hl;simp at hl
  ·obtain⟨hu,hdep⟩:=(hrdy listed hs i).1 hi
   obtain⟨hin,hli⟩:=pz.1 hu
   obtain⟨o,ho⟩:∃o,ops[i]? =some o:=⟨ops[i],by simp[hin]⟩
   obtain⟨l1,l2,hsp⟩:=List.append_of_mem hu
   have hso:=oZ ops.size listed
   rw[hsp]at hso
   have hanc:∀j,((vD ops.toList).getD i 0).testBit j=true→listed.getD j false=true:=fun j hj=>by
    obtain⟨e,he,hb,h | h⟩:=Az (by simpa using ho) hj
    ·rw[h];exact hdep o ho e he hb
    ·have h1:=hdep o ho e he hb
     have h2:=hedge i o ho e he hb
     refine hcl e.on (by omega) ?_ j h
     have:e.on < listed.size:=by omega
     simp only[Array.getD_eq_getD_getElem?,Array.getElem?_eq_getElem this,Option.getD_some]at h1 ⊢
     exact h1
   rw[hsp]at hr
   have hb:=vy.AL l1 hr fun j hj=>by
    have hlt:j < i:=(List.pairwise_append.1 hso).2.2 j hj i (List.mem_cons_self ..)
    rcases hind j i hlt hin with h | h
    ·have h1:=hanc j h
     have hju:j∈ui ops.size listed:=by rw[hsp];exact List.mem_append.2 (.inl hj)
     have h2:=(pz.1 hju).2
     have:j < listed.size:=by omega
     simp only[Array.getD_eq_getD_getElem?,Array.getElem?_eq_getElem this,Option.getD_some]at h1 h2
     rw[h1]at h2;cases h2
    ·exact h
   obtain⟨o',ho',hf,s',hg,hrun⟩:=hb
   obtain rfl:o=o':=by rw[ho]at ho';simpa using ho'
   have hset:ui ops.size (listed.setIfInBounds i true)=l1++l2:=by
    rw[←hs]at hsp ⊢
    exact CC (by omega) hsp
   refine((tG hΓ hst hg).mono fun a' w' hst'=>ih (listed.setIfInBounds i true) s' a' w' (by simpa using hs) ?_ ?_ (by rw[hset];exact hrun) hst').wpOp ho
   ·rw[hset]
    rw[hsp]at hl
    simp only[List.length_append,List.length_cons]at hl ⊢
    omega
   ·intro m hm hlm j hj
    rw[rQ false (by omega)]
    split
    ·rfl
    ·rw[rQ true (by omega)]at hlm
     split at hlm
     ·rename_i hmi
      subst hmi
      exact hanc j hj
     ·exact hcl m hm hlm j hj
theorem wY{C:Ctx}(hm:P.follows .mixedOrders=true)(hΓ:Sound P Γ){id:Nat}{R:Type}{Q:Exit→Act→World→Prop}{s:AS}{a:Act}{w:World}{k:AS→Option R}{r:R}(h:fQ C s a w)(hE:uD ops.toList=true)
  (he:tI P Γ bN ops (vD ops.toList) 0 ops.toList [] s k=some r) (hk:∀s' a' w',fQ C s' a' w'→k s'=some r→Q .normal a' w'):(Code.region id ops true).wp P Q a w:=by
 obtain⟨fs,sn,_,g2,g3,_,g5⟩:=tJ ops.toList 0 [] s (fun _=>⟨none,[],[],[]⟩) (fun n o hn=>by simpa using hn) (fun _ hx=>by cases hx) he
 refine wp_region_any hm ?_
 obtain⟨g,β,h⟩:=h
 have hu:ui ops.size (Array.replicate ops.size false)=List.range' 0 ops.toList.length:=by
  unfold ui
  rw[List.filter_eq_self.2]
  ·simp[List.range_eq_range']
  ·intro i hi
   have hi:i < ops.size:=by simpa using hi
   simp[Array.getD_eq_getD_getElem?,hi]
 refine zr (bN:=bN) hΓ hE (fs:=fs) (sn:=sn) (fun m1 m2 h1 h2=>g5 m1 m2 (Nat.zero_le _) h1 (by simpa using h2)) (fun a' w' hs=>hk sn a' w' hs g3) ops.size _ s a _ (by simp) (by rw[hu];simp) (fun i hi hl=> ?_) (by rw[hu];exact g2) ⟨g,β,h.drew⟩
 simp[Array.getD_eq_getD_getElem?,hi]at hl
end
end Go.Ab
namespace Go.Ab
theorem ld{ρ:xt}:∀(v:aC),(∀id∈v.ids,∀ver,ρ id ver=some (id,ver))→v.fZ ρ=v
 | .ptr id ver p n,h=>by simp only[aC.fZ];rw[h id (by simp[aC.ids])]
 | .bU id ver p c i len,h=>by simp only[aC.fZ];rw[h id (by simp[aC.ids])]
 | .pr a b,h=>by simp only[aC.fZ];rw[ld a fun id hid=>h id (by simp[aC.ids,hid]),ld b fun id hid=>h id (by simp[aC.ids,hid])]
 | .cons a b,h=>by simp only[aC.fZ];rw[ld a fun id hid=>h id (by simp[aC.ids,hid]),ld b fun id hid=>h id (by simp[aC.ids,hid])]
 | .fn f c,h=>by simp only[aC.fZ];rw[ld c fun id hid=>h id (by simpa[aC.ids]using hid)]
 | .bx e z c,h=>by simp only[aC.fZ];rw[ld c fun id hid=>h id (by simpa[aC.ids]using hid)]
 | .jt id ver,h=>by simp only[aC.fZ];rw[h id (by simp[aC.ids])]
 | .undef,_ | .gone,_ | .da,_ | .kc,_ | .ka,_ | .lJ,_ | .d _ _,_ | .ej _ _,_ | .nil,_ | .vec ..,_ | .mp ..,_ | .sb _,_=>rfl
theorem jR{s:AS}:∀(v:aC),v.there s=true→∀id∈v.ids,(s.obj id).isSome=true
 | .ptr id ver p n,h,i,hi=>by simp only[aC.ids,List.mem_singleton]at hi;subst hi;exact h
 | .bU id ver p c j len,h,i,hi=>by simp only[aC.ids,List.mem_singleton]at hi;subst hi;exact h
 | .pr a b,h,i,hi=>by
  simp only[aC.there,Bool.and_eq_true]at h
  simp only[aC.ids,List.mem_append]at hi
  rcases hi with hi | hi
  ·exact jR a h.1 i hi
  ·exact jR b h.2 i hi
 | .cons a b,h,i,hi=>by
  simp only[aC.there,Bool.and_eq_true]at h
  simp only[aC.ids,List.mem_append]at hi
  rcases hi with hi | hi
  ·exact jR a h.1 i hi
  ·exact jR b h.2 i hi
 | .fn f c,h,i,hi=>jR c h i hi
 | .bx e z c,h,i,hi=>jR c h i hi
 | .jt id ver,h,i,hi=>by simp only[aC.ids,List.mem_singleton]at hi;subst hi;exact h
 | .undef,_,_,hi | .gone,_,_,hi | .da,_,_,hi | .kc,_,_,hi | .ka,_,_,hi | .lJ,_,_,hi | .d _ _,_,_,hi | .ej _ _,_,_,hi | .nil,_,_,hi | .vec ..,_,_,hi | .mp ..,_,_,hi | .sb _,_,_,hi=>by cases hi
section
variable {P:Program} {C:Ctx} {g:Nat→ix} {β:Id→Option Pl} {s:AS} {a:Act} {w:World}
theorem Inv.tW(h:Inv C g β s a w)(hC:∀i j,C.E.s (.new i j)=none){s1:AS}{g1:Nat→ix}{β1:Id→Option Pl}(ρ:xt)(hlen:s1.cl.length=s.cl.length)(ht:Trans w w g g1)(hle:mP ρ (s.env w g β) (s1.env w g1 β1))
  (hslot:∀i,VS (s1.env w g1 β1) (s1.slot i) (a.tmps.getD i undef))
  (hent:∀id ver fr c,s1.ck id=some (.obj ver fr c)→∃id0 v0 c0,s.ck id0=some (.obj v0 fr c0)∧c0.fZ ρ=c∧β1 id=β id0∧∀pl,β id0=some pl→(∀k,g pl.b= .own (.id id0) k→g1 pl.b= .own (.id id) k)∧(g pl.b= .free→g1 pl.b= .free))
  (hold:∀k,(s.ck (.fK k)≠none→s1.ck (.fK k)≠none)∧(∀v fr c,s1.ck (.fK k)=some (.obj v fr c)→∃c0,s.ck (.fK k)=some (.obj v fr c0))∧β1 (.fK k)=β (.fK k)):Inv C g1 β1 s1 a w:=by
 refine⟨h.defers,by rw[hlen];exact h.size,hslot,fun id ver fr c hid=> ?_,h.trans.trans ht,?_⟩
 ·obtain⟨id0,v0,c0,h1,h2,h3,h4⟩:=hent id ver fr c hid
  have:=lQ hle (h.bN id0 v0 fr c0 h1) (id':=id) h3 fun pl hp=>⟨rfl,(h4 pl hp).1,(h4 pl hp).2⟩
  rw[h2]at this
  exact this
 ·have hl:=h.le
  have ho:∀id ver,C.E.rf id ver→∃k,id= .fK k:=fun id ver hb=>by
   cases id with
   |fK k=>exact⟨k,rfl⟩
   |new i j=>exact absurd (hC i j) hb.1
  refine⟨hl.mem.trans (Trans.mem (E:=s.env w g β) (E':=s1.env w g1 β1) ht),fun id ver hb=> ?_,fun id ver hb hc=> ?_⟩
  ·obtain⟨k,rfl⟩:=ho id ver hb
   obtain⟨h1,h2⟩:=hl.rf _ ver hb
   obtain⟨e1,e2,_⟩:=hold k
   exact⟨e1 h1,fun v fr c hh=>let⟨c0,hc0⟩:=e2 v fr c hh;h2 v fr c0 hc0⟩
  ·obtain⟨k,rfl⟩:=ho id ver hb
   obtain⟨fr,c,hc⟩:=hc
   obtain⟨_,e2,e3⟩:=hold k
   obtain⟨c0,hc0⟩:=e2 _ _ _ hc
   obtain⟨h1,h2⟩:=hl.cur _ ver hb ⟨fr,c0,hc0⟩
   exact⟨h1,e3.trans h2⟩
theorem Inv.renamed(h:Inv C g β s a w)(hC:∀i j,C.E.s (.new i j)=none){s1:AS}{β1:Id→Option Pl}(ρ:xt)(hlen:s1.cl.length=s.cl.length)(hle:mP ρ (s.env w g β) (s1.env w g β1))
  (hslot:∀i,VS (s1.env w g β1) (s1.slot i) (a.tmps.getD i undef)) (hent:∀id ver fr c,s1.ck id=some (.obj ver fr c)→∃v0,s.ck id=some (.obj v0 fr c)∧c.fZ ρ=c∧β1 id=β id)
  (hold:∀k,s1.ck (.fK k)=s.ck (.fK k)∧β1 (.fK k)=β (.fK k)):Inv C g β1 s1 a w:=
 h.tW hC ρ hlen (Trans.refl w g) hle hslot (fun id ver fr c hid=>let⟨v0,h1,h2,h3⟩:=hent id ver fr c hid;⟨id,v0,c,h1,h2,h3,fun _ _=>⟨fun _ h=>h,fun h=>h⟩⟩)
  fun k=>⟨fun hh=>by rw[(hold k).1];exact hh,fun v fr c hh=>⟨c,(hold k).1.symm.trans hh⟩,(hold k).2⟩
theorem Inv.Eh(h:Inv C g β s a w)(j:Nat){v:aC}(hv:VS (s.env w g β) v (a.tmps.getD j undef)):Inv C g β (s.put (some j) v) a w:=by
 refine⟨h.defers,by simpa[AS.put]using h.size,fun i=> ?_,by simpa using h.bN,h.trans,by simpa using h.le⟩
 rw[yL,sJ]
 split
 ·rename_i hij;rw[hij.1];exact hv
 ·exact h.cl i
theorem qy(bn:List Nat):∀(l:List aC) (n i:Nat),(fY bn n l).getD i .undef= .undef∨(fY bn n l).getD i .undef=l.getD i .undef
 |[],n,i=>by simp[fY]
 |v::l,n,0=>by
  simp only[fY,List.getD_cons_zero]
  split
  ·exact .inr rfl
  ·exact .inl rfl
 |v::l,n,i+1=>by
  simp only[fY,List.getD_cons_succ]
  exact qy bn l (n+1) i
theorem lI(bn:List Nat):∀(l:List aC) (n:Nat),(fY bn n l).length=l.length
 |[],n=>rfl
 |v::l,n=>by simp[fY,lI bn l]
theorem ua(bn:List Nat):∀(l:List (List eP)) (n i:Nat),(gX bn n l).getD i []=[]∨(gX bn n l).getD i []=l.getD i []
 |[],n,i=>by simp[gX]
 |v::l,n,0=>by
  simp only[gX,List.getD_cons_zero]
  split
  ·exact .inr rfl
  ·exact .inl rfl
 |v::l,n,i+1=>by
  simp only[gX,List.getD_cons_succ]
  exact ua bn l (n+1) i
theorem zX{s:AS}(i:Nat):s.slot i= .undef∨s.slot i∈s.cl:=by
 unfold AS.slot
 rw[List.getD_eq_getElem?_getD]
 cases h:s.cl[i]? with
 |none=>exact .inl rfl
 |some v=>exact .inr (List.mem_of_getElem? h)
theorem Cb{s:AS}{id:Id}{e:eP}(h:s.ck id=some e):e∈s.dj∨∃es∈s.news,e∈es:=by
 cases id with
 |fK k=>exact .inl (List.mem_of_getElem? h)
 |new i j=>
  simp only[AS.ck,List.getD_eq_getElem?_getD]at h
  cases hi:s.news[i]? with
  |none=>rw[hi]at h;simp at h
  |some es=>rw[hi]at h;exact .inr ⟨es,List.mem_of_getElem? hi,List.mem_of_getElem? h⟩
theorem Inv.bn(h:Inv C g β s a w)(hC:∀i j,C.E.s (.new i j)=none){an:g8}(ht:(pt an s).vB=true):Inv C g β (pt an s) a w:=by
 obtain⟨ks,kt,_,_,_⟩:=an
 obtain⟨s1,hs1⟩:∃s1:AS,s1= {cl:=fY ks 0 s.cl,dj:=s.dj,news:=gX kt 0 s.news}:=⟨_,rfl⟩
 have e1:s1.cl=fY ks 0 s.cl:=by rw[hs1]
 have e2:s1.dj=s.dj:=by rw[hs1]
 have e3:s1.news=gX kt 0 s.news:=by rw[hs1]
 have ht:(s1.cl.all (aC.there s1) && s1.dj.all (eP.there s1) && s1.news.all fun es=>es.all (eP.there s1))=true:=by rw[hs1];exact ht
 show Inv C g β {cl:=fY ks 0 s.cl,dj:=s.dj,news:=gX kt 0 s.news} a w
 rw[←hs1]
 rw[Bool.and_eq_true,Bool.and_eq_true]at ht
 obtain⟨⟨t1,t2⟩,t3⟩:=ht
 have hent:∀id,s1.ck id=none∨s1.ck id=s.ck id:=fun id=>by
  cases id with
  |fK k=>right;simp only[AS.ck,e2]
  |new i j=>
   simp only[AS.ck,e3]
   rcases ua kt s.news 0 i with h | h
   ·rw[h];exact .inl rfl
   ·rw[h];exact .inr rfl
 have hobj:∀id,(s1.obj id).isSome=true→s1.ck id=s.ck id:=fun id hi=>by
  rcases hent id with h | h
  ·simp[AS.obj,h]at hi
  ·exact h
 let ρ:xt:=fun id ver=>if(s1.obj id).isSome=true then some (id,ver) else none
 have hρ:∀v:aC,v.there s1=true→v.fZ ρ=v:=fun v hv=>ld v fun id hid ver=>if_pos (jR v hv id hid)
 have hle:mP ρ (s.env w g β) (s1.env w g β):=by
  refine⟨⟨fun _ _ _ h=>h,fun _ _ h h'=>⟨h,h'⟩⟩,fun id ver r hr hb=> ?_⟩
  by_cases hi:(s1.obj id).isSome=true
  ·have:ρ id ver=some (id,ver):=if_pos hi
   rw[this,Option.some.injEq]at hr
   subst hr
   have e:=hobj id hi
   obtain⟨b1,b2⟩:=hb
   exact⟨⟨by show s1.ck id≠none;rw[e];exact b1,fun v fr c hh=>b2 v fr c (e.symm.trans hh)⟩,fun⟨fr,c,hc⟩=>⟨⟨fr,c,e.symm.trans hc⟩,rfl⟩⟩
  ·have:ρ id ver=none:=if_neg hi
   rw[this]at hr;cases hr
 refine h.renamed hC ρ (by rw[e1,lI]) hle (fun i=> ?_) (fun id ver fr c hid=> ?_) fun k=>⟨by simp only[AS.ck,e2],rfl⟩
 ·rcases zX (s:=s1) i with hi | hi
  ·rw[hi];exact VS.undef
  ·have hth:=List.all_eq_true.1 t1 _ hi
   rcases qy ks s.cl 0 i with h1 | h1
   ·have:s1.slot i= .undef:=by simp only[AS.slot,e1,h1]
    rw[this];exact VS.undef
   ·have:s1.slot i=s.slot i:=by simp only[AS.slot,e1,h1]
    have hv:=rA hle (h.cl i)
    rw[←this,hρ _ hth]at hv
    exact hv
 ·have:s1.ck id=s.ck id:=by
   rcases hent id with h | h
   ·rw[h]at hid;cases hid
   ·exact h
  have hc:c.there s1=true:=by
   rcases Cb hid with h | ⟨es,h1,h2⟩
   ·exact List.all_eq_true.1 t2 _ h
   ·exact List.all_eq_true.1 (List.all_eq_true.1 t3 _ h1) _ h2
  exact⟨ver,this.symm.trans hid,hρ c hc,rfl⟩
theorem Inv.drop(h:Inv C g β s a w)(ks:List Nat):Inv C g β (s.drop ks) a w:=by
 refine⟨h.defers,by simpa[AS.drop,lI]using h.size,fun i=> ?_,h.bN,h.trans,h.le⟩
 rcases qy ks s.cl 0 i with h1 | h1
 ·have:(s.drop ks).slot i= .undef:=h1
  rw[this];exact VS.undef
 ·have:(s.drop ks).slot i=s.slot i:=h1
  rw[this];exact h.cl i
def mF(i i':Id):ix→ix
 | .own (.id x) k=>if x=i then .own (.id i') k else .own (.id x) k
 |l=>l
theorem Trans.Eg(w:World)(g:Nat→ix)(i i':Id):Trans w w g fun b=>mF i i' (g b):=by
 refine⟨rfl,rfl,rfl,Nat.le_refl _,fun b _=> ?_⟩
 cases hg:g b with
 |free=>exact⟨by simp[mF],rfl⟩
 |own o k=>cases o with
  |eQ=>exact⟨by simp[mF],rfl⟩
  |id x=>
   refine⟨.inr ?_,fun _ _ _ h=>h⟩
   simp only[mF]
   split
   ·exact⟨_,_,rfl,Nat.le_refl _⟩
   ·exact⟨_,_,rfl,Nat.le_refl _⟩
theorem BH(f:aC→aC)(hf:f .undef= .undef)(l:List aC)(i:Nat):(l.map f).getD i .undef=f (l.getD i .undef):=by
 simp only[List.getD_eq_getElem?_getD,List.getElem?_map]
 cases l[i]? <;> simp[hf]
theorem Inv.nK(h:Inv C g β s a w)(hC:∀i j,C.E.s (.new i j)=none){b v q:Nat}{fr:Bool}{c:aC}(hob:s.obj (.new b 0)=some (v,fr,c))(hm:s.uW q b=true):
  ∃g1 β1,Inv C g1 β1 (s.nK b v q fr c) a w:=by
 have hent:=eB hob
 unfold AS.uW at hm
 simp only[Bool.and_eq_true,Bool.or_eq_true,decide_eq_true_eq]at hm
 obtain⟨hsb,hsq⟩:=hm
 have hone:∀x,single s.news[x]? =true→x < s.news.length∧∀j',s.ck (.new x (j'+1))=none:=fun x hx=>by
  unfold single at hx
  split at hx
  ·rename_i y hy;exact⟨(List.getElem?_eq_some_iff.1 hy).1,fun j'=>by simp[AS.ck,List.getD_eq_getElem?_getD,hy]⟩
  ·cases hx
 obtain⟨hbl,hb1⟩:=hone b hsb
 have hq:q < s.news.length∧∀j',s.ck (.new q (j'+1))=none:=by
  rcases hsq with(hsq | hsq) | hsq
  ·subst hsq;exact⟨hbl,hb1⟩
  ·exact hone q hsq
  ·exact⟨(gl hsq).2,fun j'=>(gl hsq).1 _⟩
 obtain⟨hql,hq1⟩:=hq
 let ρ:xt:=sq (.new b 0) v q
 let s1:=s.nK b v q fr c
 have hself:∀j',s1.ck (.new q j')=[eP.obj 0 fr (c.fZ ρ)][j']? :=fun j'=>by
  simp[s1,AS.nK,AS.ck,List.getD_eq_getElem?_getD,hql,ρ]
 have hgone:b≠q→∀j',s1.ck (.new b j')=none:=fun hbq j'=>by
  have hbq':¬q=b:=fun e=>hbq e.symm
  simp only[s1,AS.nK,AS.ck,List.getD_eq_getElem?_getD]
  rw[List.getElem?_set_ne hbq',List.getElem?_set,if_pos rfl]
  split <;> simp
 have hoth:∀i,(∀j',i≠ .new q j')→(∀j',i≠ .new b j')→s1.ck i=(s.ck i).map (eP.fZ ρ):=fun i hi hi'=>by
  cases i with
  |fK k=>simp[s1,AS.nK,AS.ck,ρ]
  |new x y=>
   have h1:¬q=x:=fun e=>hi y (by rw[e])
   have h2:¬b=x:=fun e=>hi' y (by rw[e])
   simp only[s1,AS.nK,AS.ck,List.getD_eq_getElem?_getD]
   rw[List.getElem?_set_ne h1,List.getElem?_set_ne h2,List.getElem?_map]
   cases s.news[x]? <;> simp[ρ]
 let g1:Nat→ix:=fun x=>mF (.new b 0) (.new q 0) (g x)
 let β1:Id→Option Pl:=fun i=>if i= .new q 0 then β (.new b 0) else β i
 have ht:Trans w w g g1:=Trans.Eg w g _ _
 have hρ:∀i ver r,ρ i ver=some r→(i= .new b 0∧ver=v∧r=(.new q 0,0))∨(i≠ .new b 0∧i≠ .new q 0∧r=(i,ver)):=fun i ver r hr=>by
  have hr:sq (.new b 0) v q i ver=some r:=hr
  unfold sq at hr
  split at hr
  ·rename_i hi
   have hi:i= .new b 0:=by simpa using hi
   split at hr
   ·rename_i hv
    exact .inl ⟨hi,by simpa using hv,(Option.some.inj hr).symm⟩
   ·cases hr
  ·rename_i hi
   have hi:¬i= .new b 0:=by simpa using hi
   split at hr
   ·cases hr
   ·rename_i hi'
    have hi':¬i= .new q 0:=by simpa using hi'
    exact .inr ⟨hi,hi',(Option.some.inj hr).symm⟩
 have hle:mP ρ (s.env w g β) (s1.env w g1 β1):=by
  refine⟨Trans.mem (E:=s.env w g β) (E':=s1.env w g1 β1) ht,fun i ver r hr hbd=> ?_⟩
  rcases hρ i ver r hr with⟨rfl,rfl,rfl⟩ | ⟨hi,hi',rfl⟩
  ·refine⟨⟨by show s1.ck (.new q 0)≠none;rw[hself];simp,fun _ _ _ _=>Nat.zero_le _⟩,fun _=>⟨⟨fr,c,hent⟩,if_pos rfl⟩⟩
  ·obtain⟨k1,k2⟩:=hbd
   have k1:s.ck i≠none:=k1
   have e:s1.ck i=(s.ck i).map (eP.fZ ρ):=hoth i (fun j' e=>by
     cases j' with
     |zero=>exact hi' e
     |succ j'=>exact k1 (by rw[e];exact hq1 j')) (fun j' e=>by
     cases j' with
     |zero=>exact hi e
     |succ j'=>exact k1 (by rw[e];exact hb1 j'))
   have back:∀v' fr' c',s1.ck i=some (.obj v' fr' c')→∃c0,s.ck i=some (.obj v' fr' c0):=fun v' fr' c' hh=>by
    rw[e]at hh
    cases hs:s.ck i with
    |none=>exact absurd hs k1
    |some en=>
     rw[hs]at hh
     cases en with
     |dead=>simp[eP.fZ]at hh
     |obj v0 fr0 c0=>
      simp only[Option.map_some,eP.fZ,Option.some.injEq,eP.obj.injEq]at hh
      obtain⟨rfl,rfl,_⟩:=hh
      exact⟨c0,rfl⟩
   refine⟨⟨by
    show s1.ck i≠none
    rw[e]
    cases hs:s.ck i with
    |none=>exact absurd hs k1
    |some en=>simp,fun v' fr' c' hh=> ?_⟩,fun⟨fr',c',hh⟩=> ?_⟩
   ·obtain⟨c0,hc0⟩:=back v' fr' c' hh
    exact k2 v' fr' c0 hc0
   ·obtain⟨c0,hc0⟩:=back ver fr' c' hh
    exact⟨⟨fr',c0,hc0⟩,if_neg hi'⟩
 refine⟨g1,β1,h.tW hC ρ (by simp[AS.nK]) ht hle (fun i=> ?_) (fun id ver fr' c' hid=> ?_) fun k=>⟨fun hk=> ?_,fun v' fr' c' hh=> ?_,if_neg (by simp)⟩⟩
 ·have:(s.nK b v q fr c).slot i=(s.slot i).fZ ρ:=BH _ rfl _ _
  rw[this]
  exact rA hle (h.cl i)
 ·have hid:s1.ck id=some (.obj ver fr' c'):=hid
  by_cases hi:∃j',id= .new q j'
  ·obtain⟨j',rfl⟩:=hi
   rw[hself]at hid
   cases j' with
   |zero=>
    simp only[List.getElem?_cons_zero,Option.some.injEq,eP.obj.injEq]at hid
    obtain⟨_,rfl,rfl⟩:=hid
    exact⟨.new b 0,v,c,hent,rfl,if_pos rfl,fun pl hp=>⟨fun k hk=>by simp[g1,hk,mF],fun hk=>by simp[g1,hk,mF]⟩⟩
   |succ j'=>simp at hid
  ·by_cases hi':∃j',id= .new b j'
   ·obtain⟨j',rfl⟩:=hi'
    have hbq:b≠q:=fun e=>hi ⟨j',by rw[e]⟩
    rw[hgone hbq]at hid;cases hid
   ·have e:=hoth id (fun j' e=>hi ⟨j',e⟩) (fun j' e=>hi' ⟨j',e⟩)
    rw[e]at hid
    cases hs:s.ck id with
    |none=>rw[hs]at hid;cases hid
    |some en=>
     rw[hs]at hid
     cases en with
     |dead=>simp[eP.fZ]at hid
     |obj v0 fr0 c0=>
      simp only[Option.map_some,eP.fZ,Option.some.injEq,eP.obj.injEq]at hid
      obtain⟨rfl,rfl,rfl⟩:=hid
      have hne:id≠ .new b 0:=fun e=>hi' ⟨0,e⟩
      exact⟨id,v0,c0,hs,rfl,if_neg fun e=>hi ⟨0,e⟩,fun pl hp=>⟨fun k hk=>by simp[g1,hk,mF,hne],fun hk=>by simp[g1,hk,mF]⟩⟩
 ·have e:=hoth (.fK k) (fun _=>by simp) (fun _=>by simp)
  show s1.ck (.fK k)≠none
  rw[e]
  cases hs:s.ck (.fK k) with
  |none=>exact absurd hs hk
  |some en=>simp
 ·have e:=hoth (.fK k) (fun _=>by simp) (fun _=>by simp)
  have hh:s1.ck (.fK k)=some (.obj v' fr' c'):=hh
  rw[e]at hh
  cases hs:s.ck (.fK k) with
  |none=>rw[hs]at hh;cases hh
  |some en=>
   rw[hs]at hh
   cases en with
   |dead=>simp[eP.fZ]at hh
   |obj v0 fr0 c0=>
    simp only[Option.map_some,eP.fZ,Option.some.injEq,eP.obj.injEq]at hh
    obtain⟨rfl,rfl,_⟩:=hh
    exact⟨c0,rfl⟩
theorem yx{k t:Ty}{l:List (k.den×t.den)}:∀ {p:List pa} {x c':aC},¬(m9 (.mp k t l) p x).eval=some c'
 |[],x,c',h=>by simp only[m9,ak]at h
 | .arr::p,x,c',h=>by simp only[m9]at h;exact yx h
 | .idx i::p,x,c',h=>by simp only[m9,ak]at h
 | .fst::p,x,c',h=>by simp only[m9,ak]at h
 | .snd::p,x,c',h=>by simp only[m9,ak]at h
theorem qS{l:List Value}{n:Nat}{vs:List Value}(h:(l.drop n).take vs.length=vs):dd l n vs=l:=by
 unfold dd
 have h2:l.drop n=vs++l.drop (n+vs.length):=by
  conv=>lhs;rw[←List.take_append_drop vs.length (l.drop n)]
  rw[h,List.drop_drop]
 have h3:=List.take_append_drop n l
 rw[h2]at h3
 simpa[List.append_assoc]using h3
theorem Inv.Ed(h:Inv C g β s a w){j:Nat}{p:List pa}(hat:(s.at j p).eval=some .da){q:Nat}(hq:s.dO q=true){e:TypeId}{t:Ty}(hz:0 < t.size){s':AS}
  (he:((s.born q [.obj 0 false (.vec e t [])]).putAt j (.bU (.new q 0) 0 [] 0 0 0) p).eval=some s'):fQ C s' a w:=by
 obtain⟨β',h1,h2,h3⟩:=h.Bk hq (e:=e) hz
 cases p with
 |nil=>
  simp only[AS.at]at hat
  have hj:=ax.1 hat
  simp only[AS.putAt]at he
  obtain rfl:=ax.1 he
  refine⟨g,β',h1.Eh j ?_⟩
  have:=h.cl j
  rw[hj]at this
  rw[gQ this]
  exact h3
 |cons st p=>
  simp only[AS.at]at hat
  simp only[AS.putAt]at he
  have hslot:(s.born q [.obj 0 false (.vec e t [])]).slot j=s.slot j:=rfl
  rw[hslot]at he
  split at hat
  ·rename_i id ver p0 nn hj
   split at hat
   ·rename_i v fr c hob
    obtain⟨hv,hat⟩:=aE.1 hat
    obtain⟨⟨n,u⟩,hl,hat⟩:=aw.1 hat
    have hu:=ax.1 hat
    simp only at hu
    subst hu
    have hent:=eB hob
    have hne:id≠ .new q 0:=fun e=>by rw[e,(gl hq).1 0]at hent;cases hent
    have hne':∀j',id≠ .new q j':=fun j' e=>by rw[e,(gl hq).1 j']at hent;cases hent
    have hent1:(s.born q [.obj 0 false (.vec e t [])]).ck id=some (.obj v fr c):=(gB _ hne').trans hent
    have hob1:(s.born q [.obj 0 false (.vec e t [])]).obj id=some (v,fr,c):=by simp only[AS.obj,hent1]
    simp only[hj,hob1]at he
    split at he
    ·simp only[ak]at he
    ·rename_i c1 hc1
     obtain⟨c',hup,he⟩:=aw.1 he
     obtain rfl:=ax.1 he
     have hn:c.fM=false:=by
      cases c <;> first | rfl | (exact(hc1 _ _ _ rfl).elim) | (exact absurd hup yx)
     have hO:=h1.bN id v fr c hent1
     obtain⟨pl,cur,e0,hp,hh,hg,hk,hV⟩:=hO.box hn
     have ht:=Trans.refl w g
     have hN:=ri hk
     have hle:=cW.bz (s:=s.born q [.obj 0 false (.vec e t [])]) (β:=β') (v':=v) (fr':=fr) (c':=c.wrap c') hent1 (Nat.le_refl _) ht (fun _ _=>rfl) (fun _=>rfl)
     refine⟨g,β',h1.step (dK _ _ _) ht hle (gz.bz h1.bN (by rw[hent1];simp) hle (fun _ _=>rfl) (fun _ _ _ _ _ _ _ _=>⟨rfl,rfl⟩) ?_)⟩
     obtain⟨cs,k1,k2⟩:=h3
     have k2:cs=[.slice none 0 0]:=k2
     subst k2
     obtain⟨u1,u2,u3⟩:=iw (p0++st::p) c.strip (cur.toList.take (c.ku cur.size)) n .da _ c' [.slice none 0 0] (VO.of hV) hl k1 hup
     have u4:=u2.to (u3.jv hV.jv)
     have hcell:((cur.toList.take (c.ku cur.size)).drop n).take 1=[.slice none 0 0]:=by
      rcases jg (p0++st::p) c.strip (cur.toList.take (c.ku cur.size)) n .da (VO.of hV) hl with⟨hn0,hc0⟩ | ⟨q1,q2⟩
      ·rw[←hc0]at hV
       simp only[V]at hV
       rw[hV,hn0]
       rfl
      ·simpa only[V,aC.size]using q1
     rw[qS (vs:=[.slice none 0 0]) hcell]at u4
     have hsz:c'.size=c.strip.size:=by have e1:=u4.size;have e2:=hV.size;omega
     exact pY.obj ⟨pl,cur,e0,hp,hh,hg,oD hk u4.kZ hsz,by rw[oW c u4.kZ,qa u4.kZ hsz];exact V.mono hle u4⟩
   ·simp only[ak]at hat
  ·simp only[ak]at hat
theorem ov:∀(ids:List Id) {s:AS} {i:Id} {v:Nat} {fr:Bool} {c:aC},s.ck i=some (.obj v fr c)→∃fr',(s.bj ids).ck i=some (.obj v fr' c)
 |[],s,i,v,fr,c,h=>⟨fr,h⟩
 |id::ids,s,i,v,fr,c,h=>by
  obtain⟨fr',h'⟩:=rI (id:=id) h
  exact ov ids h'
theorem Inv.DX(h:Inv C g β s a w){j:Nat}{p:List pa}{u:aC}(hat:(s.at j p).eval=some u){t:Ty}{x:t.den}(ht:(s.fP t u).eval=some x){s':AS}
  (he:((s.bj u.shared).putAt j (.d t x) p).eval=some s'):fQ C s' a w:=by
 cases p with
 |nil=>
  simp only[AS.at]at hat
  have hj:=ax.1 hat
  simp only[AS.putAt]at he
  obtain rfl:=ax.1 he
  have hs:=h.cl j
  rw[hj]at hs
  obtain⟨g',i1,_,_,cs,hR,hO⟩:=lh h hs ht
  exact⟨g',β,i1.Eh j (VS.of (a:= .d t x) (cs:=cs) (by simpa only[V]using hR) hO)⟩
 |cons st p=>
  simp only[AS.at]at hat
  simp only[AS.putAt]at he
  have hslot:(s.bj u.shared).slot j=s.slot j:=by simp only[AS.slot,gU]
  rw[hslot]at he
  split at hat
  ·rename_i id ver p0 nn hj
   split at hat
   ·rename_i v fr c hob
    obtain⟨hv,hat⟩:=aE.1 hat
    obtain⟨⟨n,u'⟩,hl,hat⟩:=aw.1 hat
    have hu:=ax.1 hat
    simp only at hu
    subst hu
    have hent:=eB hob
    obtain⟨g',h1,h2,h3,h4⟩:=fy u'.shared h
    obtain⟨fr',hent1⟩:=ov u'.shared hent
    have hob1:(s.bj u'.shared).obj id=some (v,fr',c):=by simp only[AS.obj,hent1]
    simp only[hj,hob1]at he
    split at he
    ·simp only[ak]at he
    ·rename_i c1 hc1
     obtain⟨c',hup,he⟩:=aw.1 he
     obtain rfl:=ax.1 he
     have hn:c.fM=false:=by
      cases c <;> first | rfl | (exact(hc1 _ _ _ rfl).elim) | (exact absurd hup yx)
     obtain⟨pl0,cur0,e00,hp0,hh0,hg0,hk0,hV0⟩:=(h.bN id v fr c hent).box hn
     obtain⟨pl,cur,e0,hp,hh,hg,hk,hV⟩:=(h1.bN id v fr' c hent1).box hn
     have hpl:pl0=pl:=by
      have hp0:β id=some pl0:=hp0
      have hp:β id=some pl:=hp
      rw[hp0]at hp
      exact Option.some.inj hp
     subst hpl
     have hcur:cur0=cur:=by
      have hh0:w.heap[pl0.b]? =_:=hh0
      have hh:w.heap[pl0.b]? =_:=hh
      rw[hh0]at hh
      simpa using(congrArg (fun o=>match o with | some (.cells x _ _)=>x | _=>cur0) hh)
     subst hcur
     obtain⟨cs,hVu,hcell⟩:∃cs,V (s.env w g β) u' cs∧((cur0.toList.take (c.ku cur0.size)).drop n).take cs.length=cs:=by
      rcases jg (p0++st::p) c.strip (cur0.toList.take (c.ku cur0.size)) n u' (VO.of hV0) hl with⟨hn0,hc0⟩ | ⟨q1,q2⟩
      ·refine⟨cur0.toList.take (c.ku cur0.size),by rw[hc0];exact hV0,?_⟩
       rw[hn0,List.drop_zero,List.take_length]
      ·refine⟨_,q1,?_⟩
       rw[List.length_take,List.length_drop]
       congr 1
       omega
     have hR:=kp rfl h.bN h2 u' t x cs hVu ht h4
     have hVx:V ((s.bj u'.shared).env w g' β) (.d t x) cs:=by simpa only[V]using hR
     have ht':=Trans.refl w g'
     have hle:=cW.bz (s:=s.bj u'.shared) (β:=β) (v':=v) (fr':=fr') (c':=c.wrap c') hent1 (Nat.le_refl _) ht' (fun _ _=>rfl) (fun _=>rfl)
     refine⟨g',β,h1.step (dK _ _ _) ht' hle (gz.bz h1.bN (by rw[hent1];simp) hle (fun _ _=>rfl) (fun _ _ _ _ _ _ _ _=>⟨rfl,rfl⟩) ?_)⟩
     obtain⟨u1,u2,u3⟩:=iw (p0++st::p) c.strip (cur0.toList.take (c.ku cur0.size)) n u' _ c' cs (VO.of hV) hl hVx hup
     have u4:=u2.to (u3.jv hV.jv)
     rw[qS (vs:=cs) hcell]at u4
     have hsz:c'.size=c.strip.size:=by have e1:=u4.size;have e2:=hV.size;omega
     exact pY.obj ⟨pl0,cur0,e0,hp,hh,hg,oD hk u4.kZ hsz,by rw[oW c u4.kZ,qa u4.kZ hsz];exact V.mono hle u4⟩
   ·simp only[ak]at hat
  ·simp only[ak]at hat
theorem oL{E:Env}:∀(t:Ty) (x:t.den) (u:aC),(qe t x).eval=some u→∀cs,cT E t cs x→V E u cs
 | .fq t,x,u,h,cs,hr=>by
  simp only[qe]at h
  obtain⟨h1,h2⟩:=bF.1 h
  obtain rfl:=ax.1 h2
  simp only[cT]at hr
  simp only[V]
  exact hr.1 (Option.isNone_iff_eq_none.1 h1)
 | .pair a b,x,u,h,cs,hr=>by
  simp only[qe]at h
  obtain⟨u1,h1,h2⟩:=aw.1 h
  obtain⟨u2,h3,h4⟩:=aw.1 h2
  obtain rfl:=ax.1 h4
  simp only[cT]at hr
  obtain⟨ca,cb,rfl,ha,hb⟩:=hr
  exact xw (oL a x.1 u1 h1 ca ha) (oL b x.2 u2 h3 cb hb)
 | .int k,x,u,h,cs,hr=>by simp only[qe]at h;obtain rfl:=ax.1 h;simpa only[V]using hr
 | .bool,x,u,h,cs,hr=>by simp only[qe]at h;obtain rfl:=ax.1 h;simpa only[V]using hr
 | .str,x,u,h,cs,hr=>by simp only[qe]at h;obtain rfl:=ax.1 h;simpa only[V]using hr
 | .slice t,x,u,h,cs,hr=>by simp only[qe]at h;obtain rfl:=ax.1 h;simpa only[V]using hr
 | .unit,x,u,h,cs,hr=>by simp only[qe]at h;obtain rfl:=ax.1 h;simpa only[V]using hr
 | .arr n t,x,u,h,cs,hr=>by simp only[qe]at h;obtain rfl:=ax.1 h;simpa only[V]using hr
theorem zy{e:TypeId}{z:Nat}{c:aC}{pl:Pl}{n:Nat}(hz:0 < z)(h1:n=pl.cap*z)(h2:pl.cap≤maxLen)(h3:c.size≤n):(aC.bx e z c).nk pl n e:=by
 cases z with
 |zero=>omega
 |succ z=>exact⟨rfl,h1,h2,h3⟩
theorem vK{e:TypeId}{z:Nat}{c:aC}{n:Nat}(hz:0 < z):(aC.bx e z c).ku n=c.size:=by
 cases z with
 |zero=>omega
 |succ z=>rfl
theorem u6{e e':TypeId}{z:Nat}{c:aC}{pl:Pl}{n:Nat}(hz:0 < z)(h:(aC.bx e z c).nk pl n e'):e'=e∧n=pl.cap*z∧pl.cap≤maxLen∧c.size≤n:=by
 cases z with
 |zero=>omega
 |succ z=>exact h
theorem wU{E:Env}{id:Id}{ver n:Nat}{p p':List pa}{y:Value}(h:VS E (.ptr id ver p n) y):VS E (.ptr id ver p' n) y:=by
 obtain⟨cs,h1,h2⟩:=h
 exact⟨cs,by simpa only[V]using h1,h2⟩
theorem Inv.D0(h:Inv C g β s a w){j:Nat}{id:Id}{ver n k v:Nat}{p p':List pa}(hj:s.slot j= .ptr id ver p n){e:TypeId}{t:Ty}{r:List t.den}(hob:s.obj id=some (v,false,.vec e t r))
  (hk:k < r.length) {u:aC} (hu:(qe t (nth t r k)).eval=some u):
  fQ C ((s.bz id (.obj v false (.bx e t.size (.pr (.d (.arr k t) (r.take k)) (.pr u (.d (.arr (r.drop (k+1)).length t) (r.drop (k+1)))))))).put (some j) (.ptr id ver p' n)) a w:=by
 have hent:=eB hob
 obtain⟨hz,hO⟩:mh (s.env w g β) id false (.vec e t r):=h.bN id v false _ hent
 have hO:(match β id with
  |none=>r=[]
  |some pl=>∃cur k,w.heap[pl.b]? =some (.cells cur e (0,0))∧cur.size=pl.cap*t.size∧r.length≤pl.cap∧pl.cap≤maxLen∧g pl.b= .own (.id id) k∧
    k≤r.length*t.size∧(false=false→k=0)∧bg (cT (s.env w g β) t) (cur.toList.take (r.length*t.size)) r):=hO
 have ht:=Trans.refl w g
 have hle:cW (s.env w g β) ((s.bz id (.obj v false (.bx e t.size (.pr (.d (.arr k t) (r.take k)) (.pr u (.d (.arr (r.drop (k+1)).length t) (r.drop (k+1)))))))).env w g β):=
  cW.bz hent (Nat.le_refl _) ht (fun _ _=>rfl) (fun _=>rfl)
 have hI:=h.step (dK _ _ _) ht hle (gz.bz h.bN (by rw[hent];simp) hle (fun _ _=>rfl) (fun _ _ _ _ _ _ _ _=>⟨rfl,rfl⟩) (by
  cases hp:β id with
  |none=>rw[hp]at hO;simp only at hO;subst hO;simp at hk
  |some pl=>
   rw[hp]at hO
   obtain⟨cur,k0,q1,q2,q3,q4,q5,q6,q7,q8⟩:=hO
   have hk0:=q7 rfl
   subst hk0
   have hzz:∀c x,cT (s.env w g β) t c x→c.length=t.size:=fun c x hx=>hx.size
   have c1:=bg.take hzz k q8
   have c2:=(q8.get hzz k hk)
   have c3:=bg.drop hzz (k+1) q8
   have hu2:V (s.env w g β) u (((cur.toList.take (r.length*t.size)).drop (k*t.size)).take t.size):=oL t _ u (by rw[sa hk]at hu;exact hu) _ c2
   have hus:=hu2.size
   have hlen:(cur.toList.take (r.length*t.size)).length=r.length*t.size:=bg.length hzz q8
   have hsz:r.length*t.size≤cur.size:=by rw[q2];exact Nat.mul_le_mul_right _ q3
   have hkk:(k+1)*t.size≤r.length*t.size:=Nat.mul_le_mul_right _ hk
   have hk1:(k+1)*t.size=k*t.size+t.size:=Nat.succ_mul k t.size
   have hul:u.size=t.size:=by rw[←hus,List.length_take,List.length_drop,hlen];omega
   have hm:(r.drop (k+1)).length*t.size=r.length*t.size - (k+1)*t.size:=by rw[List.length_drop,Nat.sub_mul]
   have hcs:(aC.pr (.d (.arr k t) (r.take k)) (.pr u (.d (.arr (r.drop (k+1)).length t) (r.drop (k+1))))).size=r.length*t.size:=by
    simp only[aC.size,Ty.size,hul,hm]
    omega
   refine pY.obj ⟨pl,cur,e,hp,q1,q5,zy hz q2 q4 (by rw[hcs];exact hsz),?_⟩
   rw[vK hz,hcs]
   refine V.mono hle ?_
   show V _ (.pr (.d (.arr k t) (r.take k)) (.pr u (.d (.arr (r.drop (k+1)).length t) (r.drop (k+1))))) _
   simp only[V]
   generalize cur.toList.take (r.length*t.size)=R at*
   refine⟨R.take (k*t.size),R.drop (k*t.size),(List.take_append_drop _ _).symm,?_,(R.drop (k*t.size)).take t.size,R.drop ((k+1)*t.size),?_,hu2,?_⟩
   ·simp only[cT]
    exact⟨by rw[List.length_take];omega,c1⟩
   ·rw[hk1,←List.drop_drop,List.take_append_drop]
   ·simp only[cT]
    exact⟨trivial,c3⟩))
 refine⟨g,β,hI.Eh j ?_⟩
 have:=h.cl j
 rw[hj]at this
 exact wU (VS.mono hle this)
theorem qg:∀(l:List Nat) {s s1:AS},fQ C s a w→(zK s l).eval=some s1→fQ C s1 a w
 |[],s,s1,h,he=>by
  simp only[zK]at he
  obtain rfl:=ax.1 he
  exact h
 |j::l,s,s1,h,he=>by
  obtain⟨g,β,h⟩:=h
  simp only[zK]at he
  split at he
  ·rename_i id ver k p n hj
   split at he
   ·rename_i v e t r hob
    obtain⟨h1,he⟩:=aE.1 he
    obtain⟨h2,he⟩:=bF.1 he
    obtain⟨u,h3,he⟩:=aw.1 he
    exact qg l (h.D0 hj hob (of_decide_eq_true h2) h3) he
   ·simp only[ak]at he
  ·exact qg l ⟨g,β,h⟩ he
  ·simp only[ak]at he
theorem qd{s:AS}{id i:Id}(h:i≠id):(s.freeze id).ck i=s.ck i:=by
 unfold AS.freeze
 split
 ·exact dW s id i _ h
 ·rfl
theorem kD:∀(ids:List Id) {s:AS} {i:Id},i ∉ ids→(s.bj ids).ck i=s.ck i
 |[],_,_,_=>rfl
 |id::ids,s,i,h=>by
  have h1:i≠id:=fun e=>h (by rw[e];exact List.mem_cons_self)
  exact(kD ids fun hi=>h (List.mem_cons_of_mem _ hi)).trans (qd h1)
theorem Inv.En(h:Inv C g β s a w){j:Nat}{id:Id}{ver n k m v z:Nat}{p p':List pa}(hj:s.slot j= .ptr id ver p n){e:TypeId}{t:Ty}{l1 l2:List t.den}{u:aC}
  (hob:s.obj id=some (v,false,.bx e z (.pr (.d (.arr k t) l1) (.pr u (.d (.arr m t) l2))))) (hz:z=t.size) (hz0:0 < z) (hid:id ∉ u.shared) {x:t.den} (hx:(s.fP t u).eval=some x):
  fQ C (((s.bj u.shared).bz id (.obj v false (.vec e t (l1++x::l2)))).put (some j) (.ptr id ver p' n)) a w:=by
 have hent:=eB hob
 obtain⟨pl0,cur0,e0,hp0,hh0,hg0,hk0,hV0⟩:=(h.bN id v false _ hent).box rfl
 obtain⟨g',h1,h2,h3,h4⟩:=fy u.shared h
 have hent1:(s.bj u.shared).ck id=some (.obj v false (.bx e z (.pr (.d (.arr k t) l1) (.pr u (.d (.arr m t) l2))))):=(kD _ hid).trans hent
 obtain⟨pl,cur,e1,hp,hh,hg,hk,hV⟩:=(h1.bN id v false _ hent1).box rfl
 have hp:β id=some pl:=hp
 have hpl:pl0=pl:=by
  have hp0:β id=some pl0:=hp0
  rw[hp0]at hp
  exact Option.some.inj hp
 subst hpl
 have hcur:cur0=cur:=by
  have hh0:w.heap[pl0.b]? =_:=hh0
  have hh:w.heap[pl0.b]? =_:=hh
  rw[hh0]at hh
  simpa using(congrArg (fun o=>match o with | some (.cells x _ _)=>x | _=>cur0) hh)
 subst hcur
 obtain⟨rfl,q2,q4,q3⟩:=u6 hz0 hk
 rw[vK hz0]at hV0
 have hV0:V (s.env w g β) (.pr (.d (.arr k t) l1) (.pr u (.d (.arr m t) l2))) _:=hV0
 have hss:=hV0.size
 simp only[V]at hV0
 obtain⟨ca,cb,hR,hA,cu,cc,hcb,hU,hB⟩:=hV0
 subst hcb
 simp only[cT]at hA hB
 have hX:=kp rfl h.bN h2 u t x cu hU hx h4
 have hzz:∀c x,cT ((s.bj u.shared).env w g' β) t c x→c.length=t.size:=fun c x hx=>hx.size
 have cA:=hA.2.mono fun _ _ hx=>hx.mono h2.mem
 have cB:=hB.2.mono fun _ _ hx=>hx.mono h2.mem
 have hch:bg (cT ((s.bj u.shared).env w g' β) t) (ca++(cu++cc)) (l1++x::l2):=bg.append cA ⟨cu,cc,rfl,hX,cB⟩
 have hlen:=bg.length hzz hch
 have hcs:(aC.pr (.d (.arr k t) l1) (.pr u (.d (.arr m t) l2))).size=(l1++x::l2).length*t.size:=by rw[←hlen,←hR];exact hss.symm
 rw[hcs]at hR q3
 rw[hz]at q2
 have hle0:(l1++x::l2).length≤pl0.cap:=by
  rw[q2]at q3
  exact Nat.le_of_mul_le_mul_right q3 (by omega)
 have ht:=Trans.refl w g'
 have hle:cW ((s.bj u.shared).env w g' β) (((s.bj u.shared).bz id (.obj v false (.vec e1 t (l1++x::l2)))).env w g' β):=cW.bz hent1 (Nat.le_refl _) ht (fun _ _=>rfl) (fun _=>rfl)
 have hI:=h1.step (dK _ _ _) ht hle (gz.bz h1.bN (by rw[hent1];simp) hle (fun _ _=>rfl) (fun _ _ _ _ _ _ _ _=>⟨rfl,rfl⟩) (by
  refine⟨by omega,?_⟩
  show(match β id with
   |none=>l1++x::l2=[]
   |some pl=>_)
  rw[hp]
  exact⟨cur0,0,hh,q2,hle0,q4,hg,Nat.zero_le _,fun _=>rfl,by rw[hR];exact hch.mono fun _ _ hx=>hx.mono hle.mem⟩))
 refine⟨g',β,hI.Eh j ?_⟩
 have:=h.cl j
 rw[hj]at this
 exact wU (VS.mono (h2.trans hle) this)
theorem uh:∀(l:List Nat) {s s1:AS},fQ C s a w→(BO s l).eval=some s1→fQ C s1 a w
 |[],s,s1,h,he=>by
  simp only[BO]at he
  obtain rfl:=ax.1 he
  exact h
 |j::l,s,s1,h,he=>by
  obtain⟨g,β,h⟩:=h
  simp only[BO]at he
  split at he
  ·rename_i id ver p n hj
   split at he
   ·rename_i v e z k t l1 u m t' l2 hob
    obtain⟨h1,he⟩:=aE.1 he
    obtain⟨l2',h2,he⟩:=aw.1 he
    obtain⟨x,h3,he⟩:=aw.1 he
    simp only[Bool.and_eq_true,beq_iff_eq,Bool.not_eq_true',beq_eq_false_iff_ne]at h1
    obtain⟨⟨⟨h5,h6⟩,h7⟩,h8⟩:=h1
    obtain⟨et,hl⟩:=fV (gg.1 h2)
    have et':t'=t:=by simpa using et
    subst et'
    simp only at hl
    subst hl
    refine uh l (h.En hj hob h6 (by omega) (fun hi=> ?_) h3) he
    have:(u.shared.any fun i=>decide (i=id))=true:=List.any_eq_true.2 ⟨id,hi,by simp⟩
    rw[this]at h8
    cases h8
   ·simp only[ak]at he
  ·simp only[ak]at he
theorem oI:∀(l:List Es) {s s1:AS},fQ C s a w→(tA s l).eval=some s1→fQ C s1 a w
 |[],s,s1,h,he=>by
  simp only[tA]at he
  obtain rfl:=ax.1 he
  exact h
 |o::l,s,s1,h,he=>by
  obtain⟨g,β,h⟩:=h
  simp only[tA]at he
  obtain⟨u,hu,he⟩:=aw.1 he
  obtain⟨x,hx,he⟩:=aw.1 he
  obtain⟨s',hs,he⟩:=aw.1 he
  exact oI l (h.DX hu hx hs) he
theorem jX(hC:∀i j,C.E.s (.new i j)=none):∀(l:List B2) {s s1:AS},fQ C s a w→(mD P s l).eval=some s1→fQ C s1 a w
 |[],s,s1,h,he=>by
  simp only[mD]at he
  obtain rfl:=ax.1 he
  exact h
 |o::l,s,s1,h,he=>by
  obtain⟨g,β,h⟩:=h
  simp only[mD]at he
  obtain⟨u,hu,he⟩:=aw.1 he
  split at he
  ·split at he
   ·rename_i e t b hel hv
    obtain⟨s',h1,h2⟩:=aw.1 he
    exact jX hC l (h.Ed hu hv (s7 hel) h1) h2
   ·simp only[ak]at he
  ·split at he
   ·rename_i b ver hhead
    split at he
    ·rename_i v fr c hob hm
     split at he
     ·obtain⟨g1,β1,h1⟩:=h.nK hC hob hm
      exact jX hC l ⟨g1,β1,h1⟩ he
     ·simp only[ak]at he
    ·simp only[ak]at he
   ·simp only[ak]at he
theorem sR:∀(l:List Nat) {s s1:AS},fQ C s a w→(xn s l).eval=some s1→fQ C s1 a w
 |[],s,s1,h,he=>by
  simp only[xn]at he
  obtain rfl:=ax.1 he
  exact h
 |j::l,s,s1,h,he=>by
  obtain⟨g,β,h⟩:=h
  simp only[xn]at he
  split at he
  ·rename_i id ver len hj
   split at he
   ·rename_i v e t r hob
    split at he
    ·obtain⟨h1,h2⟩:=bF.1 he
     have h1:len≤r.length:=by simpa using h1
     refine sR l ?_ h2
     have hent:=eB hob
     have hO:mh (s.env w g β) id false (.vec e t r):=h.bN id v false _ hent
     have ht:=Trans.refl w g
     have hle:cW (s.env w g β) ((s.bz id (.obj v false (.vec e t (r.take len)))).env w g β):=cW.bz hent (Nat.le_refl _) ht (fun _ _=>rfl) (fun _=>rfl)
     refine⟨g,β,h.step (dK _ _ _) ht hle (gz.bz h.bN (by rw[hent];simp) hle (fun _ _=>rfl) (fun _ _ _ _ _ _ _ _=>⟨rfl,rfl⟩) ?_)⟩
     obtain⟨hz,hO⟩:=hO
     refine⟨hz,?_⟩
     have hO:(match β id with
      |none=>r=[]
      |some pl=>∃cur k,w.heap[pl.b]? =some (.cells cur e (0,0))∧cur.size=pl.cap*t.size∧r.length≤pl.cap∧pl.cap≤maxLen∧g pl.b= .own (.id id) k∧
        k≤r.length*t.size∧(false=false→k=0)∧bg (cT (s.env w g β) t) (cur.toList.take (r.length*t.size)) r):=hO
     show(match β id with
      |none=>r.take len=[]
      |some pl=>_)
     cases hp:β id with
     |none=>rw[hp]at hO;simp only at hO;subst hO;simp
     |some pl=>
      rw[hp]at hO
      obtain⟨cur,k,q1,q2,q3,q4,q5,q6,q7,q8⟩:=hO
      have hk:=q7 rfl
      subst hk
      have hlen:(r.take len).length=len:=by simp;omega
      refine⟨cur,0,q1,q2,by omega,q4,q5,Nat.zero_le _,fun _=>rfl,?_⟩
      have:=bg.take (fun _ _ hx=>cT.size hx) len q8
      rw[List.take_take,Nat.min_eq_left (Nat.mul_le_mul_right _ h1)]at this
      rw[hlen]
      exact this.mono fun _ _ hx=>hx.mono hle.mem
    ·simp only[ak]at he
   ·simp only[ak]at he
  ·simp only[ak]at he
theorem pc:∀(l:List (Nat×Ty)) {s s1:AS},fQ C s a w→(asData s l).eval=some s1→fQ C s1 a w
 |[],s,s1,h,he=>by
  simp only[asData]at he
  obtain rfl:=ax.1 he
  exact h
 | (j,t)::l,s,s1,h,he=>by
  obtain⟨g,β,h⟩:=h
  simp only[asData]at he
  obtain⟨x,h1,h2⟩:=aw.1 he
  obtain⟨g',i1,_,_,cs,hR,hO⟩:=lh h (h.cl j) h1
  exact pc l ⟨g',β,i1.Eh j (VS.of (a:= .d t x) (cs:=cs) (by simpa only[V]using hR) hO)⟩ h2
theorem jL(hC:∀i j,C.E.s (.new i j)=none){an:g8}{s1:AS}(h:fQ C s a w)(he:(norm P an s).eval=some s1):fQ C s1 a w:=by
 unfold norm at he
 obtain⟨su,h0u,he⟩:=aw.1 he
 obtain⟨sd,h0d,he⟩:=aw.1 he
 obtain⟨s0,h1,h2⟩:=aw.1 he
 obtain⟨h3,h4⟩:=aE.1 h2
 obtain⟨sf,h5,h6⟩:=aw.1 h4
 obtain⟨g0,β0,h0⟩:=h
 obtain⟨g1,i1,_⟩:=fy an.yN h0
 obtain⟨g,β,h⟩:=pc _ (oI _ (uh _ ⟨g1,β0,i1⟩ h0u) h0d) h1
 exact jX hC _ (qg _ ⟨g,β,h.bn hC h3⟩ h5) h6
end
end Go.Ab
namespace Go.Ab
section
variable {P:Program} {Γ:dV} {an:eJ} {C:Ctx}
def As(P:Program)(Γ:dV)(an:eJ)(N:Nat)(b:Code):Prop:=
 ∀le,an.fJ (dY b)=some le→∀s x,le.run s=some x→
  ∃n,rZ (norm P (an.loops (dY b))) (fun e=>norm P (an.outs (dY b) (yT e))) (ev P Γ an N b) n s (fun e s'=>some (e,s'))=(le.out x).eval
def vr(P:Program)(Γ:dV)(an:eJ)(N:Nat):List Code→Prop
 |[]=>True
 |b::l=>As P Γ an N b∧vr P Γ an N l
theorem vr.append{N:Nat}:∀ {l l':List Code},vr P Γ an N (l++l')→vr P Γ an N l∧vr P Γ an N l'
 |[],_,h=>⟨trivial,h⟩
 |_::_,_,⟨h1,h2⟩=>⟨⟨h1,(vr.append h2).1⟩,(vr.append h2).2⟩
theorem oR{R:Type}{r:R}{b:Code}{nrm:AS→Out AS}{nrmX:Exit→AS→Out AS}{body:AS→(Exit→AS→Option R)→Option R}
  (hn:∀s s1 a w,fQ C s a w→(nrm s).eval=some s1→fQ C s1 a w) (hx:∀e s s1 a w,fQ C s a w→(nrmX e s).eval=some s1→fQ C s1 a w)
  (hb:∀(s:AS) (a:Act) (w:World) (k:Exit→AS→Option R) (Q:Exit→Act→World→Prop),fQ C s a w→body s k=some r→(∀e s' a' w',fQ C s' a' w'→k e s'=some r→Q e a' w')→b.wp P Q a w)
  {k:Exit→AS→Option R} {Q:Exit→Act→World→Prop} (hk:∀e s' a' w',fQ C s' a' w'→k e s'=some r→Q e a' w'):
  ∀(n:Nat) (s:AS) (a:Act) (w:World),fQ C s a w→rZ nrm nrmX body n s k=some r→Code.rounds P b Q n a w
 | 0,s,a,w,_,h=>by simp[rZ]at h
 |n+1,s,a,w,hs,h=>by
  simp only[rZ]at h
  rw[rounds_succ]
  refine hb s a w _ _ hs h fun e s' a' w' hs' hke=> ?_
  have exits:∀e,(nrmX e s').run (k e)=some r→Q e a' w':=fun e hke=>by
   obtain⟨s1,h1,h2⟩:=iI.1 hke
   exact hk e s1 a' w' (hx e s' s1 a' w' hs' h1) h2
  cases e with
  |normal=>
   simp only at hke
   obtain⟨s1,h1,h2⟩:=iI.1 hke
   exact oR hn hx hb hk n s1 a' w' (hn s' s1 a' w' hs' h1) h2
  |_=>exact exits _ hke
theorem pq(hC:∀i j,C.E.s (.new i j)=none){j:Option rz}{run: {R:Type}→(Exit→AS→Option R)→Option R}{c:Code}{a:Act}{w:World}
  (hrun:∀ {R:Type} {r:R} (k:Exit→AS→Option R) (Q:Exit→Act→World→Prop),run k=some r→(∀e s' a' w',fQ C s' a' w'→k e s'=some r→Q e a' w')→c.wp P Q a w)
  {R:Type} {r:R} {k:Exit→AS→Option R} {Q:Exit→Act→World→Prop} (h:uR P j run k=some r) (hk:∀e s' a' w',fQ C s' a' w'→k e s'=some r→Q e a' w'):c.wp P Q a w:=by
 cases j with
 |none=>exact hrun k Q h hk
 |some j=>
  simp only[uR]at h
  cases hx:run fun e s=>(norm P j.an s).run (j.DN e) with
  |none=>rw[hx]at h;cases h
  |some x=>
   rw[hx]at h
   simp only[ae]at h
   obtain⟨y,hy,h⟩:=iI.1 h
   refine hrun _ Q hx fun e s' a' w' hs' hK=> ?_
   obtain⟨s1,h1,h2⟩:=iI.1 hK
   have he:=j.ok _ _ _ h2
   rw[hy,Option.some.injEq]at he
   subst he
   exact hk e s1 a' w' (jL hC hs' h1) h
theorem jq(hm:P.follows .mixedOrders=true)(hΓ:Sound P Γ)(hC:∀i j,C.E.s (.new i j)=none){N:Nat}:∀(c:Code),vr P Γ an N (gO c)→∀ {R:Type} {r:R} (s:AS) (a:Act) (w:World) (k:Exit→AS→Option R) (Q:Exit→Act→World→Prop),
  fQ C s a w→ev P Γ an N c s k=some r→(∀e s' a' w',fQ C s' a' w'→k e s'=some r→Q e a' w')→c.wp P Q a w
 | .skip,hL,_,_,s,a,w,k,Q,hs,h,hk=>wp_skip (hk _ _ _ _ hs h)
 | .region id ops draw,hL,_,_,s,a,w,k,Q,hs,h,hk=>by
  simp only[ev]at h
  refine pq hC (fun k Q h hk=> ?_) h hk
  cases draw with
  |true=>
   simp only at h
   split at h
   ·rename_i hE
    exact wY hm hΓ hs hE h fun s' a' w' hs' hk'=>hk _ _ _ _ hs' hk'
   ·cases h
  |false=>exact wp_region_list (qI hΓ ops.toList hs h fun s' a' w' hs' hk'=>hk _ _ _ _ hs' hk')
 | .seq x y,hL,_,_,s,a,w,k,Q,hs,h,hk=>by
  simp only[ev]at h
  refine wp_seq (pq hC (fun k Q h hk=>jq hm hΓ hC x hL.append.1 s a w k Q hs h hk) h fun e s' a' w' hs' hk'=> ?_)
  cases e with
  |normal=>exact jq hm hΓ hC y hL.append.2 s' a' w' k Q hs' hk' hk
  |_=>exact hk _ s' a' w' hs' hk'
 | .cond c x y,hL,_,_,s,a,w,k,Q,hs,h,hk=>by
  simp only[ev]at h
  split at h
  ·rename_i b hb
   have hc:a.eval c= .bool b:=by
    obtain⟨g,β,hi⟩:=hs
    have:=hi.ev c
    rw[hb]at this
    exact rh this
   refine wp_cond hc ?_
   cases b with
   |true=>exact jq hm hΓ hC x hL.append.1 s a w k Q hs h hk
   |false=>exact jq hm hΓ hC y hL.append.2 s a w k Q hs h hk
  ·cases h
 | .block id b,hL,_,_,s,a,w,k,Q,hs,h,hk=>by
  simp only[ev]at h
  refine wp_block (jq hm hΓ hC b hL s a w _ _ hs h fun e s' a' w' hs' hk'=> ?_)
  cases e with
  |exit i=>
   simp only at hk'
   simp only[Exit.inBlock]
   by_cases hi:i=id
   ·rw[if_pos hi]
    simp only[hi,decide_true]at hk'
    exact hk _ s' a' w' hs' hk'
   ·rw[if_neg hi]
    simp only[hi,decide_false]at hk'
    exact hk _ s' a' w' hs' hk'
  |_=>exact hk _ s' a' w' hs' hk'
 | .loop b,hL,R,r,s,a,w,k,Q,hs,h,hk=>by
  simp only[ev]at h
  obtain⟨s1,h1,h⟩:=iI.1 h
  have hs1:=jL hC hs h1
  obtain⟨hL1,hL2⟩:=(hL:As P Γ an N b∧vr P Γ an N (gO b))
  split at h
  ·rename_i le hle
   unfold BQ at h
   cases hr:le.run s1 with
   |none=>rw[hr]at h;cases h
   |some x=>
    rw[hr]at h
    simp only[ae]at h
    obtain⟨y,hy,h⟩:=iI.1 h
    obtain⟨n,hn⟩:=hL1 le hle s1 x hr
    rw[hy]at hn
    refine wp_loop_rounds n (oR (fun s s1 a w hs hn=>jL hC hs hn) (fun e s s1 a w hs hn=>jL hC hs hn) (fun s a w k Q hs hb hk=>jq hm hΓ hC b hL2 s a w k Q hs hb hk) (fun e s' a' w' hs' he=> ?_) n s1 a w hs1 hn)
    simp only[Option.some.injEq]at he
    subst he
    exact hk e s' a' w' hs' h
  ·exact wp_loop_rounds N (oR (fun s s1 a w hs hn=>jL hC hs hn) (fun e s s1 a w hs hn=>jL hC hs hn) (fun s a w k Q hs hb hk=>jq hm hΓ hC b hL2 s a w k Q hs hb hk) hk N s1 a w hs1 h)
 | .exit id,hL,_,_,s,a,w,k,Q,hs,h,hk=>wp_exit (hk _ _ _ _ hs h)
 | .ret,hL,_,_,s,a,w,k,Q,hs,h,hk=>wp_ret (hk _ _ _ _ hs h)
 | .rangeFunc ..,_,_,_,_,_,_,_,_,_,h,_=>by simp[ev]at h
 | .scope b,hL,_,_,s,a,w,k,Q,hs,h,hk=>by
  simp only[ev]at h
  refine wp_scope_straight (jq hm hΓ hC b hL s a w _ _ hs h fun e s' a' w' hs' hk'=> ?_)
  cases e with
  |goto l=>cases hk'
  |_=>exact hk _ s' a' w' hs' hk'
 | .label _,hL,_,_,s,a,w,k,Q,hs,h,hk=>wp_label (hk _ _ _ _ hs h)
 | .goto _,_,_,_,_,_,_,_,_,_,h,_=>by simp[ev]at h
 | .refuse _,_,_,_,_,_,_,_,_,_,h,_=>by simp[ev]at h
variable {g:Nat→ix} {β:Id→Option Pl} {s:AS} {a:Act} {w:World}
def sr(tmps:Array Value)(r:ResultVar):Sem Value:=
 match r with
 | .tmp t=>pure (tmps.getD t undef)
 | .cell a t=>do loadVar t (←asAddr (tmps.getD a undef))
theorem pJ(h:Inv C g β s a w){r:ResultVar}{v:aC}(he:(sx P s r).eval=some v):∃x,(sr a.tmps r).run P w= .ok x w∧VS (s.env w g β) v x:=by
 cases r with
 |tmp t=>
  simp only[sx]at he
  obtain rfl:=ax.1 he
  exact⟨_,by simp[sr],h.cl t⟩
 |cell t T=>
  simp only[sx]at he
  obtain⟨ad,z,hy,hr,hv⟩:=rX h (h.cl t) he
  exact⟨z,by simp[sr,hy,asAddr,hr],hv⟩
theorem pI(h:Inv C g β s a w){r:ResultVar}{o:Option Ty}{y:AS×aC}(he:(sw P s r o).eval=some y):
  ∃x g',(sr a.tmps r).run P w= .ok x w∧Inv C g' β y.1 a w∧cW (s.env w g β) (y.1.env w g' β)∧VS (y.1.env w g' β) y.2 x:=by
 cases o with
 |none=>
  simp only[sw]at he
  obtain⟨v,h1,h2⟩:=aw.1 he
  obtain rfl:=ax.1 h2
  obtain⟨x,hx,hv⟩:=pJ h h1
  exact⟨x,g,hx,h,cW.refl _,hv⟩
 |some t=>
  simp only[sw]at he
  obtain⟨v,h1,h2⟩:=aw.1 he
  obtain⟨d,h3,h4⟩:=aw.1 h2
  obtain rfl:=ax.1 h4
  obtain⟨x,hx,hv⟩:=pJ h h1
  obtain⟨g',i1,e1,_,cs,hR,hO⟩:=lh h hv h3
  exact⟨x,g',hx,i1,e1,VS.of (a:= .d t d) (cs:=cs) (by simpa only[V]using hR) hO⟩
theorem oA:∀(l:List ResultVar) (ts:List (Option Ty)) {s:AS} {g:Nat→ix} (_:Inv C g β s a w) {y:AS×aC},(pL P s l ts).eval=some y→
  ∃(xs:List Value) (g':Nat→ix),(l.mapM (sr a.tmps)).run P w= .ok xs w∧Inv C g' β y.1 a w∧cW (s.env w g β) (y.1.env w g' β)∧VC (y.1.env w g' β) y.2 xs∧xs.length=l.length
 |[],ts,s,g,h,y,he=>by
  simp only[pL]at he
  obtain rfl:=ax.1 he
  exact⟨[],g,by simp,h,cW.refl _,by simp[VC],rfl⟩
 |r::l,ts,s,g,h,y,he=>by
  simp only[pL]at he
  obtain⟨u,h1,h2⟩:=aw.1 he
  obtain⟨hc,h2⟩:=aE.1 h2
  obtain⟨us,h3,h4⟩:=aw.1 h2
  obtain rfl:=ax.1 h4
  obtain⟨x,g1,hx,i1,e1,hv⟩:=pI h h1
  obtain⟨xs,g2,hxs,i2,e2,hvs,hl⟩:=oA l ts.tail i1 h3
  obtain⟨cs,hV,hO⟩:=(hv.mono e2).eE hc
  refine⟨x::xs,g2,?_,i2,e1.trans e2,by simp only[VC];exact⟨x,xs,cs,rfl,hV,hO,hvs⟩,by simp[hl]⟩
  simp only[List.mapM_cons,Sem.run_bind,hx,Result.andThen_ok,hxs,Sem.run_pure]
theorem Ay{E:Env}{v:aC}{xs:List Value}(h:VC E v xs):VS E v (.tuple xs.toArray):=by
 cases v <;> first
  | (simp only[VC]at h;done)
  |exact⟨xs,rfl,h⟩
  | (simp only[VC]at h;subst h;rfl)
theorem tl(h:Inv C g β s a w){fn:Func}{ts:List (Option Ty)}{y:AS×aC}(he:(va P fn ts s).eval=some y):
  ∃x g',(results fn a.tmps).run P w= .ok x w∧Inv C g' β y.1 a w∧VS (y.1.env w g' β) y.2 x:=by
 have key:∀xs:List Value,(fn.results.toList.mapM (sr a.tmps)).run P w= .ok xs w→(results fn a.tmps).run P w= .ok (if h:xs.length=1 then xs[0] else .tuple xs.toArray) w:=fun xs hxs=>by
  have e:results fn a.tmps=(do
   let vs ←fn.results.mapM (sr a.tmps)
   pure (if h:vs.size=1 then vs[0] else .tuple vs)):=rfl
  rw[e,Array.mapM_eq_mapM_toList]
  simp only[map_eq_pure_bind,Sem.run_bind,hxs,Result.andThen_ok,Sem.run_pure]
  congr 1
 unfold va at he
 split at he
 ·rename_i r hr
  obtain⟨x,g',hx,hi,_,hv⟩:=pI h he
  refine⟨x,g',?_,hi,hv⟩
  rw[key [x] (by simp[hr,hx])]
  simp
 ·rename_i rs hne
  obtain⟨xs,g',hx,hi,_,hv,hl⟩:=oA _ _ h he
  refine⟨.tuple xs.toArray,g',?_,hi,Ay hv⟩
  rw[key xs hx,dif_neg]
  rw[hl]
  intro h1
  obtain⟨r,hr⟩:=List.length_eq_one_iff.1 h1
  exact hne r hr
end
end Go.Ab
namespace Go.Ab
def jH(ids:List Id):ix→ix
 | .own (.id (.new i j)) k=> .own (.id (match idxOf (.new i j) ids with | some m=> .new 0 m | none=> .new 1 0)) k
 |l=>l
def Bv(β:Id→Option Pl)(ids:List Id):Id→Option Pl
 | .fK k=>β (.fK k)
 | .new 0 m=>(ids[m]?).bind β
 | .new (_+1) _=>none
theorem zR{ids:List Id}{g:Nat→ix}{b off:Nat}(h:kf g b off):kf (fun b=>jH ids (g b)) b off:=by
 unfold kf at*
 simp only
 cases hg:g b with
 |free=>simp[jH]
 |own o k=>
  rw[hg]at h
  cases o with
  |eQ=>exact h
  |id i=>cases i <;> exact h
theorem uJ(s:AS)(v:aC):(s.qf v).Nodup:=(ki s _ _ _ (by simp)).filter _
theorem xQ{s:AS}{v:aC}{id:Id}(h:id∈s.qf v):∃i j,id= .new i j:=by
 unfold AS.qf at h
 have:=(List.mem_filter.1 h).2
 cases id with
 |fK k=>simp[Id.CO]at this
 |new i j=>exact⟨i,j,rfl⟩
section
variable {P:Program} {Γ:dV} {C:Ctx} {g:Nat→ix} {β:Id→Option Pl} {s:AS} {a:Act} {w:World}
theorem zJ(h:Inv C g β s a w)(hC:∀i j,C.E.s (.new i j)=none){v:aC}{x:Value}(hv:VS (s.env w g β) v x):na C.E (s.fin v) x w:=by
 unfold AS.fin
 have hn:=uJ s v
 have hnew:∀id∈s.qf v,∃i j,id= .new i j:=fun id hid=>xQ hid
 generalize s.qf v=ids at hn hnew
 generalize hG:s.CK ids v=G
 have hval:G.val=v.fZ (oM ids):=by rw[←hG];rfl
 have hold:∀k,G.st.ck (.fK k)=(s.ck (.fK k)).map (eP.fin ids):=fun k=>by
  rw[←hG]
  show(s.dj.map (eP.fin ids))[k]? =_
  rw[List.getElem?_map];rfl
 have hnw:∀m,G.st.ck (.new 0 m)=(ids[m]?).map fun id=>((s.ck id).getD .dead).fin ids:=fun m=>by
  rw[←hG]
  show(ids.map fun id=>((s.ck id).getD .dead).fin ids)[m]? =_
  rw[List.getElem?_map]
 have hns:∀i m,G.st.ck (.new (i+1) m)=none:=fun i m=>by simp[aZ.st,AS.ck]
 let g':Nat→ix:=fun b=>jH ids (g b)
 let β':=Bv β ids
 have hfin:∀e ver fr c,eP.fin ids e= .obj ver fr c→∃c0,e= .obj ver fr c0∧c=c0.fZ (oM ids):=fun e ver fr c he=>by
  cases e with
  |dead=>cases he
  |obj v0 fr0 c0=>
   simp only[eP.fin,eP.obj.injEq]at he
   obtain⟨rfl,rfl,rfl⟩:=he
   exact⟨c0,rfl,rfl⟩
 have hle:mP (oM ids) (s.env w g β) (G.st.env w g' β'):=by
  refine⟨⟨fun b off v ⟨h1,h2⟩=>⟨h1,zR h2⟩,fun b ob h1 h2=>⟨by show jH ids (g b)= .free;have h1:g b= .free:=h1;rw[h1];rfl,h2⟩⟩,fun id ver r hr hb=> ?_⟩
  obtain⟨hb1,hb2⟩:=hb
  have hb1:s.ck id≠none:=hb1
  have hb2:∀v fr c,s.ck id=some (.obj v fr c)→ver≤v:=hb2
  cases id with
  |fK k=>
   simp only[oM,Option.some.injEq]at hr
   subst hr
   refine⟨⟨?_,fun v fr c hh=> ?_⟩,fun⟨fr,c,hh⟩=>⟨?_,rfl⟩⟩
   ·show G.st.ck (.fK k)≠none
    rw[hold];simpa using hb1
   ·have hh:G.st.ck (.fK k)=some (.obj v fr c):=hh
    rw[hold,Option.map_eq_some_iff]at hh
    obtain⟨e,he,hh⟩:=hh
    obtain⟨c0,rfl,_⟩:=hfin _ _ _ _ hh
    exact hb2 v fr c0 he
   ·have hh:G.st.ck (.fK k)=some (.obj ver fr c):=hh
    rw[hold,Option.map_eq_some_iff]at hh
    obtain⟨e,he,hh⟩:=hh
    obtain⟨c0,rfl,_⟩:=hfin _ _ _ _ hh
    exact⟨fr,c0,he⟩
  |new i j=>
   simp only[oM]at hr
   split at hr
   ·rename_i m hm
    simp only[Option.some.injEq]at hr
    subst hr
    have hid:=iW hm
    obtain⟨e,he⟩:=Option.ne_none_iff_exists'.1 hb1
    have hg:G.st.ck (.new 0 m)=some (e.fin ids):=by rw[hnw,hid];simp[he]
    refine⟨⟨?_,fun v fr c hh=> ?_⟩,fun⟨fr,c,hh⟩=>⟨?_,?_⟩⟩
    ·show G.st.ck (.new 0 m)≠none
     rw[hg];simp
    ·have hh:G.st.ck (.new 0 m)=some (.obj v fr c):=hh
     rw[hg,Option.some.injEq]at hh
     obtain⟨c0,rfl,_⟩:=hfin _ _ _ _ hh
     exact hb2 v fr c0 he
    ·have hh:G.st.ck (.new 0 m)=some (.obj ver fr c):=hh
     rw[hg,Option.some.injEq]at hh
     obtain⟨c0,rfl,_⟩:=hfin _ _ _ _ hh
     exact⟨fr,c0,he⟩
    ·show(ids[m]?).bind β=β (.new i j)
     rw[hid];rfl
   ·cases hr
 have htr:Trans C.E.w w C.E.g g':=by
  have h0:=h.trans
  refine⟨h0.os,h0.tape,h0.output,h0.size,fun b hb=> ?_⟩
  have h1:=h0.zu b hb
  show match C.E.g b with | .free=>jH ids (g b)= .free∧_ | .own .eQ k=>jH ids (g b)= .own .eQ k∧_ | .own (.id _) k=>(jH ids (g b)= .free∨∃i k',jH ids (g b)= .own (.id i) k'∧k≤k')∧_
  cases hgb:C.E.g b with
  |free=>simp only[hgb]at h1 ⊢;rw[h1.1];exact⟨rfl,h1.2⟩
  |own o k=>cases o with
   |eQ=>simp only[hgb]at h1 ⊢;rw[h1.1];exact⟨rfl,h1.2⟩
   |id i=>
    simp only[hgb]at h1 ⊢
    refine⟨?_,h1.2⟩
    rcases h1.1 with h2 | ⟨i',k',h2,h3⟩
    ·rw[h2];exact .inl rfl
    ·rw[h2]
     right
     cases i' with
     |fK m=>exact⟨_,k',rfl,h3⟩
     |new i j=>exact⟨_,k',rfl,h3⟩
 have hobj:gz (G.st.env w g' β'):=by
  intro id ver fr c hid
  have hid:G.st.ck id=some (.obj ver fr c):=hid
  cases id with
  |fK k=>
   rw[hold,Option.map_eq_some_iff]at hid
   obtain⟨e,he,hid⟩:=hid
   obtain⟨c0,rfl,rfl⟩:=hfin _ _ _ _ hid
   refine lQ hle (h.bN (.fK k) ver fr c0 he) rfl fun pl _=>⟨rfl,fun n hg=> ?_,fun hg=> ?_⟩
   ·have hg:g pl.b= .own (.id (.fK k)) n:=hg
    show jH ids (g pl.b)=_
    rw[hg];rfl
   ·have hg:g pl.b= .free:=hg
    show jH ids (g pl.b)=_
    rw[hg];rfl
  |new i m=>
   cases i with
   |succ i=>rw[hns]at hid;cases hid
   |zero=>
    rw[hnw,Option.map_eq_some_iff]at hid
    obtain⟨id0,hid0,hid⟩:=hid
    obtain⟨c0,he,rfl⟩:=hfin _ _ _ _ hid
    have hent:s.ck id0=some (.obj ver fr c0):=by
     cases hs:s.ck id0 with
     |none=>rw[hs]at he;cases he
     |some e=>rw[hs]at he;simp only[Option.getD_some]at he;rw[he]
    obtain⟨i0,j0,rfl⟩:=hnew id0 (List.mem_of_getElem? hid0)
    refine lQ hle (h.bN (.new i0 j0) ver fr c0 hent) (by show(ids[m]?).bind β=_;rw[hid0];rfl) fun pl _=>⟨rfl,fun n hg=> ?_,fun hg=> ?_⟩
    ·have hg:g pl.b= .own (.id (.new i0 j0)) n:=hg
     show jH ids (g pl.b)=_
     rw[hg]
     simp only[jH,lz hn hid0]
    ·have hg:g pl.b= .free:=hg
     show jH ids (g pl.b)=_
     rw[hg];rfl
 have ho:∀id ver,C.E.rf id ver→∃k,id= .fK k:=fun id ver hb=>by
  cases id with
  |fK k=>exact⟨k,rfl⟩
  |new i j=>exact absurd (hC i j) hb.1
 refine⟨g',β',by rw[hval];exact rA hle hv,hobj,htr,Trans.mem (E:=C.E) (E':=G.st.env w g' β') htr,fun id ver hb=> ?_,fun id ver hb hc=> ?_⟩
 ·obtain⟨k,rfl⟩:=ho id ver hb
  exact(hle.ref (.fK k) ver (.fK k,ver) rfl (h.le.rf _ _ hb)).1
 ·obtain⟨k,rfl⟩:=ho id ver hb
  obtain⟨h1,h2⟩:=(hle.ref (.fK k) ver (.fK k,ver) rfl (h.le.rf _ _ hb)).2 hc
  obtain⟨h3,h4⟩:=h.le.cur _ _ hb h1
  exact⟨h3,h2.trans h4⟩
theorem o8.len{E:Env}:∀ {as:List aC} {vs:List Value},o8 E as vs→as.length=vs.length
 |[],[],_=>rfl
 |_::_,_::_,⟨_,h⟩=>by simp[o8.len h]
 |[],_::_,h=>h.elim
 |_::_,[],h=>h.elim
theorem o8.get{E:Env}:∀ {as:List aC} {vs:List Value},o8 E as vs→∀i,VS E (as.getD i .undef) (vs.getD i undef)
 |[],[],_,i=>by simpa using VS.undef
 |_::_,_::_,⟨h,_⟩,0=>by simpa using h
 |_::_,_::_,⟨_,h⟩,i+1=>by simpa using o8.get h i
 |[],_::_,h,_=>h.elim
 |_::_,[],h,_=>h.elim
theorem Am{w:World}{g:Nat→ix}{β:Id→Option Pl}{fn:Func}{args:List aC}{dj:List eP}{jz:List Value}(hv:o8 ((iy dj).env w g β) args jz)(ho:gz ((iy dj).env w g β)):
  Inv ⟨(iy dj).env w g β⟩ g β (start fn args dj) {tmps:=jz.toArray++Array.replicate (fn.ntmps - jz.toArray.size) undef,defers:=[]} w:=by
 have hl:=hv.len
 have hent:(start fn args dj).ck=(iy dj).ck:=by
  funext id
  cases id with
  |fK k=>rfl
  |new i j=>
   simp only[start,iy,AS.ck,List.getD_eq_getElem?_getD,List.getElem?_replicate]
   split <;> simp
 have henv:(start fn args dj).env w g β=(iy dj).env w g β:=by simp only[AS.env,hent]
 refine⟨rfl,by simp[start,hl],fun i=> ?_,by rw[henv];exact ho,Trans.refl _ _,by rw[henv];exact cW.refl _⟩
 rw[henv]
 have h1:(start fn args dj).slot i=args.getD i .undef:=by
  simp only[start,AS.slot,List.getD_eq_getElem?_getD,List.getElem?_append,List.getElem?_replicate]
  split
  ·rfl
  ·rw[List.getElem?_eq_none (l:=args) (by omega)]
   split <;> rfl
 have h2:(jz.toArray++Array.replicate (fn.ntmps - jz.toArray.size) undef).getD i undef=jz.getD i undef:=by
  simp only[Array.getD_eq_getD_getElem?,List.getD_eq_getElem?_getD,Array.getElem?_append,Array.getElem?_replicate]
  simp only[List.size_toArray,List.getElem?_toArray]
  split
  ·rfl
  ·rw[List.getElem?_eq_none (l:=jz) (by omega)]
   split <;> rfl
 rw[h1,h2]
 exact hv.get i
theorem lP.qq(hm:P.follows .mixedOrders=true)(hΓ:Sound P Γ){f:FuncId}{fn:Func}(hf:P.funcs[f]? =some fn)(hb:fn.body.isSome=true)(hname:(fn.name== "runtime.NumGoroutine")=false){en:Entry}{an:eJ}{N:Nat}(hL:∀c,fn.body=some c→vr P Γ an N (gO c))
  (h:∀args dj x,en.run args dj=some x→B4 P Γ an N fn args dj some=some (en.out args dj x)):lP P f en:=by
 intro w g β args dj jz x hv ho hx
 left
 obtain⟨c,hc⟩:=Option.isSome_iff_exists.1 hb
 refine⟨?_,?_⟩
 ·unfold callFunc
  have hname':¬fn.name= "runtime.NumGoroutine" :=by simpa using hname
  simp[hf,hname',hc]
 ·have hN:=h args dj x hx
  unfold B4 at hN
  rw[hc]at hN
  simp only at hN
  have hC:∀i j,((iy dj).env w g β).s (.new i j)=none:=fun i j=>by simp[AS.env,iy,AS.ck]
  refine calls_of_wp hf hc (jq (C:=⟨(iy dj).env w g β⟩) hm hΓ hC c (hL c hc) _ _ w _ _ ⟨g,β,Am hv ho⟩ hN fun e s' a' w' hs' hk'=> ?_)
  have fin:(finish P an fn s').run (fun v=>some v)=some (en.out args dj x)→a'.defers=[]∧∃v,(results fn a'.tmps).run P w'= .ok v w'∧∃u,Ending.returned v= .returned u∧na ((iy dj).env w g β) (en.out args dj x) u w':=fun hr=>by
   obtain⟨G,h1,h2⟩:=iI.1 hr
   simp only[Option.some.injEq]at h2
   subst h2
   unfold finish at h1
   obtain⟨sd,h0d,h1⟩:=aw.1 h1
   obtain⟨s2,h3,h4⟩:=aw.1 h1
   obtain⟨s3,h4a,h4⟩:=aw.1 h4
   obtain⟨y,h5,h6⟩:=aw.1 h4
   obtain⟨g0,β0,hi0⟩:=oI _ hs' h0d
   obtain⟨g',β',hi⟩:=sR _ (jX hC _ ⟨g0,β0,hi0.drop _⟩ h3) h4a
   obtain⟨z,g2,h7,h8,h9⟩:=tl hi h5
   refine⟨hi.defers,z,h7,z,rfl,?_⟩
   rw[←ax.1 h6]
   exact zJ h8 hC h9
  cases e with
  |normal=>exact fin hk'
  |ret=>exact fin hk'
  |_=>cases hk'
end
end Go.Ab
namespace Go.Ab
def dJ(k:IntKind)(n:Int):Int:=k.wrap n
def bO(k:IntKind)(x y:Int):Int:=k.wrap (x+y)
def bT(k:IntKind)(x y:Int):Int:=k.wrap (x - y)
def eW(k:IntKind)(x y:Int):Int:=k.wrap (x*y)
def kX(k:IntKind)(x y:Int):Int:=k.wrap (x.tdiv y)
def jl(x y:Int):Int:=x.tmod y
def gC(k:IntKind)(x y:Int):Int:=k.wrap (x*2^(min y.toNat k.bits))
def bQ(k:IntKind)(x y:Int):Int:=x.fdiv (2^(min y.toNat k.bits))
def Cl(k:IntKind)(x:Int):Int:=ct .xor k (if k.signed then -1 else k.max) x
def kR(x y:Int):Bool:=x==y
def gM(x y:Int):Bool:=x !=y
def gb(x y:Int):Bool:=decide (x < y)
def tK(x y:Int):Bool:=decide (x≤y)
def mv(x y:Int):Bool:=decide (x > y)
def l6(x y:Int):Bool:=decide (x≥y)
def seq(x y:ByteArray):Bool:=x.toList==y.toList
def w9(a:ByteArray)(i:Int):Int:=((a.data.toList.getD i.toNat 0).toNat:Int)
def dS(i n:Int):Bool:=decide (0≤i∧i < n)
def inc(i n:Int):Bool:=decide (0≤i∧i≤n)
def gR(y:Int):Bool:=decide (0≤y)
def iN(y:Int):Bool:= !(decide (y=0))
open Classical in
noncomputable def bP.of{D X:Type}(st:D→AS)(aD:D→Prop)(F:D→X)(out:X→Out (Exit×AS)):bP:=
 {X,run:=fun s=>if h:∃d,st d=s∧aD d then some (F h.choose) else none,out}
open Classical in
theorem bP.qq{D X:Type}{st:D→AS}{aD:D→Prop}{F:D→X}{out:X→Out (Exit×AS)}(hinj:∀d d',st d=st d'→d=d'){d:D}(h:aD d):(bP.of st aD F out).run (st d)=some (F d):=by
 have hex:∃d',st d'=st d∧aD d':=⟨d,rfl,h⟩
 show(if h:∃d',st d'=st d∧aD d' then some (F h.choose) else none)=_
 rw[dif_pos hex,hinj _ _ hex.choose_spec.1]
open Classical in
noncomputable def rz.of{X:Type}(an:g8)(st:X→AS):rz:=
 {an,X,DN:=fun e s=>if h:e= .normal∧∃x,st x=s then some h.2.choose else none,out:=fun x=> .ok (.normal,st x),
  ok:=fun e s x h=>by
   by_cases h1:e= .normal∧∃x,st x=s
   ·rw[dif_pos h1]at h
    have h2:=h1.2.choose_spec
    rw[Option.some.inj h]at h2
    rw[h1.1,←h2]
    rfl
   ·rw[dif_neg h1]at h;cases h}
open Classical in
theorem rz.Ds{X:Type}{an:g8}{st:X→AS}(hinj:∀d d',st d=st d'→d=d')(x:X):(rz.of an st).DN .normal (st x)=some x:=by
 have hex:Exit.normal= .normal∧∃y,st y=st x:=⟨rfl,x,rfl⟩
 show(if h:Exit.normal= .normal∧∃y,st y=st x then some h.2.choose else none)=_
 rw[dif_pos hex,hinj _ _ hex.2.choose_spec]
open Classical in
theorem As.of{P:Program}{Γ:dV}{an:eJ}{N:Nat}{fn:Func}{i:Nat}{D X:Type}{st:D→AS}{aD:D→Prop}{F:D→X}{out:X→Out (Exit×AS)}
  (hle:an.fJ (dY (iT fn i))=some (bP.of st aD F out)) (h:∀d,aD d→∃n,wq P Γ an N fn i n (st d) (fun e s=>some (e,s))=(out (F d)).eval):As P Γ an N (iT fn i):=by
 intro le hle' s x hx
 rw[hle]at hle'
 simp only[Option.some.injEq]at hle'
 subst hle'
 change (if h:∃d',st d'=s∧aD d' then some (F h.choose) else none)=some x at hx
 split at hx
 ·rename_i hex
  obtain rfl:=Option.some.inj hx
  obtain⟨h1,h2⟩:=hex.choose_spec
  obtain⟨n,hn⟩:=h _ h2
  refine⟨n,?_⟩
  show wq P Γ an N fn i n s _=_
  rw[h1]at hn
  exact hn
 ·cases hx
theorem tN(P:Program)(Γ:dV)(an:eJ)(N:Nat)(fn:Func)(i:Nat){R:Type}(n:Nat)(s:AS)(k:Exit→AS→Option R):
  wq P Γ an N fn i (n+1) s k=qm P Γ an N fn i s (fun s1=>wq P Γ an N fn i n s1 k) k:=rfl
theorem yW{P:Program}{Γ:dV}{an:eJ}{N:Nat}{fn:Func}{i:Nat}{D X:Type}{st:D→AS}{aD:D→Prop}{F:D→X}{out:X→Out (Exit×AS)}(μ:D→Nat)
  (h:∀d,aD d→(∃d',aD d'∧μ d' < μ d∧F d'=F d∧∀ {R:Type} (kn:AS→Option R) (kx:Exit→AS→Option R),qm P Γ an N fn i (st d) kn kx=kn (st d'))∨
   (∃r,(out (F d)).eval=some r∧∀ {R:Type} (kn:AS→Option R) (kx:Exit→AS→Option R),qm P Γ an N fn i (st d) kn kx=kx r.1 r.2)):
  ∀d,aD d→∃n,wq P Γ an N fn i n (st d) (fun e s=>some (e,s))=(out (F d)).eval:=by
 have key:∀m d,μ d=m→aD d→∃n,wq P Γ an N fn i n (st d) (fun e s=>some (e,s))=(out (F d)).eval:=by
  intro m
  induction m using Nat.strongRecOn with
  |_ m ih=>
   intro d hm hp
   rcases h d hp with⟨d',hp',hlt,hF,hr⟩ | ⟨r,hr,hx⟩
   ·obtain⟨n,hn⟩:=ih (μ d') (by omega) d' rfl hp'
    exact⟨n+1,by rw[tN,hr,hn,hF]⟩
   ·exact⟨1,by rw[tN,hx,hr]⟩
 exact fun d hp=>key _ d rfl hp
theorem Bh{P:Program}{Γ:dV}{an:eJ}{N:Nat}{fn:Func}{i:Nat}{D X:Type}{st:D→AS}{aD:D→Prop}{F:D→X}{ex:X→Exit×AS}(μ:D→Nat)
  (h:∀d,aD d→(∃d',aD d'∧μ d' < μ d∧F d'=F d∧∀ {R:Type} (kn:AS→Option R) (kx:Exit→AS→Option R),qm P Γ an N fn i (st d) kn kx=kn (st d'))∨
   (∀ {R:Type} (kn:AS→Option R) (kx:Exit→AS→Option R),qm P Γ an N fn i (st d) kn kx=kx (ex (F d)).1 (ex (F d)).2)):
  ∀d,aD d→∃n,wq P Γ an N fn i n (st d) (fun e s=>some (e,s))=(Out.ok (ex (F d))).eval:=
 yW (out:=fun x=> .ok (ex x)) μ fun d hp=>(h d hp).imp id fun h=>⟨_,rfl,h⟩
open Classical in
noncomputable def Entry.of{D X:Type}(params:List (Option Ty))(st:D→List aC×List eP)(aD:D→Prop)(F:D→X)(out:X→aZ):Entry:=
 {params,X,run:=fun args dj=>if h:∃d,st d=(args,dj)∧aD d then some (F h.choose) else none,out:=fun _ _=>out}
open Classical in
theorem Entry.qq{D X:Type}{params:List (Option Ty)}{st:D→List aC×List eP}{aD:D→Prop}{F:D→X}{out:X→aZ}(hinj:∀d d',st d=st d'→d=d'){d:D}(h:aD d):
  (Entry.of params st aD F out).run (st d).1 (st d).2=some (F d):=by
 have hex:∃d',st d'=((st d).1,(st d).2)∧aD d':=⟨d,rfl,h⟩
 show(if h:∃d',st d'=((st d).1,(st d).2)∧aD d' then some (F h.choose) else none)=_
 rw[dif_pos hex,hinj _ _ hex.choose_spec.1]
open Classical in
theorem lP.of{P:Program}{Γ:dV}(hm:P.follows .mixedOrders=true)(hΓ:Sound P Γ){f:FuncId}{fn:Func}(hf:P.funcs[f]? =some fn)(hb:fn.body.isSome=true)(hname:(fn.name== "runtime.NumGoroutine")=false){an:eJ}{N:Nat}
  (hL:∀c,fn.body=some c→vr P Γ an N (gO c)) {D X:Type} {params:List (Option Ty)} {st:D→List aC×List eP} {aD:D→Prop} {F:D→X} {out:X→aZ}
  (h:∀d,aD d→B4 P Γ an N fn (st d).1 (st d).2 some=some (out (F d))):lP P f (Entry.of params st aD F out):=by
 refine lP.qq hm hΓ hf hb hname hL fun args dj x hx=> ?_
 change (if h:∃d',st d'=(args,dj)∧aD d' then some (F h.choose) else none)=some x at hx
 split at hx
 ·rename_i hex
  obtain rfl:=Option.some.inj hx
  obtain⟨h1,h2⟩:=hex.choose_spec
  have:=h _ h2
  rw[h1]at this
  exact this
 ·cases hx
def DI(P:Program)(Γ:dV)(an:eJ)(N:Nat)(fn:Func):Nat→Nat→Prop
 | 0,_=>True
 |n+1,i=>As P Γ an N (iT fn i)∧DI P Γ an N fn n (i+1)
theorem DI.get{P:Program}{Γ:dV}{an:eJ}{N:Nat}{fn:Func}:∀ {n i:Nat},DI P Γ an N fn n i→∀j,j < n→As P Γ an N (iT fn (i+j))
 | 0,_,_,j,hj=>by omega
 |n+1,i,h,0,_=>h.1
 |n+1,i,h,j+1,hj=>by
  have:=DI.get h.2 j (by omega)
  rwa[show i+1+j=i+(j+1) by omega]at this
theorem vr.Bq{P:Program}{Γ:dV}{an:eJ}{N:Nat}:∀(l:List Code),(∀j,j < l.length→As P Γ an N (l.getD j .skip))→vr P Γ an N l
 |[],_=>trivial
 |b::l,h=>⟨h 0 (by simp),vr.Bq l fun j hj=>by have:=h (j+1) (by simpa using hj);simpa using this⟩
theorem vr.fn{P:Program}{Γ:dV}{an:eJ}{N:Nat}{fn:Func}(n:Nat)(hn:(match fn.body with | some c=>(gO c).length | none=>0)=n)(h:DI P Γ an N fn n 0):∀c,fn.body=some c→vr P Γ an N (gO c):=by
 intro c hc
 refine vr.Bq _ fun j hj=> ?_
 rw[hc]at hn
 simp only at hn
 have:=h.get j (by omega)
 unfold iT at this
 rw[hc]at this
 simpa using this
theorem As.none{P:Program}{Γ:dV}{an:eJ}{N:Nat}{fn:Func}{i:Nat}(h:an.fJ (dY (iT fn i))=none):As P Γ an N (iT fn i):=fun le hle=>by
 rw[h]at hle;cases hle
def D3:dV:=fun _ _=>none
theorem Sound.nil(P:Program):Sound P D3:=fun _ _ _ h=>by cases h
def A3(f:FuncId)(p:List aC→Bool)(en:Entry)(Γ:dV):dV:=fun g vs=>match Nat.beq g f with | true=>(match p vs with | true=>some en | false=>Γ g vs) | false=>Γ g vs
theorem Sound.cons{P:Program}{f:FuncId}{p:List aC→Bool}{en:Entry}{Γ:dV}(h:lP P f en)(hΓ:Sound P Γ):Sound P (A3 f p en Γ):=fun g vs e hg=>by
 unfold A3 at hg
 split at hg
 ·rename_i he
  have:g=f:=Nat.eq_of_beq_eq_true he
  split at hg
  ·simp only[Option.some.injEq]at hg
   subst hg this
   exact h
  ·exact hΓ g vs e hg
 ·exact hΓ g vs e hg
theorem CJ{t:Ty}{x y:t.den}(h:aC.d t x=aC.d t y):x=y:=by
 injection h with _ h
def aW:List aC→Bool:=fun _=>true
def zZ:List aC→Bool | .da::_=>true | _=>false
def Al:List aC→Bool | .bU .. ::_=>true | _=>false
@[simp] theorem ay{α:Type}(x y:Option α):aF true x y=x:=rfl
@[simp] theorem ao{α:Type}(x y:Option α):aF false x y=y:=rfl
@[simp] theorem aa{α β:Type}(x:α)(f:α→Option β):ae (some x) f=f x:=rfl
@[simp] theorem od{α:Type}(x:Option α):nd x x=x:=by simp[nd]
structure SG(P:Program) where
 f:FuncId
 p:List aC→Bool
 e:Entry
 h:lP P f e
def eY{P:Program}:List (SG P)→dV
 |[]=>D3
 |a::l=>A3 a.f a.p a.e (eY l)
theorem Sound.eY{P:Program}:∀l:List (SG P),Sound P (eY l)
 |[]=>Sound.nil P
 |a::l=>Sound.cons a.h (Sound.eY l)
abbrev SA:=List aC×List eP
noncomputable def cK(P:Program)(G:dV)(an:eJ)(N:Nat)(fn:Func){D:Type}(st:D→SA){R:Type}(d:D)(k:aZ→Option R):Option R:=B4 P G an N fn (st d).1 (st d).2 k
noncomputable def bV(P:Program)(G:dV)(an:eJ)(N:Nat)(fn:Func)(i:Nat){D:Type}(st:D→AS){R:Type}(d:D)(kn:AS→Option R)(kx:Exit→AS→Option R):Option R:=qm P G an N fn i (st d) kn kx
abbrev cM{D X Y:Type}(A: {R:Type}→D→(aZ→Option R)→Option R)(aD:D→Prop)(add:D→Y→X)(F:D→Y)(out:X→aZ):Prop:=
 ∀d,aD d→A d some=some (out (add d (F d)))
abbrev eA(P:Program)(G:dV)(an:eJ)(N:Nat)(fn:Func)(i:Nat){D X Y:Type}(st:D→AS)(aD:D→Prop)(add:D→Y→X)(F:D→Y)(out:X→Out (Exit×AS)):Prop:=
 ∀d,aD d→∃n,wq P G an N fn i n (st d) (fun e s=>some (e,s))=(out (add d (F d))).eval
abbrev fX{D X Y:Type}(R: {R:Type}→D→(AS→Option R)→(Exit→AS→Option R)→Option R)(st:D→AS)(aD:D→Prop)(add:D→Y→X)(F:D→Y)(ex:X→Exit×AS)(C:Prop):Prop:=
 ∀μ:D→Nat,(∀d,aD d→(∃d',aD d'∧μ d' < μ d∧add d' (F d')=add d (F d)∧∀ {T:Type} (kn:AS→Option T) (kx:Exit→AS→Option T),R d kn kx=kn (st d'))∨
  (∀ {T:Type} (kn:AS→Option T) (kx:Exit→AS→Option T),R d kn kx=kx (ex (add d (F d))).1 (ex (add d (F d))).2))→C
abbrev iO{D X Y:Type}(R: {R:Type}→D→(AS→Option R)→(Exit→AS→Option R)→Option R)(st:D→AS)(aD:D→Prop)(add:D→Y→X)(F:D→Y)(out:X→Out (Exit×AS))(C:Prop):Prop:=
 ∀μ:D→Nat,(∀d,aD d→(∃d',aD d'∧μ d' < μ d∧add d' (F d')=add d (F d)∧∀ {T:Type} (kn:AS→Option T) (kx:Exit→AS→Option T),R d kn kx=kn (st d'))∨
  (∃r,(out (add d (F d))).eval=some r∧∀ {T:Type} (kn:AS→Option T) (kx:Exit→AS→Option T),R d kn kx=kx r.1 r.2))→C
theorem gf{P:Program}{G:dV}{an:eJ}{N:Nat}{fn:Func}{i:Nat}{D X Y:Type}{st:D→AS}{aD:D→Prop}{add:D→Y→X}{F:D→Y}{ex:X→Exit×AS}:
  fX (bV P G an N fn i st) st aD add F ex (eA P G an N fn i st aD add F fun x=> .ok (ex x)):=fun μ h=>Bh (F:=fun d=>add d (F d)) μ h
theorem jk{P:Program}{G:dV}{an:eJ}{N:Nat}{fn:Func}{i:Nat}{D X Y:Type}{st:D→AS}{aD:D→Prop}{add:D→Y→X}{F:D→Y}{out:X→Out (Exit×AS)}:
  iO (bV P G an N fn i st) st aD add F out (eA P G an N fn i st aD add F out):=fun μ h=>yW (F:=fun d=>add d (F d)) (out:=out) μ h
def jJ:List (Nat×g8)→Nat→g8
 |[],_=> {}
 |a::l,r=>bif Nat.beq r a.1 then a.2 else jJ l r
def jI:List (Nat×g8×g8)→Nat→Bool→g8
 |[],_,_=> {}
 |a::l,r,b=>bif Nat.beq r a.1 then(bif b then a.2.2 else a.2.1) else jI l r b
def kz{α:Type 1}:List (Nat×α)→Nat→Option α
 |[],_=>none
 |a::l,r=>bif Nat.beq r a.1 then some a.2 else kz l r
inductive Lf where
 |d (t:Ty)
 |n
@[reducible] def Lf.den:Lf→Type
 | .d t=>t.den
 | .n=>Nat
@[reducible] def Lf.DD:List Lf→Type
 |[]=>Unit
 |[a]=>a.den
 |a::b::l=>a.den×Lf.DD (b::l)
abbrev DQ:=List (Sigma Lf.den)
def Lf.mk:(ts:List Lf)→Lf.DD ts→DQ
 |[],_=> []
 |[a],x=> [⟨a,x⟩]
 |a::b::l,x=>⟨a,x.1⟩::Lf.mk (b::l) x.2
theorem Lf.mk_inj:∀(ts:List Lf) (x y:Lf.DD ts),Lf.mk ts x=Lf.mk ts y→x=y
 |[],_,_,_=>rfl
 |[a],x,y,h=>by
  injection h with h _
  injection h
 |a::b::l,(x,u),(y,v),h=>by
  injection h with h h2
  injection h with _ h
  have h:x=y:=h
  rw[h,Lf.mk_inj (b::l) u v h2]
def aC.leaves:aC→DQ
 | .d .unit _=> []
 | .d (.arr _ t) l=> [⟨.d (.slice t),l⟩]
 | .d t x=> [⟨.d t,x⟩]
 | .ej t x=> [⟨.d t,x⟩]
 | .vec _ t l=> [⟨.d (.slice t),l⟩]
 | .mp k v l=> [⟨.d (.slice (.pair k v)),l⟩]
 | .bU _ _ _ _ _ n=> [⟨.n,n⟩]
 | .pr a b=>a.leaves++b.leaves
 | .cons a b=>a.leaves++b.leaves
 | .fn _ c=>c.leaves
 | .bx _ _ c=>c.leaves
 |_=> []
def eP.leaves:eP→DQ
 | .obj _ _ c=>c.leaves
 | .dead=> []
def SA.leaves(s:SA):DQ:=s.1.flatMap aC.leaves++s.2.flatMap eP.leaves
def AS.leaves(s:AS):DQ:=s.cl.flatMap aC.leaves++(s.dj.flatMap eP.leaves++s.news.flatMap (·.flatMap eP.leaves))
theorem cP(ts:List Lf){st:Lf.DD ts→SA}(h:∀d,SA.leaves (st d)=Lf.mk ts d)(d d':Lf.DD ts)(e:st d=st d'):d=d':=Lf.mk_inj ts d d' (by rw[←h,←h,e])
theorem eI(ts:List Lf){st:Lf.DD ts→AS}(h:∀d,AS.leaves (st d)=Lf.mk ts d)(d d':Lf.DD ts)(e:st d=st d'):d=d':=Lf.mk_inj ts d d' (by rw[←h,←h,e])
noncomputable def Entry.cv{D X Y:Type}(params:List (Option Ty))(st:D→SA)(aD:D→Prop)(add:D→Y→X)(F:D→Y)(out:X→aZ):Entry:=Entry.of params st aD (fun d=>add d (F d)) out
noncomputable def bP.cv{D X Y:Type}(st:D→AS)(aD:D→Prop)(add:D→Y→X)(F:D→Y)(out:X→Out (Exit×AS)):bP:=bP.of st aD (fun d=>add d (F d)) out
noncomputable def bJ{D:Type}(E:Entry)(st:D→SA):D→Option E.X:=fun d=>E.run (st d).1 (st d).2
noncomputable def dk{D:Type}(E:bP)(st:D→AS):D→Option E.X:=fun d=>E.run (st d)
abbrev bE{D X Y:Type}(call:D→Option X)(aD:D→Prop)(add:D→Y→X)(F:D→Y):Prop:=∀ {d:D},aD d→call d=some (add d (F d))
theorem cQ{D X Y:Type}{params:List (Option Ty)}{st:D→SA}{aD:D→Prop}{add:D→Y→X}{F:D→Y}{out:X→aZ}(hinj:∀d d',st d=st d'→d=d'):
  bE (bJ (Entry.cv params st aD add F out) st) aD add F:=fun h=>Entry.qq hinj h
theorem eK{D X Y:Type}{st:D→AS}{aD:D→Prop}{add:D→Y→X}{F:D→Y}{out:X→Out (Exit×AS)}(hinj:∀d d',st d=st d'→d=d'):
  bE (dk (bP.cv st aD add F out) st) aD add F:=fun h=>bP.qq hinj h
def DY(P:Program)(fn:Func):Bool:=P.follows .mixedOrders && fn.body.isSome && !(fn.name== "runtime.NumGoroutine")
def EI(fn:Func):Nat:=match fn.body with | some c=>(gO c).length | none=>0
theorem lP.fn{P:Program}{l:List (SG P)}{f:FuncId}{fn:Func}{an:eJ}{N:Nat}{D X Y:Type}{params:List (Option Ty)}{st:D→SA}{aD:D→Prop}{add:D→Y→X}{F:D→Y}{out:X→aZ}(n:Nat)
  (hc:(P.funcs[f]?,DY P fn,EI fn)=(some fn,true,n))
  (h:cM (@cK P (eY l) an N fn D st) aD add F out)
  (hL:DI P (eY l) an N fn n 0):lP P f (Entry.cv params st aD add F out):=by
 injection hc with h1 h2
 injection h2 with h2 h3
 unfold DY at h2
 simp only[Bool.and_eq_true,Bool.not_eq_true']at h2
 exact lP.of h2.1.1 (Sound.eY l) h1 h2.1.2 h2.2 (vr.fn n h3 hL) h
theorem As.cv{P:Program}{Γ:dV}{an:eJ}{N:Nat}{fn:Func}{i:Nat}{D X Y:Type}{st:D→AS}{aD:D→Prop}{add:D→Y→X}{F:D→Y}{out:X→Out (Exit×AS)}
  (h:eA P Γ an N fn i st aD add F out) (hle:an.fJ (dY (iT fn i))=some (bP.cv st aD add F out)):As P Γ an N (iT fn i):=As.of hle h
abbrev tu:Ty:=(.int .u64)
abbrev ti:Ty:=(.int .i64)
abbrev tb:Ty:=(.int .u8)
abbrev tB:Ty:=(.slice tb)
abbrev Bs:=(List Int)
abbrev tH:Ty:=(.arr 32 tb)
abbrev tU:Ty:=(.slice tu)
abbrev iC:Ty:=(.pair tH (.pair ti .unit))
abbrev jB:=(Bs×(Int×Unit))
abbrev jc:Ty:=(.pair tu (.pair tu .unit))
abbrev Sg:=(Int×(Int×Unit))
abbrev mK:Ty:=(.pair ti (.pair (.slice jc) (.pair tu .unit)))
abbrev j6:=(Int×((List Sg)×(Int×Unit)))
abbrev cH:Ty:=(.pair iC (.pair mK .unit))
abbrev eR:=(jB×(j6×Unit))
abbrev fo:Ty:=(.pair tU (.pair ti (.pair ti (.pair tu .unit))))
abbrev gm:=(Bs×(Int×(Int×(Int×Unit))))
abbrev kq:Ty:=(.pair (.slice fo) .unit)
abbrev Lk:=((List gm)×Unit)
abbrev eX:Ty:=(.pair ti (.pair kq .unit))
abbrev fL:=(Int×(Lk×Unit))
abbrev fw:Ty:=(.pair (.slice cH) (.pair (.slice eX) (.pair ti .unit)))
abbrev eD:=((List eR)×((List fL)×(Int×Unit)))
abbrev jm:Ty:=(.pair tB (.pair .bool .unit))
abbrev eT:=(Bs×(Bool×Unit))
abbrev Fl:Ty:=(.pair ti (.pair (.fq jc) (.pair tu .unit)))
abbrev EE:=(Int×((Option (List Sg))×(Int×Unit)))
abbrev iK:Ty:=(.pair iC (.pair Fl .unit))
abbrev j5:=(jB×(EE×Unit))
end Go.Ab
namespace Go.Ab
theorem jr{n:Int}(h1: -9223372036854775808≤n)(h2:n≤9223372036854775807):IntKind.i64.wrap n=n:=by
 simp[IntKind.wrap,IntKind.bits,IntKind.signed]
 split <;> omega
theorem fS{x y:Int}(h1: -9223372036854775808≤x+y)(h2:x+y≤9223372036854775807):bO .i64 x y=x+y:=jr h1 h2
theorem fb{x y:Int}(h1: -9223372036854775808≤x - y)(h2:x - y≤9223372036854775807):bT .i64 x y=x - y:=jr h1 h2
theorem pk{x y:Int}(h1: -9223372036854775808≤x*y)(h2:x*y≤9223372036854775807):eW .i64 x y=x*y:=jr h1 h2
theorem Ch{x:Int}(h1: -9223372036854775808≤x)(h2:x≤9223372036854775807):dJ .i64 x=x:=jr h1 h2
def vw{n:Nat}(w:BitVec n):Int:=(w.toNat:Int)
theorem fN(n:Nat)(x:Int):vw (BitVec.ofInt n x)=x%((2^n:Nat):Int):=by
 unfold vw
 rw[BitVec.toNat_ofInt]
 have:0≤x%((2^n:Nat):Int):=Int.emod_nonneg _ (by have:=Nat.two_pow_pos n;omega)
 omega
theorem qC{n:Nat}(w:BitVec n):0≤vw w:=Int.natCast_nonneg _
theorem BR{n:Nat}(w:BitVec n):vw w < ((2^n:Nat):Int):=by have:=w.isLt;unfold vw;omega
theorem jw{n:Nat}(w:BitVec n):BitVec.ofInt n (vw w)=w:=by
 apply BitVec.eq_of_toNat_eq
 have:=fN n (vw w)
 unfold vw at this ⊢
 have h:=w.isLt
 rw[Int.emod_eq_of_lt (Int.natCast_nonneg _) (by omega)]at this
 omega
theorem wrap_u32(x:Int):IntKind.u32.wrap x=vw (BitVec.ofInt 32 x):=by rw[fN];simp[IntKind.wrap,IntKind.bits,IntKind.signed]
theorem wrap_u64(x:Int):IntKind.u64.wrap x=vw (BitVec.ofInt 64 x):=by rw[fN];simp[IntKind.wrap,IntKind.bits,IntKind.signed]
theorem wrap_u8(x:Int):IntKind.u8.wrap x=vw (BitVec.ofInt 8 x):=by rw[fN];simp[IntKind.wrap,IntKind.bits,IntKind.signed]
theorem ofInt_add(n:Nat)(x y:Int):BitVec.ofInt n (x+y)=BitVec.ofInt n x+BitVec.ofInt n y:=BitVec.ofInt_add ..
theorem l5(x y:BitVec 32):bO .u32 (vw x) (vw y)=vw (x+y):=by rw[bO,wrap_u32,BitVec.ofInt_add,jw,jw]
theorem yP(x:Int):dJ .u32 x=vw (BitVec.ofInt 32 x):=wrap_u32 x
theorem uN(x:Int):dJ .u64 x=vw (BitVec.ofInt 64 x):=wrap_u64 x
theorem rT(x:Int):dJ .u8 x=vw (BitVec.ofInt 8 x):=wrap_u8 x
theorem Bj{n:Nat}(x:BitVec n):BitVec.ofInt n ((x.toNat:Nat):Int)=x:=jw x
theorem il(op:BinOp)(x y:BitVec 32):ct op .u32 (vw x) (vw y)=vw (match op with | .and=>x &&& y | .or=>x ||| y | .xor=>x^^^y | _=>x &&& ~~~y):=by
 unfold ct
 split <;> (simp only[IntKind.bits,jw,wrap_u32,Bj];rfl)
theorem zt(op:BinOp)(x y:BitVec 64):ct op .u64 (vw x) (vw y)=vw (match op with | .and=>x &&& y | .or=>x ||| y | .xor=>x^^^y | _=>x &&& ~~~y):=by
 unfold ct
 split <;> (simp only[IntKind.bits,jw,wrap_u64,Bj];rfl)
theorem AZ(x y:Nat):Int.fdiv (x:Int) (y:Int)=((x / y:Nat):Int):=by
 rw[Int.fdiv_eq_ediv_of_nonneg _ (Int.natCast_nonneg _)]
 rfl
theorem pU(k:Nat):(2:Int)^k=((2^k:Nat):Int):=by simp
theorem Dy{n:Nat}(w:BitVec n)(k:Nat):Int.fdiv (vw w) (2^(min k n))=vw (w >>> k):=by
 rw[pU]
 unfold vw
 rw[AZ,BitVec.toNat_ushiftRight,Nat.shiftRight_eq_div_pow]
 congr 1
 rcases Nat.le_total k n with hk | hk
 ·rw[Nat.min_eq_left hk]
 ·rw[Nat.min_eq_right hk,Nat.div_eq_of_lt w.isLt,Nat.div_eq_of_lt]
  exact Nat.lt_of_lt_of_le w.isLt (Nat.pow_le_pow_right (by omega) hk)
theorem nC(w:BitVec 32)(k:Int):bQ .u32 (vw w) k=vw (w >>> k.toNat):=Dy w k.toNat
theorem Dx{n:Nat}(w:BitVec n)(k:Nat):BitVec.ofInt n (vw w*2^(min k n))=w <<< k:=by
 apply BitVec.eq_of_toNat_eq
 rw[BitVec.toNat_ofInt,BitVec.toNat_shiftLeft,Nat.shiftLeft_eq]
 unfold vw
 rw[pU]
 have e:((w.toNat:Int)*((2^min k n:Nat):Int))=((w.toNat*2^min k n:Nat):Int):=by simp
 rw[e]
 have:(((w.toNat*2^min k n:Nat):Int)%((2^n:Nat):Int)).toNat=(w.toNat*2^min k n)%2^n:=by omega
 rw[this]
 rcases Nat.le_total k n with hk | hk
 ·rw[Nat.min_eq_left hk]
 ·rw[Nat.min_eq_right hk,Nat.mul_mod_left]
  obtain⟨m,rfl⟩:=Nat.exists_eq_add_of_le hk
  rw[Nat.pow_add,←Nat.mul_assoc,Nat.mul_right_comm,Nat.mul_mod_left]
theorem po(w:BitVec 32)(k:Int):gC .u32 (vw w) k=vw (w <<< k.toNat):=by rw[gC,wrap_u32];congr 1;exact Dx w k.toNat
theorem bh{i n:Int}(h1:0≤i)(h2:i < n):dS i n=true:=by simp[dS,h1,h2]
theorem kV{i n:Int}(h1:0≤i)(h2:i≤n):inc i n=true:=by simp[inc,h1,h2]
theorem bA{x y:Int}(h:x < y):gb x y=true:=by simp[gb,h]
theorem bm{x y:Int}(h:¬x < y):gb x y=false:=by simp[gb];omega
theorem j7{x y:Int}(h:x≤y):tK x y=true:=by simp[tK,h]
theorem je{x y:Int}(h:¬x≤y):tK x y=false:=by simp[tK];omega
theorem dG{x y:Int}(h:x > y):mv x y=true:=by simp[mv];omega
theorem dx{x y:Int}(h:¬x > y):mv x y=false:=by simp[mv];omega
theorem fF{x y:Int}(h:x≥y):l6 x y=true:=by simp[l6];omega
theorem eM{x y:Int}(h:¬x≥y):l6 x y=false:=by simp[l6];omega
theorem dq{x y:Int}(h:x=y):kR x y=true:=by simp[kR,h]
theorem eC{x y:Int}(h:¬x=y):kR x y=false:=by simp[kR,h]
theorem dA{x y:Int}(h:¬x=y):gM x y=true:=by simp[gM,h]
theorem bM{x y:Int}(h:x=y):gM x y=false:=by simp[gM,h]
theorem ke{x:Int}(h:0≤x):gR x=true:=by simp[gR,h]
theorem aR{p:Prop} [Decidable p] (h:p):decide p=true:=by simp[h]
theorem aO{p:Prop} [Decidable p] (h:¬p):decide p=false:=by simp[h]
theorem eN{n b:Nat}(h:n*b≤140737488355328)(h2:n≤9223372036854775807):du n b=true:=by simp[du,h,h2]
def from_{α:Type}(f:Nat→α→α)(t:Nat)(l:List α):List α:=l.mapIdx fun i x=>if i < t then x else f i x
theorem nX{α:Type}(f:Nat→α→α)(l:List α)(t:Nat)(h:t < l.length):from_ f (t+1) (l.set t (f t l[t]))=from_ f t l:=by
 unfold from_
 apply List.ext_getElem (by simp)
 intro i h1 h2
 simp only[List.getElem_mapIdx,List.getElem_set]
 by_cases hi:t=i
 ·subst hi;simp
 ·simp only[if_neg hi]
  by_cases h3:i < t
  ·rw[if_pos (by omega),if_pos h3]
  ·rw[if_neg (by omega),if_neg h3]
theorem pj{α:Type}(f:Nat→α→α)(l:List α)(t:Nat)(h:l.length≤t):from_ f t l=l:=by
 unfold from_
 apply List.ext_getElem (by simp)
 intro i h1 h2
 simp only[List.getElem_mapIdx]
 rw[if_pos (by omega)]
theorem rO{α:Type}(f:Nat→α→α)(n:Nat)(x:α):from_ f 0 (List.replicate n x)=(List.range n).map fun i=>f i x:=by
 unfold from_
 apply List.ext_getElem (by simp)
 intro i h1 h2
 simp
theorem bZ{t:Ty}{l:List t.den}{i:Nat}(h:i < l.length):nth t l i=l[i]:=by simp[nth,h]
end Go.Ab
namespace Go.Ab.N
section
variable {α:Type} {x y:Option α} {a b n:Nat} {i j:Int}
theorem lt:aF (gb i j) x y=if i < j then x else y:=by unfold gb;split <;> rename_i h <;> simp[h]
theorem le:aF (tK i j) x y=if i≤j then x else y:=by unfold tK;split <;> rename_i h <;> simp[h]
theorem gt:aF (mv i j) x y=if j < i then x else y:=by unfold mv;split <;> rename_i h <;> simp[h]
theorem ge:aF (l6 i j) x y=if j≤i then x else y:=by unfold l6;split <;> rename_i h <;> simp[h]
theorem eq:aF (kR i j) x y=if i=j then x else y:=by
 by_cases h:i=j
 ·rw[dq h,if_pos h];rfl
 ·rw[eC h,if_neg h];rfl
theorem ne:aF (gM i j) x y=if i=j then y else x:=by
 by_cases h:i=j
 ·rw[bM h,if_pos h];rfl
 ·rw[dA h,if_neg h];rfl
theorem ib:aF (dS i j) x y=if 0≤i∧i < j then x else y:=by unfold dS;split <;> rename_i h <;> simp[h]
theorem ic:aF (inc i j) x y=if 0≤i∧i≤j then x else y:=by unfold inc;split <;> rename_i h <;> simp[h]
theorem nn:aF (gR i) x y=if 0≤i then x else y:=by unfold gR;split <;> rename_i h <;> simp[h]
theorem nz:aF (iN i) x y=if i=0 then y else x:=by unfold iN;split <;> rename_i h <;> simp[h]
theorem dc{p:Prop} [Decidable p]:aF (decide p) x y=if p then x else y:=by split <;> rename_i h <;> simp[h]
theorem rm:aF (du n b) x y=if n*b≤140737488355328∧n≤9223372036854775807 then x else y:=by unfold du;exact dc
theorem an{c d:Bool}:aF (c && d) x y=aF c (aF d x y) y:=by cases c <;> rfl
theorem or{c d:Bool}:aF (c || d) x y=aF c x (aF d x y):=by cases c <;> rfl
theorem no{c:Bool}:aF (!c) x y=aF c y x:=by cases c <;> rfl
theorem Ev(h:a+b≤9223372036854775807):bO .i64 (a:Int) (b:Int)=((a+b:Nat):Int):=by rw[fS (by omega) (by omega)];omega
theorem kr(h:a+OfNat.ofNat n≤9223372036854775807):bO .i64 (a:Int) (no_index (OfNat.ofNat n))=((a+OfNat.ofNat n:Nat):Int):=Ev h
theorem E9(h:OfNat.ofNat n+a≤9223372036854775807):bO .i64 (no_index (OfNat.ofNat n)) (a:Int)=((OfNat.ofNat n+a:Nat):Int):=Ev h
theorem Ez(h:b≤a)(h2:a≤9223372036854775807):bT .i64 (a:Int) (b:Int)=((a - b:Nat):Int):=by rw[fb (by omega) (by omega)];omega
theorem Fh(h:OfNat.ofNat n≤a)(h2:a≤9223372036854775807):bT .i64 (a:Int) (no_index (OfNat.ofNat n))=((a - OfNat.ofNat n:Nat):Int):=Ez h h2
theorem Fg(h:a≤OfNat.ofNat n)(h2:(OfNat.ofNat n:Nat)≤9223372036854775807):bT .i64 (no_index (OfNat.ofNat n)) (a:Int)=((OfNat.ofNat n - a:Nat):Int):=Ez h h2
theorem Ey(h:a*b≤9223372036854775807):eW .i64 (a:Int) (b:Int)=((a*b:Nat):Int):=by
 have e:(a:Int)*(b:Int)=((a*b:Nat):Int):=by simp
 rw[pk (by omega) (by omega),e]
theorem Fe(h:a*OfNat.ofNat n≤9223372036854775807):eW .i64 (a:Int) (no_index (OfNat.ofNat n))=((a*OfNat.ofNat n:Nat):Int):=Ey h
theorem Dl(h:OfNat.ofNat n*a≤9223372036854775807):eW .i64 (no_index (OfNat.ofNat n)) (a:Int)=((OfNat.ofNat n*a:Nat):Int):=Ey h
theorem ES(h:a≤9223372036854775807):kX .i64 (a:Int) (b:Int)=((a / b:Nat):Int):=by
 have:(a:Int).tdiv (b:Int)=((a / b:Nat):Int):=by rw[Int.tdiv_eq_ediv_of_nonneg (by omega)];simp
 have hl:a / b≤a:=Nat.div_le_self a b
 unfold kX
 rw[this]
 generalize a / b=c at hl
 exact jr (by omega) (by omega)
theorem Ff(h:a≤9223372036854775807):kX .i64 (a:Int) (no_index (OfNat.ofNat n))=((a / OfNat.ofNat n:Nat):Int):=ES h
theorem EU:jl (a:Int) (b:Int)=((a%b:Nat):Int):=by
 unfold jl
 rw[Int.tmod_eq_emod_of_nonneg (by omega)]
 simp
theorem ET:jl (a:Int) (no_index (OfNat.ofNat n))=((a%OfNat.ofNat n:Nat):Int):=EU
theorem cN(h:a≤9223372036854775807):dJ .i64 (a:Int)=(a:Int):=Ch (by omega) (by omega)
theorem cL(h:(OfNat.ofNat n:Nat)≤9223372036854775807):dJ .i64 (no_index (OfNat.ofNat n))=OfNat.ofNat n:=cN h
theorem tL:Int.toNat (no_index (OfNat.ofNat n))=OfNat.ofNat n:=rfl
end
end Go.Ab.N
namespace Go.Ab
section
variable {P:Program}
theorem AW{E E':Env}(h1:E'.w=E.w)(h2:E'.g=E.g)(h3:E'.β=E.β)(h4:E'.s=E.s):E'=E:=by
 obtain⟨a,b,c,d⟩:=E
 obtain⟨a',b',c',d'⟩:=E'
 simp only at h1 h2 h3 h4
 subst h1 h2 h3 h4
 rfl
theorem na.same{w:World}{g:Nat→ix}{β:Id→Option Pl}{dj:List eP}{a:aC}{v:Value}(hv:VS ((iy dj).env w g β) a v)(ho:gz ((iy dj).env w g β)):
  na ((iy dj).env w g β) ⟨a,dj,[]⟩ v w:=by
 have hE:(aZ.st ⟨a,dj,[]⟩).env w g β=(iy dj).env w g β:=by
  refine AW rfl rfl rfl ?_
  funext id
  cases id with
  |fK k=>rfl
  |new i j=>
   show([([]:List eP)].getD i [])[j]? =(([]:List (List eP)).getD i [])[j]?
   cases i <;> rfl
 refine⟨g,β,?_⟩
 rw[hE]
 exact⟨hv,ho,Trans.refl w g,cW.refl _⟩
theorem lP.extern{f:FuncId}{fn:Func}{e:Array Value→Sem Value}(hf:P.funcs[f]? =some fn)(hname:(fn.name== "runtime.NumGoroutine")=false)(hb:fn.body.isNone=true)(hn:Extern.findNext fn=none)(he:Extern.find fn=some e){en:Entry}
  (h:∀w g β args dj jz x,o8 ((iy dj).env w g β) args jz→gz ((iy dj).env w g β)→en.run args dj=some x→∃v,(e jz.toArray).run P w= .ok v w∧na ((iy dj).env w g β) (en.out args dj x) v w):lP P f en:=by
 intro w g β args dj jz x h1 h2 h3
 obtain⟨v,h4,h5⟩:=h w g β args dj jz x h1 h2 h3
 refine .inr ⟨v,w,?_,h5⟩
 rw[run_callFunc_extern hf hname hb hn he,h4]
 rfl
def CT.E:Entry:= {params:=[none],X:=Unit,run:=fun args _=>match args with | [_]=>some () | _=>none,out:=fun args dj _=>⟨args.headD .undef,dj,[]⟩}
theorem CT.of{f:FuncId}{fn:Func}(hf:P.funcs[f]? =some fn)(hname:(fn.name== "runtime.NumGoroutine")=false)(hb:fn.body.isNone=true)(hn:Extern.findNext fn=none)(he:Extern.find fn=some Extern.AbiNoEscape.same):lP P f CT.E:=by
 refine lP.extern hf hname hb hn he fun w g β args dj jz x h1 h2 h3=> ?_
 cases args with
 |nil=>cases h3
 |cons a as=>
  cases as with
  |cons _ _=>cases h3
  |nil=>
   cases jz with
   |nil=>exact h1.elim
   |cons v vs=>
    obtain⟨h4,h5⟩:=h1
    cases vs with
    |cons _ _=>exact h5.elim
    |nil=>exact⟨v,rfl,na.same h4 h2⟩
noncomputable def BY.E:Entry:=Entry.of (D:=ByteArray×Int) (X:=Int) [some .str,some (.int .u8)] (fun d=>([.d .str d.1,.d (.int .u8) d.2],[])) (fun _=>True) (fun d=>firstIdx d.1 d.2.toNat.toUInt8) (fun x=>⟨.d (.int .i64) x,[],[]⟩)
theorem BY.inj:∀d d':ByteArray×Int,(([aC.d .str d.1,aC.d (.int .u8) d.2],([]:List eP)):List aC×List eP)=([.d .str d'.1,.d (.int .u8) d'.2],[])→d=d':=by
 rintro⟨a,b⟩ ⟨a',b'⟩ h
 have e1:a=a':=CJ (t:= .str) (congrArg (fun s:List aC×List eP=>s.1.getD 0 .undef) h)
 have e2:b=b':=CJ (t:= .int .u8) (congrArg (fun s:List aC×List eP=>s.1.getD 1 .undef) h)
 rw[e1,e2]
noncomputable def BY.call:ByteArray×Int→Option Int:=fun d=>BY.E.run [.d .str d.1,.d (.int .u8) d.2] []
theorem BY.run(d:ByteArray×Int):BY.call d=some (firstIdx d.1 d.2.toNat.toUInt8):=Entry.qq (d:=d) BY.inj trivial
theorem BY.of{f:FuncId}{fn:Func}(hf:P.funcs[f]? =some fn)(hname:(fn.name== "runtime.NumGoroutine")=false)(hb:fn.body.isNone=true)(hn:Extern.findNext fn=none)(he:Extern.find fn=some Extern.BytealgIndexByte.indexByte):lP P f BY.E:=by
 refine lP.extern hf hname hb hn he fun w g β args dj jz x h1 h2 h3=> ?_
 have hx:∃d:ByteArray×Int,(([aC.d .str d.1,aC.d (.int .u8) d.2],([]:List eP)):List aC×List eP)=(args,dj):=by
  by_cases hh:∃d:ByteArray×Int,(([aC.d .str d.1,aC.d (.int .u8) d.2],([]:List eP)):List aC×List eP)=(args,dj)
  ·exact hh
  ·exfalso
   have hn:BY.E.run args dj=none:=dif_neg fun⟨d,h,_⟩=>hh ⟨d,h⟩
   rw[hn]at h3
   cases h3
 obtain⟨d,hd⟩:=hx
 simp only[Prod.mk.injEq]at hd
 obtain⟨rfl,rfl⟩:=hd
 have hr:=BY.run d
 have hx:x=firstIdx d.1 d.2.toNat.toUInt8:=Option.some.inj (h3.symm.trans hr)
 subst hx
 match jz,h1 with
 |[u,v],⟨h4,h5,_⟩=>
  refine⟨.int .i64 (firstIdx d.1 d.2.toNat.toUInt8),?_,na.same (gJ _ _) h2⟩
  rw[mJ h4,kW h5]
  exact run_indexByte_string d.1 d.2 w
def EF{X Y:Type} [Inhabited Y] (x:Option X):Option (X×Y):=ae x fun y=>some (y,default)
def EG{X Y:Type} [Inhabited X] (x:Option Y):Option (X×Y):=ae x fun y=>some (default,y)
@[simp] theorem DJ{X Y:Type} [Inhabited Y] (x:X):EF (Y:=Y) (some x)=some (x,default):=rfl
@[simp] theorem DK{X Y:Type} [Inhabited X] (x:Y):EG (X:=X) (some x)=some (default,x):=rfl
end
theorem S1:(type_of% @N.lt)∧(type_of% @N.le)∧(type_of% @N.gt)∧(type_of% @N.ge)∧(type_of% @N.eq)∧(type_of% @N.ne)∧(type_of% @N.ib)∧(type_of% @N.ic)∧(type_of% @N.nn)∧(type_of% @N.nz)∧(type_of% @N.dc)∧(type_of% @N.rm)∧(type_of% @N.an)∧(type_of% @N.or)∧(type_of% @N.no)∧(type_of% @ay)∧(type_of% @ao)∧(type_of% @aa):=⟨@N.lt,@N.le,@N.gt,@N.ge,@N.eq,@N.ne,@N.ib,@N.ic,@N.nn,@N.nz,@N.dc,@N.rm,@N.an,@N.or,@N.no,@ay,@ao,@aa⟩
theorem S2:(type_of% @aa)∧(type_of% @N.Ev)∧(type_of% @N.kr)∧(type_of% @N.E9)∧(type_of% @N.Ez)∧(type_of% @N.Fh)∧(type_of% @N.Fg)∧(type_of% @N.Ey)∧(type_of% @N.Fe)∧(type_of% @N.Dl)∧(type_of% @N.ES)∧(type_of% @N.Ff)∧(type_of% @N.EU)∧(type_of% @N.ET)∧(type_of% @N.cN)∧(type_of% @N.cL)∧(type_of% @N.tL)∧(type_of% @Int.toNat_natCast)∧(type_of% @and_self)∧(type_of% @true_and)∧(type_of% @and_true):=⟨@aa,@N.Ev,@N.kr,@N.E9,@N.Ez,@N.Fh,@N.Fg,@N.Ey,@N.Fe,@N.Dl,@N.ES,@N.Ff,@N.EU,@N.ET,@N.cN,@N.cL,@N.tL,@Int.toNat_natCast,@and_self,@true_and,@and_true⟩
end Go.Ab
namespace Go.Ab
open Go.ChangeShapes Go.WideShapes Go.ChangeAt Go.RowKit Go.Deep
def vu:(t:Ty)→t.den→Prop
 | .int k,x=>(Lit.int k x).wf=true
 | .bool,_=>True
 | .str,s=>(s:ByteArray).size≤maxLen
 | .slice t,l=>(l:List t.den).length≤maxLen∧∀x∈(l:List t.den),vu t x
 | .unit,_=>True
 | .pair a b,x=>vu a x.1∧vu b x.2
 | .arr n t,l=>(l:List t.den).length=n∧∀x∈(l:List t.den),vu t x
 | .fq _,_=>False
def kU(P:Program)(rd:TypeId→Ty→Bool):Nat→List Field→Ty→Bool
 |_,[],.unit=>true
 |off,f::fs,.pair a b=>Nat.beq f.offset off && (rd f.type a && (Nat.beq (P.cellsOf f.type) a.size && kU P rd (off+a.size) fs b))
 |_,_,_=>false
def lK(P:Program):Nat→TypeId→Ty→Bool
 | 0,_,_=>false
 |n+1,T,ty=>
  match P.underlying T,ty with
  |some (.int k),.int k'=>decide (k=k')
  |some .bool,.bool=>true
  |some .string,.str=>true
  |some (.slice e),.slice t=>lK P n e t && Nat.beq (P.cellsOf e) t.size
  |some (.array k e),.arr k' t=>Nat.beq k k' && (lK P n e t && (Nat.beq (P.cellsOf e) t.size && Nat.beq (P.cellsOf T) (k*t.size)))
  |some (.struct fs),ty=>kU P (lK P n) 0 fs.toList ty && Nat.beq (P.cellsOf T) ty.size
  |_,_=>false
theorem B5{a b:Nat}:(Nat.beq a b=true)=(a=b):=propext ⟨Nat.eq_of_beq_eq_true,fun h=>by subst h;exact Nat.beq_refl a⟩
theorem wy{α β:Type}{f:α→Option β}:∀ {l:List α} {r:List β},l.mapM f=some r→r.length=l.length∧∀(i:Nat) (x:α),l[i]? =some x→f x=r[i]?
 |[],r,h=>by
  simp only[List.mapM_nil,Option.pure_def,Option.some.injEq]at h
  subst h
  exact⟨rfl,fun i x h=>by simp at h⟩
 |y::l,r,h=>by
  simp only[List.mapM_cons,Option.bind_eq_bind,Option.pure_def,Option.bind_eq_some_iff,Option.some.injEq]at h
  obtain⟨b,hb,r',hr,rfl⟩:=h
  obtain⟨h1,h2⟩:=wy hr
  refine⟨by simp[h1],fun i x hi=> ?_⟩
  cases i with
  |zero=>
   simp only[List.getElem?_cons_zero,Option.some.injEq]at hi
   subst hi
   simpa using hb
  |succ i=>
   simp only[List.getElem?_cons_succ]at hi ⊢
   exact h2 i x hi
theorem zE{w:World}{base:Nat}{a:Addr}{n:Nat}{cs:List Value}(h:w.cells? base a n=some cs):cs.length=n∧∀i,i < n→w.cell? (a.add i)=cs[i]? :=by
 unfold World.cells? at h
 split at h
 ·obtain⟨h1,h2⟩:=wy h
  exact⟨by simpa using h1,fun i hi=>h2 i i (by simp[hi])⟩
 ·cases h
theorem add_add(a:Addr)(x y:Nat):(a.add x).add y=a.add (x+y):=by
 unfold Addr.add
 by_cases hx:x=0 <;> by_cases hy:y=0 <;> simp[hx,hy,Nat.add_assoc]
theorem Ak{w:World}{a:Addr}{v:Value}(h:w.cell? a=some v):a.spot=none:=by
 unfold World.cell? at h
 split at h
 ·split at h
  ·cases h
  ·rename_i hs
   cases hh:a.spot with
   |none=>rfl
   |some _=>simp[hh]at hs
 ·cases h
theorem Dv{E:Env}(hg:∀b,E.g b= .free){a:Addr}{vs:List Value}(h:∀i,i < vs.length→E.w.cell? (a.add i)=vs[i]?):nf E (some a) vs:=by
 intro i v hv
 have hi:i < vs.length:=(List.getElem?_eq_some_iff.1 hv).1
 have h0:=h 0 (by omega)
 rw[List.getElem?_eq_getElem (by omega)]at h0
 have hs:a.spot=none:=Ak (a:=a) (by simpa[Addr.add]using h0)
 obtain⟨b,off,sp⟩:=a
 simp only at hs
 subst hs
 refine⟨b,off,rfl,?_,?_⟩
 ·have:=h i hi
  rw[hv]at this
  rw[←this]
  unfold Addr.add
  split
  ·rename_i h;subst h;rfl
  ·rfl
 ·unfold kf
  rw[hg b]
  trivial
section
variable {H:Type} {enc:TypeId×Value→H} {P:Program} {base:Nat} {spare:Nat→Bool} {held:Bool} {E:Env}
theorem zg{t:Ty}{R:List Value→t.den→Prop}{G:t.den→Prop}{w:World}{a:Addr}{z:Nat}(hR:∀c x,R c x→c.length=z):∀(len:Nat),(∀i,i < len→∃c x,R c x∧G x∧∀j,j < z→w.cell? (a.add (i*z+j))=c[j]?)→
  ∃(vs:List Value) (l:List t.den),vs.length=len*z∧l.length=len∧(∀i,i < vs.length→w.cell? (a.add i)=vs[i]?)∧bg R vs l∧∀x∈l,G x
 | 0,_=>⟨[],[],by simp,rfl,fun i h=>by simp at h,rfl,fun _ h=>by cases h⟩
 |len+1,h=>by
  obtain⟨vs,l,h1,h2,h3,h4,h5⟩:=zg hR len fun i hi=>h i (by omega)
  obtain⟨c,x,g1,g2,g3⟩:=h len (by omega)
  have hc:=hR c x g1
  refine⟨vs++c,l++ [x],by rw[List.length_append,h1,hc,Nat.add_mul,Nat.one_mul],by rw[List.length_append,h2];rfl,fun i hi=> ?_,bg.append h4 ⟨c,[],by simp,g1,rfl⟩,fun y hy=> ?_⟩
  ·rw[List.length_append,h1,hc]at hi
   by_cases hl:i < vs.length
   ·rw[h3 i hl,List.getElem?_append_left hl]
   ·rw[List.getElem?_append_right (by omega),h1,←g3 (i - len*z) (by omega),show len*z+(i - len*z)=i by omega]
  ·rcases List.mem_append.1 hy with hy | hy
   ·exact h5 y hy
   ·rw[List.mem_singleton.1 hy];exact g2
theorem tv{t:Ty}{R:List Value→t.den→Prop}{G:t.den→Prop}{z:Nat}:∀(n:Nat) (cs:List Value),cs.length=n*z→(∀i,i < n→∃x,R ((cs.drop (i*z)).take z) x∧G x)→
  ∃l:List t.den,l.length=n∧bg R cs l∧∀x∈l,G x
 | 0,cs,h,_=>⟨[],rfl,List.eq_nil_of_length_eq_zero (by simpa using h),fun _ h=>by cases h⟩
 |n+1,cs,h,hi=>by
  obtain⟨x,g1,g2⟩:=hi 0 (by omega)
  obtain⟨l,h1,h2,h3⟩:=tv (R:=R) (G:=G) (z:=z) n (cs.drop z) (by rw[List.length_drop,h,Nat.add_mul];omega) fun i hin=>by
   obtain⟨y,k1,k2⟩:=hi (i+1) (by omega)
   refine⟨y,?_,k2⟩
   rw[List.drop_drop,show z+i*z=(i+1)*z by rw[Nat.add_mul];omega]
   exact k1
  refine⟨x::l,by simp[h1],⟨cs.take z,cs.drop z,(List.take_append_drop z cs).symm,by simpa using g1,h2⟩,fun y hy=> ?_⟩
  rcases List.mem_cons.1 hy with rfl | hy
  ·exact g2
  ·exact h3 y hy
theorem qQ{rd:TypeId→Ty→Bool}{cs:List Value}:∀(fs:List Field) (off:Nat) (ty:Ty),kU P rd off fs ty=true→off+ty.size≤cs.length→
  (∀f∈fs,∀t,rd f.type t=true→P.cellsOf f.type=t.size→∃v,cT E t ((cs.drop f.offset).take (P.cellsOf f.type)) v∧vu t v)→∃v,cT E ty ((cs.drop off).take ty.size) v∧vu ty v
 |[],off,ty,h,hl,_=>by
  cases ty <;> simp only[kU]at h <;> first | cases h | skip
  exact⟨(),by simp[cT,Ty.size],trivial⟩
 |f::fs,off,ty,h,hl,hf=>by
  cases ty <;> simp only[kU]at h <;> first | cases h | skip
  rename_i a b
  simp only[Bool.and_eq_true,B5]at h
  obtain⟨h1,h2,h3,h4⟩:=h
  have hl:off+(a.size+b.size)≤cs.length:=hl
  obtain⟨v,k1,k2⟩:=hf f (List.mem_cons_self ..) a h2 h3
  obtain⟨u,k3,k4⟩:=qQ fs (off+a.size) b h4 (by omega) fun f' hf'=>hf f' (List.mem_cons_of_mem _ hf')
  refine⟨(v,u),⟨(cs.drop off).take a.size,(cs.drop (off+a.size)).take b.size,?_,?_,k3⟩,k2,k4⟩
  ·rw[show Ty.size (.pair a b)=a.size+b.size from rfl,List.take_add,List.drop_drop]
  ·rw[h1,h3]at k1;exact k1
theorem pG(hg:∀b,E.g b= .free):∀(n:Nat) (T:TypeId) (ty:Ty),lK P n T ty=true→∀ {fuel:Nat} {cs:List Value} {x:DataW H×List MemPlace},DataW.trod enc P E.w base spare held fuel T cs=some x→∃v,cT E ty cs v∧vu ty v
 | 0,_,_,h,_,_,_,_=>by simp[lK]at h
 |n+1,T,ty,h,fuel,cs,x,hx=>by
  unfold lK at h
  split at h
  ·rename_i k k' hu
   obtain rfl:=of_decide_eq_true h
   obtain⟨m,rfl,_,hw⟩:=DataW.trod_int hu hx
   exact⟨m,rfl,hw⟩
  ·rename_i hu
   obtain⟨b,rfl,_⟩:=DataW.trod_bool hu hx
   exact⟨b,rfl,trivial⟩
  ·rename_i hu
   obtain⟨s,rfl,_,hs⟩:=DataW.trod_string hu hx
   exact⟨s,rfl,hs⟩
  ·rename_i e t hu
   simp only[Bool.and_eq_true,B5]at h
   obtain⟨h1,h2⟩:=h
   rcases open_slice hu hx with⟨rfl,_⟩ | ⟨a,len,cap,m,f,D,Pl,rfl,_,hl,hm,hmm,_,he⟩
   ·exact⟨([]:List t.den),⟨none,0,[],rfl,Nat.le_refl _,fun h=>by simp at h,fun i v hv=>by simp at hv,rfl⟩,Nat.zero_le _,fun _ h=>by cases h⟩
   ·have hlm:len≤m:=by rw[hmm];split <;> omega
    obtain⟨vs,l,k1,k2,k3,k4,k5⟩:=zg (t:=t) (R:=cT E t) (G:=vu t) (w:=E.w) (a:=a) (z:=t.size) (fun c x h=>cT.size h) len fun i hi=>by
     obtain⟨cs',g1,g2⟩:=he i (by omega)
     obtain⟨v,g3,g4⟩:=pG hg n e t h1 g2
     obtain⟨g5,g6⟩:=zE g1
     refine⟨cs',v,g3,g4,fun j hj=> ?_⟩
     rw[←g6 j (by omega),add_add,h2]
    refine⟨l,⟨some a,cap,vs,by rw[k2],by rw[k2];exact hl,fun _=>rfl,Dv hg k3,k4⟩,by rw[k2];omega,k5⟩
  ·rename_i k e k' t hu
   simp only[Bool.and_eq_true,B5]at h
   obtain⟨rfl,h1,h2,h3⟩:=h
   obtain⟨xs,m,rfl,_,hl,hxl,he⟩:=DataW.trod_array hu hx
   obtain⟨l,k1,k2,k3⟩:=tv (t:=t) (R:=cT E t) (G:=vu t) (z:=t.size) k cs (by rw[hl,h3]) fun i hi=>by
    have:=he i hi
    rw[List.getElem?_eq_getElem (by omega),h2]at this
    exact pG hg n e t h1 this
   exact⟨l,⟨k1,k2⟩,k1,k3⟩
  ·rename_i ty fs hu
   simp only[Bool.and_eq_true,B5]at h
   obtain⟨h1,h2⟩:=h
   obtain⟨xs,m,rfl,_,hl,hxl,he⟩:=DataW.trod_struct hu hx
   obtain⟨v,k1,k2⟩:=qQ (E:=E) (cs:=cs) fs.toList 0 _ h1 (by rw[hl,h2];omega) fun f hf t ht hc=>by
    obtain⟨i,hi,hfi⟩:=List.mem_iff_getElem.1 hf
    have hi':i < fs.size:=by simpa using hi
    have:=he i f (by rw[←hfi];simp[hi'])
    rw[List.getElem?_eq_getElem (by omega)]at this
    exact pG hg n f.type t ht this
   refine⟨v,?_,k2⟩
   rwa[List.drop_zero,List.take_of_length_le (by omega)]at k1
  ·cases h
end
end Go.Ab
namespace Go.Ab
open Go.ChangeShapes Go.WideShapes Go.ChangeAt Go.RowKit Go.Deep
section
variable {H:Type} {enc:TypeId×Value→H} {P:Program} {base b0:Nat} {spare:Nat→Bool} {held:Bool} {E:Env} {W:World}
theorem xP{rd:TypeId→Ty→Bool}{fs:List Field}{off:Nat}{ty:Ty}(h:kU P rd off fs ty=true):ty.agg=true:=by
 cases fs <;> cases ty <;> first | rfl | (simp[kU]at h)
theorem BB(hw:E.w=W)(hg:∀b,E.g b= .free){n:Nat}{t:TypeId}{ty:Ty}(h:lK P n t ty=true){v:Value}{d:DataW H}{ps:List MemPlace}(hval:Value.okWide P W .any base t v)(hd:DataW.Trod enc P W b0 spare held t v d ps):
  ∃x:ty.den,VS E (.d ty x) v∧vu ty x:=by
 subst hw
 obtain⟨fuel,hf⟩:=hd
 obtain⟨x,h1,h2⟩:=pG hg n t ty h hf
 refine⟨x,⟨v.cells.toList,h1,?_⟩,h2⟩
 cases n with
 |zero=>simp[lK]at h
 |succ n=>
  unfold lK at h
  split at h
  ·rename_i k k' hu
   obtain⟨m,rfl⟩:=okWide_int hu hval
   rfl
  ·rename_i hu
   obtain⟨m,rfl⟩:=okWide_bool hu hval
   rfl
  ·rename_i hu
   obtain⟨m,rfl⟩:=okWide_string hu hval
   rfl
  ·rename_i hu
   obtain⟨a,len,cap,rfl⟩:=okWide_slice hu hval
   rfl
  ·rename_i hu
   simp only[Value.okWide,hu]at hval
   obtain⟨cs,rfl,_⟩:=hval
   show _=_
   simp[Value.cells]
  ·rename_i fs hu
   simp only[Value.okWide,hu]at hval
   obtain⟨cs,rfl,_⟩:=hval
   simp only[Bool.and_eq_true]at h
   have:=xP h.1
   simp only[aC.agg,this,fe,Value.cells,Array.toArray_toList]
  ·cases h
def DV:List Ty→Type
 |[]=>Unit
 |t::ts=>t.den×DV ts
def DV.jz:(ts:List Ty)→DV ts→List aC
 |[],_=> []
 |t::ts,x=> .d t x.1::DV.jz ts x.2
def DV.E0:(ts:List Ty)→DV ts→Prop
 |[],_=>True
 |t::ts,x=>vu t x.1∧DV.E0 ts x.2
def jY(P:Program)(n:Nat):List TypeId→List Ty→Bool
 |[],[]=>true
 |T::Ts,t::ts=>lK P n T t && jY P n Ts ts
 |_,_=>false
theorem tV(hw:E.w=W)(hg:∀b,E.g b= .free){n:Nat}:∀ {Ts:List TypeId} {ts:List Ty} {vs:List Value} {ds:List (DataW H)} {ps:List MemPlace},jY P n Ts ts=true→
  (∀(j:Nat) t v,Ts[j]? =some t→vs[j]? =some v→Value.okWide P W .any base t v)→DataW.TrodAll enc P W b0 spare held Ts vs ds ps→∃x:DV ts,o8 E (DV.jz ts x) vs∧DV.E0 ts x
 |[],[],vs,ds,ps,_,_,h=>by
  obtain⟨rfl,rfl,rfl⟩:=trodAll_nil h
  exact⟨(),trivial,trivial⟩
 |T::Ts,[],_,_,_,h,_,_=>by simp[jY]at h
 |[],t::ts,_,_,_,h,_,_=>by simp[jY]at h
 |T::Ts,t::ts,vs,ds,ps,h,hval,hd=>by
  simp only[jY,Bool.and_eq_true]at h
  obtain⟨v,vs',d,ds',p,q,rfl,rfl,rfl,h1,h2⟩:=trodAll_cons hd
  obtain⟨x,k1,k2⟩:=BB hw hg h.1 (hval 0 T v rfl rfl) h1
  obtain⟨y,k3,k4⟩:=tV hw hg h.2 (fun j t v hj hv=>hval (j+1) t v (by simpa using hj) (by simpa using hv)) h2
  exact⟨(x,y),⟨k1,k3⟩,⟨k2,k4⟩⟩
def kj(P:Program)(Ts:List TypeId):Bool:=Ts.all fun t=>P.readableRec t && decide (t < P.types.size)
theorem oB(hl:laidOutB P=true){W':World}(hb:Below W.heap.size W W')(sp:Nat→Bool):∀ {Ts:List TypeId} {vs:List Value} {ds:List (DataW H)} {ps:List MemPlace},kj P Ts=true→(∀p∈ps,p.block < W.heap.size)→(∀p∈ps,sp p.block=true)→
  DataW.TrodAll enc P W 0 (fun _=>true) true Ts vs ds ps→DataW.TrodAll enc P W' 0 sp true Ts vs ds ps
 |[],vs,ds,ps,_,_,_,h=>by
  obtain⟨rfl,rfl,rfl⟩:=trodAll_nil h
  exact trodAll_mk0
 |T::Ts,vs,ds,ps,hr,hlt,hs,h=>by
  obtain⟨v,vs',d,ds',p,q,rfl,rfl,rfl,h1,h2⟩:=trodAll_cons h
  simp only[kj,List.all_cons,Bool.and_eq_true,decide_eq_true_eq]at hr
  have h3:=WideElems.Trod_stays hl hr.1.1 hr.1.2 h1 (fun x hx=>hb.same (hlt x (List.mem_append.2 (.inl hx)))) (fun x hx=>hs x (List.mem_append.2 (.inl hx)))
  exact⟨p,q,h3,oB hl hb sp (by simpa[kj]using hr.2) (fun x hx=>hlt x (List.mem_append.2 (.inr hx))) (fun x hx=>hs x (List.mem_append.2 (.inr hx))) h2,rfl⟩
end
theorem nR{H:Type}{enc:TypeId×Value→H}{P:Program}{W:World}{b0:Nat}{spare:Nat→Bool}{held:Bool}:∀ {Ts:List TypeId} {vs:List Value} {ds:List (DataW H)} {ps:List MemPlace},DataW.TrodAll enc P W b0 spare held Ts vs ds ps→ds.length=Ts.length
 |[],_,_,_,h=>by
  obtain⟨_,rfl,_⟩:=trodAll_nil h
  rfl
 |_::_,_,_,_,h=>by
  obtain⟨v,vs',d,ds',p,q,rfl,rfl,rfl,h1,h2⟩:=trodAll_cons h
  simp[nR h2]
theorem wT{H:Type}{enc:TypeId×Value→H}{P:Program}{f:Func}{s:ChangeSpec}{W W':World}{args:Array Value}{v:Value}{ds gs:List (DataW H)}{before:List MemPlace}{tb:TypeId}
  (hl:laidOutB P=true) (hra:kj P f.params.toList=true) (hvars:s.vars=[]) (htb:f.resultTypes= #[tb]) (hub:P.underlying tb=some .bool)
  (hW:DataW.Whole enc P f.params.toList s.vars false W args.toList ds gs before) (hfn:s.fn H (ds++gs)= {results:=[.lit (.bool true)],args:=ds}) (hb:Below W.heap.size W W') (hv:v= .bool true):
  s.post enc P f false true false false W args v W':=by
 subst hv
 have hW':=hW
 have hold:∀p∈before,(fun b=>decide (b < W.heap.size)) p.block=true:=fun p hp=>by simpa using hW.lt p hp
 obtain⟨p,q,hA,hV,rfl,hz,_⟩:=hW
 rw[hvars]at hV
 obtain⟨rfl,rfl⟩:=trodVars_none hV
 have hlt:∀x∈p,x.block < W.heap.size:=fun x hx=>hW'.lt x (List.mem_append.2 (.inl hx))
 have hargs:∀sp:Nat→Bool,(∀x∈p,sp x.block=true)→DataW.TrodAll enc P W' 0 sp true f.params.toList args.toList (s.fn H (ds++ [])).args p:=fun sp hs=>by
  rw[hfn]
  exact oB hl hb sp hra hlt hs hA
 have hres:∀(b:Nat) (sp:Nat→Bool) (hd:Bool),DataW.TrodAll enc P W' b sp hd f.resultTypes.toList ((Value.bool true).resultList f.resultTypes.size) (s.fn H (ds++ [])).results []:=fun b sp hd=>by
  rw[hfn,htb]
  exact trodAll_mk1 (shut_bool hub _)
 have hvs:∀sp:Nat→Bool,DataW.TrodVars enc P W' sp s.vars (s.fn H (ds++ [])).vars []:=fun sp=>by
  rw[hfn,hvars]
  rfl
 refine⟨ds,[],p++ [],[],p,[],hW',hres _ _ _,hargs _ (fun x hx=>hold x (List.mem_append.2 (.inl hx))),hvs _,hb.frame _,fun h=>by cases h⟩
theorem nJ{P:Program}{n:Nat}:∀ {Ts:List TypeId} {ts:List Ty},jY P n Ts ts=true→Ts.length=ts.length
 |[],[],_=>rfl
 |[],_::_,h=>by simp[jY]at h
 |_::_,[],h=>by simp[jY]at h
 |_::_,_::_,h=>by
  simp only[jY,Bool.and_eq_true]at h
  simp[nJ h.2]
theorem zS{H:Type}{enc:TypeId×Value→H}{P:Program}{f:FuncId}{fn:Func}{en:Entry}{s:ChangeSpec}{tb:TypeId}(n:Nat)(tys:List Ty)(hD:lP P f en)(hf:P.funcs[f]? =some fn)(hbody:fn.body.isSome=true)(hname:(fn.name== "runtime.NumGoroutine")=false)
  (hl:laidOutB P=true) (hread:jY P n fn.params.toList tys=true) (hra:kj P fn.params.toList=true) (hvars:s.vars=[]) (htb:fn.resultTypes= #[tb]) (hub:P.underlying tb=some .bool)
  (hfn:∀ds:List (DataW H),ds.length=tys.length→s.fn H (ds++ [])= {results:=[.lit (.bool true)],args:=ds})
  (hrun:∀x:DV tys,DV.E0 tys x→∃r,en.run (DV.jz tys x) []=some r∧en.out (DV.jz tys x) [] r=⟨.d .bool true,[],[]⟩)
  {W:World} {base:Nat} {args:Array Value} {ds gs:List (DataW H)} {before:List MemPlace}
  (hval:∀(j:Nat) t v,fn.params[j]? =some t→args[j]? =some v→Value.okWide P W .any base t v)
  (hW:DataW.Whole enc P fn.params.toList s.vars false W args.toList ds gs before):
  Calls P f args W fun e W'=>∃v,e= .returned v∧s.post enc P fn false true false false W args v W':=by
 have hW':=hW
 obtain⟨p,q,hA,hV,_,_,_⟩:=hW
 rw[hvars]at hV
 obtain⟨rfl,rfl⟩:=trodVars_none hV
 obtain⟨x,hx1,hx2⟩:=tV (E:=(iy []).env W (fun _=> .free) (fun _=>none)) rfl (fun _=>rfl) hread (fun j t v hj hv=>hval j t v (by simpa using hj) (by simpa using hv)) hA
 obtain⟨r,hr1,hr2⟩:=hrun x hx2
 have hent:(callFunc f args).run P W= .ok (.enter f args) W:=by
  unfold callFunc
  obtain⟨c,hc⟩:=Option.isSome_iff_exists.1 hbody
  have hname':¬fn.name= "runtime.NumGoroutine" :=by simpa using hname
  simp[hf,hname',hc]
 have hlen:ds.length=tys.length:=by rw[nR hA,nJ hread]
 have ho:gz ((iy []).env W (fun _=> .free) (fun _=>none)):=fun id ver fr c h=>by
  exfalso
  cases id with
  |fK k=>simp[AS.env,AS.ck,iy]at h
  |new i j=>simp[AS.env,AS.ck,iy]at h
 rcases hD W (fun _=> .free) (fun _=>none) (DV.jz tys x) [] args.toList r hx1 ho hr1 with⟨_,hc⟩ | ⟨v,w',hc,_⟩
 ·refine hc.mono fun e w' he=> ?_
  obtain⟨v,rfl,g',β',h1,_,h2,_⟩:=he
  rw[hr2]at h1
  refine⟨v,rfl,wT hl hra hvars htb hub hW' (hfn ds hlen) ⟨h2.os,h2.tape,h2.output,h2.size,fun b hb=>(h2.zu b hb).2⟩ ?_⟩
  obtain⟨cs,k1,k2⟩:=h1
  have k1:cs=[.bool true]:=k1
  subst k1
  have k2: [Value.bool true]=[v]:=k2
  simpa using k2.symm
 ·rw[show args.toList.toArray=args from Array.toArray_toList ..,hent]at hc
  cases hc
end Go.Ab
namespace Go.Ab
abbrev W:=BitVec 32
def jN(w:W)(k:Nat):W:=w <<< (32 - k) ||| w >>> k
def DT(a b c d:Int):W:=BitVec.ofInt 32 a <<< 24 ||| BitVec.ofInt 32 b <<< 16 ||| BitVec.ofInt 32 c <<< 8 ||| BitVec.ofInt 32 d
def be(l:List Int)(i:Nat):W:=DT (l.getD (4*i) 0) (l.getD (4*i+1) 0) (l.getD (4*i+2) 0) (l.getD (4*i+3) 0)
structure St where
 a:W
 b:W
 c:W
 d:W
 e:W
 f:W
 g:W
 h:W
def St.l(s:St):List Int:=[vw s.a,vw s.b,vw s.c,vw s.d,vw s.e,vw s.f,vw s.g,vw s.h]
def E2(x:W):W:=jN x 7^^^jN x 18^^^x >>> 3
def E3(y:W):W:=jN y 17^^^jN y 19^^^y >>> 10
def CS(l:List W)(i:Nat):W:=l.getD (i - 16) 0+E2 (l.getD (i - 15) 0)+l.getD (i - 7) 0+E3 (l.getD (i - 2) 0)
def ext(l:List W):List W:=l++ [CS l l.length]
def B0(m:List W):Nat→List W
 | 0=>m
 |n+1=>ext (B0 m n)
def words(b:List Int):List W:=(List.range 16).map (be b)
def sched(b:List Int):List W:=B0 (words b) 48
def kl:List Nat:=[
  0x428a2f98,0x71374491,0xb5c0fbcf,0xe9b5dba5,0x3956c25b,0x59f111f1,0x923f82a4,0xab1c5ed5,
  0xd807aa98,0x12835b01,0x243185be,0x550c7dc3,0x72be5d74,0x80deb1fe,0x9bdc06a7,0xc19bf174,
  0xe49b69c1,0xefbe4786,0x0fc19dc6,0x240ca1cc,0x2de92c6f,0x4a7484aa,0x5cb0a9dc,0x76f988da,
  0x983e5152,0xa831c66d,0xb00327c8,0xbf597fc7,0xc6e00bf3,0xd5a79147,0x06ca6351,0x14292967,
  0x27b70a85,0x2e1b2138,0x4d2c6dfc,0x53380d13,0x650a7354,0x766a0abb,0x81c2c92e,0x92722c85,
  0xa2bfe8a1,0xa81a664b,0xc24b8b70,0xc76c51a3,0xd192e819,0xd6990624,0xf40e3585,0x106aa070,
  0x19a4c116,0x1e376c08,0x2748774c,0x34b0bcb5,0x391c0cb3,0x4ed8aa4a,0x5b9cca4f,0x682e6ff3,
  0x748f82ee,0x78a5636f,0x84c87814,0x8cc70208,0x90befffa,0xa4506ceb,0xbef9a3f7,0xc67178f2]
def kw(i:Nat):W:=BitVec.ofNat 32 (kl.getD i 0)
def ql:List Int:=kl.map fun(n:Nat)=>(n:Int)
def EZ(s:St)(k w:W):St:=
 let t:=s.h+(jN s.e 6^^^jN s.e 11^^^jN s.e 25)+(s.g^^^s.e &&& (s.f^^^s.g))+k+w
 let r:=jN s.a 2^^^jN s.a 13^^^jN s.a 22
 let most:=s.a &&& s.b ||| s.c &&& (s.a ||| s.b)
 ⟨t+r+most,s.a,s.b,s.c,s.d+t,s.e,s.f,s.g⟩
def rounds(ws:List W)(s:St):Nat→St
 | 0=>s
 |n+1=>EZ (rounds ws s n) (kw n) (ws.getD n 0)
def qo(s:St)(b:List Int):St:=
 let v:=rounds (sched b) s 64
 ⟨v.a+s.a,v.b+s.b,v.c+s.c,v.d+s.d,v.e+s.e,v.f+s.f,v.g+s.g,v.h+s.h⟩
def iR:St:=⟨0x6a09e667,0xbb67ae85,0x3c6ef372,0xa54ff53a,0x510e527f,0x9b05688c,0x1f83d9ab,0x5be0cd19⟩
def lu:Nat→St→List Int→St
 | 0,s,_=>s
 |n+1,s,l=>lu n (qo s (l.take 64)) (l.drop 64)
def blocks(s:St)(l:List Int):St:=lu (l.length / 64) s l
def Ew(w:W)(k:Nat):Int:=vw ((w >>> (24 - 8*k)).setWidth 8)
def B6(w:W):List Int:=[Ew w 0,Ew w 1,Ew w 2,Ew w 3]
def Cw(s:St):List Int:=B6 s.a++B6 s.b++B6 s.c++B6 s.d++B6 s.e++B6 s.f++B6 s.g++B6 s.h
def fR(n:Int):List Int:=[n / 2^56%256,n / 2^48%256,n / 2^40%256,n / 2^32%256,n / 2^24%256,n / 2^16%256,n / 2^8%256,n%256]
def k8(n:Nat):Nat:=(119 - n%64)%64
def pad(b:List Int):List Int:=b++128::(List.replicate (k8 b.length) 0++fR (8*b.length))
def Dw(b:List Int):List Int:=Cw (blocks iR (pad b))
def hJ(parts:List (List Int)):List Int:=parts.flatMap fun p=>fR p.length++p
def qA(name:List Int)(parts:List (List Int)):List Int:=fR name.length++name++hJ parts
def tag(name:List Int)(parts:List (List Int)):List Int:=Dw (qA name parts)
theorem yk(b:List Int):(Dw b).length=32:=rfl
theorem bR(n:Int):(fR n).length=8:=rfl
theorem jG(l:List W):(ext l).length=l.length+1:=by simp[ext]
theorem ln(m:List W):∀n,(B0 m n).length=m.length+n
 | 0=>rfl
 |n+1=>by rw[B0,jG,ln m n];omega
theorem eo(b:List Int):(words b).length=16:=by simp[words]
theorem ni:∀(n:Nat) (s:St) (a b:List Int),a.length=64*n→∀m,lu (n+m) s (a++b)=lu m (lu n s a) b
 | 0,s,a,b,h,m=>by
  have:a=[]:=List.eq_nil_of_length_eq_zero (by omega)
  subst this
  simp[lu]
 |n+1,s,a,b,h,m=>by
  rw[show n+1+m=(n+m)+1 by omega,lu,lu]
  rw[List.take_append_of_le_length (by omega),List.drop_append_of_le_length (by omega)]
  exact ni n _ _ _ (by simp;omega) m
theorem ot(s:St)(a b:List Int)(h:a.length%64=0):blocks s (a++b)=blocks (blocks s a) b:=by
 unfold blocks
 have e:(a++b).length / 64=a.length / 64+b.length / 64:=by simp;omega
 rw[e]
 exact ni _ _ _ _ (by omega) _
theorem nj(s:St)(l:List Int)(h:64≤l.length):blocks s l=blocks (qo s (l.take 64)) (l.drop 64):=by
 unfold blocks
 rw[show l.length / 64=(l.drop 64).length / 64+1 by simp;omega]
 rfl
theorem mi(s:St)(l:List Int)(h:l.length < 64):blocks s l=s:=by
 unfold blocks
 rw[show l.length / 64=0 by omega]
 rfl
def um(x:Int):Prop:=0≤x∧x < 256
def Bytes(l:List Int):Prop:=∀x∈l,um x
theorem B7(w:BitVec 8):um (vw w):=⟨qC w,BR w⟩
theorem um.vw{x:Int}(h:um x):x=vw (BitVec.ofInt 8 x):=by
 rw[fN]
 obtain⟨h1,h2⟩:=h
 omega
theorem xF(s:St):Bytes (Cw s):=by
 intro x hx
 simp only[Cw,B6,List.mem_append,List.mem_cons,List.not_mem_nil,or_false]at hx
 rcases hx with((((((hx | hx) | hx) | hx) | hx) | hx) | hx) | hx <;> rcases hx with rfl | rfl | rfl | rfl <;> exact B7 _
theorem zB(b:List Int):Bytes (Dw b):=xF _
theorem lX(n:Int):Bytes (fR n):=by
 intro x hx
 simp only[fR,List.mem_cons,List.not_mem_nil,or_false]at hx
 rcases hx with rfl | rfl | rfl | rfl | rfl | rfl | rfl | rfl <;> exact⟨by omega,by omega⟩
end Go.Ab
