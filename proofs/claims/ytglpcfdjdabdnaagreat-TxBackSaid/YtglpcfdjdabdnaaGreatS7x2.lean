/-
  Made short by a program of mine (wip/tools/mini.py).
-/
import Derived.Test.YtglpcfdjdabdnaaGreatS7x1
import Derived.Lib.Builder
import Derived.Lib.UnsafeStr
import Derived.Lib.AppendZeros
import Derived.Scope
import Derived.Laws.Externs
import Derived.KernelRfl
import Derived.ProofKit
import Derived.OpenShut
import Derived.Deep.Slices
import Derived.Carry
set_option linter.unusedVariables false
set_option linter.unusedSimpArgs false
namespace Go.Ab
section
variable {P:Program} {C:Ctx} {g:Nat→hZ} {β:Id→Option Pl} {s:AS} {a:Act} {w:World} {o:Oper}
theorem xy:∀(c:aA) (f off:Nat) (v:aA),partOf c f=some (off,v)→(loc c (gJ f)).eval=some (off,v):=by
 intro c f
 induction f generalizing c with
 |zero=>
  intro off v h
  cases c with
  |d t y=>
   cases t <;> simp only[partOf,reduceCtorEq]at h
   simp only[Option.some.injEq,Prod.mk.injEq]at h
   obtain⟨rfl,rfl⟩:=h
   rfl
  |pr b c=>
   simp only[partOf,Option.some.injEq,Prod.mk.injEq]at h
   obtain⟨rfl,rfl⟩:=h
   simp only[gJ,loc]
   cases b <;> rfl
  |_=>simp only[partOf,reduceCtorEq]at h
 |succ f ih=>
  intro off v h
  cases c with
  |d t y=>
   cases t with
   |pair ta tb=>
    simp only[partOf]at h
    cases hp:partOf (.d tb y.2) f with
    |none=>rw[hp]at h;cases h
    |some r=>
     rw[hp]at h
     simp only[Option.some.injEq,Prod.mk.injEq]at h
     obtain⟨rfl,rfl⟩:=h
     simp only[gJ,loc,ao]
     exact⟨_,ih _ _ _ hp,rfl⟩
   |_=>simp only[partOf,reduceCtorEq]at h
  |pr b c=>
   simp only[partOf]at h
   cases hp:partOf c f with
   |none=>rw[hp]at h;cases h
   |some r=>
    rw[hp]at h
    simp only[Option.some.injEq,Prod.mk.injEq]at h
    obtain⟨rfl,rfl⟩:=h
    simp only[gJ,loc,ao]
    exact⟨_,ih _ _ _ hp,rfl⟩
  |_=>simp only[partOf,reduceCtorEq]at h
theorem vX(a b:aA):(o8 a b).agg=true:=by unfold o8;split <;> rfl
theorem sT{v x v':aA}{i:Nat}(h:(mH v (gJ i) x).eval=some v'):v'.agg=true:=by
 have fin:∀ {o:Out aA} {f:aA→aA},(∀a,(f a).agg=true)→(o.bind fun a=>Out.ok (f a)).eval=some v'→v'.agg=true:=by
  intro o f hf hh
  obtain⟨_,_,h2⟩:=ao.1 hh
  obtain rfl:=au.1 h2
  exact hf _
 cases i <;> simp only[gJ]at h
 all_goals
  cases v with
  |d t y=>cases t <;> first | (simp only[mH,ah]at h;done) | (simp only[mH]at h;exact fin (fun _=>vX _ _) h)
  |pr b c=>simp only[mH]at h;exact fin (fun _=>vX _ _) h
  |_=>simp only[mH,ah]at h
theorem np{E:Env}(hev:∀x,VS E (s.ev x) (a.eval x)){fs:Array Field}{places:Array (Nat×Nat)}(hpl:∀(i:Nat) (f:Field),fs[i]? =some f→places[i]? =some (f.offset,P.cellsOf f.type)):
  ∀(ps:List (Nat×Operand)) (v v':aA) (cells:Array Value),(hJ P fs s ps v).eval=some v'→V E v cells.toList→v.agg=true→
   ∃cells',Instr.fill (places[·]?) cells (ps.map fun(i,x)=>(i,a.eval x))=some cells'∧V E v' cells'.toList∧v'.agg=true
 |[],v,v',cells,h,hV,hag=>by
  obtain rfl:=au.1 h
  exact⟨cells,rfl,hV,hag⟩
 | (i,x)::ps,v,v',cells,h,hV,hag=>by
  simp only[hJ]at h
  split at h
  ·rename_i f off fB hf hp
   obtain⟨h1,h2⟩:=aC.1 h
   obtain⟨v1,h3,h4⟩:=ao.1 h2
   simp only[Bool.and_eq_true,beq_iff_eq]at h1
   obtain⟨⟨rfl,hfo⟩,hfx⟩:=h1
   obtain⟨hcel,_⟩:=iF hfx
   obtain⟨cs,hVx,hO⟩:=(hev x).ei hcel
   have hcells:=hO.cells hVx.one
   have hloc:=xy _ _ _ _ hp
   obtain⟨u1,u2,u3⟩:=hP (gJ i) v cells.toList f.offset fB (s.ev x) v1 cs (VO.of hV) hloc hVx h3
   have hnv:v1.fC=false:=u3.jc hV.jc
   have hsz:P.cellsOf f.type=cs.length:=by rw[(mV hfx).2.1];exact hVx.size.symm
   obtain⟨cells',q1,q2,q3⟩:=np hev hpl ps v1 v' (cW cells.toList f.offset cs).toArray h4 (by simpa using u2.to hnv) (sT h3)
   refine⟨cells',?_,q2,q3⟩
   rw[List.map_cons,s9 (by rw[hpl i f hf,hsz]) hcells (by simpa using u1)]
   exact q1
  ·simp only[ah]at h
theorem wx{α γ:Type}(f:α→Sem γ)(r:α→γ):∀(l:List α),(∀x∈l,(f x).run P w= .ok (r x) w)→(l.mapM f).run P w= .ok (l.map r) w
 |[],_=>by simp
 |x::xs,h=>by
  rw[List.mapM_cons]
  simp only[Sem.run_bind,h x (by simp),Result.andThen_ok,wx f r xs (fun y hy=>h y (by simp[hy])),Sem.run_pure,List.map_cons]
theorem w9(h:Inv C g β s a w){T:TypeId}{parts:Array (Nat×Operand)}(ho:o.op= .build T parts){s':AS}(he:(mR P s o.dst T parts.toList).eval=some s'):eN P o a w (fI C s'):=by
 unfold mR at he
 split at he
 ·rename_i fs hT
  split at he
  ·rename_i z hzo
   obtain⟨h1,h2⟩:=aC.1 he
   obtain⟨v,h3,h4⟩:=ao.1 h2
   obtain rfl:=au.1 h4
   simp only[Bool.and_eq_true,List.all_eq_true]at h1
   obtain⟨⟨hz,hag⟩,hinf⟩:=h1
   obtain⟨i,zv,hi,hzv,hV,hO⟩:=jz hz (s.env w g β)
   let places:Array (Nat×Nat):=fs.map fun f=>(f.offset,P.cellsOf f.type)
   have hpl:∀(i:Nat) (f:Field),fs[i]? =some f→places[i]? =some (f.offset,P.cellsOf f.type):=by
    intro i f hf
    simp[places,hf]
   obtain⟨cells',q1,q2,q3⟩:=np (a:=a) h.ev hpl parts.toList z v zv.cells h3 hV hag
   have hm:(fs.mapM fun f=>(do pure (f.offset,←sizeOf f.type):Sem (Nat×Nat))).run P w= .ok places w:=by
    rw[Array.mapM_eq_mapM_toList]
    have:=wx (P:=P) (w:=w) (fun f=>(do pure (f.offset,←sizeOf f.type):Sem (Nat×Nat))) (fun f=>(f.offset,P.cellsOf f.type)) fs.toList (by
     intro f hf
     obtain⟨j,hj⟩:=Option.isSome_iff_exists.1 (hinf f hf)
     rw[Sem.run_bind,run_sizeOf hj,gz hj]
     rfl)
    rw[Sem.run_map,this]
    show Result.ok _ w=Result.ok _ w
    congr 1
    apply Array.ext'
    simp[places]
   refine h.value (x:= .agg cells') (VS.of q2 (by rw[q3];simp[eV])) (dK (f:=Instr.build T (parts.map fun(i,x)=>(i,a.eval x))) (by simp only[execOp,ho]) ?_)
   have q1':Instr.fill (places[·]?) zv.cells (parts.map fun(i,x)=>(i,a.eval x)).toList=some cells':=by rw[pT];exact q1
   simp only[Instr.build,Sem.run_bind,zeroValue,typeInfo,run_program,hi,Result.andThen_ok,Sem.run_pure,hzv,run_underlying hT,hm,q1']
  ·simp only[ah]at he
 ·rename_i n e hT
  split at he
  ·rename_i t ht
   obtain⟨h1,h2⟩:=aC.1 he
   obtain⟨r,h3,h4⟩:=ao.1 h2
   obtain rfl:=au.1 h4
   simp only[Bool.and_eq_true,beq_iff_eq]at h1
   obtain⟨hsz,hz⟩:=h1
   obtain⟨g1,i1,e1,t1,f1⟩:=fm r.2 h
   obtain⟨i,zv,hi,hzv,hV,hO⟩:=jz hz ((s.a9 r.2).env w g1 β)
   simp only[V,cK]at hV
   obtain⟨cells',q1,q2⟩:=lp (a:=a) rfl h.bH e1 h.ev parts.toList _ r zv.cells h3 f1 hV.2
   have hlr:r.1.length=n:=by
    have:∀(ps:List (Nat×Operand)) (l:List t.den) (r:List t.den×List Id),(fK t s ps l).eval=some r→r.1.length=l.length:=by
     intro ps
     induction ps with
     |nil=>intro l r hh;obtain rfl:=au.1 hh;rfl
     |cons p ps ih=>
      intro l r hh
      obtain⟨i,x⟩:=p
      simp only[fK]at hh
      obtain⟨_,h2⟩:=aC.1 hh
      obtain⟨y,h3,h4⟩:=ao.1 h2
      obtain⟨r',h5,h6⟩:=ao.1 h4
      obtain rfl:=au.1 h6
      have:=ih _ _ h5
      simpa using this
    rw[this _ _ _ h3]
    simp
   refine .inl ⟨.agg cells',w,dK (f:=Instr.build T (parts.map fun(i,x)=>(i,a.eval x))) (by simp only[execOp,ho]) ?_,g1,β,i1.put o.dst ⟨cells'.toList,?_,by simp[eV,aA.agg,Ty.agg]⟩⟩
   ·have q1':Instr.fill (fun i=>some (i*t.size,t.size)) zv.cells (parts.map fun(i,x)=>(i,a.eval x)).toList=some cells':=by rw[pT];exact q1
    cases hie:P.info? e with
    |none=>
     exfalso
     unfold wS tG at ht
     simp only[depth]at ht
     have:P.underlying e=none:=by simp[Program.underlying,hie]
     rw[this]at ht
     cases ht
    |some ie=>
     have hse:=run_sizeOf hie w
     rw[←gz hie,hsz]at hse
     simp only[Instr.build,Sem.run_bind,zeroValue,typeInfo,run_program,hi,Result.andThen_ok,Sem.run_pure,hzv,run_underlying hT,hse,q1']
   ·simp only[V,cK]
    exact⟨hlr,q2⟩
  ·simp only[ah]at he
 ·simp only[ah]at he
theorem qa{T X ty e:TypeId}{i:TypeInfo}(hT:P.underlying T=some (.slice e))(hX:P.underlying X=some .string∨∃e',P.underlying X=some (.slice e'))(hi:P.info? e=some i)
  {b sLen sCap:Nat} {cur:Array Value} (hg:w.heap[b]? =some (.cells cur e (0,0))) {x:Value} {n:Nat} {news:List Value} (h1:∀u∈news,u.oneCell'=true)
  (hlen:(Builtin.lenOf x).run P w= .ok n w) (hf:(Builtin.firstCells i.size n x).run P w= .ok news.toArray w) (hroom:sLen+n≤sCap) (hfit:sLen*i.size+news.length≤cur.size):
  (Builtin.append_ #[T,X] ty #[.slice (some ⟨b,0,none⟩) sLen sCap,x]).run P w= .ok (.slice (some ⟨b,0,none⟩) (sLen+n) sCap) (w.setRow b (cW cur.toList (sLen*i.size) news).toArray):=by
 have hst:=run_storeCells_at P b (sLen*i.size) e news 0 cur w hg (by simpa using hfit) h1
 simp only[Nat.add_zero]at hst
 rcases hX with hX | ⟨e',hX⟩ <;> simp[Builtin.append_,run_underlying hT,run_underlying hX,sizeOf,typeInfo,hi,hlen,hroom,hf,Addr.add_lit,hst,cW]
theorem my{T X ty e:TypeId}{i:TypeInfo}(hT:P.underlying T=some (.slice e))(hX:P.underlying X=some .string∨∃e',P.underlying X=some (.slice e'))(hi:P.info? e=some i)
  {x:Value} (hlen:(Builtin.lenOf x).run P w= .ok 0 w) (hf:(Builtin.firstCells i.size 0 x).run P w= .ok #[] w):
  (Builtin.append_ #[T,X] ty #[.slice none 0 0,x]).run P w= .ok (.slice none 0 0) w:=by
 rcases hX with hX | ⟨e',hX⟩ <;> simp[Builtin.append_,run_underlying hT,run_underlying hX,sizeOf,typeInfo,hi,hlen,hf]
theorem p9{T X ty e:TypeId}{i:TypeInfo}{zv:Value}(hT:P.underlying T=some (.slice e))(hX:P.underlying X=some .string∨∃e',P.underlying X=some (.slice e'))(hi:P.info? e=some i)(hzv:i.zero=some zv)
  {ad:Option Addr} {sLen sCap:Nat} {db:List Value} (ho:(Builtin.firstCells i.size sLen (.slice ad sLen sCap)).run P w.drew= .ok db.toArray w.drew) {x:Value} {n:Nat} {news:List Value}
  (hlen:(Builtin.lenOf x).run P w= .ok n w) (hf:(Builtin.firstCells i.size n x).run P w.drew= .ok news.toArray w.drew) (hroom:sCap < sLen+n)
  (h63:((sLen+n:Nat):Int)≤9223372036854775807) (hfit:(sLen+n)*i.bytes≤140737488355328):
  (Builtin.append_ #[T,X] ty #[.slice ad sLen sCap,x]).run P w= .ok (.slice (some ⟨w.heap.size,0,none⟩) (sLen+n) (grownCap w (sLen+n) sCap e))
   (w.drew.alloc (.cells (db.toArray++news.toArray++Builtin.zeroCells zv.cells (grownCap w (sLen+n) sCap e - (sLen+n))) e)):=by
 have hn:¬(sLen+n≤sCap):=by omega
 have h63':¬(9223372036854775807 < ((sLen:Int)+(n:Int))):=by omega
 have hfit':=growslice_fits (bytes:=i.bytes) hroom hfit
 have h48':¬(281474976710656 < Builtin.nextslicecap (sLen+n) sCap*i.bytes):=by omega
 rcases hX with hX | ⟨e',hX⟩
 all_goals
  simp[Builtin.append_,run_underlying hT,run_underlying hX,sizeOf,typeInfo,zeroValue,hi,hzv,hlen,hn,h63',h48',Question.forced,hf,ho,newRow,grownCap]
  congr 2
  apply Array.ext'
  simp[List.append_assoc]
end
end Go.Ab
namespace Go.Ab
section
variable {P:Program} {C:Ctx} {g:Nat→hZ} {β:Id→Option Pl} {s:AS} {a:Act} {w:World} {o:Oper}
theorem AT(h:Inv C g β s a w){v:aA}{y:Value}(hv:VS (s.env w g β) v y){t:Ty}{m:List t.den}(he:(s.xz (.slice t) v).eval=some m):
  ∃ad cap vs,y= .slice ad m.length cap∧(0 < m.length→ad.isSome=true)∧(∀j u,vs[j]? =some u→∃bb off,ad=some ⟨bb,off,none⟩∧w.cell? ⟨bb,off+j,none⟩=some u)∧aZ (cK (s.env w g β) t) vs m:=by
 have hp:(s.fG (.slice t) v).eval=some m:=he
 cases v <;> first | (simp only[AS.fG,ah]at hp;done) | skip
 case cU=>
  simp only[AS.fG,au]at hp
  subst hp
  exact⟨none,0,[],gC hv,by simp,fun j u hj=>by simp at hj,rfl⟩
 case d t' x=>
  simp only[AS.fG]at hp
  have hp:=fT.1 hp
  have ha:(aA.d t' x).agg=false:=sZ hp
  have hV:=hv.single rfl ha
  simp only[V]at hV
  have hv:VS (s.env w g β) (.d (.slice t) m) y:=VS.of (cs:=[y]) (by simp only[V];exact lV hp hV) rfl
  obtain⟨ad,cap,vs,hy,_,hs,hr,hc⟩:=j1 hv
  exact⟨ad,cap,vs,hy,hs,fun j u hj=>let⟨bb,off,e,hh⟩:=hr j u hj;⟨bb,off,e,hh.1⟩,hc⟩
 case cd id ver p c i len=>
  simp only[AS.fG]at hp
  obtain⟨⟨n,t',l⟩,h1,h2⟩:=ao.1 hp
  obtain⟨h3,h4⟩:=bA.1 h2
  obtain⟨hml,hmc⟩:=yZ (E:=s.env w g β) (fT.1 h4)
  rw[hml]
  simp only[decide_eq_true_eq]at h3
  obtain⟨hc,hlen⟩:=h3
  suffices hg:∃ad cap vs,y= .slice ad (cut l i len).length cap∧(0 < (cut l i len).length→ad.isSome=true)∧(∀j u,vs[j]? =some u→∃bb off,ad=some ⟨bb,off,none⟩∧w.cell? ⟨bb,off+j,none⟩=some u)∧aZ (cK (s.env w g β) t') vs (cut l i len) by
   obtain⟨ad,cap,vs,e1,e2,e3,e4⟩:=hg
   exact⟨ad,cap,vs,e1,e2,e3,hmc _ e4⟩
  obtain⟨fr,c0,hent,hrow⟩:=pZ rfl h.bH h1
  obtain⟨ad,cap,hy,hle,hsome,hb,hcur⟩:=jJ hv
  have hcur:=hcur ⟨fr,c0,hent⟩
  have hxl:(cut l i len).length=len:=lW hlen
  rcases hrow with⟨hp,hl,_⟩ | ⟨pl,cur,e,hp,hh,hsz,hch,hbound⟩
  ·rw[hp]at hcur
   simp only at hcur
   obtain⟨rfl,rfl,rfl⟩:=hcur
   have:cut l i 0=[]:=by simp[cut]
   refine⟨none,0,[],by rw[hxl];exact hy,by rw[hxl];omega,fun _ _ hh=>by simp at hh,?_⟩
   rw[this];rfl
  ·rw[hp]at hcur
   simp only at hcur
   have hmul:(i+len)*t'.size≤l.length*t'.size:=Nat.mul_le_mul_right _ hlen
   rw[Nat.add_mul]at hmul
   refine⟨ad,cap,_,by rw[hxl];exact hy,by rw[hxl];exact hsome,?_,oa hch i len⟩
   rw[rP _ _ _ _ _ hmul]
   intro j v hj
   rw[List.getElem?_take]at hj
   split at hj
   ·rename_i hjl
    rw[List.getElem?_drop,hc]at hj
    have hlp:0 < len:=by
     rcases Nat.eq_zero_or_pos len with h0 | h0
     ·subst h0;simp at hjl
     ·exact h0
    refine⟨pl.b,c,hcur.1 (.inl hlp),?_⟩
    have hh':w.heap[pl.b]? =some (.cells cur e (0,0)):=hh
    rw[cell_of_row w pl.b (c+j) cur e (0,0) hh']
    simpa using hj
   ·cases hj
theorem qv(h:Inv C g β s a w){t:Ty}{X:TypeId}{x:aA}{y:Value}(hx:VS (s.env w g β) x y){m:List t.den}(he:(ng P s t X x).eval=some m):
  (P.underlying X=some .string∨∃e',P.underlying X=some (.slice e'))∧∃news:List Value,aZ (cK (s.env w g β) t) news m∧(Builtin.lenOf y).run P w= .ok m.length w∧
   ∀w',w'.heap=w.heap→(Builtin.firstCells t.size m.length y).run P w'= .ok news.toArray w':=by
 have sl:∀(x:aA),VS (s.env w g β) x y→(match P.underlying X with
   |some (.slice _)=>s.xz (.slice t) x
   |_=> .fail).eval=some m→(P.underlying X=some .string∨∃e',P.underlying X=some (.slice e'))∧∃news:List Value,aZ (cK (s.env w g β) t) news m∧(Builtin.lenOf y).run P w= .ok m.length w∧
   ∀w',w'.heap=w.heap→(Builtin.firstCells t.size m.length y).run P w'= .ok news.toArray w':=by
  intro x hx he
  split at he
  ·rename_i e' hX
   refine⟨.inr ⟨e',hX⟩,?_⟩
   obtain⟨ad,cap,vs,rfl,hsome,hrow,hch⟩:=AT h hx he
   have hlen:=aZ.length (fun _ _ hx=>cK.size hx) hch
   refine⟨vs,hch,rfl,fun w' hw'=> ?_⟩
   cases ad with
   |none=>
    have hm0:m.length=0:=by
     rcases Nat.eq_zero_or_pos m.length with h0 | h0
     ·exact h0
     ·have:=hsome h0;simp at this
    have:vs=[]:=List.eq_nil_of_length_eq_zero (by rw[hlen,hm0,Nat.zero_mul])
    subst this
    rfl
   |some ad=>
    refine run_firstCells_some (P:=P) w' t.size _ ad _ _ vs hlen (fun j v hj=> ?_)
    obtain⟨bb,off,e1,hh⟩:=hrow j v hj
    simp only[Option.some.injEq]at e1
    subst e1
    rw[Addr.add_lit]
    simpa[World.cell?,hw']using hh
  ·simp only[ah]at he
 unfold ng at he
 split at he
 ·rename_i st
  split at he
  ·rename_i hX
   refine⟨.inl hX,?_⟩
   obtain⟨e,hm⟩:=fN (fT.1 he)
   have e':Ty.int .u8=t:=by simpa using e
   subst e'
   simp only at hm
   subst hm
   have hy:=mj hx
   subst hy
   have hlen:(bf st).length=st.size:=by simp only[bf,List.length_map,Array.length_toList];rfl
   refine⟨(bf st).map (Value.int .u8),jM _,by rw[hlen];rfl,fun w' _=> ?_⟩
   rw[hlen]
   simp only[Builtin.firstCells,Sem.run_pure]
   congr 1
   apply Array.ext'
   rw[ByteArray.extract_zero_size]
   simp[bf]
  ·simp only[ah]at he
 ·exact sl _ hx he
theorem kT(z:Array Value)(n:Nat):(Builtin.zeroCells z n).size=n*z.size:=by simp[Builtin.zeroCells]
theorem y1(h:Inv C g β s a w){c:Call}{x y:Operand}{T X:TypeId}(ho:o.op= .call c)(hc:c.callee= .builtin .copy)(ha:c.args.toList=[x,y])(ht:c.argTypes.toList=[T,X]){s':AS}
  (he:(rf P s o.dst T X (s.ev x) (s.ev y)).eval=some s'):eN P o a w (fI C s'):=by
 obtain⟨cal,args,tys⟩:=c
 simp only at hc ha ht
 have ha':args= #[x,y]:=by apply Array.ext';simpa using ha
 have ht':tys= #[T,X]:=by apply Array.ext';simpa using ht
 subst hc ha' ht'
 have hx:=h.ev x
 have hy:=h.ev y
 have fin:∀z w',(Builtin.copy_ #[T,X] 0 #[a.eval x,a.eval y]).run P w= .ok z w'→(∃g' β',Inv C g' β' s' (a.put o.dst z) w')→eN P o a w (fI C s'):=by
  intro z w' h1 h2
  refine .inl ⟨z,w',ld ho (f:=Builtin.copy_ #[T,X] 0 #[a.eval x,a.eval y]) (fun ty cs xs hxs=> ?_) h1,h2⟩
  subst hxs
  have e1:Builtin.copy_ #[T,X] 0 #[a.eval x,a.eval y]=Builtin.copy_ #[T,X] ty #[a.eval x,a.eval y]:=rfl
  rw[e1]
  simp[builtin]
 unfold rf at he
 split at he
 ·rename_i e t b id ver len hel hxs
  obtain⟨hT,hz,i,zv,hi,his,hib,hzv,hzr⟩:=lh hel
  obtain⟨m,hm,he⟩:=ao.1 he
  obtain⟨hX,news,hch,hlen,hfc⟩:=qv h hy hm
  have hnl:=hch.length (fun _ _ hx=>cK.size hx)
  have h1news:∀u∈news,u.oneCell'=true:=aZ.all (fun _ _ hx=>hx.one) hch
  rw[←his]at hfc
  split at he
  ·rename_i ve n t' l hob
   obtain⟨h1,he1⟩:=aC.1 he
   simp only[Bool.and_eq_true,beq_iff_eq]at h1
   obtain⟨hve,hln⟩:=h1
   subst hve hln
   obtain⟨l',hl',he2⟩:=ao.1 he1
   obtain⟨et,hl'⟩:=fN (fT.1 hl')
   have et':t'=t:=by simpa using et
   subst et'
   simp only at hl'
   subst hl'
   obtain⟨hml,he3⟩:=bA.1 he2
   have hml:m.length≤len:=by simpa using hml
   obtain rfl:=au.1 he3
   have hent:=eg hob
   rw[hxs]at hx
   obtain⟨ad,cap,hxv,hlc,hsome,hbnd,hcur⟩:=jJ hx
   have hcur:=hcur ⟨false,_,hent⟩
   obtain⟨pl,cur,e0,hp,hh,hg,hk,hV⟩:=(h.bH id ve false _ hent).box rfl
   have hp:β id=some pl:=hp
   have hh:w.heap[pl.b]? =some (.cells cur e0 (0,0)):=hh
   have hg:g pl.b= .own (.id id) 0:=hg
   have hcur':(match β id with
    |some pl=>(0 < len∨0=0→ad=some ⟨pl.b,0,none⟩)∧(([.arr]:List oK)=[]→0=0→cap=pl.cap)
    |none=>ad=none∧len=0∧cap=0):=hcur
   rw[hp]at hcur'
   simp only at hcur'
   have had:=hcur'.1 (.inr trivial)
   subst had
   have hV:V (s.env w g β) (.d (.arr len t') l) (cur.toList.take cur.size):=hV
   rw[←Array.length_toList,List.take_length]at hV
   simp only[V,cK]at hV
   obtain⟨hll,hVc⟩:=hV
   have hcl:=hVc.length (fun _ _ hx=>cK.size hx)
   have hfit:news.length≤cur.size:=by
    rw[hnl]
    have:cur.size=l.length*t'.size:=by simpa using hcl
    rw[this,hll]
    exact Nat.mul_le_mul_right _ hml
   have hst:=run_storeCells_at P pl.b 0 e0 news 0 cur w hh (by simpa using hfit) h1news
   have hrun:(Builtin.copy_ #[T,X] 0 #[a.eval x,a.eval y]).run P w= .ok (goInt m.length) (w.setRow pl.b (cW cur.toList 0 news).toArray):=by
    have hmin:Nat.min m.length len=m.length:=Nat.min_eq_left hml
    rw[hxv]
    simp only[Nat.add_zero,Nat.zero_add]at hst
    simp[Builtin.copy_,run_underlying hT,hlen,sizeOf,typeInfo,hi,hmin,hfc w rfl,hst,cW]
   have htr:=Trans.setRow w hg (cW cur.toList 0 news).toArray
   have hle:cP (s.env w g β) ((s.bp id (.obj ve false (.d (.arr len t') (m++l.drop m.length)))).env (w.setRow pl.b (cW cur.toList 0 news).toArray) g β):=cP.bp hent (Nat.le_refl _) htr (fun _ _=>rfl) (fun _=>rfl)
   have i1:=h.step (dC _ _ _) htr hle (gh.bp h.bH (by rw[hent];simp) hle (fun _ _=>rfl) (fun i ver fr c pl2 hi hs2 hp2=>⟨setRow_other w pl.b pl2.b _ (h.apart hg hi hs2 hp2),rfl⟩) (pD.obj ⟨pl,_,e0,hp,setRow_heap w pl.b cur _ e0 (0,0) hh,hg,trivial,by
    show V _ (.d (.arr len t') (m++l.drop m.length)) ((cW cur.toList 0 news).toArray.toList.take (cW cur.toList 0 news).toArray.size)
    rw[←Array.length_toList,List.take_length]
    simp only[V,cK]
    refine⟨by rw[List.length_append,List.length_drop];omega,?_⟩
    have e2:cW cur.toList 0 news=news++cur.toList.drop (m.length*t'.size):=by
     simp[cW,hnl]
    have q:aZ (cK (s.env w g β) t') (cW cur.toList 0 news) (m++l.drop m.length):=by
     rw[e2]
     exact aZ.append hch (aZ.drop (fun _ _ hx=>cK.size hx) m.length hVc)
    exact q.mono fun _ _ hx=>hx.mono hle.mem⟩))
   exact fin _ _ hrun ⟨g,β,i1.put o.dst ⟨[.int .i64 (m.length:Int)],by simp only[V,cK],rfl⟩⟩
  ·exact(ah.1 he).elim
 ·exact(ah.1 he).elim
theorem vb(h:Inv C g β s a w){c:Call}{x y:Operand}{T X:TypeId}(ho:o.op= .call c)(hc:c.callee= .builtin .append)(ha:c.args.toList=[x,y])(ht:c.argTypes.toList=[T,X]){s':AS}
  {nl dt:Bool} (he:(kf P s nl dt o.dst T X (s.ev x) (s.ev y)).eval=some s'):eN P o a w (fI C s'):=by
 obtain⟨cal,args,tys⟩:=c
 simp only at hc ha ht
 have ha':args= #[x,y]:=by apply Array.ext';simpa using ha
 have ht':tys= #[T,X]:=by apply Array.ext';simpa using ht
 subst hc ha' ht'
 have hx:=h.ev x
 have hy:=h.ev y
 have fin:∀z w',(Builtin.append_ #[T,X] 0 #[a.eval x,a.eval y]).run P w= .ok z w'→(∃g' β',Inv C g' β' s' (a.put o.dst z) w')→eN P o a w (fI C s'):=by
  intro z w' h1 h2
  refine .inl ⟨z,w',ld ho (f:=Builtin.append_ #[T,X] 0 #[a.eval x,a.eval y]) (fun ty cs xs hxs=> ?_) h1,h2⟩
  subst hxs
  have e1:Builtin.append_ #[T,X] 0 #[a.eval x,a.eval y]=Builtin.append_ #[T,X] ty #[a.eval x,a.eval y]:=rfl
  rw[e1]
  simp[builtin]
 unfold kf at he
 split at he
 ·rename_i e t b q hel hd
  obtain⟨hT,hz,i,zv,hi,his,hib,hzv,hzr⟩:=iq hel
  obtain⟨m,hm,he⟩:=ao.1 he
  obtain⟨hX,news,hch,hlen,hfc⟩:=qv h hy hm
  have hnl:=hch.length (fun _ _ hx=>cK.size hx)
  have h1news:∀u∈news,u.oneCell'=true:=aZ.all (fun _ _ hx=>hx.one) hch
  rw[←his]at hfc
  have hzc:zv.cells.size=t.size:=by have:=(hzr (s.env w g β)).size;simpa using this
  have hzcc:∀n,(Builtin.zeroCells zv.cells n).size=n*t.size:=fun n=>by rw[kT,hzc]
  have grow:∀(ad:Option Addr) (sLen sCap:Nat) (db:List Value) (l0:List t.den),a.eval x= .slice ad sLen sCap→db.length=sLen*t.size→l0.length=sLen→aZ (cK (s.env w g β) t) db l0→
    (Builtin.firstCells i.size sLen (.slice ad sLen sCap)).run P w.drew= .ok db.toArray w.drew→sCap < sLen+m.length→dh (sLen+m.length) b=true→
    ∃(cur:Array Value) (cap:Nat),(Builtin.append_ #[T,X] 0 #[a.eval x,a.eval y]).run P w= .ok (.slice (some ⟨w.heap.size,0,none⟩) (sLen+m.length) cap) (w.drew.alloc (.cells cur e))∧
     cur.size=cap*t.size∧sLen+m.length≤cap∧cap≤maxLen∧cur.toList.take ((sLen+m.length)*t.size)=db++news:=by
   intro ad sLen sCap db l0 hxv hlo hl0 hco hfo hroom hra
   simp only[dh,decide_eq_true_eq]at hra
   have hr:=p9 (P:=P) (w:=w) (ty:=0) hT hX hi hzv hfo hlen (hfc w.drew rfl) hroom (by omega) (by rw[hib];exact hra.1)
   rw[hxv]
   refine⟨_,_,hr,?_,grownCap_ge _ _ _ _,grownCap_le_maxLen _ _ _ _ (by unfold maxLen;omega),?_⟩
   ·have hge:=grownCap_ge w (sLen+m.length) sCap e
    simp only[Array.size_append,List.size_toArray,hzcc,hlo,hnl,←Nat.add_mul]
    congr 1
    omega
   ·have hl2:(db++news).length=(sLen+m.length)*t.size:=by rw[List.length_append,hlo,hnl,Nat.add_mul]
    simp only[Array.toList_append]
    rw[←hl2]
    exact List.take_left
  split at he
  ·rename_i hxn
   rw[hxn]at hx
   have hxv:=gC hx
   cases dt with
   |true=>
    simp only at he
    obtain⟨hra,he⟩:=bA.1 he
    obtain rfl:=au.1 he
    simp only[Bool.and_eq_true,decide_eq_true_eq]at hra
    obtain⟨hra,hm0⟩:=hra
    obtain⟨cur,cap,hr,q1,q2,q3,q4⟩:=grow none 0 0 [] [] hxv (by simp) rfl rfl rfl (by omega) (by simpa using hra)
    simp only[Nat.zero_add,List.nil_append]at hr q2 q4
    have hch1:aZ (cK (s.env w.drew g β) t) news m:=hch.mono fun _ _ hx=>hx.mono (cP.same (s:=s) (β:=β) (Trans.drew w g)).mem
    refine fin _ _ hr ⟨iA g w.heap.size .free,β,(h.drew.nv (.cells cur e)).put o.dst ⟨[.slice (some ⟨w.heap.size,0,none⟩) m.length cap],?_,rfl⟩⟩
    simp only[V,cK]
    refine⟨fun h0=>(by cases h0),fun m' hm'=> ?_⟩
    obtain rfl:m=m':=Option.some.inj hm'
    refine⟨_,cap,cur.toList.take (m.length*t.size),rfl,q2,fun _=>rfl,fun j v hj=>⟨_,_,rfl,?_,?_⟩,?_⟩
    ·show(w.drew.alloc (.cells cur e)).cell? ⟨w.drew.heap.size,0+j,none⟩=some v
     rw[World.cell?_alloc_new,Nat.zero_add]
     rw[List.getElem?_take]at hj
     split at hj
     ·simpa using hj
     ·cases hj
    ·show jT (iA g w.heap.size .free) w.heap.size (0+j)
     unfold jT;rw[eS];trivial
    ·rw[q4]
     exact hch1.mono fun _ _ hx=>hx.mono (Trans.mem (E:=s.env w.drew g β) (E':=s.env (w.drew.alloc (.cells cur e)) (iA g w.drew.heap.size .free) β) (Trans.alloc w.drew g (.cells cur e) .free))
   |false=>
   simp only at he
   obtain⟨hq,he⟩:=aC.1 he
   obtain⟨hra,he⟩:=bA.1 he
   obtain rfl:=au.1 he
   by_cases hm0:m.length=0
   ·have hmn:m=[]:=List.eq_nil_of_length_eq_zero hm0
    subst hmn
    have hnn:news=[]:=List.eq_nil_of_length_eq_zero (by rw[hnl];simp)
    subst hnn
    obtain⟨β',i1,e1,v1⟩:=h.AJ hq (e:=e) hz
    refine fin (.slice none 0 0) w ?_ ⟨g,β',?_⟩
    ·rw[hxv]
     exact my (P:=P) hT hX hi hlen (hfc w rfl)
    ·exact i1.put o.dst v1
   ·obtain⟨cur,cap,hr,q1,q2,q3,q4⟩:=grow none 0 0 [] [] hxv (by simp) rfl rfl rfl (by omega) (by simpa using hra)
    simp only[Nat.zero_add,List.nil_append]at hr q2 q4
    obtain⟨g2,β2,i2,v2⟩:=(h.drew).uC hq (e:=e) (l:=m) (cur:=cur) (cap:=cap) hz (by rw[q4];exact hch.mono fun _ _ hx=>hx.mono (cP.same (s:=s) (β:=β) (Trans.drew w g)).mem) q1 q2 q3
    refine fin _ _ hr ⟨g2,β2,?_⟩
    exact i2.put o.dst v2
  ·rename_i id ver len hxs
   rw[hxs]at hx
   obtain⟨ad,cap,hxv,hlc,hsome,hbnd,hcur⟩:=jJ hx
   split at he
   ·rename_i v fr e' t' l hob
    obtain⟨h1,he1⟩:=aC.1 he
    clear he
    simp only[Bool.and_eq_true,beq_iff_eq]at h1
    obtain⟨hve,hee⟩:=h1
    subst hve hee
    obtain⟨l',hl',he2⟩:=ao.1 he1
    obtain⟨et,hl'⟩:=fN (fT.1 hl')
    have et':t'=t:=by simpa using et
    subst et'
    simp only at hl'
    subst hl'
    obtain⟨hll0,he2b⟩:=bA.1 he2
    have hll0:len≤l.length:=by simpa using hll0
    obtain⟨hfl,he3⟩:=bA.1 he2b
    obtain⟨hra,he4⟩:=bA.1 he3
    obtain rfl:=au.1 he4
    clear he1 he2 he2b he3 he4
    have hent:=eg hob
    have hcur:=hcur ⟨fr,_,hent⟩
    obtain⟨_,hO⟩:=h.bH id v fr _ hent
    have hO':(match β id with
     |none=>l=[]
     |some pl=>∃cur k,w.heap[pl.b]? =some (.cells cur e (0,0))∧cur.size=pl.cap*t'.size∧l.length≤pl.cap∧pl.cap≤maxLen∧g pl.b= .own (.id id) k∧
       k≤l.length*t'.size∧(fr=false→k=0)∧aZ (cK (s.env w g β) t') (cur.toList.take (l.length*t'.size)) l):=hO
    have hcur':(match β id with
     |some pl=>(0 < len∨0=0→ad=some ⟨pl.b,0,none⟩)∧(([]:List oK)=[]→0=0→cap=pl.cap)
     |none=>ad=none∧len=0∧cap=0):=hcur
    have hfr:fr=false∨len=l.length:=by
     simp only[Bool.or_eq_true,Bool.not_eq_true',decide_eq_true_eq]at hfl
     exact hfl
    have hne:s.bY id≠none:=by rw[hent];simp
    have fresh:∀(cur:Array Value) (cp:Nat) (g0:Nat→hZ),Trans w (w.drew.alloc (.cells cur e)) g (iA g0 w.heap.size (.own (.id (id)) 0))→
      (∀i ver fr c pl,i≠id→s.bY i=some (.obj ver fr c)→β i=some pl→g0 pl.b=g pl.b)→cur.size=cp*t'.size→len+m.length≤cp→cp≤maxLen→
      aZ (cK (s.env w g β) t') (cur.toList.take ((len+m.length)*t'.size)) (l.take len++m)→len≤l.length→
      ∃g' β',Inv C g' β' ((s.bp id (.obj (v+1) fr (.vec e t' (l.take len++m)))).put o.dst (.cd id (v+1) [] 0 0 (len+m.length))) (a.put o.dst (.slice (some ⟨w.heap.size,0,none⟩) (len+m.length) cp)) (w.drew.alloc (.cells cur e)):=by
     intro cur cp g0 ht hg0 q1 q2 q3 q4 q5
     have hll:(l.take len++m).length=len+m.length:=by simp;omega
     have hle:cP (s.env w g β) ((s.bp id (.obj (v+1) fr (.vec e t' (l.take len++m)))).env (w.drew.alloc (.cells cur e)) (iA g0 w.heap.size (.own (.id id) 0)) (oG β id (some ⟨w.heap.size,cp⟩))):=
      cP.bp hent (by omega) ht (fun i hi=>mm _ _ _ hi) (fun hh=>by omega)
     have i1:=h.step (dC _ _ _) ht hle (gh.bp h.bH hne hle (fun i hi=>mm _ _ _ hi) (fun i ver fr' c' pl hi hs2 hp2=>by
       have hlt:pl.b < w.heap.size:=((h.bH i ver fr' c' hs2).label (pl:=pl) hp2).1
       exact⟨lC w.drew _ hlt,by rw[fj _ _ _ (by omega)];exact hg0 i ver fr' c' pl hi hs2 hp2⟩) (by
      refine⟨hz,?_⟩
      show(match oG β id (some ⟨w.heap.size,cp⟩) id with
       |none=>(l.take len++m)=[]
       |some pl=>_)
      rw[hM]
      refine⟨cur,0,lB w.drew _,q1,by rw[hll];exact q2,q3,eS _ _ _,Nat.zero_le _,fun _=>rfl,?_⟩
      rw[hll]
      exact q4.mono fun _ _ hx=>hx.mono hle.mem))
     refine⟨_,_,i1.put o.dst ⟨_,?_,rfl⟩⟩
     simp only[V]
     have hself:=eI s id (.obj (v+1) fr (.vec e t' (l.take len++m))) hne
     refine⟨_,_,rfl,q2,fun _=>rfl,⟨by show(s.bp id _).bY id≠none;rw[hself];simp,fun v' fr' c' hh=> ?_⟩,fun _=> ?_⟩
     ·have hh':(s.bp id (.obj (v+1) fr (.vec e t' (l.take len++m)))).bY id=some (.obj v' fr' c'):=hh
      rw[hself]at hh'
      simp only[Option.some.injEq,eF.obj.injEq]at hh'
      omega
     ·show(match oG β id (some ⟨w.heap.size,cp⟩) id with
       |some pl=>_
       |none=>_)
      rw[hM]
      exact⟨fun _=>rfl,fun _ _=>rfl⟩
    cases hp:β id with
    |none=>
     rw[hp]at hO' hcur'
     simp only at hO' hcur'
     obtain⟨rfl,rfl,rfl⟩:=hcur'
     subst hO'
     by_cases hm0:m.length=0
     ·have hmn:m=[]:=List.eq_nil_of_length_eq_zero hm0
      subst hmn
      have hnn:news=[]:=List.eq_nil_of_length_eq_zero (by rw[hnl];simp)
      subst hnn
      have ht:=Trans.refl w g
      have hle:cP (s.env w g β) ((s.bp id (.obj (v+1) fr (.vec e t' []))).env w g β):=cP.bp hent (by omega) ht (fun _ _=>rfl) (fun _=>rfl)
      have i1:=h.step (dC _ _ _) ht hle (gh.bp h.bH hne hle (fun _ _=>rfl) (fun _ _ _ _ _ _ _ _=>⟨rfl,rfl⟩) (by
       refine⟨hz,?_⟩
       show(match β id with
        |none=>([]:List t'.den)=[]
        |some pl=>_)
       rw[hp]))
      refine fin (.slice none 0 0) w ?_ ⟨g,β,i1.put o.dst ⟨_,?_,rfl⟩⟩
      ·rw[hxv]
       exact my (P:=P) hT hX hi hlen (hfc w rfl)
      ·simp only[V]
       have hself:=eI s id (.obj (v+1) fr (.vec e t' [])) hne
       refine⟨_,_,rfl,Nat.le_refl _,fun hh=>by simp at hh,⟨by show(s.bp id _).bY id≠none;rw[hself];simp,fun v' fr' c' hh=> ?_⟩,fun _=> ?_⟩
       ·have hh':(s.bp id (.obj (v+1) fr (.vec e t' []))).bY id=some (.obj v' fr' c'):=hh
        rw[hself]at hh'
        simp only[Option.some.injEq,eF.obj.injEq]at hh'
        omega
       ·show(match β id with
         |some pl=>_
         |none=>_)
        rw[hp]
        exact⟨rfl,by simp,rfl⟩
     ·obtain⟨cur,cp,hr,q1,q2,q3,q4⟩:=grow none 0 0 [] [] hxv (by simp) rfl rfl rfl (by omega) hra
      refine fin _ _ hr (fresh cur cp g (Trans.trans (Trans.drew w g) (Trans.alloc w.drew g _ _)) (fun _ _ _ _ _ _ _ _=>rfl) q1 q2 q3 ?_ (by simp))
      rw[q4]
      simpa using hch
    |some pl=>
     rw[hp]at hO' hcur'
     simp only at hO' hcur'
     obtain⟨had,hcap⟩:=hcur'
     have had:=had (.inr trivial)
     have hcap:=hcap trivial trivial
     subst had hcap
     obtain⟨cur,k,p1,p2,p3,p4,p5,p6,p7,p8⟩:=hO'
     have hk:k≤len*t'.size:=by
      rcases hfr with hf | hf
      ·rw[p7 hf];exact Nat.zero_le _
      ·rw[hf];exact p6
     have hmul:len*t'.size≤l.length*t'.size:=Nat.mul_le_mul_right _ hll0
     have hmulc:l.length*t'.size≤cur.size:=by rw[p2];exact Nat.mul_le_mul_right _ p3
     have htk:=aZ.take (fun _ _ hx=>cK.size hx) len p8
     rw[List.take_take,Nat.min_eq_left hmul]at htk
     have hlo:(cur.toList.take (len*t'.size)).length=len*t'.size:=by simp;omega
     by_cases hroom:len+m.length≤pl.cap
     ·have hrm:(len+m.length)*t'.size≤cur.size:=by rw[p2];exact Nat.mul_le_mul_right _ hroom
      have hfit:len*i.size+news.length≤cur.size:=by rw[his,hnl,←Nat.add_mul];exact hrm
      have hr:=qa (P:=P) (w:=w) (ty:=0) hT hX hi p1 h1news hlen (hfc w rfl) hroom hfit
      rw[his]at hr hfit
      have ht:Trans w (w.setRow pl.b (cW cur.toList (len*t'.size) news).toArray) g g:=by
       refine⟨by simp,by simp,by simp,by simp,fun b' hb=> ?_⟩
       by_cases hbe:b'=pl.b
       ·subst hbe
        rw[p5]
        refine⟨.inr ⟨id,k,rfl,Nat.le_refl _⟩,fun off u hoff hu=> ?_⟩
        rw[cell_of_row w pl.b off cur e (0,0) p1]at hu
        rw[cell_setRow_same w pl.b off cur _ e (0,0) p1]
        simp only[cW,List.append_assoc,List.getElem?_toArray]
        rw[List.getElem?_append_left (by rw[hlo];omega),List.getElem?_take,if_pos (by omega)]
        simpa using hu
       ·rw[setRow_other w pl.b b' _ hbe]
        cases hgb:g b' with
        |free=>exact⟨rfl,rfl⟩
        |own o' k=>cases o' with
         |eG=>exact⟨rfl,rfl⟩
         |id i'=>exact⟨.inr ⟨i',k,rfl,Nat.le_refl _⟩,fun off v _ hv=>by rw[cell_setRow_other w pl.b _ _ hbe];exact hv⟩
      have hle:cP (s.env w g β) ((s.bp id (.obj (v+1) fr (.vec e t' (l.take len++m)))).env (w.setRow pl.b (cW cur.toList (len*t'.size) news).toArray) g β):=
       cP.bp hent (by omega) ht (fun _ _=>rfl) (fun _=>rfl)
      have hll:(l.take len++m).length=len+m.length:=by simp;omega
      have hspl:(cW cur.toList (len*t'.size) news).length=cur.toList.length:=fO (by simpa using hfit)
      have i1:=h.step (dC _ _ _) ht hle (gh.bp h.bH hne hle (fun _ _=>rfl) (fun i ver fr c pl2 hi hs2 hp2=>⟨setRow_other w pl.b pl2.b _ (h.apart p5 hi hs2 hp2),rfl⟩) (by
       refine⟨hz,?_⟩
       show(match β id with
        |none=>(l.take len++m)=[]
        |some pl=>_)
       rw[hp]
       refine⟨_,k,setRow_heap w pl.b cur _ e (0,0) p1,by rw[List.size_toArray,hspl];simpa using p2,by rw[hll];exact hroom,p4,p5,?_,p7,?_⟩
       ·rw[hll,Nat.add_mul];omega
       ·rw[hll,show(cW cur.toList (len*t'.size) news).toArray.toList=cW cur.toList (len*t'.size) news from rfl]
        have e1:(cW cur.toList (len*t'.size) news).take ((len+m.length)*t'.size)=cur.toList.take (len*t'.size)++news:=by
         unfold cW
         have hl2:(cur.toList.take (len*t'.size)++news).length=(len+m.length)*t'.size:=by rw[List.length_append,hlo,hnl,Nat.add_mul]
         rw[←hl2]
         exact List.take_left
        rw[e1]
        exact(aZ.append htk hch).mono fun _ _ hx=>hx.mono hle.mem))
      rw[←hxv]at hr
      refine fin _ _ hr ⟨g,β,i1.put o.dst ⟨_,?_,rfl⟩⟩
      simp only[V]
      have hself:=eI s id (.obj (v+1) fr (.vec e t' (l.take len++m))) hne
      refine⟨_,_,rfl,hroom,fun _=>rfl,⟨by show(s.bp id _).bY id≠none;rw[hself];simp,fun v' fr' c' hh=> ?_⟩,fun _=> ?_⟩
      ·have hh':(s.bp id (.obj (v+1) fr (.vec e t' (l.take len++m)))).bY id=some (.obj v' fr' c'):=hh
       rw[hself]at hh'
       simp only[Option.some.injEq,eF.obj.injEq]at hh'
       omega
      ·show(match β id with
        |some pl=>_
        |none=>_)
       rw[hp]
       exact⟨fun _=>rfl,fun _ _=>rfl⟩
     ·have hfo:(Builtin.firstCells i.size len (.slice (some ⟨pl.b,0,none⟩) len pl.cap)).run P w.drew= .ok (cur.toList.take (len*t'.size)).toArray w.drew:=by
       refine run_firstCells_some (P:=P) w.drew i.size _ _ _ _ _ (by rw[hlo,his]) (fun j u hj=> ?_)
       rw[Addr.add_lit,Nat.zero_add]
       show w.cell? ⟨pl.b,j,none⟩=some u
       rw[cell_of_row w pl.b j cur e (0,0) p1]
       rw[List.getElem?_take]at hj
       split at hj
       ·simpa using hj
       ·cases hj
      obtain⟨cur2,cp,hr,q1,q2,q3,q4⟩:=grow (some ⟨pl.b,0,none⟩) len pl.cap (cur.toList.take (len*t'.size)) (l.take len) hxv hlo (by simp;omega) htk hfo (by omega) hra
      have hlt:pl.b < w.heap.size:=(Array.getElem?_eq_some_iff.1 p1).1
      have hfree:Trans w w.drew g (iA g pl.b .free):=by
       refine⟨rfl,rfl,rfl,Nat.le_refl _,fun b' hb=> ?_⟩
       by_cases hbe:b'=pl.b
       ·subst hbe
        rw[p5,eS]
        exact⟨.inl rfl,fun _ _ _ hh=>hh⟩
       ·rw[fj _ _ _ hbe]
        exact(Trans.drew w g).yP b' hb
      refine fin _ _ hr (fresh cur2 cp (iA g pl.b .free) (Trans.trans hfree (Trans.alloc w.drew _ _ _)) (fun i ver fr c pl2 hi hs2 hp2=>fj _ _ _ (h.apart p5 hi hs2 hp2)) q1 q2 q3 ?_ hll0)
      rw[q4]
      exact aZ.append htk hch
   ·simp only[ah]at he
  ·simp only[ah]at he
 ·simp only[ah]at he
end
end Go.Ab
namespace Go.Ab
abbrev wW:=Id→Nat→Option (Id×Nat)
structure mq(ρ:wW)(E E':Env):Prop where
 mem:kV E E'
 ref:∀id ver r,ρ id ver=some r→E.qL id ver→E'.qL r.1 r.2∧(E'.cur r.1 r.2→E.cur id ver∧E'.β r.1=E.β id)
theorem yB(ρ:wW)(a:aA):(a.fR ρ).agg=a.agg:=by
 cases a with
 |ptr id v p n=>simp only[aA.fR];cases ρ id v <;> rfl
 |cd id v p c i l=>simp only[aA.fR];cases ρ id v <;> rfl
 |ja id v=>simp only[aA.fR];cases ρ id v <;> rfl
 |_=>rfl
mutual
theorem uY{ρ:wW}{E E':Env}(h:mq ρ E E'):∀ {a:aA} {cs:List Value},V E a cs→V E' (a.fR ρ) cs
 | .undef,_,hv=>by simp only[V]at hv
 | .gone,_,hv=>by simpa only[aA.fR,V]using hv
 | .cU,_,hv=>by simpa only[aA.fR,V]using hv
 | .jR,_,hv=>by simpa only[aA.fR,V]using hv
 | .jQ,_,hv=>by simpa only[aA.fR,V]using hv
 | .lk,_,hv=>by simpa only[aA.fR,V]using hv
 | .sb l,_,hv=>by
  simp only[aA.fR,V]at hv ⊢
  obtain⟨b,cap,arr,e,h1,h2,h3,h4,h5⟩:=hv
  obtain⟨h6,h7⟩:=h.mem.fz b _ h3 h4
  exact⟨b,cap,arr,e,h1,h2,h6,h7,h5⟩
 | .d t x,_,hv=>by simp only[aA.fR,V]at hv ⊢;exact hv.mono h.mem
 | .pr a b,_,hv=>by
  simp only[aA.fR,V]at hv ⊢
  obtain⟨ca,cb,e,ha,hb⟩:=hv
  exact⟨ca,cb,e,uY h ha,uY h hb⟩
 | .ptr id ver p n,_,hv=>by
  have h1:=hv.one
  simp only[aA.fR]
  cases hr:ρ id ver with
  |none=>
   simp only[V]at hv ⊢
   obtain⟨a,e,_⟩:=hv
   exact⟨_,e,h1 _ (by simp[e])⟩
  |some r=>
   simp only[V]at hv ⊢
   obtain⟨a,e,hb,hc⟩:=hv
   obtain⟨b1,b2⟩:=h.ref id ver r hr hb
   refine⟨a,e,b1,fun c=> ?_⟩
   obtain⟨c1,e1⟩:=b2 c
   rw[e1];exact hc c1
 | .eC t x,_,hv=>by
  simp only[aA.fR,V]at hv ⊢
  obtain⟨b,off,vs,e,hr,hx⟩:=hv
  exact⟨b,off,vs,e,hr.mono h.mem,hx.mono h.mem⟩
 | .cd id ver p c i len,_,hv=>by
  have h1:=hv.one
  simp only[aA.fR]
  cases hr:ρ id ver with
  |none=>
   simp only[V]at hv ⊢
   obtain⟨a,cap,e,_⟩:=hv
   exact⟨_,e,h1 _ (by simp[e])⟩
  |some r=>
   simp only[V]at hv ⊢
   obtain⟨a,cap,e,hl,hs,hb,hc⟩:=hv
   obtain⟨b1,b2⟩:=h.ref id ver r hr hb
   refine⟨a,cap,e,hl,hs,b1,fun c=> ?_⟩
   obtain⟨c1,e1⟩:=b2 c
   rw[e1];exact hc c1
 | .fn f c,_,hv=>by
  simp only[aA.fR,V]at hv ⊢
  obtain⟨vs,e,hc⟩:=hv
  exact⟨vs,e,wY h hc⟩
 | .cons _ _,_,hv=>by simp only[V]at hv
 | .nil,_,hv=>by simp only[V]at hv
 | .vec ..,_,hv=>by simp only[V]at hv
 | .bx ..,_,hv=>by simp only[V]at hv
 | .ja id ver,_,hv=>by
  have h1:=hv.one
  simp only[aA.fR]
  cases hr:ρ id ver with
  |none=>
   simp only[V]at hv ⊢
   obtain⟨b,e,_⟩:=hv
   exact⟨_,e,h1 _ (by simp[e])⟩
  |some r=>
   simp only[V]at hv ⊢
   obtain⟨b,e,hb,hc⟩:=hv
   obtain⟨b1,b2⟩:=h.ref id ver r hr hb
   refine⟨b,e,b1,fun c=> ?_⟩
   obtain⟨c1,e1⟩:=b2 c
   rw[e1];exact hc c1
 | .mp ..,_,hv=>by simp only[V]at hv
theorem wY{ρ:wW}{E E':Env}(h:mq ρ E E'):∀ {a:aA} {vs:List Value},VC E a vs→VC E' (a.fR ρ) vs
 | .nil,_,hv=>by simpa only[aA.fR,VC]using hv
 | .cons a b,_,hv=>by
  simp only[aA.fR,VC]at hv ⊢
  obtain⟨v,vs',cs,e,ha,ho,hb⟩:=hv
  exact⟨v,vs',cs,e,uY h ha,by rw[yB];exact ho,wY h hb⟩
 | .undef,_,hv=>by simp only[VC]at hv
 | .gone,_,hv=>by simp only[VC]at hv
 | .cU,_,hv=>by simp only[VC]at hv
 | .jR,_,hv=>by simp only[VC]at hv
 | .jQ,_,hv=>by simp only[VC]at hv
 | .lk,_,hv=>by simp only[VC]at hv
 | .sb _,_,hv=>by simp only[VC]at hv
 | .d t x,_,hv=>by simp only[VC]at hv
 | .pr a b,_,hv=>by simp only[VC]at hv
 | .ptr ..,_,hv=>by simp only[VC]at hv
 | .eC ..,_,hv=>by simp only[VC]at hv
 | .cd ..,_,hv=>by simp only[VC]at hv
 | .fn ..,_,hv=>by simp only[VC]at hv
 | .vec ..,_,hv=>by simp only[VC]at hv
 | .bx ..,_,hv=>by simp only[VC]at hv
 | .ja ..,_,hv=>by simp only[VC]at hv
 | .mp ..,_,hv=>by simp only[VC]at hv
end
theorem qX{ρ:wW}{E E':Env}(h:mq ρ E E'){a:aA}{v:Value}(hv:VS E a v):VS E' (a.fR ρ) v:=by
 by_cases hc:a.ei=true
 ·obtain⟨cs,h1,h2⟩:=hv.ei hc
  exact VS.of (uY h h1) (by rw[yB];exact h2)
 ·cases a <;> first | (exact absurd rfl hc) | skip
  ·trivial
  ·obtain⟨vs,e,hvc⟩:=hv
   have:=wY h hvc
   simp only[aA.fR]at this ⊢
   exact⟨vs,e,this⟩
  ·exact hv
  ·obtain⟨cs,h1,_⟩:=hv
   simp only[V]at h1
  ·obtain⟨cs,h1,_⟩:=hv
   simp only[V]at h1
  ·obtain⟨cs,h1,_⟩:=hv
   simp only[V]at h1
theorem zA(ρ:wW)(c:aA):(c.fR ρ).strip=c.strip.fR ρ:=by
 cases c <;> first
  |rfl
  | (rename_i id ver p n;simp only[aA.strip,aA.fR];cases ρ id ver <;> rfl)
  | (rename_i id ver p c i len;simp only[aA.strip,aA.fR];cases ρ id ver <;> rfl)
  | (rename_i i v;simp only[aA.strip,aA.fR];cases ρ i v <;> rfl)
theorem py(ρ:wW):∀c:aA,(c.fR ρ).size=c.size
 | .pr a b=>by simp only[aA.fR,aA.size,py ρ a,py ρ b]
 | .ptr id ver p n=>by simp only[aA.fR];cases ρ id ver <;> rfl
 | .cd id ver p c i len=>by simp only[aA.fR];cases ρ id ver <;> rfl
 | .ja id ver=>by simp only[aA.fR];cases ρ id ver <;> rfl
 | .undef | .gone | .cU | .jR | .jQ | .lk | .d _ _ | .eC _ _ | .fn _ _ | .cons _ _ | .nil | .vec .. | .sb _ | .bx .. | .mp .. =>rfl
theorem z5(ρ:wW){c:aA}(n:Nat):(c.fR ρ).j5 n=c.j5 n:=by
 cases c with
 |bx e z c=>cases z with
  |zero=>rfl
  |succ z=>exact py ρ c
 |_=>first | rfl | (simp only[aA.fR];split <;> rfl)
theorem yR(ρ:wW){c:aA}{pl:Pl}{n:Nat}{e:TypeId}(h:c.mQ pl n e):(c.fR ρ).mQ pl n e:=by
  cases c <;> first
    | (rename_i e' z c;cases z with
       |zero=>exact h
       |succ z=>exact⟨h.1,h.2.1,h.2.2.1,by rw[py];exact h.2.2.2⟩)
    |exact h
    |trivial
    | (rename_i id ver p n;simp only[aA.fR];cases ρ id ver <;> trivial)
    | (rename_i id ver p c i len;simp only[aA.fR];cases ρ id ver <;> trivial)
    | (rename_i i v;simp only[aA.fR];cases ρ i v <;> trivial)
theorem lz{ρ:wW}{E E':Env}(h:mq ρ E E'){id id':Id}{fr:Bool}{c:aA}(ho:lR E id fr c)(hβ:E'.β id'=E.β id)
  (hb:∀pl,E.β id=some pl→E'.w.heap[pl.b]? =E.w.heap[pl.b]? ∧(∀k,E.g pl.b= .own (.id id) k→E'.g pl.b= .own (.id id') k)∧(E.g pl.b= .free→E'.g pl.b= .free)):lR E' id' fr (c.fR ρ):=by
 by_cases hn:c.fC=false
 ·obtain⟨pl,cur,e,h1,h2,h3,h5,h4⟩:=ho.box hn
  obtain⟨b1,b2,b3⟩:=hb pl h1
  have h6:=uY h h4
  refine pD.obj ⟨pl,cur,e,by rw[hβ,h1],by rw[b1,h2],?_,yR ρ h5,by rw[zA,z5];exact h6⟩
  cases fr with
  |true=>exact b3 h3
  |false=>exact b2 0 h3
 ·cases c <;> first
   | (exact absurd rfl hn)
   |skip
  rotate_left
  ·obtain⟨pl,es,clock,h1,h2,h3,h4⟩:=ho
   obtain⟨b1,b2,_⟩:=hb pl h1
   exact⟨pl,es,clock,by rw[hβ,h1],by rw[b1,h2],b2 0 h3,h4.mono fun _ _ he=>he.mono h.mem⟩
  rename_i e t l
  obtain⟨hz,ho⟩:=ho
  refine⟨hz,?_⟩
  rw[hβ]
  cases hp:E.β id with
  |none=>rw[hp]at ho;exact ho
  |some pl=>
   rw[hp]at ho
   simp only at ho ⊢
   obtain⟨b1,b2,_⟩:=hb pl hp
   obtain⟨cur,k,h1,h2,h3,h4,h5,h6,h7,h8⟩:=ho
   exact⟨cur,k,by rw[b1,h1],h2,h3,h4,b2 k h5,h6,h7,h8.mono fun c x hx=>hx.mono h.mem⟩
def oI(E:Env):List aA→List Value→Prop
 |[],[]=>True
 |a::as,v::vs=>VS E a v∧oI E as vs
 |_,_=>False
def aY.st(G:aY):AS:= {cg:=[],db:=G.db,news:=[G.news]}
def ig(db:List eF):AS:= {cg:=[],db,news:=[]}
def mI(E:Env)(G:aY)(v:Value)(w':World):Prop:=
 ∃g' β',VS (G.st.env w' g' β') G.val v∧gh (G.st.env w' g' β')∧Trans E.w w' E.g g'∧cP E (G.st.env w' g' β')
def lv(P:Program)(f:FuncId)(en:Entry):Prop:=
 ∀w g β args db jh x,oI ((ig db).env w g β) args jh→gh ((ig db).env w g β)→en.run args db=some x→
  ((callFunc f jh.toArray).run P w= .ok (.enter f jh.toArray) w∧
   Calls P f jh.toArray w fun e w'=>∃v,e= .returned v∧mI ((ig db).env w g β) (en.out args db x) v w')∨
  (∃v w',(callFunc f jh.toArray).run P w= .ok (.value v) w'∧mI ((ig db).env w g β) (en.out args db x) v w')
def Sound(P:Program)(Γ:dR):Prop:=∀f vs en,Γ f vs=some en→lv P f en
theorem oI.mono{E E':Env}(h:cP E E'):∀ {as:List aA} {vs:List Value},oI E as vs→oI E' as vs
 |[],[],_=>trivial
 |_::_,_::_,⟨h1,h2⟩=>⟨h1.mono h,oI.mono h h2⟩
theorem oI.fR{ρ:wW}{E E':Env}(h:mq ρ E E'):∀ {as:List aA} {vs:List Value},oI E as vs→oI E' (as.map (aA.fR ρ)) vs
 |[],[],_=>trivial
 |_::_,_::_,⟨h1,h2⟩=>⟨qX h h1,oI.fR h h2⟩
theorem oI.append{E:Env}:∀ {as:List aA} {vs:List Value} {bs:List aA} {us:List Value},oI E as vs→oI E bs us→oI E (as++bs) (vs++us)
 |[],[],_,_,_,h=>h
 |_::_,_::_,_,_,⟨h1,h2⟩,h=>⟨h1,oI.append h2 h⟩
theorem zS{E:Env}:∀ {c:aA} {vs:List Value},VC E c vs→oI E c.list vs
 | .cons a b,vs,h=>by
  simp only[VC]at h
  obtain⟨v,vs',cs,rfl,ha,ho,hb⟩:=h
  exact⟨VS.of ha ho,zS hb⟩
 | .nil,vs,h=>by
  simp only[VC]at h
  subst h
  trivial
 | .undef,_,hv=>by simp only[VC]at hv
 | .gone,_,hv=>by simp only[VC]at hv
 | .cU,_,hv=>by simp only[VC]at hv
 | .jR,_,hv=>by simp only[VC]at hv
 | .jQ,_,hv=>by simp only[VC]at hv
 | .lk,_,hv=>by simp only[VC]at hv
 | .sb _,_,hv=>by simp only[VC]at hv
 | .d t x,_,hv=>by simp only[VC]at hv
 | .pr a b,_,hv=>by simp only[VC]at hv
 | .ptr ..,_,hv=>by simp only[VC]at hv
 | .eC ..,_,hv=>by simp only[VC]at hv
 | .cd ..,_,hv=>by simp only[VC]at hv
 | .fn ..,_,hv=>by simp only[VC]at hv
 | .vec ..,_,hv=>by simp only[VC]at hv
 | .bx ..,_,hv=>by simp only[VC]at hv
 | .ja ..,_,hv=>by simp only[VC]at hv
 | .mp ..,_,hv=>by simp only[VC]at hv
theorem Inv.EG{C:Ctx}{g:Nat→hZ}{β:Id→Option Pl}{s:AS}{a:Act}{w:World}(h:Inv C g β s a w):∀l:List Operand,oI (s.env w g β) (l.map s.ev) (l.map a.eval)
 |[]=>trivial
 |x::l=>⟨h.ev x,h.EG l⟩
theorem re{E E':Env}{s:AS}(hs:E.s=s.bY)(ho:gh E)(he:cP E E'):∀(ps:List (Option Ty)) (vs:List aA) (ys:List Value) (r:List aA×List Id),oI E vs ys→(s.conv ps vs).eval=some r→Dj E E' r.2→oI E' r.1 ys
 |[],[],ys,r,hv,h,_=>by
  simp only[AS.conv,au]at h
  subst h
  cases ys with
  |nil=>trivial
  |cons _ _=>exact hv.elim
 |some t::ps,v::vs,y::ys,r,⟨hv,hvs⟩,h,hf=>by
  simp only[AS.conv]at h
  obtain⟨x,h1,h2⟩:=ao.1 h
  obtain⟨r',h3,h4⟩:=ao.1 h2
  obtain rfl:=au.1 h4
  obtain⟨cs,hV,hO⟩:=hv.ei (k8 h1)
  refine⟨VS.of (cs:=cs) ?_ ?_,re hs ho he ps vs ys r' hvs h3 fun id hid=>hf id (List.mem_append.2 (.inr hid))⟩
  ·simp only[V]
   exact j2 hs ho he v t x cs hV h1 fun id hid=>hf id (List.mem_append.2 (.inl hid))
  ·show eV t.agg cs y
   rw[←sr h1];exact hO
 |none::ps,v::vs,y::ys,r,⟨hv,hvs⟩,h,hf=>by
  simp only[AS.conv]at h
  obtain⟨r',h3,h4⟩:=ao.1 h
  obtain rfl:=au.1 h4
  exact⟨hv.mono he,re hs ho he ps vs ys r' hvs h3 hf⟩
 |[],_::_,_,_,_,h,_=>by simp only[AS.conv,ah]at h
 |some _::_,[],_,_,_,h,_=>by simp only[AS.conv,ah]at h
 |none::_,[],_,_,_,h,_=>by simp only[AS.conv,ah]at h
end Go.Ab
namespace Go.Ab
theorem iH{id:Id}:∀ {ids:List Id} {k:Nat},idxOf id ids=some k→ids[k]? =some id
 |[],_,h=>by simp[idxOf]at h
 |x::xs,k,h=>by
  simp only[idxOf]at h
  split at h
  ·rename_i e
   simp only[Option.some.injEq]at h
   subst h e
   rfl
  ·simp only[Option.map_eq_some_iff]at h
   obtain⟨j,hj,rfl⟩:=h
   simpa using iH hj
theorem kY{id:Id}:∀ {ids:List Id} {k:Nat},ids.Nodup→ids[k]? =some id→idxOf id ids=some k
 |[],_,_,h=>by simp at h
 |x::xs,0,hn,h=>by
  simp only[List.getElem?_cons_zero,Option.some.injEq]at h
  simp[idxOf,h]
 |x::xs,k+1,hn,h=>by
  simp only[List.getElem?_cons_succ]at h
  obtain⟨h1,h2⟩:=List.nodup_cons.1 hn
  have hne:x≠id:=fun e=>h1 (e▸List.mem_of_getElem? h)
  simp[idxOf,hne,kY h2 h]
theorem lr(s0:AS)(all:List Id)(t:Nat):∀(ids:List Id) (es:List eF) (s:AS),(AS.fL s0 all t s ids es).cg=s.cg
 |[],_,_=>by simp[AS.fL]
 |_::_,[],_=>by simp[AS.fL]
 |id::ids,e::es,s=>by rw[AS.fL,lr s0 all t ids es,dC]
theorem sj(s:AS)(ids:List Id)(t:Nat)(es:List eF):(s.made ids t es).cg=s.cg:=by cases es <;> rfl
theorem mU(s0:AS)(all:List Id)(t:Nat):∀(ids:List Id) (es:List eF) (s:AS),ids.Nodup→es.length=ids.length→(∀id∈ids,s.bY id≠none)→
  (∀id,id ∉ ids→(AS.fL s0 all t s ids es).bY id=s.bY id)∧
  ∀(k:Nat) (id:Id) (e:eF),ids[k]? =some id→es[k]? =some e→(AS.fL s0 all t s ids es).bY id=some (s0.iD all t (s0.k9 id) e)
 |[],es,s,_,_,_=>⟨fun _ _=>by simp[AS.fL],fun k id e h=>by simp at h⟩
 |_::_,[],s,_,hl,_=>by simp at hl
 |i::ids,e::es,s,hn,hl,hp=>by
  obtain⟨h1,h2⟩:=List.nodup_cons.1 hn
  have hp':∀id∈ids,(s.bp i (s0.iD all t (s0.k9 i) e)).bY id≠none:=fun id hid=>by
   rw[dN s i id _ (fun e=>h1 (e▸hid))]
   exact hp id (List.mem_cons_of_mem _ hid)
  obtain⟨r1,r2⟩:=mU s0 all t ids es (s.bp i (s0.iD all t (s0.k9 i) e)) h2 (by simpa using hl) hp'
  rw[AS.fL]
  refine⟨fun id hid=> ?_,fun k id e' hk he=> ?_⟩
  ·simp only[List.mem_cons,not_or]at hid
   rw[r1 id hid.2,dN s i id _ hid.1]
  ·cases k with
   |zero=>
    simp only[List.getElem?_cons_zero,Option.some.injEq]at hk he
    subst hk he
    rw[r1 i h1,eI s i _ (hp i (List.mem_cons_self ..))]
   |succ k=>
    simp only[List.getElem?_cons_succ]at hk he
    exact r2 k id e' hk he
theorem vq(s:AS)(ids:List Id)(t:Nat)(es:List eF)(hv:es=[]∨s.dH t=true):
  (∀id,(es=[]∨∀j,id≠ .new t j)→(s.made ids t es).bY id=s.bY id)∧(es≠ []→∀j,(s.made ids t es).bY (.new t j)=(es[j]?).map (s.iD ids t 0)):=by
 cases es with
 |nil=>exact⟨fun _ _=>rfl,fun h=>absurd rfl h⟩
 |cons e es=>
  have hv:s.dH t=true:=by
   rcases hv with h | h
   ·cases h
   ·exact h
  refine⟨fun id h=> ?_,fun _ j=> ?_⟩
  ·rcases h with h | h
   ·cases h
   ·exact gl _ h
  ·rw[AS.made,ki (fW hv).2,List.getElem?_map]
def gV(ids:List Id):hZ→hZ
 | .free=> .free
 | .own .eG n=> .own .eG n
 | .own (.id i) n=>match idxOf i ids with | some k=> .own (.id (.fB k)) n | none=> .own .eG n
def nI(β:Id→Option Pl)(ids:List Id):Id→Option Pl
 | .fB k=>(ids[k]?).bind β
 | .new _ _=>none
def gM(g:Nat→hZ)(size:Nat)(ids:List Id)(t:Nat)(b:Nat):hZ→hZ
 | .free=> .free
 | .own .eG n=>if b < size then g b else .own .eG n
 | .own (.id i) n=> .own (.id (Ck ids t i)) n
def jU(β β':Id→Option Pl)(ids:List Id)(t:Nat)(some?:Bool)(id:Id):Option Pl:=
 match idxOf id ids with
 |some k=>β' (.fB k)
 |none=>match id with
  | .new i j=>if i=t∧some?=true then β' (.new 0 j) else β (.new i j)
  |id=>β id
theorem Az{ids:List Id}{l:hZ}{off:Nat}(h:jT (fun _=>l) 0 off):jT (fun _=>gV ids l) 0 off:=by
 cases l with
 |free=>trivial
 |own o k=>cases o with
  |eG=>exact h
  |id i=>simp only[gV];cases idxOf i ids <;> exact h
section
variable {P:Program} {C:Ctx} {g:Nat→hZ} {β:Id→Option Pl} {s:AS} {a:Act} {w:World} {o:Oper}
theorem Cl(ids:List Id):
  mq (s.kc ids) (s.env w g β) ((ig (ids.map (s.gT ids))).env w (fun b=>gV ids (g b)) (nI β ids)):=by
 refine⟨⟨fun b off v ⟨h1,h2⟩=>⟨h1,?_⟩,fun b ob h1 h2=>⟨by show gV ids (g b)= .free;have h1:g b= .free:=h1;rw[h1];rfl,h2⟩⟩,fun id ver r hr _=> ?_⟩
 ·exact Az (l:=g b) h2
 ·unfold AS.kc at hr
  split at hr
  ·rename_i k v fr c hk ho
   split at hr
   ·rename_i hver
    simp only[Option.some.injEq]at hr
    subst hr hver
    have hid:=iH hk
    have hent:=eg ho
    refine⟨⟨?_,fun _ _ _ _=>Nat.zero_le _⟩,fun _=>⟨⟨fr,c,hent⟩,?_⟩⟩
    ·show(ids.map (s.gT ids))[k]? ≠none
     simp[hid]
    ·show(ids[k]?).bind β=β id
     rw[hid];rfl
   ·cases hr
  ·cases hr
theorem BO(ids:List Id)(hn:ids.Nodup)(h:gh (s.env w g β)):gh ((ig (ids.map (s.gT ids))).env w (fun b=>gV ids (g b)) (nI β ids)):=by
 intro id ver fr c hid
 have hid:(ig (ids.map (s.gT ids))).bY id=some (.obj ver fr c):=hid
 cases id with
 |new i j=>simp[ig,AS.bY]at hid
 |fB k=>
  simp only[ig,AS.bY,List.getElem?_map,Option.map_eq_some_iff]at hid
  obtain⟨id1,hk,he⟩:=hid
  unfold AS.gT at he
  split at he
  ·rename_i v fr1 c1 hent
   simp only[eF.obj.injEq]at he
   obtain⟨rfl,rfl,rfl⟩:=he
   refine lz (Cl ids) (h id1 v fr1 c1 hent) (by show(ids[k]?).bind β=β id1;rw[hk];rfl) fun pl hp=>⟨rfl,fun n hg=> ?_,fun hg=> ?_⟩
   ·have hg:g pl.b= .own (.id id1) n:=hg
    show gV ids (g pl.b)=_
    rw[hg]
    simp[gV,kY hn hk]
   ·have hg:g pl.b= .free:=hg
    show gV ids (g pl.b)=_
    rw[hg];rfl
  ·cases he
theorem qZ(h:Inv C g β s a w){ids:List Id}(hn:ids.Nodup)(hp:∀id∈ids,∃r,s.obj id=some r){G:aY}{t:Nat}(hl:G.db.length=ids.length)(hv:G.news=[]∨s.dH t=true){v:Value}{w':World}
  (ha:mI ((ig (ids.map (s.gT ids))).env w (fun b=>gV ids (g b)) (nI β ids)) G v w'):
  ∃g' β',Inv C g' β' (AS.fL s ids t (s.made ids t G.news) ids G.db) a w'∧VS ((AS.fL s ids t (s.made ids t G.news) ids G.db).env w' g' β') (G.val.fR (s.js ids t)) v:=by
 obtain⟨g1,β1,hval,hobjs,htr,hle⟩:=ha
 have htr:Trans w w' (fun b=>gV ids (g b)) g1:=htr
 obtain⟨m1,m2⟩:=vq s ids t G.news hv
 have hpe:∀id∈ids,s.bY id≠none:=fun id hid=>by
  obtain⟨⟨v,fr,c⟩,hr⟩:=hp id hid
  rw[eg hr];simp
 have hnew:∀id,s.bY id≠none→G.news=[]∨∀j,id≠ .new t j:=fun id hid=>by
  rcases hv with hv | hv
  ·exact .inl hv
  ·exact .inr fun j e=>hid (by rw[e];exact(fW hv).1 j)
 obtain⟨n1,n2⟩:=mU s ids t ids G.db (s.made ids t G.news) hn hl (fun id hid=>by rw[m1 id (hnew id (hpe id hid))];exact hpe id hid)
 have hvt:∀j,G.news≠ []→Id.new t j ∉ ids:=fun j hne hid=>by
  rcases hv with hv | hv
  ·exact hne hv
  ·exact hpe _ hid ((fW hv).1 j)
 generalize hs2:AS.fL s ids t (s.made ids t G.news) ids G.db=s2 at*
 have hgO:∀(k:Nat) (id:Id),ids[k]? =some id→∃e,G.db[k]? =some e∧s2.bY id=some (s.iD ids t (s.k9 id) e):=fun k id hk=>by
  have hlt:k < G.db.length:=by rw[hl];exact(List.getElem?_eq_some_iff.1 hk).1
  exact⟨_,List.getElem?_eq_getElem hlt,n2 k id _ hk (List.getElem?_eq_getElem hlt)⟩
 have hgN:G.news≠ []→∀j,s2.bY (.new t j)=(G.news[j]?).map (s.iD ids t 0):=fun hne j=>by
  rw[n1 _ (hvt j hne),m2 hne j]
 have hgS:∀id,id ∉ ids→(G.news=[]∨∀j,id≠ .new t j)→s2.bY id=s.bY id:=fun id h1 h2=>by
  rw[n1 id h1,m1 id h2]
 have hverOf:∀id∈ids,∃fr c,s.bY id=some (.obj (s.k9 id) fr c):=fun id hid=>by
  obtain⟨⟨v,fr,c⟩,hr⟩:=hp id hid
  refine⟨fr,c,?_⟩
  rw[eg hr]
  simp[AS.k9,hr]
 have hfor:∀b n,b < w.heap.size→g1 b= .own .eG n→(g b= .own .eG n∨∃i,g b= .own (.id i) n∧idxOf i ids=none):=fun b n hb hg=>by
  have h1:=htr.yP b hb
  cases hgb:g b with
  |free=>simp only[hgb,gV]at h1;rw[h1.1]at hg;cases hg
  |own o k=>cases o with
   |eG=>simp only[hgb,gV]at h1;rw[h1.1]at hg;left;exact hg
   |id i=>
    cases hi:idxOf i ids with
    |none=>
     simp only[hgb,gV,hi]at h1
     rw[h1.1]at hg
     simp only[hZ.own.injEq,true_and]at hg
     subst hg
     exact .inr ⟨i,rfl,hi⟩
    |some k'=>
     simp only[hgb,gV,hi]at h1
     rcases h1.1 with h2 | ⟨_,_,h2,_⟩ <;> (rw[h2]at hg;cases hg)
 let g2:Nat→hZ:=fun b=>gM g w.heap.size ids t b (g1 b)
 let β2:Id→Option Pl:=jU β β1 ids t (!G.news.isEmpty)
 have hβO:∀k id,ids[k]? =some id→β2 id=β1 (.fB k):=fun k id hk=>by
  show jU _ _ _ _ _ id=_
  simp[jU,kY hn hk]
 have hβN:G.news≠ []→∀j,β2 (.new t j)=β1 (.new 0 j):=fun hne j=>by
  show jU _ _ _ _ _ _=_
  have:idxOf (.new t j) ids=none:=by
   cases hi:idxOf (.new t j) ids with
   |none=>rfl
   |some k=>exact absurd (List.mem_of_getElem? (iH hi)) (hvt j hne)
  have hne':G.news.isEmpty=false:=by cases hh:G.news with
   |nil=>exact absurd hh hne
   |cons _ _=>rfl
  simp[jU,this,hne']
 have hβS:∀id,id ∉ ids→(G.news=[]∨∀j,id≠ .new t j)→β2 id=β id:=fun id h1 h2=>by
  show jU _ _ _ _ _ _=_
  have:idxOf id ids=none:=by
   cases hi:idxOf id ids with
   |none=>rfl
   |some k=>exact absurd (List.mem_of_getElem? (iH hi)) h1
  cases id with
  |fB k=>simp[jU,this]
  |new i j=>
   have:¬(i=t∧(!G.news.isEmpty)=true):=by
    rintro⟨rfl,h3⟩
    rcases h2 with h2 | h2
    ·rw[h2]at h3;cases h3
    ·exact h2 j rfl
   simp only[jU, *,if_false]
 have htr2:Trans w w' g g2:=by
  refine⟨htr.os,htr.tape,htr.output,htr.size,fun b hb=> ?_⟩
  have h1:=htr.yP b hb
  show match g b with | .free=>gM g w.heap.size ids t b (g1 b)= .free∧_ | .own .eG k=>gM g w.heap.size ids t b (g1 b)= .own .eG k∧_ | .own (.id _) k=>(gM g w.heap.size ids t b (g1 b)= .free∨∃i k',gM g w.heap.size ids t b (g1 b)= .own (.id i) k'∧k≤k')∧_
  cases hgb:g b with
  |free=>simp only[hgb,gV]at h1 ⊢;rw[h1.1];exact⟨rfl,h1.2⟩
  |own o k=>cases o with
   |eG=>simp only[hgb,gV]at h1 ⊢;rw[h1.1];simp only[gM,hb,if_true,hgb];exact⟨trivial,h1.2⟩
   |id i=>
    cases hi:idxOf i ids with
    |none=>
     simp only[hgb,gV,hi]at h1 ⊢
     rw[h1.1]
     simp only[gM,hb,if_true,hgb]
     exact⟨.inr ⟨i,k,rfl,Nat.le_refl _⟩,fun off v _ hv=>by simpa only[World.cell?,h1.2]using hv⟩
    |some k'=>
     simp only[hgb,gV,hi]at h1 ⊢
     refine⟨?_,h1.2⟩
     rcases h1.1 with h2 | ⟨i',k'',h2,h3⟩
     ·rw[h2];exact .inl rfl
     ·rw[h2];exact .inr ⟨_,k'',rfl,h3⟩
 have hmem:kV (G.st.env w' g1 β1) (s2.env w' g2 β2):=by
  refine⟨fun b off v ⟨h1,h2⟩=> ?_,fun b ob h1 h2=>⟨by show gM g w.heap.size ids t b (g1 b)= .free;have h1:g1 b= .free:=h1;rw[h1];rfl,h2⟩⟩
  refine⟨h1,?_⟩
  have h2:jT g1 b off:=h2
  show jT g2 b off
  unfold jT at h2 ⊢
  show match gM g w.heap.size ids t b (g1 b) with | .free=>True | .own _ k=>off < k
  cases hgb:g1 b with
  |free=>simp[gM]
  |own o k=>
   rw[hgb]at h2
   cases o with
   |eG=>
    simp only[gM]
    by_cases hb:b < w.heap.size
    ·rw[if_pos hb]
     rcases hfor b k hb hgb with h3 | ⟨i,h3,_⟩ <;> (rw[h3];exact h2)
    ·rw[if_neg hb];exact h2
   |id i=>exact h2
 have hentOut:∀(base:Nat) (e:eF) (ver:Nat) (fr:Bool) (c:aA),s.iD ids t base e= .obj ver fr c→∃v0 c0,e= .obj v0 fr c0∧ver=base+v0∧c=c0.fR (s.js ids t):=fun base e ver fr c he=>by
  cases e with
  |dead=>cases he
  |obj v0 fr0 c0=>
   simp only[AS.iD,eF.obj.injEq]at he
   obtain⟨rfl,rfl,rfl⟩:=he
   exact⟨v0,c0,rfl,rfl,rfl⟩
 have hout:mq (s.js ids t) (G.st.env w' g1 β1) (s2.env w' g2 β2):=by
  refine⟨hmem,fun id ver r hr hb=> ?_⟩
  cases id with
  |fB k=>
   obtain⟨hb1,hb2⟩:=hb
   have hb1:G.db[k]? ≠none:=hb1
   have hk:k < ids.length:=by
    rcases Nat.lt_or_ge k ids.length with h' | h'
    ·exact h'
    ·exact absurd (List.getElem?_eq_none (by omega)) hb1
   have hid:ids[k]? =some ids[k]:=List.getElem?_eq_getElem hk
   simp only[AS.js,hid,Option.some.injEq]at hr
   subst hr
   obtain⟨e,he1,he2⟩:=hgO k _ hid
   refine⟨⟨by show s2.bY _≠none;rw[he2];simp,fun v fr c hh=> ?_⟩,fun⟨fr,c,hh⟩=>⟨?_,hβO k _ hid⟩⟩
   ·have hh:s2.bY ids[k]=some (.obj v fr c):=hh
    rw[he2,Option.some.injEq]at hh
    obtain⟨v0,c0,rfl,rfl,_⟩:=hentOut _ _ _ _ _ hh
    have:=hb2 v0 fr c0 he1
    omega
   ·have hh:s2.bY ids[k]=some (.obj (s.k9 ids[k]+ver) fr c):=hh
    rw[he2,Option.some.injEq]at hh
    obtain⟨v0,c0,rfl,hv0,_⟩:=hentOut _ _ _ _ _ hh
    obtain rfl:ver=v0:=by omega
    exact⟨fr,c0,he1⟩
  |new i j=>
   simp only[AS.js,Option.some.injEq]at hr
   subst hr
   obtain⟨hb1,hb2⟩:=hb
   have hb1:([G.news].getD i [])[j]? ≠none:=hb1
   have hb2:∀v fr c,([G.news].getD i [])[j]? =some (.obj v fr c)→ver≤v:=hb2
   cases i with
   |succ i=>simp at hb1
   |zero=>
    simp only[List.getD_cons_zero]at hb1 hb2
    have hne:G.news≠ []:=fun e=>by rw[e]at hb1;simp at hb1
    obtain⟨e,he⟩:=Option.ne_none_iff_exists'.1 hb1
    have he2:=hgN hne j
    rw[he,Option.map_some]at he2
    refine⟨⟨by show s2.bY (.new t j)≠none;rw[he2];simp,fun v fr c hh=> ?_⟩,fun⟨fr,c,hh⟩=>⟨?_,hβN hne j⟩⟩
    ·have hh:s2.bY (.new t j)=some (.obj v fr c):=hh
     rw[he2,Option.some.injEq]at hh
     obtain⟨v0,c0,rfl,rfl,_⟩:=hentOut _ _ _ _ _ hh
     have:=hb2 v0 fr c0 he
     simp only
     omega
    ·have hh:s2.bY (.new t j)=some (.obj ver fr c):=hh
     rw[he2,Option.some.injEq]at hh
     obtain⟨v0,c0,rfl,hv0,_⟩:=hentOut _ _ _ _ _ hh
     obtain rfl:ver=v0:=by omega
     exact⟨fr,c0,he⟩
 have hle2:cP (s.env w g β) (s2.env w' g2 β2):=by
  refine⟨Trans.mem htr2,fun id ver hb=> ?_,fun id ver hb hc=> ?_⟩
  ·obtain⟨hb1,hb2⟩:=hb
   have hb1:s.bY id≠none:=hb1
   have hb2:∀v fr c,s.bY id=some (.obj v fr c)→ver≤v:=hb2
   by_cases hid:id∈ids
   ·obtain⟨k,hk⟩:=List.mem_iff_getElem?.1 hid
    obtain⟨e,he1,he2⟩:=hgO k id hk
    obtain⟨fr1,c1,hs1⟩:=hverOf id hid
    refine⟨by show s2.bY _≠none;rw[he2];simp,fun v fr c hh=> ?_⟩
    have hh:s2.bY id=some (.obj v fr c):=hh
    rw[he2,Option.some.injEq]at hh
    obtain⟨v0,c0,rfl,rfl,_⟩:=hentOut _ _ _ _ _ hh
    have:=hb2 _ _ _ hs1
    omega
   ·have:=hgS id hid (hnew id hb1)
    exact⟨by show s2.bY _≠none;rw[this];exact hb1,fun v fr c hh=>hb2 v fr c (this.symm.trans hh)⟩
  ·obtain⟨hb1,hb2⟩:=hb
   have hb1:s.bY id≠none:=hb1
   have hb2:∀v fr c,s.bY id=some (.obj v fr c)→ver≤v:=hb2
   obtain⟨fr,c,hh⟩:=hc
   have hh:s2.bY id=some (.obj ver fr c):=hh
   by_cases hid:id∈ids
   ·obtain⟨k,hk⟩:=List.mem_iff_getElem?.1 hid
    obtain⟨e,he1,he2⟩:=hgO k id hk
    obtain⟨fr1,c1,hs1⟩:=hverOf id hid
    rw[he2,Option.some.injEq]at hh
    obtain⟨v0,c0,rfl,hv0,_⟩:=hentOut _ _ _ _ _ hh
    have hver:=hb2 _ _ _ hs1
    obtain rfl:v0=0:=by omega
    have hver':ver=s.k9 id:=by omega
    refine⟨⟨fr1,c1,by rw[hver'];exact hs1⟩,?_⟩
    show β2 id=β id
    rw[hβO k id hk]
    have hin:s.gT ids id= .obj 0 fr1 (c1.fR (s.kc ids)):=by simp[AS.gT,hs1]
    have h0:((ig (ids.map (s.gT ids))).env w (fun b=>gV ids (g b)) (nI β ids)).qL (.fB k) 0:=by
     refine⟨?_,fun _ _ _ _=>Nat.zero_le _⟩
     show(ids.map (s.gT ids))[k]? ≠none
     simp[hk]
    have:=(hle.cur (.fB k) 0 h0 ⟨fr,c0,he1⟩).2
    have this:β1 (.fB k)=(ids[k]?).bind β:=this
    rw[this,hk];rfl
   ·have:=hgS id hid (hnew id hb1)
    exact⟨⟨fr,c,this.symm.trans hh⟩,hβS id hid (hnew id hb1)⟩
 have hobj2:gh (s2.env w' g2 β2):=by
  intro id ver fr c hh
  have hh:s2.bY id=some (.obj ver fr c):=hh
  by_cases hid:id∈ids
  ·obtain⟨k,hk⟩:=List.mem_iff_getElem?.1 hid
   obtain⟨e,he1,he2⟩:=hgO k id hk
   rw[he2,Option.some.injEq]at hh
   obtain⟨v0,c0,rfl,_,rfl⟩:=hentOut _ _ _ _ _ hh
   refine lz hout (hobjs (.fB k) v0 fr c0 he1) (hβO k id hk) fun pl _=>⟨rfl,fun n hg=> ?_,fun hg=> ?_⟩
   ·have hg:g1 pl.b= .own (.id (.fB k)) n:=hg
    show gM g w.heap.size ids t pl.b (g1 pl.b)=_
    rw[hg]
    simp[gM,Ck,List.getD_eq_getElem?_getD,hk]
   ·have hg:g1 pl.b= .free:=hg
    show gM g w.heap.size ids t pl.b (g1 pl.b)=_
    rw[hg];rfl
  ·by_cases hne:G.news≠ []∧∃j,id= .new t j
   ·obtain⟨hne,j,rfl⟩:=hne
    rw[hgN hne j,Option.map_eq_some_iff]at hh
    obtain⟨e,he,hh⟩:=hh
    obtain⟨v0,c0,rfl,_,rfl⟩:=hentOut _ _ _ _ _ hh
    refine lz hout (hobjs (.new 0 j) v0 fr c0 (by show([G.news].getD 0 [])[j]? =_;simpa using he)) (hβN hne j) fun pl _=>⟨rfl,fun n hg=> ?_,fun hg=> ?_⟩
    ·have hg:g1 pl.b= .own (.id (.new 0 j)) n:=hg
     show gM g w.heap.size ids t pl.b (g1 pl.b)=_
     rw[hg]
     rfl
    ·have hg:g1 pl.b= .free:=hg
     show gM g w.heap.size ids t pl.b (g1 pl.b)=_
     rw[hg];rfl
   ·have hor:G.news=[]∨∀j,id≠ .new t j:=by
     by_cases hh:G.news=[]
     ·exact .inl hh
     ·exact .inr fun j e=>hne ⟨hh,j,e⟩
    rw[hgS id hid hor]at hh
    have ho:=h.bH id ver fr c hh
    refine ho.mono hle2 (hβS id hid hor) fun pl hpl=> ?_
    have hpl:β id=some pl:=hpl
    obtain⟨hb,hlab⟩:=ho.label (pl:=pl) hpl
    have hb:pl.b < w.heap.size:=hb
    have h1:=htr.yP pl.b hb
    have hidx:idxOf id ids=none:=by
     cases hi:idxOf id ids with
     |none=>rfl
     |some k=>exact absurd (List.mem_of_getElem? (iH hi)) hid
    show w'.heap[pl.b]? =w.heap[pl.b]? ∧gM g w.heap.size ids t pl.b (g1 pl.b)=g pl.b
    rcases hlab with⟨k,hk⟩ | ⟨_,hk⟩
    ·have hk:g pl.b= .own (.id id) k:=hk
     simp only[hk,gV,hidx]at h1
     rw[h1.1]
     simp only[gM,hb,if_true]
     exact⟨h1.2,trivial⟩
    ·have hk:g pl.b= .free:=hk
     simp only[hk,gV]at h1
     rw[h1.1,hk]
     exact⟨h1.2,rfl⟩
 have hsl:s2.cg=s.cg:=by rw[←hs2,lr,sj]
 exact⟨g2,β2,h.step hsl htr2 hle2 hobj2,qX hout hval⟩
end
end Go.Ab
namespace Go.Ab
theorem jW(s:AS):∀(n:Nat) (todo acc:List Id),acc.Nodup→(s.reach n todo acc).Nodup
 | 0,_,acc,h=>by simpa[AS.reach]using h
 |_+1,[],acc,h=>by simpa[AS.reach]using h
 |n+1,id::todo,acc,h=>by
  rw[AS.reach]
  split
  ·exact jW s n todo acc h
  ·rename_i hc
   refine jW s n _ _ ?_
   rw[List.nodup_append]
   refine⟨h,by simp,fun x hx y hy e=> ?_⟩
   simp only[List.mem_singleton]at hy
   subst hy e
   exact hc (by simpa using hx)
theorem vN(s:AS)(vs:List aA):(s.yk vs).Nodup:=jW s _ _ _ (by simp)
section
variable {P:Program} {C:Ctx} {g:Nat→hZ} {β:Id→Option Pl} {s:AS} {a:Act} {w:World} {o:Oper}
theorem xj(h:Inv C g β s a w){f:FuncId}{en:Entry}(hd:lv P f en){ids:List Id}(hn:ids.Nodup){vs:List aA}{ys:List Value}(hv:oI (s.env w g β) vs ys)
  (hr:(execOp a.eval o).run P w=(callFunc f ys.toArray).run P w) {s':AS} (he:(s.enter en o.dst ids vs).eval=some s'):eN P o a w (fI C s'):=by
 unfold AS.enter at he
 obtain⟨hall,he⟩:=aC.1 he
 obtain⟨x,hx,he⟩:=rk.1 he
 have hp:∀id∈ids,∃r,s.obj id=some r:=fun id hid=>by
  have:=List.all_eq_true.1 hall id hid
  exact Option.isSome_iff_exists.1 this
 have hdo:=hd w (fun b=>gV ids (g b)) (nI β ids) (vs.map (aA.fR (s.kc ids))) (ids.map (s.gT ids)) ys x (oI.fR (Cl ids) hv) (BO ids hn h.bH) hx
 have key:∀v w',mI ((ig (ids.map (s.gT ids))).env w (fun b=>gV ids (g b)) (nI β ids)) (en.out (vs.map (aA.fR (s.kc ids))) (ids.map (s.gT ids)) x) v w'→fI C s' (a.put o.dst v) w':=by
  intro v w' ha
  unfold AS.back at he
  cases hdst:o.dst with
  |some t=>
   rw[hdst]at he
   obtain⟨hg,he⟩:=aC.1 he
   obtain rfl:=au.1 he
   simp only[Bool.and_eq_true,beq_iff_eq,Bool.or_eq_true]at hg
   obtain⟨hl,hg⟩:=hg
   have hvir:(en.out (vs.map (aA.fR (s.kc ids))) (ids.map (s.gT ids)) x).news=[]∨s.dH t=true:=by
    rcases hg with hg | hg
    ·exact .inl (by simpa using hg)
    ·exact .inr hg
   obtain⟨g2,β2,h1,h2⟩:=qZ h hn hp hl hvir ha
   exact⟨g2,β2,h1.put (some t) h2⟩
  |none=>
   rw[hdst]at he
   obtain⟨hg,he⟩:=aC.1 he
   obtain rfl:=au.1 he
   simp only[Bool.and_eq_true,beq_iff_eq]at hg
   obtain⟨hl,hg⟩:=hg
   have hnew:(en.out (vs.map (aA.fR (s.kc ids))) (ids.map (s.gT ids)) x).news=[]:=by simpa using hg
   obtain⟨g2,β2,h1,_⟩:=qZ (t:=0) h hn hp hl (.inl hnew) ha
   rw[hnew]at h1
   exact⟨g2,β2,h1⟩
 rcases hdo with⟨hen,hc⟩ | ⟨v,w',hva,ha⟩
 ·exact .inr (.inr ⟨f,ys.toArray,w,hr.trans hen,hc.mono fun e w' ⟨v,he,ha⟩=>⟨v,he,key v w' ha⟩⟩)
 ·exact .inl ⟨v,w',hr.trans hva,key v w' ha⟩
theorem yW(h:Inv C g β s a w){c:Call}{F:Operand}{f:FuncId}{caps:aA}{en:Entry}(ho:o.op= .call c)(hc:c.callee= .value F)(hF:s.ev F= .fn f caps)(hd:lv P f en){s':AS}
  (he:(s.call en o.dst (c.args.toList.map s.ev++caps.list)).eval=some s'):eN P o a w (fI C s'):=by
 obtain⟨cal,args,tys⟩:=c
 simp only at hc he
 subst hc
 obtain⟨vs,hy,hvc⟩:=Ao (hF▸h.ev F)
 have hargs:=(h.EG args.toList).append (zS hvc)
 have hr:(execOp a.eval o).run P w=(callFunc f (args.toList.map a.eval++vs).toArray).run P w:=by
  have e1:execOp a.eval o=(do let d ←resolve a.eval {callee:= .value F,args,argTypes:=tys} o.type;invoke d.target d.args):=by simp only[execOp,ho]
  rw[e1]
  simp only[resolve,hy,Deferred.ofValue,Sem.run_bind,Sem.run_pure,Result.andThen_ok,invoke]
  congr 2
  simp
 unfold AS.call at he
 obtain⟨r,h1,h2⟩:=ao.1 he
 obtain⟨g',i1,e1,_,f1⟩:=fm r.2 h
 exact xj i1 hd (vN _ _) (re rfl h.bH e1 _ _ _ r hargs h1 f1) hr h2
end
end Go.Ab
namespace Go.Ab
section
variable {P:Program} {C:Ctx} {g:Nat→hZ} {β:Id→Option Pl} {s:AS} {a:Act} {w:World} {o:Oper}
theorem gw{b:Builtin}{args:Array Operand}{ts:Array TypeId}{F:TypeId→Array Value→Sem Value}{x:Value}{w':World}{s':AS}(ho:o.op= .call {callee:= .builtin b,args,argTypes:=ts})
  (hb:∀ty cs xs,builtin b ts ty cs xs=(do pure (.value (←F ty xs)))) (hf:∀ty,(F ty (args.map a.eval)).run P w= .ok x w') (h2:∃g' β',Inv C g' β' s' (a.put o.dst x) w'):eN P o a w (fI C s'):=by
 refine .inl ⟨x,w',?_,h2⟩
 simp only[execOp,ho,resolve,Sem.run_bind,Sem.run_pure,Result.andThen_ok,invoke]
 rw[hb,Sem.run_bind,hf]
 rfl
theorem xg(h:Inv C g β s a w){src dst:TypeId}{x:Operand}(ho:o.op= .convert src dst x){id:Id}{ver:Nat}(hx:s.ev x= .ptr id ver [] 0){v:aA}(he:(s6 P s src dst id ver).eval=some v):eN P o a w (fI C (s.put o.dst v)):=by
 have hv:=h.ev x
 rw[hx]at hv
 obtain⟨ad,hy,hb,hc⟩:=j7 hv
 have fin:v= .ptr id ver [] 0→(convert src dst (a.eval x)).run P w= .ok (a.eval x) w→eN P o a w (fI C (s.put o.dst v)):=by
  intro h1 h2
  subst h1
  exact h.value hv (dK (f:=convert src dst (a.eval x)) (by simp only[execOp,ho]) h2)
 unfold s6 at he
 split at he
 ·rename_i v0 fr e c hob
  have hent:=eg hob
  obtain⟨pl',cur,e',hp',hh,hg,hk,hV⟩:=(h.bH id v0 fr _ hent).box rfl
  have hk:e'=e:=hk
  subst hk
  have hV:V (s.env w g β) c (cur.toList.take cur.size):=hV
  rw[←Array.length_toList,List.take_length]at hV
  have hh:w.heap[pl'.b]? =some (.cells cur e' (0,0)):=hh
  have hsz:=hV.size
  have hsz:cur.toList.length=c.size:=hsz
  have hsh:w.shape? pl'.b=some (e',c.size):=by simp only[World.shape?,hh];rw[←hsz];simp
  have hp':β id=some pl':=hp'
  split at he
  ·rename_i t hS hD
   obtain⟨h1,h2⟩:=aC.1 he
   have h2:=au.1 h2
   simp only[Bool.and_eq_true,beq_iff_eq,Bool.not_eq_true',beq_eq_false_iff_ne]at h1
   obtain⟨⟨rfl,h3⟩,h4⟩:=h1
   obtain⟨pl,hp,rfl⟩:=hc ⟨fr,_,hent⟩
   have hp:β id=some pl:=hp
   rw[hp']at hp
   obtain rfl:pl'=pl:=by simpa using hp
   refine fin h2.symm ?_
   rw[hy]
   cases hi:P.info? t with
   |none=>exact absurd (by simp[Program.cellsOf,hi]) h3
   |some j=>
    have hj:j.size≠0:=by rw[←gz hi]at*;exact h3
    exact Go.Lib.run_to_unsafe w _ hS hD hi hj hsh (by show 0 < c.size;omega)
  ·rename_i u hS hD
   obtain⟨h1,h2⟩:=aC.1 he
   have h2:=au.1 h2
   simp only[Bool.and_eq_true,beq_iff_eq,Bool.not_eq_true',beq_eq_false_iff_ne]at h1
   obtain⟨⟨rfl,h3⟩,h4⟩:=h1
   obtain⟨pl,hp,rfl⟩:=hc ⟨fr,_,hent⟩
   have hp:β id=some pl:=hp
   rw[hp']at hp
   obtain rfl:pl'=pl:=by simpa using hp
   refine fin h2.symm ?_
   rw[hy]
   cases hi:P.info? u with
   |none=>exact absurd (by simp[Program.cellsOf,hi]) h3
   |some j=>exact Go.Lib.run_from_unsafe w _ hS hD hi hsh h4
  ·simp only[ah]at he
 ·simp only[ah]at he
theorem Al(h:Inv C g β s a w){T U:TypeId}{op:BinOp}{x y:Operand}(ho:o.op= .binOp op T x y U){i j:Id}{v1 v2:Nat}(hx:s.ev x= .ptr i v1 [] 0)(hy:s.ev y= .ptr j v2 [] 0){v:aA}(he:(Dh P s T op i v1 j v2).eval=some v):
  eN P o a w (fI C (s.put o.dst v)):=by
 unfold Dh at he
 split at he
 ·rename_i v' fr c hob
  obtain⟨h1,h2⟩:=aC.1 he
  simp only[Bool.and_eq_true,beq_iff_eq,decide_eq_true_eq]at h1
  obtain⟨⟨⟨rfl,rfl⟩,rfl⟩,hpt⟩:=h1
  have hent:=eg hob
  have hvx:=h.ev x
  have hvy:=h.ev y
  rw[hx]at hvx
  rw[hy]at hvy
  obtain⟨ad,hax,_,hc⟩:=j7 hvx
  obtain⟨ad',hay,_,hc'⟩:=j7 hvy
  obtain⟨pl,hp,rfl⟩:=hc ⟨fr,c,hent⟩
  obtain⟨pl',hp',rfl⟩:=hc' ⟨fr,c,hent⟩
  rw[hp]at hp'
  obtain rfl:pl=pl':=by simpa using hp'
  have hT:∃t j,P.underlying T=some (.pointer t)∧P.info? t=some j:=by
   unfold DL at hpt
   split at hpt
   ·rename_i t ht
    obtain⟨j,hj⟩:=Option.isSome_iff_exists.1 hpt
    exact⟨t,j,ht,hj⟩
   ·cases hpt
  obtain⟨t,j,hT,hj⟩:=hT
  have hq:(Op.equal T (.pointer (some ⟨pl.b,0,none⟩)) (.pointer (some ⟨pl.b,0,none⟩))).run P w= .ok true w:=
   fx fun d=>by simp[Op.equalIn,run_underlying hT,sizeOf,typeInfo,hj,run_sameAddr_same]
  have hgd:(eqGuard op T x y (a.eval x) (a.eval y)).run P w= .ok () w:=by rw[hax,hay];exact gI (by simp) rfl
  have fin:∀z,(binOp op T (a.eval x) (a.eval y)).run P w= .ok z w→VS (s.env w g β) v z→eN P o a w (fI C (s.put o.dst v)):=by
   intro z h1 h3
   refine h.value h3 ?_
   simp[execOp,ho,h1,hgd]
  split at h2
  ·obtain rfl:=au.1 h2
   refine fin (.bool true) ?_ (ke true)
   rw[hax,hay]
   simp[binOp,hq]
  ·obtain rfl:=au.1 h2
   refine fin (.bool false) ?_ (ke false)
   rw[hax,hay]
   simp[binOp,hq]
  ·simp only[ah]at h2
 ·simp only[ah]at he
theorem Cg{c:Call}{b:Builtin}{x:Operand}(hc:c.callee= .builtin b)(ha:c.args.toList=[x]):c= {callee:= .builtin b,args:= #[x],argTypes:=c.argTypes}:=by
 obtain⟨cal,args,tys⟩:=c
 simp only at hc ha
 have ha':args= #[x]:=by apply Array.ext';simpa using ha
 subst hc ha'
 rfl
theorem xT{c:Call}{b:Builtin}{x y:Operand}(hc:c.callee= .builtin b)(ha:c.args.toList=[x,y]):c= {callee:= .builtin b,args:= #[x,y],argTypes:=c.argTypes}:=by
 obtain⟨cal,args,tys⟩:=c
 simp only at hc ha
 have ha':args= #[x,y]:=by apply Array.ext';simpa using ha
 subst hc ha'
 rfl
theorem EB{ts:Array TypeId}{T:TypeId}(h:ts.toList=[T]):ts= #[T]:=by apply Array.ext';simpa using h
theorem Da{ts:Array TypeId}{T U:TypeId}(h:ts.toList=[T,U]):ts= #[T,U]:=by apply Array.ext';simpa using h
theorem Ad(h:Inv C g β s a w){c:Call}{x:Operand}{T e:TypeId}(ho:o.op= .call c)(hc:c.callee= .builtin .cap)(ha:c.args.toList=[x])(ht:c.argTypes.toList=[T])(hx:s.ev x= .cU)(hT:P.underlying T=some (.slice e)):
  eN P o a w (fI C (s.put o.dst (.d (.int .i64) (0:Int)))):=by
 rw[Cg hc ha,EB ht]at ho
 have hv:=h.ev x
 rw[hx]at hv
 have hy:=gC hv
 refine gw ho (F:=fun ty xs=>Builtin.cap_ #[T] ty xs) (fun ty cs xs=>rfl) (x:= .int .i64 0) (w':=w) (fun ty=> ?_) ⟨g,β,h.put o.dst (gv _ _)⟩
 simp[Builtin.cap_,run_underlying hT,hy,goInt]
theorem wI(h:Inv C g β s a w){c:Call}{x:Operand}{id:Id}{ver len:Nat}(ho:o.op= .call c)(hc:c.callee= .builtin .unsafeSliceData)(ha:c.args.toList=[x])(hx:s.ev x= .cd id ver [] 0 0 len)(hl:0 < len):
  eN P o a w (fI C (s.put o.dst (.ptr id ver [.idx 0] 0))):=by
 rw[Cg hc ha]at ho
 have hv:=h.ev x
 rw[hx]at hv
 obtain⟨ad,cap,hy,hcap,hs,hb,hcur⟩:=jJ hv
 obtain⟨ad,rfl⟩:=Option.isSome_iff_exists.1 (hs hl)
 refine gw ho (F:=fun ty xs=>Builtin.unsafeSliceData_ c.argTypes ty xs) (fun ty cs xs=>rfl) (x:= .pointer (some ad)) (w':=w) (fun ty=> ?_) ⟨g,β,h.put o.dst ?_⟩
 ·rw[show(#[x].map a.eval)= #[a.eval x] by simp,hy]
  exact Go.Lib.run_unsafeSliceData_row w _ _ _ _ _ (by omega)
 ·refine⟨[.pointer (some ad)],?_,rfl⟩
  simp only[V]
  refine⟨ad,rfl,hb,fun hc=> ?_⟩
  have h1:=hcur hc
  cases hp:(s.env w g β).β id with
  |none=>rw[hp]at h1;simp only at h1;cases h1.1
  |some pl=>
   rw[hp]at h1
   simp only at h1
   exact⟨pl,rfl,by simpa using h1.1 (.inl hl)⟩
theorem vW(h:Inv C g β s a w){c:Call}{mx:Bool}(ho:o.op= .call c)(hc:c.callee= .builtin (if mx then .max else .min)){v:aA}(he:(zm mx (c.args.toList.map s.ev)).eval=some v):eN P o a w (fI C (s.put o.dst v)):=by
 unfold zm at he
 split at he
 ·rename_i k x k' y hxy
  obtain⟨h1,h2⟩:=aC.1 he
  obtain rfl:=au.1 h2
  have h1:k=k':=by simpa using h1
  subst h1
  have hal:∃p q,c.args.toList=[p,q]∧s.ev p= .d (.int k) x∧s.ev q= .d (.int k) y:=by
   match hh:c.args.toList,hxy with
   |[p,q],hxy=>simp only[List.map_cons,List.map_nil,List.cons.injEq]at hxy;exact⟨p,q,rfl,hxy.1,hxy.2.1⟩
   |[],hxy=>simp at hxy
   |[_],hxy=>simp at hxy
   |_::_::_::_,hxy=>simp at hxy
  obtain⟨p,q,ha,hp,hq⟩:=hal
  rw[xT hc ha]at ho
  have hvp:=h.ev p
  have hvq:=h.ev q
  rw[hp]at hvp
  rw[hq]at hvq
  have ep:=kE hvp
  have eq:=kE hvq
  cases mx with
  |true=>
   refine gw ho (F:=fun ty xs=>Builtin.max_ c.argTypes ty xs) (fun ty cs xs=>rfl) (x:= .int k (if x < y then y else x)) (w':=w) (fun ty=> ?_) ⟨g,β,h.put o.dst (gv _ _)⟩
   rw[show(#[p,q].map a.eval)= #[a.eval p,a.eval q] by simp,ep,eq]
   simp[Builtin.max_,Builtin.max2]
  |false=>
   refine gw ho (F:=fun ty xs=>Builtin.min_ c.argTypes ty xs) (fun ty cs xs=>rfl) (x:= .int k (if y < x then y else x)) (w':=w) (fun ty=> ?_) ⟨g,β,h.put o.dst (gv _ _)⟩
   rw[show(#[p,q].map a.eval)= #[a.eval p,a.eval q] by simp,ep,eq]
   simp[Builtin.min_,Builtin.min2]
 ·simp only[ah]at he
theorem sB(z:Array Value)(n:Nat):Builtin.zeroCells z n=madeCells z (n*z.size):=rfl
theorem y8(h:Inv C g β s a w){c:Call}{x y:Operand}{T X:TypeId}{k:IntKind}{n:Int}(ho:o.op= .call c)(hc:c.callee= .builtin .append)(ha:c.args.toList=[x,y])(ht:c.argTypes.toList=[T,X])(hx:s.ev x= .cU)(hy:s.ev y= .d (.int k) n){s':AS}
  (he:(vC P s o.dst T X n).eval=some s'):eN P o a w (fI C s'):=by
 rw[xT hc ha,Da ht]at ho
 have hvx:=h.ev x
 have hvy:=h.ev y
 rw[hx]at hvx
 rw[hy]at hvy
 have ex:=gC hvx
 have ey:=kE hvy
 unfold vC at he
 split at he
 ·rename_i e t b q kn hel hd hX
  obtain⟨hT,hz,i,zv,hi,his,hib,hzv,hzr⟩:=lh hel
  obtain⟨hq,h2⟩:=aC.1 he
  obtain⟨h3,h4⟩:=bA.1 h2
  obtain rfl:=au.1 h4
  simp only[Bool.and_eq_true,decide_eq_true_eq,dh]at h3
  obtain⟨h5,h7,h8⟩:=h3
  obtain⟨m,rfl⟩:=Int.eq_ofNat_of_zero_le (Int.le_of_lt h5)
  simp only[Int.toNat_natCast]at h7 h8 ⊢
  have hzc:zv.cells.size=t.size:=by have:=(hzr (s.env w g β)).size;simpa using this
  have hr:=fun ty=>Go.Lib.run_append_nil_zeros (P:=P) w T X ty e i zv k kn hT hX hi hzv m (by omega) (by rw[his];exact hz) (by omega) (by rw[hib];omega)
  obtain⟨cap,hcap⟩:∃cap,grownCap w m 0 e=cap:=⟨_,rfl⟩
  have c1:m≤cap:=by rw[←hcap];exact grownCap_ge _ _ _ _
  have c2:cap≤maxLen:=by rw[←hcap];exact grownCap_le_maxLen _ _ _ _ (by unfold maxLen;omega)
  rw[hcap]at hr
  obtain⟨cur,hcur⟩:∃cur,Builtin.zeroCells zv.cells m++Builtin.zeroCells zv.cells (cap - m)=cur:=⟨_,rfl⟩
  rw[hcur]at hr
  have s1:cur.size=cap*t.size:=by
   rw[←hcur,Array.size_append,kT,kT,hzc,←Nat.add_mul]
   congr 1
   omega
  have hall:=je (hzr (s.env w.drew g β)) m
  have s2:cur.toList.take (m*t.size)=(madeCells zv.cells (m*t.size)).toList:=by
   rw[←hcur,Array.toList_append,sB,hzc]
   have hl:(madeCells zv.cells (m*t.size)).toList.length=m*t.size:=by simp[size_madeCells]
   rw[List.take_append_of_le_length (by omega),List.take_of_length_le (by omega)]
  obtain⟨g2,β2,i2,hv2⟩:=(h.drew).uC hq (e:=e) (l:=List.replicate m t.zero) (cur:=cur) (cap:=cap) hz (by rw[List.length_replicate,s2];exact hall) s1 (by rw[List.length_replicate];exact c1) c2
  rw[List.length_replicate]at hv2
  refine gw ho (F:=fun ty xs=>Builtin.append_ #[T,X] ty xs) (fun ty cs xs=>rfl) (fun ty=> ?_) ⟨g2,β2,i2.put o.dst hv2⟩
  rw[show(#[x,y].map a.eval)= #[a.eval x,a.eval y] by simp,ex,ey]
  exact hr ty
 ·simp only[ah]at he
theorem tx:∀(xs:List Int) (a:Addr) (acc:ByteArray),(∀j x,xs[j]? =some x→w.cell? (a.add j)=some (.int .u8 x))→
  (loadBytes a acc xs.length).run P w= .ok ⟨acc.data++(xs.map fun n=>UInt8.ofNat n.toNat).toArray⟩ w
 |[],a,acc,_=>by simp[loadBytes]
 |x::l,a,acc,h=>by
  have h0:w.cell? a=some (.int .u8 x):=by
   have:=h 0 x rfl
   simpa[Addr.add]using this
  have ih:=tx l (a.add 1) (acc.push x.toNat.toUInt8) (fun j y hy=>by
   have:=h (j+1) y (by simpa using hy)
   have e:(a.add 1).add j=a.add (j+1):=by
    unfold Addr.add
    by_cases hj:j=0
    ·subst hj;simp
    ·simp[hj];omega
   rw[e];exact this)
  simp only[List.length_cons,loadBytes,Sem.run_bind,run_load,h0,Result.andThen]
  rw[ih]
  congr 1
  apply ByteArray.ext
  simp[ByteArray.push]
theorem zK(h:Inv C g β s a w){c:Call}{x y:Operand}{T U:TypeId}{id:Id}{ver:Nat}{n:Int}(ho:o.op= .call c)(hc:c.callee= .builtin .unsafeString)(ha:c.args.toList=[x,y])(ht:c.argTypes.toList=[T,U])
  (hx:s.ev x= .ptr id ver [.idx 0] 0) (hy:s.ev y= .d (.int .i64) n) {s':AS} (he:(wP P s o.dst T id ver n).eval=some s'):eN P o a w (fI C s'):=by
 rw[xT hc ha,Da ht]at ho
 have hvx:=h.ev x
 rw[hx]at hvx
 obtain⟨ad,hax,_,hcp⟩:=j7 hvx
 have hvy:=h.ev y
 rw[hy]at hvy
 have hay:=kE hvy
 unfold wP at he
 split at he
 ·rename_i v e l u hob hT
  obtain⟨h1,h2⟩:=aC.1 he
  obtain⟨h3,h4⟩:=bA.1 h2
  obtain rfl:=au.1 h4
  simp only[Bool.and_eq_true,beq_iff_eq]at h1
  obtain⟨⟨rfl,rfl⟩,hce⟩:=h1
  simp only[decide_eq_true_eq]at h3
  obtain⟨h5,h6⟩:=h3
  obtain⟨n,rfl⟩:=Int.eq_ofNat_of_zero_le (Int.le_of_lt h5)
  have h6:n≤(l:List Int).length:=by omega
  have hent:=eg hob
  obtain⟨pl,hp,rfl⟩:=hcp ⟨false,_,hent⟩
  have hp:β id=some pl:=hp
  have hO:lR (s.env w g β) id false (.vec u (.int .u8) l):=h.bH id v false _ hent
  obtain⟨hz,hO⟩:=hO
  have hO:(match β id with
   |none=>l=[]
   |some pl=>∃cur k,w.heap[pl.b]? =some (.cells cur u (0,0))∧cur.size=pl.cap*(Ty.int .u8).size∧(l:List Int).length≤pl.cap∧pl.cap≤maxLen∧g pl.b= .own (.id id) k∧
     k≤(l:List Int).length*(Ty.int .u8).size∧(false=false→k=0)∧aZ (cK (s.env w g β) (.int .u8)) (cur.toList.take ((l:List Int).length*(Ty.int .u8).size)) l):=hO
  rw[hp]at hO
  obtain⟨cur,k,q1,q2,q3,q4,q5,q6,q7,q8⟩:=hO
  have hk:=q7 rfl
  subst hk
  have hone:(Ty.int .u8).size=1:=rfl
  rw[hone,Nat.mul_one]at q2 q8
  have hvs:=kX q8
  have hsh:w.shape? pl.b=some (u,cur.size):=by simp only[World.shape?,q1]
  have hcell:∀j z,((l:List Int).take n)[j]? =some z→w.cell? ((⟨pl.b,0,none⟩:Addr).add j)=some (.int .u8 z):=fun j z hj=>by
   rw[List.getElem?_take]at hj
   split at hj
   ·rename_i hjn
    have hjl:j < (l:List Int).length:=by omega
    rw[Addr.add_lit,Nat.zero_add]
    simp only[World.cell?,q1]
    have:(cur.toList.take (l:List Int).length)[j]? =some (.int .u8 z):=by rw[hvs,List.getElem?_map,hj];rfl
    rw[List.getElem?_take,if_pos hjl]at this
    simpa using this
   ·cases hj
  have hlen:((l:List Int).take n).length=n:=by rw[List.length_take];omega
  have hlb:=tx (P:=P) (w:=w) ((l:List Int).take n) ⟨pl.b,0,none⟩ .empty hcell
  rw[hlen]at hlb
  have hlies:=Go.Lib.liesAt_bytes (P:=P) (e:=u) (by simpa using hce) (cur.size / P.cellsOf u) n (by
   rw[show P.cellsOf u=1 by simpa using hce,Nat.div_one];omega)
  have hfz:∃w',w.freeze ⟨pl.b,0,none⟩ n=w'∧w'.os=w.os∧w'.tape=w.tape∧w'.output=w.output∧w'.heap.size=w.heap.size∧∀b',b'≠pl.b→w'.heap[b']? =w.heap[b']? :=by
   refine⟨_,rfl,?_⟩
   unfold World.freeze
   rw[if_neg (by omega)]
   refine⟨rfl,rfl,rfl,by simp,fun b' hb'=> ?_⟩
   simp only[Array.getElem?_modify]
   rw[if_neg (fun e=>hb' e.symm)]
  obtain⟨w',hw',f1,f2,f3,f4,f5⟩:=hfz
  have i1:=h.kill hent q5 f1 f2 f3 f4 f5
  have h63:¬(9223372036854775807:Int) < (n:Int):=by unfold maxLen at q4;omega
  have hneg:¬(n:Int) < 0:=by omega
  have hn0:n≠0:=by omega
  have hmax:IntKind.i64.max=9223372036854775807:=rfl
  refine gw ho (F:=fun ty xs=>Builtin.unsafeString_ #[T,U] ty xs) (fun ty cs xs=>rfl) (x:= .string (fV ((l:List Int).take n))) (w':=w') (fun ty=> ?_) ⟨_,β,i1.put o.dst ⟨[.string (fV ((l:List Int).take n))],by simp only[V,cK];rfl,rfl⟩⟩
  rw[show(#[x,y].map a.eval)= #[a.eval x,a.eval y] by simp,hax,hay]
  have hdef:Builtin.unsafeString_ #[T,U] ty #[.pointer (some ⟨pl.b,0,none⟩),.int .i64 n]=
    (do
     let n ←Go.asInt (.int .i64 n)
     if n < 0 then runtimePanic (.error "unsafe.String: len out of range")
     if n > IntKind.i64.max then unsupported (.unsafePointer "String: a length above the largest int")
     if n=0 then pure (.string .empty)
     else if ←variablesAt ⟨pl.b,0,none⟩ (←elemOf T) n.toNat then do
      let s ←loadBytes ⟨pl.b,0,none⟩ .empty n.toNat
      freeze ⟨pl.b,0,none⟩ n.toNat
      pure (.string s)
     else unsupported (.unsafePointer "String: not so many bytes at ptr")):=rfl
  rw[hdef]
  simp[Go.asInt,asIntOf,hmax,h63,hneg,hn0,variablesAt,hsh,elemOf,run_underlying hT,hlies,hlb,hw',fV]
 ·simp only[ah]at he
end
end Go.Ab
namespace Go.Ab
section
variable {P:Program} {C:Ctx} {g:Nat→hZ} {β:Id→Option Pl} {s:AS} {a:Act} {w:World} {o:Oper}
theorem vS(h:Inv C g β s a w){c:Call}{T T2:TypeId}{m k:Operand}(hop:o.op= .call c)(hc:c.callee= .builtin .delete)(ha:c.args.toList=[m,k])(ht:c.argTypes.toList=[T,T2]){s':AS}(he:(l9 P s T (s.ev m) (s.ev k)).eval=some s'):eN P o a w (fI C (s'.put o.dst .nil)):=by
 have hop:o.op= .call {callee:= .builtin .delete,args:= #[m,k],argTypes:= #[T,T2]}:=by rw[hop,xT hc ha,Da ht]
 unfold l9 at he
 split at he
 ·rename_i K V' kt vt id ver hm hx
  obtain⟨l,h1,he⟩:=ao.1 he
  obtain⟨kx,h2,he⟩:=ao.1 he
  obtain rfl:=au.1 he
  obtain⟨hT,hK,_⟩:=nf hm
  have hvx:=h.ev m
  rw[hx]at hvx
  obtain⟨fr,pl,es,clock,g1,g2,g3,g4,g5,g6⟩:=ma h h1 hvx
  have hk:=mf (h.ev k) h2
  have hck:=gR (P:=P) (w:=w) es.isEmpty depth K kt hK 10000 (by decide) _ _ hk
  obtain⟨r,hf,hr⟩:=oq (P:=P) (w:=w) hK hk g6
  have fin:∀(es':Array MapEntry) (clock':Nat),(∀ty,(Builtin.delete_ #[T,T2] ty (#[m,k].map a.eval)).run P w= .ok (.tuple #[]) {w with heap:=w.heap.setIfInBounds pl.b (.map es' clock')})→Alike (qA (s.env w g β) kt vt) es'.toList (vY kt kx l)→
    eN P o a w (fI C ((s.bp id (.obj ver false (.mp kt vt (vY kt kx l)))).put o.dst .nil)):=fun es' clock' hrun hal=>
   gw (F:=fun ty xs=>Builtin.delete_ #[T,T2] ty xs) hop (fun _ _ _=>rfl) hrun ⟨g,β,(h.A2 g1 g2 g4 g5 hal).put o.dst rfl⟩
  cases r with
  |none=>
   simp only at hr
   refine fin es clock (fun ty=> ?_) (by simp only[vY,hr];exact g6)
   simp[Builtin.delete_,run_underlying hT,g3,Go.MapKept.run_getObj_map g4,hck,hf,Go.MapKept.run_setObj_map _ g4]
  |some u=>
   obtain⟨j,u⟩:=u
   obtain⟨e,m1,m2,rfl⟩:=hr
   refine fin (es.eraseIdxIfInBounds j) clock (fun ty=> ?_) ?_
   ·simp[Builtin.delete_,run_underlying hT,g3,Go.MapKept.run_getObj_map g4,hck,hf,Go.MapKept.run_setObj_map _ g4]
   ·simp only[vY,m1,Array.toList_eraseIdxIfInBounds]
    exact g6.erase j
 ·simp only[ah]at he
theorem va{Γ:dR}(hΓ:Sound P Γ){bH:List Nat}(h:Inv C g β s a w){s':AS}(he:(im P Γ bH o s).eval=some s'):eN P o a w (fI C s'):=by
 unfold im at he
 split at he
 ·rename_i x hop
  obtain rfl:=au.1 he
  exact tm h (.inl hop)
 ·rename_i x hop
  obtain rfl:=au.1 he
  exact tm h (.inr hop)
 ·rename_i c x y hop
  obtain⟨v,h1,h2⟩:=ao.1 he
  obtain rfl:=au.1 h2
  exact zu h hop h1
 ·rename_i T hop
  split at he
  ·rename_i z q hz hq
   obtain⟨h1,h2⟩:=aC.1 he
   obtain rfl:=au.1 h2
   simp only[Bool.and_eq_true]at h1
   exact w4 h hop h1.1 h1.2
  ·exact(ah.1 he).elim
 ·rename_i T x hop
  exact z6 h hop he
 ·rename_i T parts hop
  exact w9 h hop he
 ·rename_i T n parts hop
  exact qC h hop he
 ·rename_i T x hop
  obtain⟨v,h1,h2⟩:=ao.1 he
  obtain rfl:=au.1 h2
  exact zj h hop h1
 ·rename_i T x v hop
  obtain⟨v,h1,h2⟩:=ao.1 he
  obtain rfl:=au.1 h2
  exact xI h hop h1
 ·rename_i x hop
  exact sO h hop he
 ·rename_i op T x y U hop
  split at he
  ·rename_i i v1 j v2 hx hy
   obtain⟨v,h1,h2⟩:=ao.1 he
   obtain rfl:=au.1 h2
   exact Al h hop hx hy h1
  ·obtain⟨v,h1,h2⟩:=ao.1 he
   obtain rfl:=au.1 h2
   exact w7 h hop h1
 ·rename_i op T x hop
  obtain⟨v,h1,h2⟩:=ao.1 he
  obtain rfl:=au.1 h2
  exact zL h hop h1
 ·rename_i T U x hop
  split at he
  ·rename_i id ver len hTU hx
   exact xf h hop hx he
  ·rename_i id ver hx
   obtain⟨v,h1,h2⟩:=ao.1 he
   obtain rfl:=au.1 h2
   exact xg h hop hx h1
  ·obtain⟨v,h1,h2⟩:=ao.1 he
   obtain rfl:=au.1 h2
   exact tY h hop h1
 ·rename_i T x hop
  exact xJ h hop he
 ·rename_i f first caps hop
  obtain⟨h1,h2⟩:=aC.1 he
  obtain rfl:=au.1 h2
  simp only[Bool.and_eq_true]at h1
  exact sL h hop h1.1 h1.2
 ·rename_i T l c hop
  obtain⟨n,h1,h2⟩:=ao.1 he
  obtain⟨m,h3,h4⟩:=ao.1 h2
  exact rJ h hop h1 h3 h4
 ·rename_i T x lo hi hop
  obtain⟨v,h1,h2⟩:=ao.1 he
  obtain rfl:=au.1 h2
  exact xE h hop h1
 ·rename_i T x f hop
  obtain⟨v,h1,h2⟩:=ao.1 he
  obtain rfl:=au.1 h2
  exact rn h hop h1
 ·rename_i T x f hop
  obtain⟨v,h1,h2⟩:=ao.1 he
  obtain rfl:=au.1 h2
  exact xk h hop h1
 ·rename_i T x i hop
  obtain⟨n,h0,he⟩:=ao.1 he
  obtain⟨v,h1,h2⟩:=ao.1 he
  obtain rfl:=au.1 h2
  exact rE h hop h0 h1
 ·rename_i T x i hop
  obtain⟨n,h0,he⟩:=ao.1 he
  obtain⟨v,h1,h2⟩:=ao.1 he
  obtain rfl:=au.1 h2
  exact xo h hop h0 h1
 ·rename_i x i hop
  obtain⟨v,h1,h2⟩:=ao.1 he
  obtain rfl:=au.1 h2
  exact ud h hop h1
 ·rename_i T hop
  exact uw h hop he
 ·rename_i T x i ok hop
  obtain⟨v,h1,h2⟩:=ao.1 he
  obtain rfl:=au.1 h2
  exact vQ h hop h1
 ·rename_i T m k x hop
  obtain⟨s1,h1,h2⟩:=ao.1 he
  obtain rfl:=au.1 h2
  exact vU h hop h1
 ·rename_i c hop
  split at he
  ·rename_i hc
   split at he
   ·rename_i m k T T2 ha ht
    obtain⟨s1,h1,h2⟩:=ao.1 he
    obtain rfl:=au.1 h2
    exact vS h hop hc ha ht h1
   ·exact(ah.1 he).elim
  ·rename_i hc
   split at he
   ·rename_i x y T X ha ht
    exact y1 h hop hc ha ht he
   ·exact(ah.1 he).elim
  ·rename_i hc
   split at he
   ·rename_i x T ha ht
    obtain⟨v,h1,h2⟩:=ao.1 he
    obtain rfl:=au.1 h2
    exact AB h hop hc ha ht h1
   ·exact(ah.1 he).elim
  ·rename_i hc
   split at he
   ·rename_i x y T X ha ht
    split at he
    ·rename_i k n hx hy
     exact y8 h hop hc ha ht hx hy he
    ·exact vb h hop hc ha ht he
   ·exact(ah.1 he).elim
  ·rename_i hc
   split at he
   ·rename_i x T ha ht
    split at he
    ·rename_i e hx hT
     obtain rfl:=au.1 he
     exact Ad h hop hc ha ht hx hT
    ·exact(ah.1 he).elim
   ·exact(ah.1 he).elim
  ·rename_i hc
   obtain⟨v,h1,h2⟩:=ao.1 he
   obtain rfl:=au.1 h2
   exact vW (mx:=true) h hop hc h1
  ·rename_i hc
   obtain⟨v,h1,h2⟩:=ao.1 he
   obtain rfl:=au.1 h2
   exact vW (mx:=false) h hop hc h1
  ·rename_i hc
   split at he
   ·rename_i x ha
    split at he
    ·rename_i id ver len hx
     obtain⟨h1,h2⟩:=bA.1 he
     obtain rfl:=au.1 h2
     exact wI h hop hc ha hx (by simpa using h1)
    ·exact(ah.1 he).elim
   ·exact(ah.1 he).elim
  ·rename_i hc
   split at he
   ·rename_i x y T U ha ht
    split at he
    ·rename_i id ver n hx hy
     exact zK h hop hc ha ht hx hy he
    ·exact(ah.1 he).elim
   ·exact(ah.1 he).elim
  ·rename_i F hc
   split at he
   ·rename_i f caps hF
    split at he
    ·rename_i en hen
     exact yW h hop hc hF (hΓ f _ en hen) he
    ·exact(ah.1 he).elim
   ·exact(ah.1 he).elim
  ·exact(ah.1 he).elim
 ·exact(ah.1 he).elim
end
end Go.Ab
namespace Go.Ab
def iW(P:Program)(ops:Array Oper)(o:Oper)(a:Act)(w:World)(K:Act→World→Prop):Prop:=
 if Region.wanted o (yielded ops a.tmps) then eN P o a w K else K (a.put o.dst undef) w
theorem iW.mono{P:Program}{ops:Array Oper}{o:Oper}{a:Act}{w:World}{K K':Act→World→Prop}(h:iW P ops o a w K)(hk:∀a w,K a w→K' a w):iW P ops o a w K':=by
 unfold iW at*
 split
 ·rename_i hw;rw[if_pos hw]at h;exact h.mono hk
 ·rename_i hw;rw[if_neg hw]at h;exact hk _ _ h
theorem eN.some{P:Program}{o:Oper}{a:Act}{w:World}{K:Act→World→Prop}(h:eN P o a w K):∃a' w',K a' w':=by
 rcases h with⟨x,w',_,h⟩ | ⟨w',_,h⟩ | ⟨f,args,w',_,h⟩
 ·exact⟨_,_,h⟩
 ·exact⟨_,_,h⟩
 ·obtain⟨e,w'',_,⟨x,_,hx⟩,_⟩:=h []
  exact⟨_,_,hx⟩
theorem iW.some{P:Program}{ops:Array Oper}{o:Oper}{a:Act}{w:World}{K:Act→World→Prop}(h:iW P ops o a w K):∃a' w',K a' w':=by
 unfold iW at h
 split at h
 ·exact h.some
 ·exact⟨_,_,h⟩
theorem iW.wpList{P:Program}{ops:Array Oper}{o:Oper}{a:Act}{w:World}{Q:Exit→Act→World→Prop}{l:List Oper}(h:iW P ops o a w (wpList P ops Q l)):Go.wpList P ops Q (o::l) a w:=by
 unfold iW at h
 unfold Go.wpList
 split
 ·rename_i hw;rw[if_pos hw]at h;exact .inl h.wp
 ·rename_i hw;rw[if_neg hw]at h;exact h
theorem iW.wpOp{P:Program}{ops:Array Oper}{o:Oper}{i:Nat}{a:Act}{w:World}{Q:Exit→Act→World→Prop}{K:Act→World→Prop}(ho:ops[i]? =Option.some o)(h:iW P ops o a w K):Go.wpOp P ops Q i K a w:=by
 unfold iW at h
 unfold Go.wpOp
 simp only[ho]
 split
 ·rename_i hw;rw[if_pos hw]at h;exact .inl h.wp
 ·rename_i hw;rw[if_neg hw]at h;exact h
theorem AV{s:AS}{q:Nat}{v:aA}(h:s.slot q=v)(hq:q < s.cg.length):s.put (some q) v=s:=by
 have hv:s.cg[q]=v:=by simpa[AS.slot,List.getD_eq_getElem?_getD,hq]using h
 simp only[AS.put]
 rw[←hv,List.set_getElem_self]
theorem yE{s:AS}{q:Nat}{t:Ty}{x:t.den}(h:s.slot q= .d t x):q < s.cg.length:=by
 rcases Nat.lt_or_ge q s.cg.length with h' | h'
 ·exact h'
 ·simp[AS.slot,List.getD_eq_getElem?_getD,List.getElem?_eq_none h']at h
def nM(P:Program)(Γ:dR)(bH:List Nat)(ops:Array Oper)(o:Oper)(s:AS):Option AS:=
 match o.guard with
 |none=>(im P Γ bH o s).eval
 |some (j,want)=>match(ops[j]?).bind (·.dst) with
  |some q=>match s.slot q with
   | .d .bool b=>if b=want then(im P Γ bH o s).eval else some (s.put o.dst .nil)
   | .nil=>some (s.put o.dst .nil)
   |_=>none
  |none=>none
theorem vB{R:Type}{P:Program}{Γ:dR}{bH:List Nat}{ops:Array Oper}{o:Oper}{s:AS}{k:AS→Option R}{r:R}(h:CM P Γ bH ops o s k=some r):∃s',nM P Γ bH ops o s=some s'∧k s'=some r:=by
 unfold CM at h
 unfold nM
 split at h
 ·rename_i hg
  simp only[hg]
  exact iv.1 h
 ·rename_i j want hg
  simp only[hg]
  split at h
  ·rename_i q hq
   simp only[hq]
   split at h
   ·rename_i b hb
    have e:=AV hb (yE hb)
    simp only[hb]
    cases want <;> cases b <;> simp only[aJ]at h <;> rw[e]at h
    ·obtain⟨s',h1,h2⟩:=iv.1 h
     exact⟨s',by simpa using h1,h2⟩
    ·exact⟨_,by simp,h⟩
    ·exact⟨_,by simp,h⟩
    ·obtain⟨s',h1,h2⟩:=iv.1 h
     exact⟨s',by simpa using h1,h2⟩
   ·rename_i hb
    simp only[hb]
    exact⟨_,rfl,h⟩
   ·cases h
  ·cases h
section
variable {P:Program} {C:Ctx} {g:Nat→hZ} {β:Id→Option Pl} {s:AS} {a:Act} {w:World} {o:Oper}
theorem xP(h:Inv C g β s a w){ops:Array Oper}{j q:Nat}{b:Bool}(hq:(ops[j]?).bind (·.dst)=some q)(hb:s.slot q= .d .bool b):yielded ops a.tmps j=some b:=by
 have hv:=h.cg q
 rw[hb]at hv
 have hv:=qM hv
 have hl:=yE hb
 rw[←h.size]at hl
 unfold yielded
 rw[hq,Option.bind_some]
 have:a.tmps[q]? =some (.bool b):=by
  rw[Array.getElem?_eq_getElem hl]
  simpa[Array.getD,hl]using hv
 rw[this]
theorem wV(h:Inv C g β s a w){ops:Array Oper}{j q:Nat}(hq:(ops[j]?).bind (·.dst)=some q)(hb:s.slot q= .nil):yielded ops a.tmps j=none:=by
 have hv:=h.cg q
 rw[hb]at hv
 have hv:a.tmps.getD q undef= .tuple #[]:=hv
 unfold yielded
 rw[hq,Option.bind_some]
 split
 ·rename_i b hb
  rw[Array.getD_eq_getD_getElem?,hb]at hv
  cases hv
 ·rfl
theorem te{Γ:dR}(hΓ:Sound P Γ){bH:List Nat}{ops:Array Oper}(h:fI C s a w){s':AS}(he:nM P Γ bH ops o s=some s'):iW P ops o a w (fI C s'):=by
 obtain⟨g,β,h⟩:=h
 unfold nM at he
 unfold iW
 split at he
 ·rename_i hg
  have:Region.wanted o (yielded ops a.tmps)=true:=by simp[Region.wanted,hg]
  rw[if_pos this]
  exact va hΓ h he
 ·rename_i j want hg
  split at he
  ·rename_i q hq
   split at he
   ·rename_i b hb
    have hy:=xP h hq hb
    have hw:Region.wanted o (yielded ops a.tmps)=(b==want):=by simp[Region.wanted,hg,hy]
    rw[hw]
    by_cases e:b=want
    ·rw[if_pos e]at he
     rw[if_pos (by simp[e])]
     exact va hΓ h he
    ·rw[if_neg e]at he
     rw[if_neg (by simp[e])]
     simp only[Option.some.injEq]at he
     subst he
     exact⟨g,β,h.put o.dst rfl⟩
   ·rename_i hb
    have hy:=wV h hq hb
    have hw:Region.wanted o (yielded ops a.tmps)=false:=by simp[Region.wanted,hg,hy]
    rw[hw,if_neg (by simp)]
    simp only[Option.some.injEq]at he
    subst he
    exact⟨g,β,h.put o.dst rfl⟩
   ·cases he
  ·cases he
theorem yo{R:Type}{x y:Option R}{r:R}(h:nd x y=some r):x=some r∧y=some r:=by
 unfold nd at h
 split at h
 ·rename_i e;exact⟨h,e▸h⟩
 ·cases h
theorem xw(h:Inv C g β s a w){x y:Operand}{n:Nat}(hn:rK s x y=some n){T:TypeId}(hT:lH.isSl P T=true):∃b,(0 < n→b=false)∧(Op.equal T (a.eval x) (a.eval y)).run P w= .ok b w∧
  iJ (a.eval x)=false∧a.eval x≠ .nilIface∧∀op,binOp op T (a.eval x) (a.eval y)=(match op with | .eql=>do pure (.bool (←Op.equal T (a.eval x) (a.eval y))) | .neq=>do pure (.bool (!(←Op.equal T (a.eval x) (a.eval y)))) | _=>binOp op T (a.eval x) (a.eval y)):=by
 have hx:=h.ev x
 have hy:=h.ev y
 unfold lH.isSl at hT
 split at hT <;> try (cases hT;done)
 rename_i e hU
 unfold rK at hn
 split at hn
 ·rename_i t l h1 h2
  rw[h1]at hx;rw[h2]at hy
  obtain⟨ad,cap,vs,hv,_,hs,_⟩:=j1 hx
  have hv2:=gC hy
  rw[hv,hv2]
  refine⟨ad.isNone,fun hp=> ?_,?_,rfl,by simp,fun op=>by cases op <;> rfl⟩
  ·obtain rfl:=Option.some.inj hn
   obtain⟨ad',rfl⟩:=Option.isSome_iff_exists.1 (hs hp)
   rfl
  ·cases ad with
   |none=>exact fx fun d=>by simp[Op.equalIn,run_underlying hU]
   |some ad=>exact fx fun d=>by simp[Op.equalIn,run_underlying hU]
 ·rename_i t l h1 h2
  rw[h1]at hx;rw[h2]at hy
  obtain⟨ad,cap,vs,hv,_,hs,_⟩:=j1 hy
  have hv2:=gC hx
  rw[hv,hv2]
  refine⟨ad.isNone,fun hp=> ?_,?_,rfl,by simp,fun op=>by cases op <;> rfl⟩
  ·obtain rfl:=Option.some.inj hn
   obtain⟨ad',rfl⟩:=Option.isSome_iff_exists.1 (hs hp)
   rfl
  ·exact fx fun d=>by simp[Op.equalIn,run_underlying hU]
 ·cases hn
theorem o9(h:Inv C g β s a w){x y:Operand}{n:Nat}{T U:TypeId}(hn:rK s x y=some n)(hT:lH.isSl P T=true):
  (o.op= .binOp .eql T x y U→∃b,(0 < n→b=false)∧eN P o a w (fI C (s.put o.dst (.d .bool b))))∧(o.op= .binOp .neq T x y U→∃b,(0 < n→b=true)∧eN P o a w (fI C (s.put o.dst (.d .bool b)))):=by
 obtain⟨b,h1,h2,h3,h4,h5⟩:=xw (w:=w) h hn hT
 have hg:∀op,(eqGuard op T x y (a.eval x) (a.eval y)).run P w= .ok () w:=fun op=>gI h4 h3
 refine⟨fun ho=>⟨b,h1,h.value (ke b) ?_⟩,fun ho=>⟨!b,fun hp=>by rw[h1 hp];rfl,h.value (ke (!b)) ?_⟩⟩
 ·have h6:(binOp .eql T (a.eval x) (a.eval y)).run P w= .ok (.bool b) w:=by rw[h5 .eql];simp[h2]
  simp[execOp,ho,hg,h6]
 ·have h6:(binOp .neq T (a.eval x) (a.eval y)).run P w= .ok (.bool (!b)) w:=by rw[h5 .neq];simp[h2]
  simp[execOp,ho,hg,h6]
theorem wy{R:Type}{c:Bool}{x y:Option R}{r:R}(h:aJ c x y=some r):(c=true∧x=some r)∨(c=false∧y=some r):=by
 cases c
 ·exact .inr ⟨rfl,h⟩
 ·exact .inl ⟨rfl,h⟩
theorem y7{Γ:dR}(hΓ:Sound P Γ){bH:List Nat}{ops:Array Oper}{R:Type}{k:AS→Option R}{r:R}(h:fI C s a w)(he:BJ P Γ bH ops o s k=some r):
  iW P ops o a w fun a' w'=>∃s',fI C s' a' w'∧k s'=some r:=by
 have plain:CM P Γ bH ops o s k=some r→iW P ops o a w fun a' w'=>∃s',fI C s' a' w'∧k s'=some r:=fun he=>by
  obtain⟨s1,h1,h2⟩:=vB he
  exact(te hΓ h h1).mono fun a' w' hs=>⟨s1,hs,h2⟩
 have step:∀(hg:o.guard=none) (b:Bool),eN P o a w (fI C (s.put o.dst (.d .bool b)))→k (s.put o.dst (.d .bool b))=some r→iW P ops o a w fun a' w'=>∃s',fI C s' a' w'∧k s'=some r:=fun hg b hr hk=>by
  unfold iW
  have:Region.wanted o (yielded ops a.tmps)=true:=by simp[Region.wanted,hg]
  rw[if_pos this]
  exact hr.mono fun a' w' hs=>⟨_,hs,hk⟩
 unfold BJ at he
 split at he
 ·rename_i T x y U hg ho
  split at he
  ·rename_i n hn hT
   obtain⟨g,β,hi⟩:=h
   obtain⟨b,hb,hr⟩:=(o9 (o:=o) (U:=U) hi hn hT).1 ho
   refine step hg b hr ?_
   rcases wy he with⟨hc,hk⟩ | ⟨_,hk⟩
   ·rw[hb (by simpa using hc)];exact hk
   ·obtain⟨k1,k2⟩:=yo hk
    cases b
    ·exact k2
    ·exact k1
  ·exact plain he
 ·rename_i T x y U hg ho
  split at he
  ·rename_i n hn hT
   obtain⟨g,β,hi⟩:=h
   obtain⟨b,hb,hr⟩:=(o9 (o:=o) (U:=U) hi hn hT).2 ho
   refine step hg b hr ?_
   rcases wy he with⟨hc,hk⟩ | ⟨_,hk⟩
   ·rw[hb (by simpa using hc)];exact hk
   ·obtain⟨k1,k2⟩:=yo hk
    cases b
    ·exact k2
    ·exact k1
  ·exact plain he
 ·exact plain he
theorem qm{Γ:dR}(hΓ:Sound P Γ){bH:List Nat}{ops:Array Oper}{R:Type}{Q:Exit→Act→World→Prop}:∀(l:List Oper) {s:AS} {a:Act} {w:World} {k:AS→Option R} {r:R},fI C s a w→BK P Γ bH ops l s k=some r→
  (∀s' a' w',fI C s' a' w'→k s'=some r→Q .normal a' w')→wpList P ops Q l a w
 |[],s,a,w,k,r,h,he,hk=>hk s a w h he
 |o::l,s,a,w,k,r,h,he,hk=>by
  have he:BJ P Γ bH ops o s (fun s'=>s'.seen fun s'=>BK P Γ bH ops l s' k)=some r:=he
  simp only[AS.pq]at he
  exact((y7 hΓ h he).mono fun a' w' ⟨s',hs,h2⟩=>qm hΓ l hs h2 hk).wpList
end
end Go.Ab
namespace Go.Ab
theorem AS.Am{s t:AS}(h1:s.cg=t.cg)(h2:s.news.length=t.news.length)(h3:∀id,s.bY id=t.bY id):s=t:=by
 obtain⟨a,b,c⟩:=s
 obtain⟨a',b',c'⟩:=t
 simp only at h1 h2
 subst h1
 have hb:b=b':=List.ext_getElem? fun k=>h3 (.fB k)
 subst hb
 have hc:c=c':=by
  apply List.ext_getElem h2
  intro i h h'
  apply List.ext_getElem?
  intro j
  have:=h3 (.new i j)
  simpa[AS.bY,List.getD_eq_getElem?_getD,h,h']using this
 rw[hc]
def eF.wG:eF→eF→Prop
 | .obj v _ c,.obj v' _ c'=>v=v'∧c=c'
 | .dead,.dead=>True
 |_,_=>False
def kO:Option eF→Option eF→Prop
 |some a,some b=>a.wG b
 |none,none=>True
 |_,_=>False
def eF.yd:eF→eF
 | .obj v _ c=> .obj v true c
 | .dead=> .dead
theorem eF.A7(a:eF):a.wG a:=by cases a <;> simp[eF.wG]
theorem zF(a:Option eF):kO a a:=by cases a <;> simp[kO,eF.A7]
theorem zE(a:Option eF):kO (a.map eF.yd) a:=by
 cases a with
 |none=>trivial
 |some x=>cases x <;> simp[kO,eF.wG,eF.yd]
theorem eF.BH(a:eF):a.yd.yd=a.yd:=by cases a <;> rfl
structure gq(f:mJ)(s t:AS):Prop where
 cg:∀i∈f.cg,t.slot i=s.slot i
 ws:∀id∈f.ws,t.bY id=s.bY id
 rs:∀id∈f.rs,kO (t.bY id) (s.bY id)
 dH:∀q,f.dst=some q→t.dH q=s.dH q
structure Dc where
 v:aA
 up:Id→Option eF
 fz:List Id
structure App(d:Option Tmp)(E:Dc)(s s':AS):Prop where
 cg:s'.cg=(s.put d E.v).cg
 len:s'.news.length=s.news.length
 bY:∀id,s'.bY id=match E.up id with | some e=>some e | none=>if id∈E.fz then(s.bY id).map eF.yd else s.bY id
theorem App.CK{d:Option Tmp}{E:Dc}{s s1 s2:AS}(h1:App d E s s1)(h2:App d E s s2):s1=s2:=
 AS.Am (by rw[h1.cg,h2.cg]) (by rw[h1.len,h2.len]) fun id=>by rw[h1.bY,h2.bY]
structure tP(f:mJ)(s:AS)(E:Dc):Prop where
 up:∀id e,E.up id=some e→(id∈f.ws∧s.bY id≠none)∨∃q j,f.dst=some q∧id= .new q j
 fz:∀id∈E.fz,id∈f.rs
theorem ov(s:AS)(id:Id)(e:eF):(s.bp id e).news.length=s.news.length:=by cases id <;> simp[AS.bp]
theorem sI(s:AS)(id i:Id):(s.freeze id).bY i=if i=id then(s.bY i).map eF.yd else s.bY i:=by
 unfold AS.freeze
 cases hs:s.bY id with
 |none=>
  by_cases hi:i=id
  ·subst hi;simp[hs]
  ·simp[hi]
 |some e=>
  cases e with
  |dead=>
   by_cases hi:i=id
   ·subst hi;simp[hs,eF.yd]
   ·simp[hi]
  |obj v fr c=>
   simp only
   by_cases hi:i=id
   ·subst hi
    rw[eI s i _ (by rw[hs];simp)]
    simp[hs,eF.yd]
   ·rw[dN s id i _ hi];simp[hi]
theorem eA(i:Id):∀(ids:List Id) (s:AS),(s.a9 ids).bY i=if i∈ids then(s.bY i).map eF.yd else s.bY i
 |[],s=>by simp[AS.a9]
 |id::ids,s=>by
  rw[AS.a9,eA i ids,sI]
  by_cases h1:i=id
  ·subst h1
   by_cases h2:i∈ids
   ·simp[h2,Option.map_map,Function.comp_def,eF.BH]
   ·simp[h2]
  ·simp[h1]
theorem xr(s:AS)(id:Id):(s.freeze id).news.length=s.news.length:=by
 unfold AS.freeze
 split
 ·exact ov _ _ _
 ·rfl
theorem ir:∀(ids:List Id) (s:AS),(s.a9 ids).news.length=s.news.length
 |[],_=>rfl
 |id::ids,s=>by rw[AS.a9,ir ids,xr]
theorem kR{s:AS}{q:Nat}:s.dH q=true↔q < s.news.length∧∀j,s.bY (.new q j)=none:=by
 refine⟨fun h=>⟨(fW h).2,(fW h).1⟩,fun⟨h1,h2⟩=> ?_⟩
 unfold AS.dH
 rw[List.getElem?_eq_getElem h1]
 have h0:=h2 0
 simp only[AS.bY,List.getD_eq_getElem?_getD,List.getElem?_eq_getElem h1,Option.getD_some]at h0
 cases hh:s.news[q]with
 |nil=>rfl
 |cons x xs=>rw[hh]at h0;simp at h0
theorem App.pN(d:Option Tmp)(v:aA)(ids:List Id)(s:AS):App d ⟨v,fun _=>none,ids⟩ s ((s.a9 ids).put d v):=by
 refine⟨?_,?_,fun id=> ?_⟩
 ·cases d <;> simp[AS.put,gH]
 ·cases d <;> simp[AS.put,ir]
 ·rw[nA,eA]
theorem App.nF(d:Option Tmp)(v:aA)(s:AS):App d ⟨v,fun _=>none,[]⟩ s (s.put d v):=App.pN d v [] s
def pE(q:Nat)(es:List eF):Id→Option eF
 | .new i j=>if i=q then es[j]? else none
 | .fB _=>none
theorem Aj(s:AS){q:Nat}(hq:q < s.news.length)(es:List eF)(id:Id):(s.born q es).bY id=match id with | .new i j=>if i=q then es[j]? else s.bY (.new i j) | .fB k=>s.bY (.fB k):=by
 cases id with
 |fB k=>rfl
 |new i j=>
  simp only
  by_cases h:i=q
  ·subst h;rw[if_pos rfl];exact ki hq _ j
  ·rw[if_neg h];exact gl _ fun j' e=>by simp only[Id.new.injEq]at e;exact h e.1
theorem App.xX{s:AS}{q:Nat}(hv:s.dH q=true)(v:aA)(ids:List Id)(es:List eF):App (some q) ⟨v,pE q es,ids⟩ s (((s.a9 ids).born q es).put (some q) v):=by
 obtain⟨h1,h2⟩:=kR.1 hv
 refine⟨?_,?_,fun id=> ?_⟩
 ·simp[AS.put,gH]
 ·simp[AS.put,AS.born,ir]
 ·rw[nA,Aj _ (by rw[ir];exact h1)]
  cases id with
  |fB k=>simp only[pE];exact eA _ _ _
  |new i j=>
   simp only[pE]
   by_cases h:i=q
   ·subst h
    rw[if_pos rfl]
    cases he:es[j]? with
    |none=>simp[h2]
    |some e=>simp
   ·rw[if_neg h]
    simp only[if_neg h]
    exact eA _ _ _
theorem App.A3{s:AS}{id:Id}{e0:eF}(hs:s.bY id=some e0)(d:Option Tmp)(v:aA)(e:eF):App d ⟨v,fun i=>if i=id then some e else none,[]⟩ s ((s.bp id e).put d v):=by
 refine⟨?_,?_,fun i=> ?_⟩
 ·cases d <;> simp[AS.put]
 ·cases d <;> simp[AS.put,ov]
 ·rw[nA]
  by_cases hi:i=id
  ·subst hi
   rw[eI s i _ (by rw[hs];simp)]
   simp
  ·rw[dN s id i _ hi];simp[hi]
section
variable {P:Program} {Γ:dR} {bH:List Nat} {ops:Array Oper} {o:Oper} {s t:AS}
def oJ(P:Program)(Γ:dR)(bH:List Nat)(ops:Array Oper)(o:Oper)(s s':AS):Prop:=
 ∃E,App o.dst E s s'∧tP (eY Γ ops s o) s E∧∀t,gq (eY Γ ops s o) s t→∃t',(im P Γ bH o t).eval=some t'∧App o.dst E t t'
theorem qs{xs:Array Operand}{i:Nat}(h:Operand.tmp i∈xs.toList):i∈qU xs:=by
 unfold qU
 exact List.mem_filterMap.2 ⟨_,h,rfl⟩
theorem gq.ev(h:gq (eY Γ ops s o) s t){x:Operand}(hx:x∈o.op.operands.toList):t.ev x=s.ev x:=by
 cases x with
 |tmp i=>exact h.cg i (List.mem_append.2 (.inl (qs hx)))
 |_=>rfl
theorem wc(v:Value):(ofConst v).ids=[]:=by unfold ofConst;split <;> rfl
theorem ot{x:Operand}(hx:x∈o.op.operands.toList){id:Id}(hid:id∈(s.ev x).ids):id∈(eY Γ ops s o).rs:=by
 refine List.mem_append.2 (.inl ?_)
 unfold we
 cases x with
 |tmp i=>exact List.mem_flatMap.2 ⟨i,qs hx,hid⟩
 |const v=>simp[AS.ev,wc]at hid
 |global _=>simp[AS.ev,aA.ids]at hid
 |func f=>simp[AS.ev,aA.ids]at hid
theorem gq.wG(h:gq (eY Γ ops s o) s t){x:Operand}(hx:x∈o.op.operands.toList){id:Id}(hid:id∈(s.ev x).ids):kO (t.bY id) (s.bY id):=
 h.rs id (ot hx hid)
theorem px{id:Id}(h:kO (t.bY id) (s.bY id)):(t.obj id=none∧s.obj id=none)∨∃v f f' c,t.obj id=some (v,f,c)∧s.obj id=some (v,f',c):=by
 unfold AS.obj
 revert h
 cases t.bY id with
 |none=>cases s.bY id with
  |none=>intro _;simp
  |some b=>intro h;exact h.elim
 |some a=>cases s.bY id with
  |none=>intro h;exact h.elim
  |some b=>cases a <;> cases b <;> intro h <;> first
    |exact h.elim
    | (left;exact⟨rfl,rfl⟩)
    | (obtain⟨rfl,rfl⟩:=h;right;exact⟨_,_,_,_,rfl,rfl⟩)
theorem pY{id:Id}(h:kO (t.bY id) (s.bY id))(ver:Nat)(p:List oK):t.row id ver p=s.row id ver p:=by
 unfold AS.row
 rcases px h with⟨h1,h2⟩ | ⟨v,f,f',c,h1,h2⟩ <;> rw[h1,h2]
theorem gY:∀(v:aA) (ty:Ty),(∀id∈v.ids,kO (t.bY id) (s.bY id))→t.fG ty v=s.fG ty v
 | .cd id ver p c i len,ty,h=>by
  cases ty <;> first
   |rfl
   | (simp only[AS.fG];rw[pY (h id (by simp[aA.ids]))])
 | .pr a b,ty,h=>by
  cases ty <;> first
   |rfl
   | (simp only[AS.fG];rw[gY a _ fun id hid=>h id (by simp[aA.ids,hid]),gY b _ fun id hid=>h id (by simp[aA.ids,hid])])
 | .undef,ty,_ | .gone,ty,_ | .cU,ty,_ | .jR,ty,_ | .jQ,ty,_ | .lk,ty,_ | .d _ _,ty,_ | .ptr ..,ty,_ | .eC ..,ty,_ | .fn ..,ty,_ | .cons ..,ty,_ | .nil,ty,_ | .vec ..,ty,_ | .bx ..,ty,_ | .ja ..,ty,_ | .mp ..,ty,_ | .sb _,ty,_=>by
  cases ty <;> simp only[AS.fG]
theorem ju:∀(v:aA),∀id∈v.shared,id∈v.ids
 | .cd ..,id,h=>by simpa[aA.shared,aA.ids]using h
 | .pr a b,id,h=>by
  simp only[aA.shared,List.mem_append,aA.ids]at h ⊢
  rcases h with h | h
  ·exact .inl (ju a id h)
  ·exact .inr (ju b id h)
 | .undef,_,h | .gone,_,h | .cU,_,h | .jR,_,h | .jQ,_,h | .lk,_,h | .d _ _,_,h | .ptr ..,_,h | .eC ..,_,h | .fn ..,_,h | .cons ..,_,h | .nil,_,h | .vec ..,_,h | .bx ..,_,h | .ja ..,_,h | .mp ..,_,h | .sb _,_,h=>by
  simp[aA.shared]at h
theorem vP{T:TypeId}{x:aA}(h:∀id∈x.ids,kO (t.bY id) (s.bY id)):o3 P t T x=o3 P s T x:=by
 unfold o3
 split
 ·rename_i id ver p n
  rcases px (h id (by simp[aA.ids])) with⟨h1,h2⟩ | ⟨v,f,f',c,h1,h2⟩ <;> rw[h1,h2]
 ·rfl
 ·rfl
theorem tW{n:Nat}{lo hi:Option Operand}(hl:∀x,lo=some x→t.ev x=s.ev x)(hh:∀x,hi=some x→t.ev x=s.ev x):bounds t n lo hi=bounds s n lo hi:=by
 unfold bounds
 cases lo <;> cases hi <;> simp only[] <;> first
  |rfl
  | (rw[hl _ rfl,hh _ rfl])
  |rw[hl _ rfl]
  |rw[hh _ rfl]
theorem uK{T:TypeId}{x:aA}{lo hi:Option Operand}(h:∀id∈x.ids,kO (t.bY id) (s.bY id))(hl:∀x,lo=some x→t.ev x=s.ev x)(hh:∀x,hi=some x→t.ev x=s.ev x):
  oC P t T x lo hi=oC P s T x lo hi:=by
 have hb:∀n,bounds t n lo hi=bounds s n lo hi:=fun n=>tW hl hh
 unfold oC
 split <;> first
  |rfl
  | (rw[pY (h _ (by simp[aA.ids]))];simp only[hb];done)
  | (simp only[hb];done)
theorem pP{T:TypeId}{x:aA}{i:Int}(h:∀id∈x.ids,kO (t.bY id) (s.bY id)):iI P t T x i=iI P s T x i:=by
 unfold iI
 split <;> first
  |rfl
  |rw[pY (h _ (by simp[aA.ids]))]
theorem vk{obj:Bool}{src dst:TypeId}{x:aA}(h:∀id∈x.ids,kO (t.bY id) (s.bY id)):s5 P t obj src dst x=s5 P s obj src dst x:=by
 unfold s5
 split
 ·rfl
 ·unfold Af
  split <;> first
   |rfl
   | (simp only[AS.xz,gY _ _ h])
theorem y4{T:TypeId}{op:BinOp}{i:Id}{v:Nat}{j:Id}{w:Nat}(h:kO (t.bY i) (s.bY i)):Dh P t T op i v j w=Dh P s T op i v j w:=by
 unfold Dh
 rcases px h with⟨h1,h2⟩ | ⟨v,f,f',c,h1,h2⟩ <;> rw[h1,h2]
theorem vm{src dst:TypeId}{id:Id}{ver:Nat}(h:kO (t.bY id) (s.bY id)):s6 P t src dst id ver=s6 P s src dst id ver:=by
 unfold s6
 rcases px h with⟨h1,h2⟩ | ⟨v,f,f',c,h1,h2⟩
 ·rw[h1,h2]
 ·rw[h1,h2]
  cases c <;> first
   |rfl
   | (rename_i e z c;cases z <;> rfl)
theorem kN{ty:Ty}:∀(ps:List (Nat×Operand)) (l:List ty.den),(∀x∈ps,t.ev x.2=s.ev x.2∧∀id∈(s.ev x.2).ids,kO (t.bY id) (s.bY id))→fK ty t ps l=fK ty s ps l
 |[],_,_=>rfl
 | (i,x)::ps,l,h=>by
  obtain⟨h1,h2⟩:=h (i,x) (List.mem_cons_self ..)
  simp only[fK]
  simp only at h1 h2
  rw[h1,gY _ _ h2]
  congr 2
  funext y
  rw[kN ps _ fun z hz=>h z (List.mem_cons_of_mem _ hz)]
theorem j8{ty:Ty}:∀(ps:List (Nat×Operand)) (l:List ty.den) (r:List ty.den×List Id),(fK ty s ps l).eval=some r→∀id∈r.2,∃x∈ps,id∈(s.ev x.2).ids
 |[],l,r,h,id,hid=>by
  obtain rfl:=au.1 h
  cases hid
 | (i,x)::ps,l,r,h,id,hid=>by
  simp only[fK]at h
  obtain⟨h1,h2⟩:=aC.1 h
  obtain⟨y,h3,h4⟩:=ao.1 h2
  obtain⟨r',h5,h6⟩:=ao.1 h4
  obtain rfl:=au.1 h6
  rcases List.mem_append.1 hid with hid | hid
  ·exact⟨(i,x),List.mem_cons_self ..,ju _ _ hid⟩
  ·obtain⟨z,hz,hz2⟩:=j8 ps _ r' h5 id hid
   exact⟨z,List.mem_cons_of_mem _ hz,hz2⟩
theorem mA{fs:Array Field}:∀(ps:List (Nat×Operand)) (v:aA),(∀x∈ps,t.ev x.2=s.ev x.2)→hJ P fs t ps v=hJ P fs s ps v
 |[],_,_=>rfl
 | (i,x)::ps,v,h=>by
  have h1:=h (i,x) (List.mem_cons_self ..)
  simp only at h1
  simp only[hJ,h1]
  have ih:∀v,hJ P fs t ps v=hJ P fs s ps v:=fun v=>mA ps v fun z hz=>h z (List.mem_cons_of_mem _ hz)
  simp only[ih]
theorem oP:∀(l:List Operand),(∀x∈l,t.ev x=s.ev x)→iC t l=iC s l
 |[],_=>rfl
 |x::l,h=>by
  simp only[iC]
  rw[h x (List.mem_cons_self ..),oP l fun y hy=>h y (List.mem_cons_of_mem _ hy)]
theorem qu{ty:Ty}{X:TypeId}{x:aA}(h:∀id∈x.ids,kO (t.bY id) (s.bY id)):ng P t ty X x=ng P s ty X x:=by
 unfold ng
 split
 ·rfl
 ·simp only[AS.xz,gY _ _ h]
theorem gA{v:aA}(h:∀t,gq (eY Γ ops s o) s t→(im P Γ bH o t).eval=some (t.put o.dst v)):oJ P Γ bH ops o s (s.put o.dst v):=
 ⟨⟨v,fun _=>none,[]⟩,App.nF _ _ _,⟨fun _ _ h=>by simp at h,fun _ h=>by simp at h⟩,fun t ht=>⟨_,h t ht,App.nF _ _ _⟩⟩
theorem g8{F:AS→Out aA}(ho:∀t,im P Γ bH o t=(F t).bind fun v=> .ok (t.put o.dst v))(hF:∀t,gq (eY Γ ops s o) s t→F t=F s){s':AS}(he:(im P Γ bH o s).eval=some s'):oJ P Γ bH ops o s s':=by
 rw[ho]at he
 obtain⟨v,h1,h2⟩:=ao.1 he
 obtain rfl:=au.1 h2
 refine gA fun t ht=> ?_
 rw[ho,hF t ht,ao]
 exact⟨v,h1,rfl⟩
theorem qR{v:aA}{ids:List Id}(hi:∀id∈ids,id∈(eY Γ ops s o).rs)(h:∀t,gq (eY Γ ops s o) s t→(im P Γ bH o t).eval=some ((t.a9 ids).put o.dst v)):oJ P Γ bH ops o s ((s.a9 ids).put o.dst v):=
 ⟨⟨v,fun _=>none,ids⟩,App.pN _ _ _ _,⟨fun _ _ h=>by simp at h,hi⟩,fun t ht=>⟨_,h t ht,App.pN _ _ _ _⟩⟩
theorem kG{v:aA}{ids:List Id}{q:Nat}{es:List eF}(hd:o.dst=some q)(hv:s.dH q=true)(hi:∀id∈ids,id∈(eY Γ ops s o).rs)
  (h:∀t,gq (eY Γ ops s o) s t→t.dH q=true→(im P Γ bH o t).eval=some (((t.a9 ids).born q es).put o.dst v)):oJ P Γ bH ops o s (((s.a9 ids).born q es).put o.dst v):=by
 refine⟨⟨v,pE q es,ids⟩,by rw[hd];exact App.xX hv _ _ _,⟨fun id e h=> .inr ?_,hi⟩,fun t ht=> ?_⟩
 ·cases id with
  |fB _=>simp[pE]at h
  |new i j=>
   simp only[pE]at h
   split at h
   ·rename_i hq;exact⟨q,j,hd,by rw[hq]⟩
   ·cases h
 ·have hv':t.dH q=true:=by rw[ht.dH q hd];exact hv
  exact⟨_,h t ht hv',by rw[hd];exact App.xX hv' _ _ _⟩
theorem l6{v:aA}{id:Id}{e0 e:eF}(hs:s.bY id=some e0)(hw:id∈(eY Γ ops s o).ws)(h:∀t,gq (eY Γ ops s o) s t→t.bY id=s.bY id→(im P Γ bH o t).eval=some ((t.bp id e).put o.dst v)):
  oJ P Γ bH ops o s ((s.bp id e).put o.dst v):=by
 refine⟨⟨v,fun i=>if i=id then some e else none,[]⟩,App.A3 hs _ _ _,⟨fun i e' h=> .inl ?_,fun _ h=>by simp at h⟩,fun t ht=> ?_⟩
 ·simp only at h
  split at h
  ·rename_i hi;subst hi;exact⟨hw,by rw[hs];simp⟩
  ·cases h
 ·have:=ht.ws id hw
  exact⟨_,h t ht this,App.A3 (this.trans hs) _ _ _⟩
end
end Go.Ab
namespace Go.Ab
section
variable {P:Program} {Γ:dR} {bH:List Nat} {ops:Array Oper} {o:Oper} {s t:AS}
theorem uN{T:TypeId}{x v:aA}{s':AS}(h:(nq P s T x v).eval=some s'):
  ∃id e0 e,x.ids=[id]∧s.bY id=some e0∧s'=s.bp id e∧∀t:AS,t.bY id=s.bY id→(nq P t T x v).eval=some (t.bp id e):=by
 unfold nq at h
 split at h
 ·rename_i id ver p n
  cases hob:s.obj id with
  |none=>rw[hob]at h;simp only[ah]at h
  |some r=>
   obtain⟨ve,fr,c⟩:=r
   rw[hob]at h
   obtain⟨h1,h2⟩:=aC.1 h
   obtain⟨r,h3,h4⟩:=ao.1 h2
   obtain⟨h5,h6⟩:=aC.1 h4
   obtain⟨h7,h8⟩:=bA.1 h6
   obtain⟨c',h9,h10⟩:=ao.1 h8
   obtain rfl:=au.1 h10
   refine⟨id,_,_,rfl,eg hob,rfl,fun t ht=> ?_⟩
   have hob':t.obj id=some (ve,fr,c):=by simp only[AS.obj,ht];exact hob
   unfold nq
   simp only[hob']
   exact aC.2 ⟨h1,ao.2 ⟨r,h3,aC.2 ⟨h5,bA.2 ⟨h7,ao.2 ⟨c',h9,au.2 rfl⟩⟩⟩⟩⟩
 ·simp only[ah]at h
theorem xh{c:Call}{x y:Operand}{T X:TypeId}(hop:o.op= .call c)(hc:c.callee= .builtin .copy)(ha:c.args.toList=[x,y])(ht:c.argTypes.toList=[T,X]){s':AS}
  (he:(rf P s o.dst T X (s.ev x) (s.ev y)).eval=some s'):oJ P Γ bH ops o s s':=by
 have hao:∀t:AS,im P Γ bH o t=rf P t o.dst T X (t.ev x) (t.ev y):=fun t=>by
  unfold im
  rw[hop]
  simp only[hc,ha,ht]
 have hmem:∀z,z=x∨z=y→z∈o.op.operands.toList:=fun z hz=>by
  rw[hop]
  simp only[Op.operands,Call.operands,hc,List.nil_append,Array.toList_append,ha]
  simpa using hz
 have hx:∀t,gq (eY Γ ops s o) s t→t.ev x=s.ev x:=fun t h=>h.ev (hmem x (.inl rfl))
 have hy:∀t,gq (eY Γ ops s o) s t→t.ev y=s.ev y:=fun t h=>h.ev (hmem y (.inr rfl))
 have hm:∀t,gq (eY Γ ops s o) s t→∀ty,ng P t ty X (s.ev y)=ng P s ty X (s.ev y):=fun t h ty=>qu fun id hid=>h.wG (hmem y (.inr rfl)) hid
 unfold rf at he
 split at he
 ·rename_i e t b id ver len hel hxs
  obtain⟨m,h1,he⟩:=ao.1 he
  split at he
  ·rename_i ve n t' l hob
   obtain⟨h2,he1⟩:=aC.1 he
   obtain⟨l',h3,he2⟩:=ao.1 he1
   obtain⟨h4,he3⟩:=bA.1 he2
   obtain rfl:=au.1 he3
   have hw:id∈(eY Γ ops s o).ws:=by
    show id∈writes Γ s o
    unfold writes
    rw[hop]
    simp only[hc,ha,hxs]
    simp[aA.ids]
   refine l6 (eg hob) hw fun t ht hte=> ?_
   rw[hao t,hx t ht,hy t ht]
   have hob':t.obj id=some (ve,false,.d (.arr n t') l):=by simp only[AS.obj,hte];exact hob
   unfold rf
   simp only[hel,hxs]
   refine ao.2 ⟨m,by rw[hm t ht];exact h1,?_⟩
   simp only[hob']
   exact aC.2 ⟨h2,ao.2 ⟨l',h3,bA.2 ⟨h4,au.2 rfl⟩⟩⟩
  ·exact(ah.1 he).elim
 ·exact(ah.1 he).elim
theorem tS{c:Call}{x y:Operand}{T X:TypeId}(hop:o.op= .call c)(hc:c.callee= .builtin .append)(ha:c.args.toList=[x,y])(ht:c.argTypes.toList=[T,X])(hne:∀k n,s.ev x= .cU→s.ev y= .d (.int k) n→False){s':AS}
  (he:(kf P s (zb bH o.dst) (BQ bH o.dst) o.dst T X (s.ev x) (s.ev y)).eval=some s'):oJ P Γ bH ops o s s':=by
 have hao:∀t:AS,t.ev x=s.ev x→t.ev y=s.ev y→im P Γ bH o t=kf P t (zb bH o.dst) (BQ bH o.dst) o.dst T X (t.ev x) (t.ev y):=fun t e1 e2=>by
  unfold im
  rw[hop]
  simp only[hc,ha,ht]
  split
  ·rename_i k n hx hy
   rw[e1]at hx
   rw[e2]at hy
   exact(hne k n hx hy).elim
  ·rfl
 have hmem:∀z,z=x∨z=y→z∈o.op.operands.toList:=fun z hz=>by
  rw[hop]
  simp only[Op.operands,Call.operands,hc,List.nil_append,Array.toList_append,ha]
  simpa using hz
 have hx:∀t,gq (eY Γ ops s o) s t→t.ev x=s.ev x:=fun t h=>h.ev (hmem x (.inl rfl))
 have hy:∀t,gq (eY Γ ops s o) s t→t.ev y=s.ev y:=fun t h=>h.ev (hmem y (.inr rfl))
 have hm:∀t,gq (eY Γ ops s o) s t→∀ty,ng P t ty X (s.ev y)=ng P s ty X (s.ev y):=fun t h ty=>qu fun id hid=>h.wG (hmem y (.inr rfl)) hid
 unfold kf at he
 split at he
 ·rename_i e ty b q hel hd
  obtain⟨m,h1,h2⟩:=ao.1 he
  split at h2
  ·rename_i hnx
   cases hdt:BQ bH o.dst with
   |true=>
    rw[hdt]at h2
    simp only at h2
    obtain⟨h5,h6⟩:=bA.1 h2
    obtain rfl:=au.1 h6
    refine gA fun t ht=> ?_
    rw[hao t (hx t ht) (hy t ht),hx t ht,hy t ht]
    unfold kf
    simp only[hd]at hdt hel ⊢
    simp only[hel,hnx,hdt]
    refine ao.2 ⟨m,by rw[hm t ht];exact h1,?_⟩
    exact bA.2 ⟨h5,au.2 rfl⟩
   |false=>
   rw[hdt]at h2
   simp only at h2
   obtain⟨h3,h4⟩:=aC.1 h2
   obtain⟨h5,h6⟩:=bA.1 h4
   obtain rfl:=au.1 h6
   refine kG (ids:=[]) hd h3 (fun _ h=>by cases h) fun t ht hv=> ?_
   rw[hao t (hx t ht) (hy t ht),hx t ht,hy t ht]
   unfold kf
   simp only[hd]at hdt hel ⊢
   simp only[hel,hnx,hdt]
   refine ao.2 ⟨m,by rw[hm t ht];exact h1,?_⟩
   exact aC.2 ⟨hv,bA.2 ⟨h5,au.2 rfl⟩⟩
  ·rename_i id ver len hnx
   split at h2
   ·rename_i v fr e' t' l hob
    obtain⟨h3,h4⟩:=aC.1 h2
    obtain⟨l',h5,h6⟩:=ao.1 h4
    obtain⟨h7,h8⟩:=bA.1 h6
    obtain⟨h9,h10⟩:=bA.1 h8
    obtain⟨h11,h12⟩:=bA.1 h10
    obtain rfl:=au.1 h12
    have hw:id∈(eY Γ ops s o).ws:=by
     show id∈writes Γ s o
     unfold writes
     rw[hop]
     simp only[hc,ha,hnx]
     simp[aA.ids]
    refine l6 (eg hob) hw fun t ht hte=> ?_
    rw[hao t (hx t ht) (hy t ht),hx t ht,hy t ht]
    have hob':t.obj id=some (v,fr,.vec e' t' l):=by simp only[AS.obj,hte];exact hob
    unfold kf
    simp only[hd]at hel ⊢
    simp only[hel,hnx]
    refine ao.2 ⟨m,by rw[hm t ht];exact h1,?_⟩
    simp only[hob']
    exact aC.2 ⟨h3,ao.2 ⟨l',h5,bA.2 ⟨h7,bA.2 ⟨h9,bA.2 ⟨h11,au.2 rfl⟩⟩⟩⟩⟩
   ·simp only[ah]at h2
  ·simp only[ah]at h2
 ·simp only[ah]at he
theorem pX:∀(n:Nat) (todo acc:List Id),∀id∈acc,id∈s.reach n todo acc
 | 0,_,_,id,h=>h
 |_+1,[],_,id,h=>h
 |n+1,x::todo,acc,id,h=>by
  rw[AS.reach]
  split
  ·exact pX n todo acc id h
  ·exact pX n _ _ id (List.mem_append.2 (.inl h))
theorem jV:∀(n:Nat) (todo acc:List Id),(∀id∈s.reach n todo acc,((t.bY id).getD .dead).ids=((s.bY id).getD .dead).ids)→t.reach n todo acc=s.reach n todo acc
 | 0,_,_,_=>rfl
 |_+1,[],_,_=>rfl
 |n+1,x::todo,acc,h=>by
  rw[AS.reach]at h
  rw[AS.reach,AS.reach]
  split
  ·rename_i hc
   rw[if_pos hc]at h
   exact jV n todo acc h
  ·rename_i hc
   rw[if_neg hc]at h
   have hx:=h x (pX n _ _ x (List.mem_append.2 (.inr (List.mem_singleton.2 rfl))))
   rw[hx]
   exact jV n _ _ h
theorem BM(e:Option eF):((e.map eF.yd).getD .dead).ids=(e.getD .dead).ids:=by
 cases e with
 |none=>rfl
 |some x=>cases x <;> rfl
theorem qH(ids:List Id)(n:Nat)(todo acc:List Id):(s.a9 ids).reach n todo acc=s.reach n todo acc:=by
 refine jV n todo acc fun id _=> ?_
 rw[eA]
 split
 ·exact BM _
 ·rfl
theorem oc:∀(ps:List (Option Ty)) (vs:List aA),(∀v∈vs,∀id∈v.ids,kO (t.bY id) (s.bY id))→t.conv ps vs=s.conv ps vs
 |[],[],_=>rfl
 |[],_::_,_=>rfl
 |some _::_,[],_=>rfl
 |none::_,[],_=>rfl
 |some ty::ps,v::vs,h=>by
  simp only[AS.conv]
  rw[gY v ty (h v (List.mem_cons_self ..)),oc ps vs fun x hx=>h x (List.mem_cons_of_mem _ hx)]
 |none::ps,v::vs,h=>by
  simp only[AS.conv]
  rw[oc ps vs fun x hx=>h x (List.mem_cons_of_mem _ hx)]
theorem od:∀(ps:List (Option Ty)) (vs:List aA) (r:List aA×List Id),(s.conv ps vs).eval=some r→r.1.flatMap aA.ids=jB ps vs∧∀id∈r.2,∃v∈vs,id∈v.ids
 |[],[],r,h=>by
  simp only[AS.conv,au]at h
  subst h
  exact⟨rfl,fun _ h=>by cases h⟩
 |some ty::ps,v::vs,r,h=>by
  simp only[AS.conv]at h
  obtain⟨x,h1,h2⟩:=ao.1 h
  obtain⟨r',h3,h4⟩:=ao.1 h2
  obtain rfl:=au.1 h4
  obtain⟨i1,i2⟩:=od ps vs r' h3
  refine⟨by simp[jB,i1,aA.ids],fun id hid=> ?_⟩
  rcases List.mem_append.1 hid with hid | hid
  ·exact⟨v,List.mem_cons_self ..,ju v id hid⟩
  ·obtain⟨u,hu,hu2⟩:=i2 id hid
   exact⟨u,List.mem_cons_of_mem _ hu,hu2⟩
 |none::ps,v::vs,r,h=>by
  simp only[AS.conv]at h
  obtain⟨r',h3,h4⟩:=ao.1 h
  obtain rfl:=au.1 h4
  obtain⟨i1,i2⟩:=od ps vs r' h3
  refine⟨by simp[jB,i1],fun id hid=> ?_⟩
  obtain⟨u,hu,hu2⟩:=i2 id hid
  exact⟨u,List.mem_cons_of_mem _ hu,hu2⟩
 |[],_::_,_,h=>by simp only[AS.conv,ah]at h
 |some _::_,[],_,h=>by simp only[AS.conv,ah]at h
 |none::_,[],_,h=>by simp only[AS.conv,ah]at h
theorem vO:∀(c:aA),∀v∈c.list,∀id∈v.ids,id∈c.ids
 | .cons a b,v,hv,id,hid=>by
  simp only[aA.list,List.mem_cons]at hv
  simp only[aA.ids,List.mem_append]
  rcases hv with rfl | hv
  ·exact .inl hid
  ·exact .inr (vO b v hv id hid)
 | .sb _,_,h,_,_ | .undef,_,h,_,_ | .gone,_,h,_,_ | .cU,_,h,_,_ | .jR,_,h,_,_ | .jQ,_,h,_,_ | .lk,_,h,_,_ | .d _ _,_,h,_,_ | .ptr ..,_,h,_,_ | .eC ..,_,h,_,_
 | .fn ..,_,h,_,_ | .pr ..,_,h,_,_ | .nil,_,h,_,_ | .vec ..,_,h,_,_ | .bx ..,_,h,_,_ | .ja ..,_,h,_,_ | .mp ..,_,h,_,_ | .cd ..,_,h,_,_=>by simp[aA.list]at h
theorem qx{ids:List Id}(h:∀id∈ids,t.bY id=s.bY id):t.kc ids=s.kc ids:=by
 funext id ver
 unfold AS.kc
 cases hi:idxOf id ids with
 |none=>rfl
 |some k=>
  have:t.obj id=s.obj id:=by simp only[AS.obj,h id (List.mem_of_getElem? (iH hi))]
  rw[this]
theorem qz{id:Id}(h:t.bY id=s.bY id):t.k9 id=s.k9 id:=by simp only[AS.k9,AS.obj,h]
theorem pf{ids:List Id}(h:∀id∈ids,t.bY id=s.bY id)(q:Nat):t.js ids q=s.js ids q:=by
 funext id ver
 cases id with
 |new i j=>rfl
 |fB k=>
  simp only[AS.js]
  cases hk:ids[k]? with
  |none=>rfl
  |some id=>simp only[qz (h id (List.mem_of_getElem? hk))]
theorem oQ{ids:List Id}(h:∀id∈ids,t.bY id=s.bY id)(q b:Nat):t.iD ids q b=s.iD ids q b:=by
 funext e
 cases e <;> simp only[AS.iD,pf h]
theorem vp{ids:List Id}(h:∀id∈ids,t.bY id=s.bY id){id:Id}(hid:id∈ids):t.gT ids id=s.gT ids id:=by
 unfold AS.gT
 rw[h id hid,qx h]
def gL(s:AS)(ids:List Id)(d:Option Tmp)(G:aY):AS:=
 (AS.fL s ids (d.getD 0) (s.made ids (d.getD 0) G.news) ids G.db).put d (G.val.fR (s.js ids (d.getD 0)))
theorem sX{ids:List Id}{d:Option Tmp}{G:aY}{s':AS}:(s.back ids d G).eval=some s'↔(G.db.length=ids.length∧(G.news=[]∨∃q,d=some q∧s.dH q=true))∧s'=gL s ids d G:=by
 unfold AS.back
 cases d with
 |none=>
  rw[aC,au]
  simp only[Bool.and_eq_true,beq_iff_eq,List.isEmpty_iff,gL,AS.put,Option.getD_none]
  constructor
  ·rintro⟨⟨h1,h2⟩,rfl⟩
   rw[h2];exact⟨⟨h1,.inl rfl⟩,rfl⟩
  ·rintro⟨⟨h1,h2⟩,rfl⟩
   rcases h2 with h2 | ⟨q,hq,_⟩
   ·rw[h2];exact⟨⟨h1,rfl⟩,rfl⟩
   ·cases hq
 |some q=>
  rw[aC,au]
  simp only[Bool.and_eq_true,beq_iff_eq,Bool.or_eq_true,List.isEmpty_iff,gL,Option.getD_some]
  constructor
  ·rintro⟨⟨h1,h2⟩,rfl⟩
   exact⟨⟨h1,h2.imp id fun h=>⟨q,rfl,h⟩⟩,rfl⟩
  ·rintro⟨⟨h1,h2⟩,rfl⟩
   refine⟨⟨h1,h2.imp id fun⟨q',hq,h⟩=> ?_⟩,rfl⟩
   obtain rfl:q=q':=by simpa using hq
   exact h
theorem qo(s0:AS)(all:List Id)(q:Nat):∀(ids:List Id) (es:List eF) (s:AS),(AS.fL s0 all q s ids es).news.length=s.news.length
 |[],_,_=>by simp[AS.fL]
 |_::_,[],_=>by simp[AS.fL]
 |id::ids,e::es,s=>by rw[AS.fL,qo s0 all q ids es,ov]
theorem AA(s:AS)(ids:List Id)(q:Nat)(es:List eF):(s.made ids q es).news.length=s.news.length:=by
 cases es <;> simp[AS.made,AS.born]
def nK(ids:List Id)(d:Option Tmp)(G:aY)(id:Id):Prop:=id∈ids∨(G.news≠ []∧∃q j,d=some q∧id= .new q j)
theorem qY{ids:List Id}{d:Option Tmp}{G:aY}(hn:ids.Nodup)(hp:∀id∈ids,s.bY id≠none)(hl:G.db.length=ids.length)(hv:G.news=[]∨∃q,d=some q∧s.dH q=true):
  (∀id,¬nK ids d G id→(gL s ids d G).bY id=s.bY id)∧
  (∀(k:Nat) (id:Id) (e:eF),ids[k]? =some id→G.db[k]? =some e→(gL s ids d G).bY id=some (s.iD ids (d.getD 0) (s.k9 id) e))∧
  (∀q j,G.news≠ []→d=some q→(gL s ids d G).bY (.new q j)=(G.news[j]?).map (s.iD ids q 0))∧
  (∀q j,G.news≠ []→d=some q→s.bY (.new q j)=none):=by
 have hv':G.news=[]∨s.dH (d.getD 0)=true:=by
  rcases hv with h | ⟨q,rfl,h⟩
  ·exact .inl h
  ·exact .inr h
 obtain⟨m1,m2⟩:=vq s ids (d.getD 0) G.news hv'
 have hnone:∀q j,G.news≠ []→d=some q→s.bY (.new q j)=none:=fun q j h1 h2=>by
  rcases hv' with h | h
  ·exact absurd h h1
  ·subst h2;exact(kR.1 h).2 j
 have hnew:∀id,s.bY id≠none→G.news=[]∨∀j,id≠ .new (d.getD 0) j:=fun id hid=>by
  rcases hv with h | ⟨q,rfl,h⟩
  ·exact .inl h
  ·exact .inr fun j e=>hid (by rw[e];exact(kR.1 h).2 j)
 obtain⟨n1,n2⟩:=mU s ids (d.getD 0) ids G.db (s.made ids (d.getD 0) G.news) hn hl (fun id hid=>by rw[m1 id (hnew id (hp id hid))];exact hp id hid)
 refine⟨fun id hid=> ?_,fun k id e h1 h2=> ?_,fun q j h1 h2=> ?_,hnone⟩
 ·unfold nK at hid
  simp only[not_or]at hid
  rw[gL,nA,n1 id hid.1]
  refine m1 id ?_
  by_cases hne:G.news=[]
  ·exact .inl hne
  ·right
   intro j e
   rcases hv with h | ⟨q,hq,_⟩
   ·exact hne h
   ·exact hid.2 ⟨hne,q,j,hq,by rw[e,hq];rfl⟩
 ·rw[gL,nA,n2 k id e h1 h2]
 ·subst h2
  have hnot:Id.new q j ∉ ids:=fun hid=>hp _ hid (hnone q j h1 rfl)
  rw[gL,nA,n1 _ hnot]
  exact m2 h1 j
open Classical in
theorem xd{c:Call}{F:Operand}{f:FuncId}{caps:aA}{en:Entry}(hop:o.op= .call c)(hc:c.callee= .value F)(hF:s.ev F= .fn f caps)(hΓ:Γ f (c.args.toList.map s.ev++caps.list)=some en){s':AS}
  (he:(s.call en o.dst (c.args.toList.map s.ev++caps.list)).eval=some s'):oJ P Γ bH ops o s s':=by
 have hmem:∀z,z=F∨z∈c.args.toList→z∈o.op.operands.toList:=fun z hz=>by
  rw[hop]
  simp only[Op.operands,Call.operands,hc,Array.toList_append,List.mem_append]
  rcases hz with rfl | hz
  ·exact .inl (by simp)
  ·exact .inr hz
 have hvids:∀v∈c.args.toList.map s.ev++caps.list,∀id∈v.ids,id∈(eY Γ ops s o).rs:=fun v hv id hid=>by
  rcases List.mem_append.1 hv with hv | hv
  ·obtain⟨x,hx,rfl⟩:=List.mem_map.1 hv
   exact ot (hmem x (.inr hx)) hid
  ·refine ot (hmem F (.inl rfl)) ?_
   rw[hF]
   exact vO caps v hv id hid
 generalize hvs:c.args.toList.map s.ev++caps.list=vs at he hvids hΓ
 have hws:(eY Γ ops s o).ws=s.reach 64 (jB en.params vs) []:=by
  show writes Γ s o=_
  unfold writes
  rw[hop]
  simp only[hc,hF,hvs,hΓ]
 have hao:∀t,gq (eY Γ ops s o) s t→im P Γ bH o t=t.call en o.dst vs:=fun t ht=>by
  unfold im
  rw[hop]
  have h1:t.ev F= .fn f caps:=by rw[ht.ev (hmem F (.inl rfl)),hF]
  have h2:c.args.toList.map t.ev=c.args.toList.map s.ev:=List.map_congr_left fun x hx=>ht.ev (hmem x (.inr hx))
  obtain⟨cal,args,tys⟩:=c
  simp only at hc hvs h2
  subst hc
  simp only[h1,h2,hvs,hΓ]
 unfold AS.call at he
 obtain⟨r,h1,h2⟩:=ao.1 he
 obtain⟨hr1,hr2⟩:=od _ _ r h1
 have hlends:∀t:AS,(t.a9 r.2).yk r.1=t.reach 64 (jB en.params vs) []:=fun t=>by
  unfold AS.yk
  rw[qH,hr1]
 rw[hlends]at h2
 generalize hW:s.reach 64 (jB en.params vs) []=W at h2 hws
 have hWn:W.Nodup:=by rw[←hW];exact jW s _ _ _ (by simp)
 unfold AS.enter at h2
 obtain⟨hall,h3⟩:=aC.1 h2
 obtain⟨x,hx,h4⟩:=rk.1 h3
 obtain⟨⟨hl,hv⟩,rfl⟩:=sX.1 h4
 generalize hG:en.out (r.1.map (aA.fR ((s.a9 r.2).kc W))) (W.map ((s.a9 r.2).gT W)) x=G at hl hv h4 ⊢
 have hp:∀id∈W,(s.a9 r.2).bY id≠none:=fun id hid=>by
  have:=List.all_eq_true.1 hall id hid
  obtain⟨⟨v,fr,c⟩,hr⟩:=Option.isSome_iff_exists.1 this
  rw[eg hr];simp
 obtain⟨b1,b2,b3,b4⟩:=qY (s:=s.a9 r.2) (d:=o.dst) hWn hp hl hv
 have hfzent:∀(u:AS) id,u.bY id=none↔(u.a9 r.2).bY id=none:=fun u id=>by
  rw[eA];split <;> simp
 let E:Dc:=⟨G.val.fR ((s.a9 r.2).js W (o.dst.getD 0)),fun id=>if nK W o.dst G id then(gL (s.a9 r.2) W o.dst G).bY id else none,r.2⟩
 have hslots:∀u:AS,(gL (u.a9 r.2) W o.dst G).cg=(u.put o.dst (G.val.fR ((u.a9 r.2).js W (o.dst.getD 0)))).cg:=fun u=>by
  unfold gL
  cases o.dst <;> simp[AS.put,lr,sj,gH]
 have hlen:∀u:AS,(gL (u.a9 r.2) W o.dst G).news.length=u.news.length:=fun u=>by
  unfold gL
  cases o.dst <;> simp[AS.put,qo,AA,ir]
 refine⟨E,⟨hslots s,hlen s,fun id=> ?_⟩,⟨fun id e hup=> ?_,fun id hid=> ?_⟩,fun t ht=> ?_⟩
 ·by_cases hto:nK W o.dst G id
  ·have hup:E.up id=(gL (s.a9 r.2) W o.dst G).bY id:=if_pos hto
   rw[hup]
   cases hb:(gL (s.a9 r.2) W o.dst G).bY id with
   |some e=>rfl
   |none=>
    rcases hto with hid | ⟨hne,q,j,hq,rfl⟩
    ·obtain⟨k,hk⟩:=List.mem_iff_getElem?.1 hid
     have hlt:k < G.db.length:=by rw[hl];exact(List.getElem?_eq_some_iff.1 hk).1
     rw[b2 k id _ hk (List.getElem?_eq_getElem hlt)]at hb
     cases hb
    ·have:=(hfzent s _).2 (b4 q j hne hq)
     simp[this]
  ·have hup:E.up id=none:=if_neg hto
   rw[hup,b1 id hto,eA]
 ·by_cases hto:nK W o.dst G id
  ·rcases hto with hid | ⟨_,q,j,hq,rfl⟩
   ·left
    refine⟨by rw[hws];exact hid,fun h=>hp id hid ((hfzent s id).1 h)⟩
   ·exact .inr ⟨q,j,hq,rfl⟩
  ·have:E.up id=none:=if_neg hto
   rw[this]at hup;cases hup
 ·obtain⟨v,hv,hid⟩:=hr2 id hid
  exact hvids v hv id hid
 ·have hco:t.conv en.params vs=s.conv en.params vs:=oc _ _ fun v hv id hid=>ht.rs id (hvids v hv id hid)
  have hag:∀id∈W,t.bY id=s.bY id:=fun id hid=>ht.ws id (by rw[hws];exact hid)
  have hagf:∀id∈W,(t.a9 r.2).bY id=(s.a9 r.2).bY id:=fun id hid=>by
   rw[eA,eA,hag id hid]
  have hWt:t.reach 64 (jB en.params vs) []=W:=by
   rw[←hW]
   refine jV _ _ _ fun id hid=> ?_
   rw[hag id (by rw[←hW];exact hid)]
  have hvt:G.news=[]∨∃q,o.dst=some q∧(t.a9 r.2).dH q=true:=hv.imp id fun⟨q,hq,h⟩=>⟨q,hq,by
   rw[jx]at h ⊢
   rw[ht.dH q hq];exact h⟩
  have hpt:∀id∈W,(t.a9 r.2).bY id≠none:=fun id hid=>by rw[hagf id hid];exact hp id hid
  obtain⟨d1,d2,d3,d4⟩:=qY (s:=t.a9 r.2) (d:=o.dst) hWn hpt hl hvt
  refine⟨gL (t.a9 r.2) W o.dst G,?_,⟨?_,hlen t,fun id=> ?_⟩⟩
  ·rw[hao t ht]
   unfold AS.call
   rw[hco]
   refine ao.2 ⟨r,h1,?_⟩
   rw[hlends,hWt]
   unfold AS.enter
   have hA:(t.a9 r.2).kc W=(s.a9 r.2).kc W:=qx hagf
   have hO:W.map ((t.a9 r.2).gT W)=W.map ((s.a9 r.2).gT W):=List.map_congr_left fun id hid=>vp hagf hid
   refine aC.2 ⟨?_,rk.2 ⟨x,?_,?_⟩⟩
   ·refine List.all_eq_true.2 fun id hid=> ?_
    have:=List.all_eq_true.1 hall id hid
    simp only[AS.obj]at this ⊢
    rw[hagf id hid]
    exact this
   ·rw[hA,hO,←hx]
   ·rw[hA,hO,hG]
    exact sX.2 ⟨⟨hl,hvt⟩,rfl⟩
  ·rw[hslots t,pf hagf]
  ·by_cases hto:nK W o.dst G id
   ·have hup:E.up id=(gL (s.a9 r.2) W o.dst G).bY id:=if_pos hto
    rw[hup]
    rcases hto with hid | ⟨hne,q,j,hq,rfl⟩
    ·obtain⟨k,hk⟩:=List.mem_iff_getElem?.1 hid
     have hlt:k < G.db.length:=by rw[hl];exact(List.getElem?_eq_some_iff.1 hk).1
     rw[b2 k id _ hk (List.getElem?_eq_getElem hlt),d2 k id _ hk (List.getElem?_eq_getElem hlt),oQ hagf,qz (hagf id hid)]
    ·rw[b3 q j hne hq,d3 q j hne hq,oQ hagf]
     cases hn:G.news[j]? with
     |some e=>rfl
     |none=>
      have:=(hfzent t _).2 (d4 q j hne hq)
      simp[this]
   ·have hup:E.up id=none:=if_neg hto
    rw[hup,d1 id hto,eA]
end
end Go.Ab
namespace Go.Ab
section
variable {P:Program} {Γ:dR} {bH:List Nat} {ops:Array Oper} {o:Oper} {s t:AS}
theorem Out.bind_assoc{α β γ:Type}(o:Out α)(f:α→Out β)(g:β→Out γ):(o.bind f).bind g=o.bind fun a=>(f a).bind g:=by
 induction o with
 |ok a=>rfl
 |fail=>rfl
 |jj c r ih=>simp only[Out.bind,ih]
 |get x h ih=>simp only[Out.bind,ih]
 |br c x y ih1 ih2=>simp only[Out.bind,ih1,ih2]
theorem wi{parts:Array (Nat×Operand)}{x:Nat×Operand}(h:x∈parts.toList):x.2∈(parts.toList.map (·.2)).toArray.toList:=List.mem_map.2 ⟨x,h,rfl⟩
theorem yT{T:TypeId}{x:Operand}(hop:o.op= .box T x){s':AS}(he:(vd P s (isObj bH o.dst) o.dst T (s.ev x)).eval=some s'):oJ P Γ bH ops o s s':=by
 have hao:∀t,im P Γ bH o t=vd P t (isObj bH o.dst) o.dst T (t.ev x):=fun t=>by unfold im;rw[hop]
 have hm:x∈o.op.operands.toList:=by rw[hop];simp[Op.operands]
 unfold vd at he
 split at he
 ·rename_i q hd
  split at he
  ·rename_i ho
   obtain⟨h1,h2⟩:=aC.1 he
   obtain rfl:=au.1 h2
   simp only[Bool.and_eq_true]at h1
   refine kG (ids:=[]) hd h1.1 (fun _ h=>by cases h) fun t ht hv=> ?_
   rw[hao,ht.ev hm]
   unfold vd
   simp only[hd]at ho ⊢
   simp only[ho]
   exact aC.2 ⟨by simp[hv,h1.2],au.2 rfl⟩
  ·rename_i ho
   split at he
   ·rename_i ty hty
    obtain⟨h1,h2⟩:=aC.1 he
    obtain⟨y,h3,h4⟩:=ao.1 h2
    obtain rfl:=au.1 h4
    refine qR (fun id hid=>ot hm (ju _ _ hid)) fun t ht=> ?_
    rw[hao,ht.ev hm]
    unfold vd
    simp only[hd]at ho ⊢
    simp only[ho,hty]
    refine aC.2 ⟨h1,ao.2 ⟨y,?_,au.2 rfl⟩⟩
    rw[gY _ _ fun id hid=>ht.wG hm hid];exact h3
   ·simp only[ah]at he
 ·simp only[ah]at he
theorem wQ{T:TypeId}{x:Operand}(hop:o.op= .sliceToArrayPointer T x){s':AS}(he:(oE P s o.dst T (s.ev x)).eval=some s'):oJ P Γ bH ops o s s':=by
 have hao:∀t,im P Γ bH o t=oE P t o.dst T (t.ev x):=fun t=>by unfold im;rw[hop]
 have hm:x∈o.op.operands.toList:=by rw[hop];simp[Op.operands]
 unfold oE at he
 split at he
 ·rename_i n e hT
  split at he
  ·rename_i ty hty
   obtain⟨h1,h2⟩:=aC.1 he
   obtain⟨l,h3,h4⟩:=ao.1 h2
   obtain⟨h5,h6⟩:=bA.1 h4
   obtain rfl:=au.1 h6
   refine qR (fun id hid=>ot hm (ju _ _ hid)) fun t ht=> ?_
   rw[hao,ht.ev hm]
   unfold oE
   simp only[hT,hty]
   refine aC.2 ⟨h1,ao.2 ⟨l,?_,bA.2 ⟨h5,au.2 rfl⟩⟩⟩
   rw[gY _ _ fun id hid=>ht.wG hm hid];exact h3
  ·simp only[ah]at he
 ·simp only[ah]at he
theorem vh{T:TypeId}{parts:Array (Nat×Operand)}(hop:o.op= .build T parts){s':AS}(he:(mR P s o.dst T parts.toList).eval=some s'):oJ P Γ bH ops o s s':=by
 have hao:∀t,im P Γ bH o t=mR P t o.dst T parts.toList:=fun t=>by unfold im;rw[hop]
 have hm:∀x∈parts.toList,x.2∈o.op.operands.toList:=fun x hx=>by rw[hop];exact wi hx
 unfold mR at he
 split at he
 ·rename_i fs hT
  split at he
  ·rename_i z hz
   obtain⟨h1,h2⟩:=aC.1 he
   obtain⟨v,h3,h4⟩:=ao.1 h2
   obtain rfl:=au.1 h4
   refine gA fun t ht=> ?_
   rw[hao]
   unfold mR
   simp only[hT,hz]
   refine aC.2 ⟨h1,ao.2 ⟨v,?_,au.2 rfl⟩⟩
   rw[mA _ _ fun x hx=>ht.ev (hm x hx)];exact h3
  ·simp only[ah]at he
 ·rename_i n e hT
  split at he
  ·rename_i ty hty
   obtain⟨h1,h2⟩:=aC.1 he
   obtain⟨r,h3,h4⟩:=ao.1 h2
   obtain rfl:=au.1 h4
   refine qR (fun id hid=> ?_) fun t ht=> ?_
   ·obtain⟨x,hx,hi⟩:=j8 _ _ _ h3 id hid
    exact ot (hm x hx) hi
   ·rw[hao]
    unfold mR
    simp only[hT,hty]
    refine aC.2 ⟨h1,ao.2 ⟨r,?_,au.2 rfl⟩⟩
    rw[kN _ _ fun x hx=>⟨ht.ev (hm x hx),fun id hid=>ht.wG (hm x hx) hid⟩];exact h3
  ·simp only[ah]at he
 ·simp only[ah]at he
theorem pH{T:TypeId}{n:Nat}{parts:Array (Nat×Operand)}(hop:o.op= .buildSlice T n parts){s':AS}(he:(gr P s (zb bH o.dst) (isObj bH o.dst) o.dst T n parts.toList).eval=some s'):oJ P Γ bH ops o s s':=by
 have hao:∀t,im P Γ bH o t=gr P t (zb bH o.dst) (isObj bH o.dst) o.dst T n parts.toList:=fun t=>by unfold im;rw[hop]
 have hm:∀x∈parts.toList,x.2∈o.op.operands.toList:=fun x hx=>by rw[hop];exact wi hx
 unfold gr at he
 split at he
 ·rename_i e ty b q hel hd
  obtain⟨h1,h2⟩:=aC.1 he
  obtain⟨r,h3,h4⟩:=ao.1 h2
  have hsh:∀id∈r.2,id∈(eY Γ ops s o).rs:=fun id hid=>by
   obtain⟨x,hx,hi⟩:=j8 _ _ _ h3 id hid
   exact ot (hm x hx) hi
  have hco:∀t,gq (eY Γ ops s o) s t→∀l,fK ty t parts.toList l=fK ty s parts.toList l:=fun t ht l=>kN _ _ fun x hx=>⟨ht.ev (hm x hx),fun id hid=>ht.wG (hm x hx) hid⟩
  split at h4
  ·rename_i ho
   obtain⟨h5,h6⟩:=aC.1 h4
   obtain rfl:=au.1 h6
   refine kG hd h5 hsh fun t ht hv=> ?_
   rw[hao]
   unfold gr
   simp only[hd]at ho hel ⊢
   simp only[hel,ho]
   refine aC.2 ⟨h1,ao.2 ⟨r,by rw[hco t ht];exact h3,aC.2 ⟨hv,au.2 rfl⟩⟩⟩
  ·rename_i ho
   obtain rfl:=au.1 h4
   refine qR hsh fun t ht=> ?_
   rw[hao]
   unfold gr
   simp only[hd]at ho hel ⊢
   simp only[hel,ho]
   exact aC.2 ⟨h1,ao.2 ⟨r,by rw[hco t ht];exact h3,au.2 rfl⟩⟩
 ·simp only[ah]at he
theorem qF{T:TypeId}{x y:Operand}(hop:o.op= .makeSlice T x y){len cap:Int}(hx:(asInt (s.ev x)).eval=some len)(hy:(asInt (s.ev y)).eval=some cap){s':AS}(he:(iL P s o.dst T len cap).eval=some s'):oJ P Γ bH ops o s s':=by
 have hao:∀t,im P Γ bH o t=(asInt (t.ev x)).bind fun l=>(asInt (t.ev y)).bind fun c=>iL P t o.dst T l c:=fun t=>by unfold im;rw[hop]
 have hm:∀z,z=x∨z=y→z∈o.op.operands.toList:=fun z hz=>by rw[hop];simpa[Op.operands]using hz
 unfold iL at he
 split at he
 ·rename_i e ty b q hel hd
  obtain⟨h1,h2⟩:=aC.1 he
  obtain⟨h3,h4⟩:=bA.1 h2
  obtain rfl:=au.1 h4
  refine kG (ids:=[]) hd h1 (fun _ h=>by cases h) fun t ht hv=> ?_
  rw[hao,ht.ev (hm x (.inl rfl)),ht.ev (hm y (.inr rfl))]
  refine ao.2 ⟨len,hx,ao.2 ⟨cap,hy,?_⟩⟩
  unfold iL
  simp only[hel,hd]
  exact aC.2 ⟨hv,bA.2 ⟨h3,au.2 rfl⟩⟩
 ·simp only[ah]at he
theorem uz{id:Id}{ver:Nat}{kt vt:Ty}(h:kO (t.bY id) (s.bY id)):t.jq id ver kt vt=s.jq id ver kt vt:=by
 unfold AS.jq
 rcases px h with⟨h1,h2⟩ | ⟨v,f,f',c,h1,h2⟩
 ·rw[h1,h2]
 ·rw[h1,h2]
  cases c <;> rfl
theorem sK{T:TypeId}{m k:aA}{ok:Bool}(h:∀id∈m.ids,kO (t.bY id) (s.bY id)):l7 P t T m k ok=l7 P s T m k ok:=by
 unfold l7
 split
 ·rename_i id ver hm
  rw[uz (h id (by simp[aA.ids]))]
 ·rfl
theorem tl{id:Id}{ver:Nat}{kt vt:Ty}{l:List (kt.den×vt.den)}(h:(s.jq id ver kt vt).eval=some l):∃e,s.bY id=some e:=by
 unfold AS.jq at h
 split at h
 ·rename_i v fr k' v' l' hob
  exact⟨_,eg hob⟩
 ·simp only[ah]at h
theorem qq{id:Id}{ver:Nat}{kt vt:Ty}(h:t.bY id=s.bY id):t.jq id ver kt vt=s.jq id ver kt vt:=by
 unfold AS.jq AS.obj
 rw[h]
theorem sN{T:TypeId}{m k v:aA}{s':AS}(h:(mb P s T m k v).eval=some s'):
  ∃id e0 e,m.ids=[id]∧s.bY id=some e0∧s'=s.bp id e∧∀t:AS,t.bY id=s.bY id→(mb P t T m k v).eval=some (t.bp id e):=by
 unfold mb at h
 split at h
 ·rename_i K V kt vt id ver hm
  obtain⟨l,h1,h⟩:=ao.1 h
  obtain⟨kx,h2,h⟩:=ao.1 h
  obtain⟨vx,h3,h⟩:=ao.1 h
  obtain rfl:=au.1 h
  obtain⟨e0,he0⟩:=tl h1
  refine⟨id,e0,_,rfl,he0,rfl,fun t ht=> ?_⟩
  unfold mb
  simp only[hm]
  exact ao.2 ⟨l,by rw[qq ht];exact h1,ao.2 ⟨kx,h2,ao.2 ⟨vx,h3,au.2 rfl⟩⟩⟩
 ·simp only[ah]at h
theorem sM{T:TypeId}{m k:aA}{s':AS}(h:(l9 P s T m k).eval=some s'):
  ∃id e0 e,m.ids=[id]∧s.bY id=some e0∧s'=s.bp id e∧∀t:AS,t.bY id=s.bY id→(l9 P t T m k).eval=some (t.bp id e):=by
 unfold l9 at h
 split at h
 ·rename_i K V kt vt id ver hm
  obtain⟨l,h1,h⟩:=ao.1 h
  obtain⟨kx,h2,h⟩:=ao.1 h
  obtain rfl:=au.1 h
  obtain⟨e0,he0⟩:=tl h1
  refine⟨id,e0,_,rfl,he0,rfl,fun t ht=> ?_⟩
  unfold l9
  simp only[hm]
  exact ao.2 ⟨l,by rw[qq ht];exact h1,ao.2 ⟨kx,h2,au.2 rfl⟩⟩
 ·simp only[ah]at h
theorem sV{s':AS}(he:(im P Γ bH o s).eval=some s'):oJ P Γ bH ops o s s':=by
 have he0:=he
 have one:∀x,o.op.operands= #[x]→∀t,gq (eY Γ ops s o) s t→t.ev x=s.ev x∧∀id∈(s.ev x).ids,kO (t.bY id) (s.bY id):=fun x hx t ht=>
  have hm:x∈o.op.operands.toList:=by rw[hx];simp
  ⟨ht.ev hm,fun _ hid=>ht.wG hm hid⟩
 unfold im at he
 split at he
 ·rename_i x hop
  obtain rfl:=au.1 he
  refine gA fun t ht=> ?_
  unfold im
  rw[hop]
  simp only
  rw[(one x (by rw[hop];rfl) t ht).1];rfl
 ·rename_i x hop
  obtain rfl:=au.1 he
  refine gA fun t ht=> ?_
  unfold im
  rw[hop]
  simp only
  rw[(one x (by rw[hop];rfl) t ht).1];rfl
 ·rename_i c x y hop
  refine g8 (F:=fun t=>yu (t.ev c) (t.ev x) (t.ev y)) (fun t=>by unfold im;rw[hop]) (fun t ht=> ?_) he0
  rw[ht.ev (by rw[hop];simp[Op.operands]),ht.ev (by rw[hop];simp[Op.operands]),ht.ev (by rw[hop];simp[Op.operands])]
 ·rename_i T hop
  split at he
  ·rename_i z q hz hq
   obtain⟨h1,h2⟩:=aC.1 he
   obtain rfl:=au.1 h2
   simp only[Bool.and_eq_true]at h1
   refine kG (ids:=[]) hq h1.1 (fun _ h=>by cases h) fun t ht hv=> ?_
   unfold im
   rw[hop]
   simp only[hz,hq]
   exact aC.2 ⟨by simp[hv,h1.2],au.2 rfl⟩
  ·exact(ah.1 he).elim
 ·rename_i T x hop
  exact yT hop he
 ·rename_i T parts hop
  exact vh hop he
 ·rename_i T n parts hop
  exact pH hop he
 ·rename_i T x hop
  refine g8 (F:=fun t=>o3 P t T (t.ev x)) (fun t=>by unfold im;rw[hop]) (fun t ht=> ?_) he0
  obtain⟨h1,h2⟩:=one x (by rw[hop];rfl) t ht
  rw[h1,vP h2]
 ·rename_i T x v hop
  obtain⟨s1,h1,h2⟩:=ao.1 he
  obtain rfl:=au.1 h2
  obtain⟨id,e0,e,hid,hs,rfl,hl⟩:=uN h1
  refine l6 hs ?_ fun t ht hte=> ?_
  ·show id∈writes Γ s o
   unfold writes
   rw[hop]
   simp only[hid,List.mem_singleton]
  ·unfold im
   rw[hop]
   simp only
   rw[ht.ev (x:=x) (by rw[hop];simp[Op.operands]),ht.ev (x:=v) (by rw[hop];simp[Op.operands])]
   exact ao.2 ⟨_,hl t hte,au.2 rfl⟩
 ·rename_i x hop
  split at he
  ·rename_i id v p n hx
   obtain rfl:=au.1 he
   refine gA fun t ht=> ?_
   unfold im
   rw[hop]
   simp only[(one x (by rw[hop];rfl) t ht).1,hx];rfl
  ·rename_i ty y hx
   obtain rfl:=au.1 he
   refine gA fun t ht=> ?_
   unfold im
   rw[hop]
   simp only[(one x (by rw[hop];rfl) t ht).1,hx];rfl
  ·rename_i f c hx
   obtain rfl:=au.1 he
   refine gA fun t ht=> ?_
   unfold im
   rw[hop]
   simp only[(one x (by rw[hop];rfl) t ht).1,hx];rfl
  ·exact(ah.1 he).elim
 ·rename_i op T x y U hop
  have hmx:x∈o.op.operands.toList:=by rw[hop];simp[Op.operands]
  have hmy:y∈o.op.operands.toList:=by rw[hop];simp[Op.operands]
  split at he
  ·rename_i i v1 j v2 hx hy
   obtain⟨v,h1,h2⟩:=ao.1 he
   obtain rfl:=au.1 h2
   refine gA fun t ht=> ?_
   unfold im
   rw[hop]
   simp only[ht.ev hmx,ht.ev hmy,hx,hy]
   exact ao.2 ⟨v,by rw[y4 (ht.wG hmx (by rw[hx];simp[aA.ids]))];exact h1,rfl⟩
  ·rename_i hne
   obtain⟨v,h1,h2⟩:=ao.1 he
   obtain rfl:=au.1 h2
   refine gA fun t ht=> ?_
   unfold im
   rw[hop]
   simp only[ht.ev hmx,ht.ev hmy]
   exact ao.2 ⟨v,h1,rfl⟩
 ·rename_i op T x hop
  refine g8 (F:=fun t=>D6 op (t.ev x)) (fun t=>by unfold im;rw[hop]) (fun t ht=> ?_) he0
  rw[(one x (by rw[hop];rfl) t ht).1]
 ·rename_i T U x hop
  split at he
  ·rename_i id ver len hTU hx
   unfold vl at he
   split at he
   ·rename_i v e0 l e hob hD
    split at he
    ·rename_i hE
     obtain⟨h1,h2⟩:=aC.1 he
     obtain⟨h3,h4⟩:=bA.1 h2
     obtain rfl:=au.1 h4
     refine l6 (eg hob) ?_ fun t ht hte=> ?_
     ·show id∈writes Γ s o
      unfold writes
      rw[hop]
      simp only[hTU,hx]
      simp[aA.ids]
     ·have hob':t.obj id=some (v,false,.vec e0 (.int .u8) l):=by simp only[AS.obj,hte];exact hob
      unfold im
      rw[hop]
      simp only[hTU,(one x (by rw[hop];rfl) t ht).1,hx]
      unfold vl
      simp only[hob',hD,hE]
      exact aC.2 ⟨h1,bA.2 ⟨h3,au.2 rfl⟩⟩
    ·exact(ah.1 he).elim
   ·exact(ah.1 he).elim
  ·rename_i id ver hx
   obtain⟨v,h1,h2⟩:=ao.1 he
   obtain rfl:=au.1 h2
   refine gA fun t ht=> ?_
   obtain⟨h3,h4⟩:=one x (by rw[hop];rfl) t ht
   unfold im
   rw[hop]
   simp only[h3,hx]
   exact ao.2 ⟨v,by rw[vm (h4 _ (by rw[hx];simp[aA.ids]))];exact h1,rfl⟩
  ·rename_i hne
   obtain⟨v,h1,h2⟩:=ao.1 he
   obtain rfl:=au.1 h2
   refine gA fun t ht=> ?_
   obtain⟨h3,h4⟩:=one x (by rw[hop];rfl) t ht
   unfold im
   rw[hop]
   simp only[h3]
   exact ao.2 ⟨v,by rw[vk h4];exact h1,rfl⟩
 ·rename_i T x hop
  exact wQ hop he
 ·rename_i f first caps hop
  obtain⟨h1,h2⟩:=aC.1 he
  obtain rfl:=au.1 h2
  refine gA fun t ht=> ?_
  have hc:iC t caps.toList=iC s caps.toList:=oP _ fun x hx=>ht.ev (by rw[hop];simp only[Op.operands,Array.toList_append];exact List.mem_append.2 (.inr hx))
  unfold im
  rw[hop]
  simp only[hc]
  exact aC.2 ⟨h1,au.2 rfl⟩
 ·rename_i T l c hop
  obtain⟨n,h1,h2⟩:=ao.1 he
  obtain⟨m,h3,h4⟩:=ao.1 h2
  exact qF hop h1 h3 h4
 ·rename_i T x lo hi hop
  refine g8 (F:=fun t=>oC P t T (t.ev x) lo hi) (fun t=>by unfold im;rw[hop]) (fun t ht=> ?_) he0
  have hm:∀z,(z=x∨lo=some z∨hi=some z)→z∈o.op.operands.toList:=fun z hz=>by
   rw[hop]
   simp only[Op.operands,Array.toList_append,List.mem_append]
   rcases hz with rfl | rfl | rfl
   ·left;left;left;simp
   ·left;left;right;simp
   ·left;right;simp
  have hx:=hm x (.inl rfl)
  rw[ht.ev hx]
  exact uK (fun id hid=>ht.wG hx hid) (fun y hy=>ht.ev (hm y (.inr (.inl hy)))) (fun y hy=>ht.ev (hm y (.inr (.inr hy))))
 ·rename_i T x f hop
  refine g8 (F:=fun t=>lZ P T (t.ev x) f) (fun t=>by unfold im;rw[hop]) (fun t ht=> ?_) he0
  rw[(one x (by rw[hop];rfl) t ht).1]
 ·rename_i T x f hop
  refine g8 (F:=fun t=>uf P T (t.ev x) f) (fun t=>by unfold im;rw[hop]) (fun t ht=> ?_) he0
  rw[(one x (by rw[hop];rfl) t ht).1]
 ·rename_i T x i hop
  refine g8 (F:=fun t=>(asInt (t.ev i)).bind fun i=>iI P t T (t.ev x) i) (fun t=>by unfold im;rw[hop,Out.bind_assoc]) (fun t ht=> ?_) he0
  have hx:x∈o.op.operands.toList:=by rw[hop];simp[Op.operands]
  rw[ht.ev (x:=i) (by rw[hop];simp[Op.operands]),ht.ev hx]
  congr 1
  funext i
  exact pP fun id hid=>ht.wG hx hid
 ·rename_i T x i hop
  refine g8 (F:=fun t=>(asInt (t.ev i)).bind fun i=>uo P T (t.ev x) i) (fun t=>by unfold im;rw[hop,Out.bind_assoc]) (fun t ht=> ?_) he0
  rw[ht.ev (x:=i) (by rw[hop];simp[Op.operands]),ht.ev (x:=x) (by rw[hop];simp[Op.operands])]
 ·rename_i x i hop
  refine g8 (F:=fun t=>Out.opt ((t.ev x).list[i]?)) (fun t=>by unfold im;rw[hop]) (fun t ht=> ?_) he0
  rw[(one x (by rw[hop];rfl) t ht).1]
 ·rename_i T hop
  have he1:=he
  unfold nc at he1
  split at he1
  ·rename_i K V kt vt q hm hd
   obtain⟨h1,h2⟩:=aC.1 he1
   obtain rfl:=au.1 h2
   refine kG (ids:=[]) hd h1 (fun _ h=>by cases h) fun t ht hv=> ?_
   unfold im
   rw[hop]
   simp only
   unfold nc
   simp only[hm,hd]
   exact aC.2 ⟨hv,au.2 rfl⟩
  ·exact(ah.1 he1).elim
 ·rename_i T x i ok hop
  refine g8 (F:=fun t=>l7 P t T (t.ev x) (t.ev i) ok) (fun t=>by unfold im;rw[hop]) (fun t ht=> ?_) he0
  have hx:x∈o.op.operands.toList:=by rw[hop];simp[Op.operands]
  rw[ht.ev (x:=i) (by rw[hop];simp[Op.operands]),ht.ev hx]
  exact sK fun id hid=>ht.wG hx hid
 ·rename_i T m k x hop
  obtain⟨s1,h1,h2⟩:=ao.1 he
  obtain rfl:=au.1 h2
  obtain⟨id,e0,e,hid,hs,rfl,hl⟩:=sN h1
  refine l6 hs ?_ fun t ht hte=> ?_
  ·show id∈writes Γ s o
   unfold writes
   rw[hop]
   simp only[hid,List.mem_singleton]
  ·unfold im
   rw[hop]
   simp only
   rw[ht.ev (x:=m) (by rw[hop];simp[Op.operands]),ht.ev (x:=k) (by rw[hop];simp[Op.operands]),ht.ev (x:=x) (by rw[hop];simp[Op.operands])]
   exact ao.2 ⟨_,hl t hte,au.2 rfl⟩
 ·rename_i c hop
  obtain⟨cal,args,tys⟩:=c
  simp only at he
  split at he
  ·split at he
   ·rename_i m k T T2 ha ht'
    have hmm:m∈o.op.operands.toList:=by rw[hop];simp only[Op.operands,Call.operands,List.nil_append,Array.toList_append,ha];simp
    have hmk:k∈o.op.operands.toList:=by rw[hop];simp only[Op.operands,Call.operands,List.nil_append,Array.toList_append,ha];simp
    obtain⟨s1,h1,h2⟩:=ao.1 he
    obtain rfl:=au.1 h2
    obtain⟨id,e0,e,hid,hs,rfl,hl⟩:=sM h1
    refine l6 hs ?_ fun t ht hte=> ?_
    ·show id∈writes Γ s o
     unfold writes
     rw[hop]
     simp only[ha,hid,List.mem_singleton]
    ·unfold im
     rw[hop]
     simp only[ha,ht']
     rw[ht.ev hmm,ht.ev hmk]
     exact ao.2 ⟨_,hl t hte,au.2 rfl⟩
   ·exact(ah.1 he).elim
  ·split at he
   ·rename_i x y T X ha ht'
    exact xh hop rfl ha ht' he
   ·exact(ah.1 he).elim
  ·split at he
   ·rename_i x T ha ht'
    refine g8 (F:=fun t=>BS P T (t.ev x)) (fun t=>by unfold im;rw[hop];simp only[ha,ht']) (fun t ht=> ?_) he0
    rw[ht.ev (by rw[hop];simp only[Op.operands,Call.operands,List.nil_append,Array.toList_append,ha];simp)]
   ·exact(ah.1 he).elim
  ·split at he
   ·rename_i x y T X ha ht'
    have hmx:x∈o.op.operands.toList:=by rw[hop];simp only[Op.operands,Call.operands,List.nil_append,Array.toList_append,ha];simp
    have hmy:y∈o.op.operands.toList:=by rw[hop];simp only[Op.operands,Call.operands,List.nil_append,Array.toList_append,ha];simp
    split at he
    ·rename_i k n hx hy
     have he1:=he
     unfold vC at he1
     split at he1
     ·rename_i e t0 b q kn hel hd hX
      obtain⟨h1,h2⟩:=aC.1 he1
      obtain⟨h3,h4⟩:=bA.1 h2
      obtain rfl:=au.1 h4
      refine kG (ids:=[]) hd h1 (fun _ h=>by cases h) fun t ht hv=> ?_
      unfold im
      rw[hop]
      simp only[ha,ht',ht.ev hmx,ht.ev hmy,hx,hy]
      unfold vC
      simp only[hel,hd,hX]
      exact aC.2 ⟨hv,bA.2 ⟨h3,au.2 rfl⟩⟩
     ·exact(ah.1 he1).elim
    ·rename_i hne
     exact tS hop rfl ha ht' hne he
   ·exact(ah.1 he).elim
  ·split at he
   ·rename_i x T ha ht'
    have hmx:x∈o.op.operands.toList:=by rw[hop];simp only[Op.operands,Call.operands,List.nil_append,Array.toList_append,ha];simp
    split at he
    ·rename_i e hx hT
     obtain rfl:=au.1 he
     refine gA fun t ht=> ?_
     unfold im
     rw[hop]
     simp only[ha,ht',ht.ev hmx,hx,hT];rfl
    ·exact(ah.1 he).elim
   ·exact(ah.1 he).elim
  ·refine g8 (F:=fun t=>zm true (args.toList.map t.ev)) (fun t=>by unfold im;rw[hop]) (fun t ht=> ?_) he0
   congr 1
   exact List.map_congr_left fun x hx=>ht.ev (by rw[hop];simp only[Op.operands,Call.operands,List.nil_append,Array.toList_append];exact hx)
  ·refine g8 (F:=fun t=>zm false (args.toList.map t.ev)) (fun t=>by unfold im;rw[hop]) (fun t ht=> ?_) he0
   congr 1
   exact List.map_congr_left fun x hx=>ht.ev (by rw[hop];simp only[Op.operands,Call.operands,List.nil_append,Array.toList_append];exact hx)
  ·split at he
   ·rename_i x ha
    have hmx:x∈o.op.operands.toList:=by rw[hop];simp only[Op.operands,Call.operands,List.nil_append,Array.toList_append,ha];simp
    split at he
    ·rename_i id ver len hx
     obtain⟨h1,h2⟩:=bA.1 he
     obtain rfl:=au.1 h2
     refine gA fun t ht=> ?_
     unfold im
     rw[hop]
     simp only[ha,ht.ev hmx,hx]
     exact bA.2 ⟨h1,rfl⟩
    ·exact(ah.1 he).elim
   ·exact(ah.1 he).elim
  ·split at he
   ·rename_i x y T U ha ht'
    have hmx:x∈o.op.operands.toList:=by rw[hop];simp only[Op.operands,Call.operands,List.nil_append,Array.toList_append,ha];simp
    have hmy:y∈o.op.operands.toList:=by rw[hop];simp only[Op.operands,Call.operands,List.nil_append,Array.toList_append,ha];simp
    split at he
    ·rename_i id ver n hx hy
     have he1:=he
     unfold wP at he1
     split at he1
     ·rename_i v e l u hob hT
      obtain⟨h1,h2⟩:=aC.1 he1
      obtain⟨h3,h4⟩:=bA.1 h2
      obtain rfl:=au.1 h4
      refine l6 (eg hob) ?_ fun t ht hte=> ?_
      ·show id∈writes Γ s o
       unfold writes
       rw[hop]
       simp only[ha,hx]
       simp[aA.ids]
      ·have hob':t.obj id=some (v,false,.vec e (.int .u8) l):=by simp only[AS.obj,hte];exact hob
       unfold im
       rw[hop]
       simp only[ha,ht',ht.ev hmx,ht.ev hmy,hx,hy]
       unfold wP
       simp only[hob',hT]
       exact aC.2 ⟨h1,bA.2 ⟨h3,au.2 rfl⟩⟩
     ·exact(ah.1 he1).elim
    ·exact(ah.1 he).elim
   ·exact(ah.1 he).elim
  ·rename_i F _
   split at he
   ·rename_i f caps hF
    split at he
    ·rename_i en hen
     exact xd hop rfl hF hen he
    ·exact(ah.1 he).elim
   ·exact(ah.1 he).elim
  ·exact(ah.1 he).elim
 ·exact(ah.1 he).elim
end
end Go.Ab
namespace Go.Ab
section
variable {P:Program} {Γ:dR} {bH:List Nat} {ops:Array Oper} {o:Oper} {s t:AS}
def Loc(P:Program)(Γ:dR)(bH:List Nat)(ops:Array Oper)(o:Oper)(s s':AS):Prop:=
 ∃E,App o.dst E s s'∧tP (eY Γ ops s o) s E∧∀t,gq (eY Γ ops s o) s t→∃t',nM P Γ bH ops o t=some t'∧App o.dst E t t'
theorem rz{s':AS}(he:nM P Γ bH ops o s=some s'):Loc P Γ bH ops o s s':=by
 unfold nM at he
 split at he
 ·rename_i hg
  obtain⟨E,h1,h2,h3⟩:=sV (ops:=ops) he
  refine⟨E,h1,h2,fun t ht=> ?_⟩
  obtain⟨t',h4,h5⟩:=h3 t ht
  exact⟨t',by unfold nM;simp only[hg];exact h4,h5⟩
 ·rename_i j want hg
  split at he
  ·rename_i q hq
   split at he
   ·rename_i b hb
    have hsl:∀t,gq (eY Γ ops s o) s t→t.slot q= .d .bool b:=fun t ht=>by
     rw[ht.cg q (List.mem_append.2 (.inr (by unfold pO;simp only[hg,hq];simp)))];exact hb
    by_cases e:b=want
    ·rw[if_pos e]at he
     obtain⟨E,h1,h2,h3⟩:=sV (ops:=ops) he
     refine⟨E,h1,h2,fun t ht=> ?_⟩
     obtain⟨t',h4,h5⟩:=h3 t ht
     exact⟨t',by unfold nM;simp only[hg,hq,hsl t ht,if_pos e];exact h4,h5⟩
    ·rw[if_neg e]at he
     simp only[Option.some.injEq]at he
     subst he
     exact⟨⟨.nil,fun _=>none,[]⟩,App.nF _ _ _,⟨fun _ _ h=>by simp at h,fun _ h=>by simp at h⟩,fun t ht=>⟨_,by unfold nM;simp only[hg,hq,hsl t ht,if_neg e],App.nF _ _ _⟩⟩
   ·rename_i hb
    have hsl:∀t,gq (eY Γ ops s o) s t→t.slot q= .nil:=fun t ht=>by
     rw[ht.cg q (List.mem_append.2 (.inr (by unfold pO;simp only[hg,hq];simp)))];exact hb
    simp only[Option.some.injEq]at he
    subst he
    exact⟨⟨.nil,fun _=>none,[]⟩,App.nF _ _ _,⟨fun _ _ h=>by simp at h,fun _ h=>by simp at h⟩,fun t ht=>⟨_,by unfold nM;simp only[hg,hq,hsl t ht],App.nF _ _ _⟩⟩
   ·cases he
  ·cases he
theorem uT(h:gq (eY Γ ops s o) s t):writes Γ t o=writes Γ s o:=by
 have hws:∀id∈writes Γ s o,t.bY id=s.bY id:=h.ws
 unfold writes at hws ⊢
 split
 ·rename_i x v hop
  rw[h.ev (by rw[hop];simp[Op.operands])]
 ·rename_i m k v hop
  rw[h.ev (by rw[hop];simp[Op.operands])]
 ·rename_i T U x hop
  rw[h.ev (by rw[hop];simp[Op.operands])]
 ·rename_i c hop
  obtain⟨cal,args,tys⟩:=c
  simp only[hop]at hws
  simp only
  split
  ·split
   ·rename_i x l ha
    rw[h.ev (by rw[hop];simp only[Op.operands,Call.operands,List.nil_append,Array.toList_append,ha];simp)]
   ·rfl
  ·split
   ·rename_i x l ha
    rw[h.ev (by rw[hop];simp only[Op.operands,Call.operands,List.nil_append,Array.toList_append,ha];simp)]
   ·rfl
  ·split
   ·rename_i x l ha
    rw[h.ev (by rw[hop];simp only[Op.operands,Call.operands,List.nil_append,Array.toList_append,ha];simp)]
   ·rfl
  ·split
   ·rename_i x l ha
    rw[h.ev (by rw[hop];simp only[Op.operands,Call.operands,List.nil_append,Array.toList_append,ha];simp)]
   ·rfl
  ·rename_i F
   simp only at hws
   have hm:∀z,z=F∨z∈args.toList→z∈o.op.operands.toList:=fun z hz=>by
    rw[hop]
    simp only[Op.operands,Call.operands,Array.toList_append,List.mem_append]
    rcases hz with rfl | hz
    ·exact .inl (by simp)
    ·exact .inr hz
   have h1:t.ev F=s.ev F:=h.ev (hm F (.inl rfl))
   have h2:args.toList.map t.ev=args.toList.map s.ev:=List.map_congr_left fun x hx=>h.ev (hm x (.inr hx))
   rw[h1]
   split
   ·rename_i f caps hF
    simp only[hF]at hws
    rw[h2]
    split
    ·rename_i en hen
     simp only[hen]at hws
     exact jV _ _ _ fun id hid=>by rw[hws id hid]
    ·rfl
   ·rfl
  ·rfl
 ·rfl
theorem rp(h:gq (eY Γ ops s o) s t):eY Γ ops t o=eY Γ ops s o:=by
 have h1:=uT h
 have h2:we t o=we s o:=by
  unfold we
  unfold List.flatMap
  congr 1
  exact List.map_congr_left fun i hi=>by rw[h.cg i (List.mem_append.2 (.inl hi))]
 unfold eY
 rw[h1,h2]
theorem jP{xs ys:List Id}(h:meets xs ys=false){id:Id}(hx:id∈xs):id ∉ ys:=by
 intro hy
 have:meets xs ys=true:=by
  unfold meets
  exact List.any_eq_true.2 ⟨id,hx,List.any_eq_true.2 ⟨id,hy,by simp⟩⟩
 rw[h]at this;cases this
theorem jf{d:Option Tmp}{ids:List Id}(h:sh d ids=false){q:Nat}(hd:d=some q)(j:Nat):Id.new q j ∉ ids:=by
 intro hy
 have:sh d ids=true:=by
  subst hd
  exact List.any_eq_true.2 ⟨_,hy,by simp⟩
 rw[h]at this;cases this
theorem nD{f g:mJ}(h:f.Dy g=false){q:Nat}(hd:f.dst=some q):q ∉ g.cg∧g.dst≠some q:=by
 unfold mJ.Dy at h
 rw[hd]at h
 simp only[Bool.or_eq_false_iff,List.any_eq_false,decide_eq_true_eq,decide_eq_false_iff_not]at h
 exact⟨fun hx=>h.1 q hx rfl,h.2⟩
theorem wJ(s:AS)(d:Option Tmp)(v:aA)(i:Nat)(h:d≠some i):(s.put d v).slot i=s.slot i:=by
 cases d with
 |none=>rfl
 |some q=>rw[si,if_neg];rintro⟨rfl,_⟩;exact h rfl
theorem App.slot{d:Option Tmp}{E:Dc}{s s':AS}(h:App d E s s')(i:Nat)(hi:d≠some i):s'.slot i=s.slot i:=by
 rw[←wJ s d E.v i hi]
 simp only[AS.slot,h.cg]
theorem uZ{f f':mJ}{E:Dc}{s s1:AS}(ha:App f.dst E s s1)(hw:tP f s E)(hsub:∀id∈f'.ws,id∈f'.rs)(h1:f.Dy f'=false)(h2:meets f.ws f'.rs=false)(h3:meets f'.ws f.rs=false)
  (h4:sh f.dst f'.rs=false):(∀i∈f'.cg,s1.slot i=s.slot i)∧(∀id∈f'.ws,s1.bY id=s.bY id)∧(∀id∈f'.rs,kO (s1.bY id) (s.bY id))∧∀q,f'.dst=some q→s1.dH q=s.dH q:=by
 have hup:∀id∈f'.rs,E.up id=none:=fun id hid=>by
  cases hu:E.up id with
  |none=>rfl
  |some e=>
   rcases hw.up id e hu with⟨h,_⟩ | ⟨q,j,hd,rfl⟩
   ·exact absurd hid (jP h2 h)
   ·exact absurd hid (jf h4 hd j)
 refine⟨fun i hi=>ha.slot i fun hd=>(nD h1 hd).1 hi,fun id hid=> ?_,fun id hid=> ?_,fun q hq=> ?_⟩
 ·rw[ha.bY,hup id (hsub id hid)]
  have:id ∉ E.fz:=fun hz=>jP h3 hid (hw.fz id hz)
  simp only[if_neg this]
 ·rw[ha.bY,hup id hid]
  simp only
  split
  ·exact zE _
  ·exact zF _
 ·have hne:∀j,(s1.bY (.new q j)=none↔s.bY (.new q j)=none):=fun j=>by
   rw[ha.bY]
   cases hu:E.up (.new q j) with
   |none=>
    simp only
    split <;> simp
   |some e=>
    rcases hw.up _ e hu with⟨_,h⟩ | ⟨q',j',hd,he⟩
    ·simp[h]
    ·simp only[Id.new.injEq]at he
     obtain⟨rfl,_⟩:=he
     exact absurd hq (nD h1 hd).2
  rw[Bool.eq_iff_iff,kR,kR,ha.len]
  exact and_congr Iff.rfl (forall_congr' hne)
theorem mW(s:AS)(o:Oper):∀id∈(eY Γ ops s o).ws,id∈(eY Γ ops s o).rs:=fun _ hid=>List.mem_append.2 (.inr hid)
theorem swap{o':Oper}{s1 s2:AS}(h1:nM P Γ bH ops o s=some s1)(h2:nM P Γ bH ops o' s1=some s2)(hi:(eY Γ ops s o).indep (eY Γ ops s1 o')=true):
  ∃t1,nM P Γ bH ops o' s=some t1∧nM P Γ bH ops o t1=some s2∧eY Γ ops s o'=eY Γ ops s1 o'∧eY Γ ops t1 o=eY Γ ops s o:=by
 unfold mJ.indep at hi
 simp only[Bool.and_eq_true,Bool.not_eq_true']at hi
 obtain⟨⟨⟨⟨⟨i1,i2⟩,i3⟩,i4⟩,i5⟩,i6⟩:=hi
 obtain⟨E,a1,w1,l1⟩:=rz h1
 obtain⟨E',a2,w2,l2⟩:=rz h2
 obtain⟨g1,g2,g3,g4⟩:=uZ (f:=eY Γ ops s o) (f':=eY Γ ops s1 o') a1 w1 (mW _ _) i1 i3 i4 i5
 have hag:gq (eY Γ ops s1 o') s1 s:=⟨fun i hi=>(g1 i hi).symm,fun id hid=>(g2 id hid).symm,fun id hid=>by
  have:=g3 id hid
  revert this
  cases s1.bY id <;> cases s.bY id <;> simp only[kO] <;> intro h <;> first | trivial | exact h | skip
  rename_i a b
  cases a <;> cases b <;> simp_all [eF.wG],fun q hq=>(g4 q hq).symm⟩
 obtain⟨t1,k1,k2⟩:=l2 s hag
 have hf':=rp hag
 have w2':tP (eY Γ ops s1 o') s E':=⟨fun id e hu=>by
  rcases w2.up id e hu with⟨h,hn⟩ | h
  ·exact .inl ⟨h,by rw[←g2 id h];exact hn⟩
  ·exact .inr h,w2.fz⟩
 obtain⟨m1,m2,m3,m4⟩:=uZ (f:=eY Γ ops s1 o') (f':=eY Γ ops s o) k2 w2' (mW _ _) i2 i4 i3 i6
 have hag2:gq (eY Γ ops s o) s t1:=⟨m1,m2,m3,m4⟩
 obtain⟨t2,k3,k4⟩:=l1 t1 hag2
 refine⟨t1,k1,?_,hf',rp hag2⟩
 rw[k3]
 congr 1
 have hup1:∀id e,E.up id=some e→E'.up id=none∧id ∉ E'.fz:=fun id e hu=>by
  rcases w1.up id e hu with⟨h,hn⟩ | ⟨q,j,hd,rfl⟩
  ·refine⟨?_,fun hz=>jP i3 h (w2.fz id hz)⟩
   cases hu':E'.up id with
   |none=>rfl
   |some e'=>
    rcases w2.up id e' hu' with⟨h',_⟩ | ⟨q,j,hd,rfl⟩
    ·exact absurd (mW _ _ id h') (jP i3 h)
    ·exact absurd (mW _ _ _ h) (jf i6 hd j)
  ·refine⟨?_,fun hz=>jf i5 hd j (w2.fz _ hz)⟩
   cases hu':E'.up (.new q j) with
   |none=>rfl
   |some e'=>
    rcases w2.up _ e' hu' with⟨h',_⟩ | ⟨q',j',hd',he⟩
    ·exact absurd (mW _ _ _ h') (jf i5 hd j)
    ·simp only[Id.new.injEq]at he
     obtain⟨rfl,_⟩:=he
     exact absurd hd' (nD i1 hd).2
 have hup2:∀id e,E'.up id=some e→E.up id=none∧id ∉ E.fz:=fun id e hu=>by
  have hn:E.up id=none:=by
   cases hu1:E.up id with
   |none=>rfl
   |some e1=>rw[(hup1 id e1 hu1).1]at hu;cases hu
  refine⟨hn,fun hz=> ?_⟩
  rcases w2.up id e hu with⟨h,_⟩ | ⟨q,j,hd,rfl⟩
  ·exact jP i4 h (w1.fz id hz)
  ·exact jf i6 hd j (w1.fz _ hz)
 refine AS.Am ?_ (by rw[k4.len,k2.len,a2.len,a1.len]) fun id=> ?_
 ·have e1:∀(u u':AS) (d:Option Tmp) (v:aA),u.cg=u'.cg→(u.put d v).cg=(u'.put d v).cg:=fun u u' d v h=>by cases d <;> simp[AS.put,h]
  rw[k4.cg,a2.cg,e1 t1 (s.put o'.dst E'.v) _ _ k2.cg,e1 s1 (s.put o.dst E.v) _ _ a1.cg]
  cases hd:o.dst with
  |none=>cases o'.dst <;> rfl
  |some q=>
   cases hd':o'.dst with
   |none=>rfl
   |some q'=>
    have hne:q'≠q:=fun e=>(nD (f:=eY Γ ops s o) i1 hd).2 (by show o'.dst=some q;rw[hd',e])
    simp only[AS.put]
    exact List.set_comm _ _ hne
 ·rw[k4.bY,k2.bY,a2.bY,a1.bY]
  cases hu:E.up id with
  |some e=>
   obtain⟨h3,h4⟩:=hup1 id e hu
   simp only[h3,if_neg h4]
  |none=>
   simp only
   cases hu':E'.up id with
   |some e=>
    obtain⟨_,h4⟩:=hup2 id e hu'
    simp only[if_neg h4]
   |none=>
    simp only
    by_cases z1:id∈E.fz <;> by_cases z2:id∈E'.fz <;> simp only[if_pos,if_neg,z1,z2,not_false_eq_true]
end
end Go.Ab
namespace Go.Ab
section
variable {P:Program} {Γ:dR} {bH:List Nat} {ops:Array Oper}
def uX(P:Program)(Γ:dR)(bH:List Nat)(ops:Array Oper)(fs:Nat→mJ):List Nat→AS→AS→Prop
 |[],s,sn=>s=sn
 |i::l,s,sn=>∃o,ops[i]? =some o∧eY Γ ops s o=fs i∧∃s',nM P Γ bH ops o s=some s'∧uX P Γ bH ops fs l s' sn
theorem uX.Aa{fs:Nat→mJ}{i:Nat}{l2:List Nat}{sn:AS}:∀(l1:List Nat) {s:AS},uX P Γ bH ops fs (l1++i::l2) s sn→(∀j∈l1,(fs j).indep (fs i)=true)→uX P Γ bH ops fs (i::(l1++l2)) s sn
 |[],_,h,_=>h
 |j::l1,s,h,hi=>by
  obtain⟨oj,h1,h2,s1,h3,h4⟩:=h
  obtain⟨oi,h5,h6,s2,h7,h8⟩:=uX.Aa l1 h4 fun j hj=>hi j (List.mem_cons_of_mem _ hj)
  have hd:=hi j (List.mem_cons_self ..)
  rw[←h2,←h6]at hd
  obtain⟨t1,k1,k2,k3,k4⟩:=swap h3 h7 hd
  exact⟨oi,h5,by rw[k3,h6],t1,k1,oj,h1,by rw[k4,h2],s2,k2,h8⟩
theorem tg{R:Type}{anc:List Nat}{k:AS→Option R}{r:R}:∀(l:List Oper) (i:Nat) (acc:List (Nat×mJ)) (s:AS) (f0:Nat→mJ),(∀n o,l[n]? =some o→ops[i+n]? =some o)→(∀x∈acc,f0 x.1=x.2∧x.1 < i)→
  tf P Γ bH ops anc i l acc s k=some r→∃fs sn,(∀j,j < i→fs j=f0 j)∧uX P Γ bH ops fs (List.range' i l.length) s sn∧k sn=some r∧
   (∀x∈acc,∀m,i≤m→m < i+l.length→(anc.getD m 0).testBit x.1=true∨x.2.indep (fs m)=true)∧(∀m1 m2,i≤m1→m1 < m2→m2 < i+l.length→(anc.getD m2 0).testBit m1=true∨(fs m1).indep (fs m2)=true)
 |[],i,acc,s,f0,_,_,h=>⟨f0,s,fun _ _=>rfl,rfl,h,fun _ _ m h1 h2=>by simp at h2;omega,fun _ _ h1 h2 h3=>by simp at h3;omega⟩
 |o::l,i,acc,s,f0,ho,hf,h=>by
  unfold tf at h
  split at h
  ·rename_i hall
   simp only[AS.pq]at h
   obtain⟨s',h1,h2⟩:=vB (k:=fun s'=>tf P Γ bH ops anc (i+1) l ((i,eY Γ ops s o)::acc) s' k) h
   have hacc:∀x∈(i,eY Γ ops s o)::acc,(if x.1=i then eY Γ ops s o else f0 x.1)=x.2∧x.1 < i+1:=fun x hx=>by
    rcases List.mem_cons.1 hx with rfl | hx
    ·simp
    ·obtain⟨q1,q2⟩:=hf x hx
     rw[if_neg (by omega)]
     exact⟨q1,by omega⟩
   obtain⟨fs,sn,g1,g2,g3,g4,g5⟩:=tg l (i+1) ((i,eY Γ ops s o)::acc) s' (fun n=>if n=i then eY Γ ops s o else f0 n)
    (fun n o' hn=>by have:=ho (n+1) o' (by simpa using hn);rw[←this];congr 1;omega) hacc h2
   have gi:fs i=eY Γ ops s o:=by rw[g1 i (by omega),if_pos rfl]
   refine⟨fs,sn,fun j hj=>by rw[g1 j (by omega),if_neg (by omega)],?_,g3,fun x hx m h3 h4=> ?_,fun m1 m2 h3 h4 h5=> ?_⟩
   ·rw[List.length_cons,List.range'_succ]
    exact⟨o,ho 0 o rfl,gi.symm,s',h1,g2⟩
   ·rcases Nat.eq_or_lt_of_le h3 with rfl | h3
    ·have:=List.all_eq_true.1 hall x hx
     simp only[Bool.or_eq_true]at this
     rcases this with h | h
     ·exact .inl h
     ·right;rw[gi];exact h
    ·exact g4 x (List.mem_cons_of_mem _ hx) m (by omega) (by simp only[List.length_cons]at h4;omega)
   ·rcases Nat.eq_or_lt_of_le h3 with rfl | h3
    ·rw[gi]
     exact g4 (i,eY Γ ops s o) (List.mem_cons_self ..) m2 (by omega) (by simp only[List.length_cons]at h5;omega)
    ·exact g5 m1 m2 (by omega) h4 (by simp only[List.length_cons]at h5;omega)
  ·cases h
theorem u6{acc:List Nat}{j:Nat}:∀ {l:List Edge},(l.foldr (fun e m=>Nat.lor (Nat.lor (Nat.pow 2 e.on) (acc.getD e.on 0)) m) 0).testBit j=true→∃e∈l,j=e.on∨(acc.getD e.on 0).testBit j=true
 |[],h=>by simp at h
 |e::l,h=>by
  rw[List.foldr_cons,show ∀x y,Nat.lor x y=x ||| y from fun _ _=>rfl,show ∀x y,Nat.lor x y=x ||| y from fun _ _=>rfl,Nat.testBit_or,Nat.testBit_or,show Nat.pow 2 e.on=2^e.on from rfl,Nat.testBit_two_pow]at h
  simp only[Bool.or_eq_true,decide_eq_true_eq]at h
  rcases h with(h | h) | h
  ·exact⟨e,List.mem_cons_self ..,.inl h.symm⟩
  ·exact⟨e,List.mem_cons_self ..,.inr h⟩
  ·obtain⟨e',h1,h2⟩:=u6 h
   exact⟨e',List.mem_cons_of_mem _ h1,h2⟩
theorem sU:∀(l:List Oper) (acc:List Nat),(∀i,i < acc.length→(l.foldl (fun acc o=>acc++ [tQ acc o]) acc)[i]? =acc[i]?)∧
  ∀i o,l[i]? =some o→(l.foldl (fun acc o=>acc++ [tQ acc o]) acc)[acc.length+i]? =some (tQ ((l.foldl (fun acc o=>acc++ [tQ acc o]) acc).take (acc.length+i)) o)
 |[],acc=>⟨fun _ _=>rfl,fun i o h=>by simp at h⟩
 |x::l,acc=>by
  obtain⟨h1,h2⟩:=sU l (acc++ [tQ acc x])
  simp only[List.foldl_cons]
  refine⟨fun i hi=> ?_,fun i o hi=> ?_⟩
  ·rw[h1 i (by simp;omega),List.getElem?_append_left hi]
  ·cases i with
   |zero=>
    simp only[List.getElem?_cons_zero,Option.some.injEq]at hi
    subst hi
    rw[Nat.add_zero,h1 _ (by simp)]
    have:(l.foldl (fun acc o=>acc++ [tQ acc o]) (acc++ [tQ acc x])).take acc.length=acc:=by
     apply List.ext_getElem?
     intro j
     rw[List.getElem?_take]
     split
     ·rename_i hj
      rw[h1 j (by simp;omega),List.getElem?_append_left hj]
     ·rename_i hj
      rw[List.getElem?_eq_none (by omega)]
    rw[this]
    simp
   |succ i=>
    have:=h2 i o (by simpa using hi)
    simp only[List.length_append,List.length_cons,List.length_nil,Nat.zero_add]at this
    rw[show acc.length+(i+1)=acc.length+1+i by omega]
    exact this
theorem zV{l:List Oper}{i:Nat}{o:Oper}(hi:l[i]? =some o){j:Nat}(hj:((u7 l).getD i 0).testBit j=true):∃e∈o.after.toList,Region.binds .any e=true∧(j=e.on∨((u7 l).getD e.on 0).testBit j=true):=by
 have h:=(sU l []).2 i o hi
 have e:u7 l=l.foldl (fun acc o=>acc++ [tQ acc o]) []:=rfl
 rw[←e]at h
 simp only[List.length_nil,Nat.zero_add]at h
 rw[List.getD_eq_getElem?_getD,h]at hj
 obtain⟨e,h1,h3⟩:=u6 hj
 obtain⟨h1,h2⟩:=List.mem_filter.1 h1
 refine⟨e,h1,h2,h3.imp id fun h4=> ?_⟩
 rw[List.getD_eq_getElem?_getD,List.getElem?_take]at h4
 split at h4
 ·rw[List.getD_eq_getElem?_getD];exact h4
 ·simp at h4
def tJ(n:Nat)(listed:Array Bool):List Nat:=(List.range n).filter fun i=> !listed.getD i true
theorem o7{n:Nat}{listed:Array Bool}{i:Nat}:i∈tJ n listed↔i < n∧listed.getD i true=false:=by simp[tJ]
theorem oF(n:Nat)(listed:Array Bool):(tJ n listed).Pairwise (· < ·):=(List.pairwise_lt_range).filter _
theorem rv{listed:Array Bool}{i j:Nat}(d:Bool)(hi:i < listed.size):(listed.setIfInBounds i true).getD j d=if j=i then true else listed.getD j d:=by
 simp only[Array.getD_eq_getD_getElem?,Array.getElem?_setIfInBounds]
 by_cases h:i=j
 ·subst h;simp[hi]
 ·simp[h,Ne.symm h]
theorem B9{listed:Array Bool}{i:Nat}(hi:i < listed.size){l1 l2:List Nat}(h:tJ listed.size listed=l1++i::l2):tJ listed.size (listed.setIfInBounds i true)=l1++l2:=by
 have hs:=oF listed.size listed
 rw[h]at hs
 obtain⟨p1,p2,p3⟩:=List.pairwise_append.1 hs
 obtain⟨p4,_⟩:=List.pairwise_cons.1 p2
 have e:tJ listed.size (listed.setIfInBounds i true)=(tJ listed.size listed).filter fun j=>decide (j≠i):=by
  unfold tJ
  rw[List.filter_filter]
  refine List.filter_congr fun j _=> ?_
  rw[rv true hi]
  by_cases hj:j=i
  ·simp[hj]
  ·simp[hj]
 rw[e,h,List.filter_append,List.filter_cons]
 have f1:l1.filter (fun j=>decide (j≠i))=l1:=List.filter_eq_self.2 fun j hj=>by
  have:=p3 j hj i (List.mem_cons_self ..)
  simp;omega
 have f2:l2.filter (fun j=>decide (j≠i))=l2:=List.filter_eq_self.2 fun j hj=>by
  have:=p4 j hj
  simp;omega
 rw[f1,f2]
 simp
theorem yM{C:Ctx}(hΓ:Sound P Γ){fs:Nat→mJ}{sn:AS}{Q:Exit→Act→World→Prop}(hE:tZ ops.toList=true)
  (hind:∀m1 m2,m1 < m2→m2 < ops.size→((u7 ops.toList).getD m2 0).testBit m1=true∨(fs m1).indep (fs m2)=true) (hQ:∀a w,fI C sn a w→Q .normal a w):
  ∀(fuel:Nat) (listed:Array Bool) (s:AS) (a:Act) (w:World),listed.size=ops.size→(tJ ops.size listed).length=fuel→
   (∀i,i < ops.size→listed.getD i true=true→∀j,((u7 ops.toList).getD i 0).testBit j=true→listed.getD j false=true)→uX P Γ bH ops fs (tJ ops.size listed) s sn→fI C s a w→wpAny P .any ops Q fuel listed a w:=by
 have hedge:∀i o,ops[i]? =some o→∀e∈o.after.toList,Region.binds .any e=true→e.on < i:=fun i o hi e he hb=>by
  have:=List.all_eq_true.1 hE (o,i) (List.mem_zipIdx_iff_getElem?.2 (by simpa using hi))
  have:=List.all_eq_true.1 this e he
  simpa[hb]using this
 have hrdy:∀(listed:Array Bool),listed.size=ops.size→∀i,i∈Region.ready .any ops listed↔i∈tJ ops.size listed∧∀o,ops[i]? =some o→∀e∈o.after.toList,Region.binds .any e=true→listed.getD e.on false=true:=fun listed _ i=>by
  rw[o7]
  unfold Region.ready
  simp only[List.mem_filter,List.mem_range,Bool.and_eq_true,Bool.not_eq_true']
  constructor
  ·rintro⟨h1,h2,h3⟩
   refine⟨⟨h1,h2⟩,fun o ho e he hb=> ?_⟩
   rw[ho]at h3
   simp only[Option.map_some,Option.getD_some,Array.all_eq_true',Bool.or_eq_true,Bool.not_eq_true']at h3
   rcases h3 e (by simpa using he) with h | h
   ·rw[hb]at h;cases h
   ·exact h
  ·rintro⟨⟨h1,h2⟩,h3⟩
   refine⟨h1,h2,?_⟩
   obtain⟨o,ho⟩:∃o,ops[i]? =some o:=⟨ops[i],by simp[h1]⟩
   rw[ho]
   simp only[Option.map_some,Option.getD_some,Array.all_eq_true',Bool.or_eq_true,Bool.not_eq_true']
   intro e he
   cases hb:Region.binds .any e with
   |false=>exact .inl rfl
   |true=>exact .inr (h3 o ho e (by simpa using he) hb)
 have hsome:∀(listed:Array Bool),listed.size=ops.size→Region.ready .any ops listed=[]→tJ ops.size listed=[]:=fun listed hs hr=>by
  cases hu:tJ ops.size listed with
  |nil=>rfl
  |cons i l=>
   exfalso
   have hi:i∈tJ ops.size listed:=by rw[hu];exact List.mem_cons_self ..
   have hso:=oF ops.size listed
   rw[hu]at hso
   have:i∈Region.ready .any ops listed:=(hrdy listed hs i).2 ⟨hi,fun o ho e he hb=>by
    have hlt:=hedge i o ho e he hb
    have hin:=(o7.1 hi).1
    cases hl:listed.getD e.on true with
    |false=>
     have hm:e.on∈tJ ops.size listed:=o7.2 ⟨by omega,hl⟩
     rw[hu]at hm
     rcases List.mem_cons.1 hm with h | h
     ·omega
     ·have:=(List.pairwise_cons.1 hso).1 _ h;omega
    |true=>
     have:e.on < listed.size:=by omega
     simp only[Array.getD_eq_getD_getElem?,Array.getElem?_eq_getElem this,Option.getD_some]at hl ⊢
     exact hl⟩
   rw[hr]at this
   cases this
 intro fuel
 induction fuel with
 |zero=>
  intro listed s a w hs hl _ hr hst
  have hn:tJ ops.size listed=[]:=List.eq_nil_of_length_eq_zero hl
  refine⟨?_,?_⟩
  ·cases hre:Region.ready .any ops listed with
   |nil=>rfl
   |cons i l=>
    have:i∈Region.ready .any ops listed:=by rw[hre];exact List.mem_cons_self ..
    have:=((hrdy listed hs i).1 this).1
    rw[hn]at this;cases this
  ·rw[hn]at hr
   have:s=sn:=hr
   subst this
   exact hQ a w hst
 |succ fuel ih=>
  intro listed s a w hs hl hcl hr hst
  refine⟨fun hre=> ?_,fun i hi=> ?_⟩
  ·have:=hsome listed hs hre
   rw[this]at hl;simp at hl
  ·obtain⟨hu,hdep⟩:=(hrdy listed hs i).1 hi
   obtain⟨hin,hli⟩:=o7.1 hu
   obtain⟨o,ho⟩:∃o,ops[i]? =some o:=⟨ops[i],by simp[hin]⟩
   obtain⟨l1,l2,hsp⟩:=List.append_of_mem hu
   have hso:=oF ops.size listed
   rw[hsp]at hso
   have hanc:∀j,((u7 ops.toList).getD i 0).testBit j=true→listed.getD j false=true:=fun j hj=>by
    obtain⟨e,he,hb,h | h⟩:=zV (by simpa using ho) hj
    ·rw[h];exact hdep o ho e he hb
    ·have h1:=hdep o ho e he hb
     have h2:=hedge i o ho e he hb
     refine hcl e.on (by omega) ?_ j h
     have:e.on < listed.size:=by omega
     simp only[Array.getD_eq_getD_getElem?,Array.getElem?_eq_getElem this,Option.getD_some]at h1 ⊢
     exact h1
   rw[hsp]at hr
   have hb:=uX.Aa l1 hr fun j hj=>by
    have hlt:j < i:=(List.pairwise_append.1 hso).2.2 j hj i (List.mem_cons_self ..)
    rcases hind j i hlt hin with h | h
    ·have h1:=hanc j h
     have hju:j∈tJ ops.size listed:=by rw[hsp];exact List.mem_append.2 (.inl hj)
     have h2:=(o7.1 hju).2
     have:j < listed.size:=by omega
     simp only[Array.getD_eq_getD_getElem?,Array.getElem?_eq_getElem this,Option.getD_some]at h1 h2
     rw[h1]at h2;cases h2
    ·exact h
   obtain⟨o',ho',hf,s',hg,hrun⟩:=hb
   obtain rfl:o=o':=by rw[ho]at ho';simpa using ho'
   have hset:tJ ops.size (listed.setIfInBounds i true)=l1++l2:=by
    rw[←hs]at hsp ⊢
    exact B9 (by omega) hsp
   refine((te hΓ hst hg).mono fun a' w' hst'=>ih (listed.setIfInBounds i true) s' a' w' (by simpa using hs) ?_ ?_ (by rw[hset];exact hrun) hst').wpOp ho
   ·rw[hset]
    rw[hsp]at hl
    simp only[List.length_append,List.length_cons]at hl ⊢
    omega
   ·intro m hm hlm j hj
    rw[rv false (by omega)]
    split
    ·rfl
    ·rw[rv true (by omega)]at hlm
     split at hlm
     ·rename_i hmi
      subst hmi
      exact hanc j hj
     ·exact hcl m hm hlm j hj
theorem wu{C:Ctx}(hm:P.follows .mixedOrders=true)(hΓ:Sound P Γ){id:Nat}{R:Type}{Q:Exit→Act→World→Prop}{s:AS}{a:Act}{w:World}{k:AS→Option R}{r:R}(h:fI C s a w)(hE:tZ ops.toList=true)
  (he:tf P Γ bH ops (u7 ops.toList) 0 ops.toList [] s k=some r) (hk:∀s' a' w',fI C s' a' w'→k s'=some r→Q .normal a' w'):(Code.region id ops true).wp P Q a w:=by
 obtain⟨fs,sn,_,g2,g3,_,g5⟩:=tg ops.toList 0 [] s (fun _=>⟨none,[],[],[]⟩) (fun n o hn=>by simpa using hn) (fun _ hx=>by cases hx) he
 refine wp_region_any hm ?_
 obtain⟨g,β,h⟩:=h
 have hu:tJ ops.size (Array.replicate ops.size false)=List.range' 0 ops.toList.length:=by
  unfold tJ
  rw[List.filter_eq_self.2]
  ·simp[List.range_eq_range']
  ·intro i hi
   have hi:i < ops.size:=by simpa using hi
   simp[Array.getD_eq_getD_getElem?,hi]
 refine yM (bH:=bH) hΓ hE (fs:=fs) (sn:=sn) (fun m1 m2 h1 h2=>g5 m1 m2 (Nat.zero_le _) h1 (by simpa using h2)) (fun a' w' hs=>hk sn a' w' hs g3) ops.size _ s a _ (by simp) (by rw[hu];simp) (fun i hi hl=> ?_) (by rw[hu];exact g2) ⟨g,β,h.drew⟩
 simp[Array.getD_eq_getD_getElem?,hi]at hl
end
end Go.Ab
namespace Go.Ab
theorem kM{ρ:wW}:∀(v:aA),(∀id∈v.ids,∀ver,ρ id ver=some (id,ver))→v.fR ρ=v
 | .ptr id ver p n,h=>by simp only[aA.fR];rw[h id (by simp[aA.ids])]
 | .cd id ver p c i len,h=>by simp only[aA.fR];rw[h id (by simp[aA.ids])]
 | .pr a b,h=>by simp only[aA.fR];rw[kM a fun id hid=>h id (by simp[aA.ids,hid]),kM b fun id hid=>h id (by simp[aA.ids,hid])]
 | .cons a b,h=>by simp only[aA.fR];rw[kM a fun id hid=>h id (by simp[aA.ids,hid]),kM b fun id hid=>h id (by simp[aA.ids,hid])]
 | .fn f c,h=>by simp only[aA.fR];rw[kM c fun id hid=>h id (by simpa[aA.ids]using hid)]
 | .bx e z c,h=>by simp only[aA.fR];rw[kM c fun id hid=>h id (by simpa[aA.ids]using hid)]
 | .ja id ver,h=>by simp only[aA.fR];rw[h id (by simp[aA.ids])]
 | .undef,_ | .gone,_ | .cU,_ | .jR,_ | .jQ,_ | .lk,_ | .d _ _,_ | .eC _ _,_ | .nil,_ | .vec ..,_ | .mp ..,_ | .sb _,_=>rfl
theorem jv{s:AS}:∀(v:aA),v.there s=true→∀id∈v.ids,(s.obj id).isSome=true
 | .ptr id ver p n,h,i,hi=>by simp only[aA.ids,List.mem_singleton]at hi;subst hi;exact h
 | .cd id ver p c j len,h,i,hi=>by simp only[aA.ids,List.mem_singleton]at hi;subst hi;exact h
 | .pr a b,h,i,hi=>by
  simp only[aA.there,Bool.and_eq_true]at h
  simp only[aA.ids,List.mem_append]at hi
  rcases hi with hi | hi
  ·exact jv a h.1 i hi
  ·exact jv b h.2 i hi
 | .cons a b,h,i,hi=>by
  simp only[aA.there,Bool.and_eq_true]at h
  simp only[aA.ids,List.mem_append]at hi
  rcases hi with hi | hi
  ·exact jv a h.1 i hi
  ·exact jv b h.2 i hi
 | .fn f c,h,i,hi=>jv c h i hi
 | .bx e z c,h,i,hi=>jv c h i hi
 | .ja id ver,h,i,hi=>by simp only[aA.ids,List.mem_singleton]at hi;subst hi;exact h
 | .undef,_,_,hi | .gone,_,_,hi | .cU,_,_,hi | .jR,_,_,hi | .jQ,_,_,hi | .lk,_,_,hi | .d _ _,_,_,hi | .eC _ _,_,_,hi | .nil,_,_,hi | .vec ..,_,_,hi | .mp ..,_,_,hi | .sb _,_,_,hi=>by cases hi
section
variable {P:Program} {C:Ctx} {g:Nat→hZ} {β:Id→Option Pl} {s:AS} {a:Act} {w:World}
theorem Inv.tv(h:Inv C g β s a w)(hC:∀i j,C.E.s (.new i j)=none){s1:AS}{g1:Nat→hZ}{β1:Id→Option Pl}(ρ:wW)(hlen:s1.cg.length=s.cg.length)(ht:Trans w w g g1)(hle:mq ρ (s.env w g β) (s1.env w g1 β1))
  (hslot:∀i,VS (s1.env w g1 β1) (s1.slot i) (a.tmps.getD i undef))
  (hent:∀id ver fr c,s1.bY id=some (.obj ver fr c)→∃id0 v0 c0,s.bY id0=some (.obj v0 fr c0)∧c0.fR ρ=c∧β1 id=β id0∧∀pl,β id0=some pl→(∀k,g pl.b= .own (.id id0) k→g1 pl.b= .own (.id id) k)∧(g pl.b= .free→g1 pl.b= .free))
  (hold:∀k,(s.bY (.fB k)≠none→s1.bY (.fB k)≠none)∧(∀v fr c,s1.bY (.fB k)=some (.obj v fr c)→∃c0,s.bY (.fB k)=some (.obj v fr c0))∧β1 (.fB k)=β (.fB k)):Inv C g1 β1 s1 a w:=by
 refine⟨h.defers,by rw[hlen];exact h.size,hslot,fun id ver fr c hid=> ?_,h.trans.trans ht,?_⟩
 ·obtain⟨id0,v0,c0,h1,h2,h3,h4⟩:=hent id ver fr c hid
  have:=lz hle (h.bH id0 v0 fr c0 h1) (id':=id) h3 fun pl hp=>⟨rfl,(h4 pl hp).1,(h4 pl hp).2⟩
  rw[h2]at this
  exact this
 ·have hl:=h.le
  have ho:∀id ver,C.E.qL id ver→∃k,id= .fB k:=fun id ver hb=>by
   cases id with
   |fB k=>exact⟨k,rfl⟩
   |new i j=>exact absurd (hC i j) hb.1
  refine⟨hl.mem.trans (Trans.mem (E:=s.env w g β) (E':=s1.env w g1 β1) ht),fun id ver hb=> ?_,fun id ver hb hc=> ?_⟩
  ·obtain⟨k,rfl⟩:=ho id ver hb
   obtain⟨h1,h2⟩:=hl.qL _ ver hb
   obtain⟨e1,e2,_⟩:=hold k
   exact⟨e1 h1,fun v fr c hh=>let⟨c0,hc0⟩:=e2 v fr c hh;h2 v fr c0 hc0⟩
  ·obtain⟨k,rfl⟩:=ho id ver hb
   obtain⟨fr,c,hc⟩:=hc
   obtain⟨_,e2,e3⟩:=hold k
   obtain⟨c0,hc0⟩:=e2 _ _ _ hc
   obtain⟨h1,h2⟩:=hl.cur _ ver hb ⟨fr,c0,hc0⟩
   exact⟨h1,e3.trans h2⟩
theorem Inv.renamed(h:Inv C g β s a w)(hC:∀i j,C.E.s (.new i j)=none){s1:AS}{β1:Id→Option Pl}(ρ:wW)(hlen:s1.cg.length=s.cg.length)(hle:mq ρ (s.env w g β) (s1.env w g β1))
  (hslot:∀i,VS (s1.env w g β1) (s1.slot i) (a.tmps.getD i undef)) (hent:∀id ver fr c,s1.bY id=some (.obj ver fr c)→∃v0,s.bY id=some (.obj v0 fr c)∧c.fR ρ=c∧β1 id=β id)
  (hold:∀k,s1.bY (.fB k)=s.bY (.fB k)∧β1 (.fB k)=β (.fB k)):Inv C g β1 s1 a w:=
 h.tv hC ρ hlen (Trans.refl w g) hle hslot (fun id ver fr c hid=>let⟨v0,h1,h2,h3⟩:=hent id ver fr c hid;⟨id,v0,c,h1,h2,h3,fun _ _=>⟨fun _ h=>h,fun h=>h⟩⟩)
  fun k=>⟨fun hh=>by rw[(hold k).1];exact hh,fun v fr c hh=>⟨c,(hold k).1.symm.trans hh⟩,(hold k).2⟩
theorem Inv.DN(h:Inv C g β s a w)(j:Nat){v:aA}(hv:VS (s.env w g β) v (a.tmps.getD j undef)):Inv C g β (s.put (some j) v) a w:=by
 refine⟨h.defers,by simpa[AS.put]using h.size,fun i=> ?_,by simpa using h.bH,h.trans,by simpa using h.le⟩
 rw[yc,si]
 split
 ·rename_i hij;rw[hij.1];exact hv
 ·exact h.cg i
theorem qc(bh:List Nat):∀(l:List aA) (n i:Nat),(fQ bh n l).getD i .undef= .undef∨(fQ bh n l).getD i .undef=l.getD i .undef
 |[],n,i=>by simp[fQ]
 |v::l,n,0=>by
  simp only[fQ,List.getD_cons_zero]
  split
  ·exact .inr rfl
  ·exact .inl rfl
 |v::l,n,i+1=>by
  simp only[fQ,List.getD_cons_succ]
  exact qc bh l (n+1) i
theorem lj(bh:List Nat):∀(l:List aA) (n:Nat),(fQ bh n l).length=l.length
 |[],n=>rfl
 |v::l,n=>by simp[fQ,lj bh l]
theorem tz(bh:List Nat):∀(l:List (List eF)) (n i:Nat),(gK bh n l).getD i []=[]∨(gK bh n l).getD i []=l.getD i []
 |[],n,i=>by simp[gK]
 |v::l,n,0=>by
  simp only[gK,List.getD_cons_zero]
  split
  ·exact .inr rfl
  ·exact .inl rfl
 |v::l,n,i+1=>by
  simp only[gK,List.getD_cons_succ]
  exact tz bh l (n+1) i
theorem zl{s:AS}(i:Nat):s.slot i= .undef∨s.slot i∈s.cg:=by
 unfold AS.slot
 rw[List.getD_eq_getElem?_getD]
 cases h:s.cg[i]? with
 |none=>exact .inl rfl
 |some v=>exact .inr (List.mem_of_getElem? h)
theorem BF{s:AS}{id:Id}{e:eF}(h:s.bY id=some e):e∈s.db∨∃es∈s.news,e∈es:=by
 cases id with
 |fB k=>exact .inl (List.mem_of_getElem? h)
 |new i j=>
  simp only[AS.bY,List.getD_eq_getElem?_getD]at h
  cases hi:s.news[i]? with
  |none=>rw[hi]at h;simp at h
  |some es=>rw[hi]at h;exact .inr ⟨es,List.mem_of_getElem? hi,List.mem_of_getElem? h⟩
theorem Inv.bh(h:Inv C g β s a w)(hC:∀i j,C.E.s (.new i j)=none){an:gZ}(ht:(oX an s).u5=true):Inv C g β (oX an s) a w:=by
 obtain⟨ks,kt,_,_,_⟩:=an
 obtain⟨s1,hs1⟩:∃s1:AS,s1= {cg:=fQ ks 0 s.cg,db:=s.db,news:=gK kt 0 s.news}:=⟨_,rfl⟩
 have e1:s1.cg=fQ ks 0 s.cg:=by rw[hs1]
 have e2:s1.db=s.db:=by rw[hs1]
 have e3:s1.news=gK kt 0 s.news:=by rw[hs1]
 have ht:(s1.cg.all (aA.there s1) && s1.db.all (eF.there s1) && s1.news.all fun es=>es.all (eF.there s1))=true:=by rw[hs1];exact ht
 show Inv C g β {cg:=fQ ks 0 s.cg,db:=s.db,news:=gK kt 0 s.news} a w
 rw[←hs1]
 rw[Bool.and_eq_true,Bool.and_eq_true]at ht
 obtain⟨⟨t1,t2⟩,t3⟩:=ht
 have hent:∀id,s1.bY id=none∨s1.bY id=s.bY id:=fun id=>by
  cases id with
  |fB k=>right;simp only[AS.bY,e2]
  |new i j=>
   simp only[AS.bY,e3]
   rcases tz kt s.news 0 i with h | h
   ·rw[h];exact .inl rfl
   ·rw[h];exact .inr rfl
 have hobj:∀id,(s1.obj id).isSome=true→s1.bY id=s.bY id:=fun id hi=>by
  rcases hent id with h | h
  ·simp[AS.obj,h]at hi
  ·exact h
 let ρ:wW:=fun id ver=>if(s1.obj id).isSome=true then some (id,ver) else none
 have hρ:∀v:aA,v.there s1=true→v.fR ρ=v:=fun v hv=>kM v fun id hid ver=>if_pos (jv v hv id hid)
 have hle:mq ρ (s.env w g β) (s1.env w g β):=by
  refine⟨⟨fun _ _ _ h=>h,fun _ _ h h'=>⟨h,h'⟩⟩,fun id ver r hr hb=> ?_⟩
  by_cases hi:(s1.obj id).isSome=true
  ·have:ρ id ver=some (id,ver):=if_pos hi
   rw[this,Option.some.injEq]at hr
   subst hr
   have e:=hobj id hi
   obtain⟨b1,b2⟩:=hb
   exact⟨⟨by show s1.bY id≠none;rw[e];exact b1,fun v fr c hh=>b2 v fr c (e.symm.trans hh)⟩,fun⟨fr,c,hc⟩=>⟨⟨fr,c,e.symm.trans hc⟩,rfl⟩⟩
  ·have:ρ id ver=none:=if_neg hi
   rw[this]at hr;cases hr
 refine h.renamed hC ρ (by rw[e1,lj]) hle (fun i=> ?_) (fun id ver fr c hid=> ?_) fun k=>⟨by simp only[AS.bY,e2],rfl⟩
 ·rcases zl (s:=s1) i with hi | hi
  ·rw[hi];exact VS.undef
  ·have hth:=List.all_eq_true.1 t1 _ hi
   rcases qc ks s.cg 0 i with h1 | h1
   ·have:s1.slot i= .undef:=by simp only[AS.slot,e1,h1]
    rw[this];exact VS.undef
   ·have:s1.slot i=s.slot i:=by simp only[AS.slot,e1,h1]
    have hv:=qX hle (h.cg i)
    rw[←this,hρ _ hth]at hv
    exact hv
 ·have:s1.bY id=s.bY id:=by
   rcases hent id with h | h
   ·rw[h]at hid;cases hid
   ·exact h
  have hc:c.there s1=true:=by
   rcases BF hid with h | ⟨es,h1,h2⟩
   ·exact List.all_eq_true.1 t2 _ h
   ·exact List.all_eq_true.1 (List.all_eq_true.1 t3 _ h1) _ h2
  exact⟨ver,this.symm.trans hid,hρ c hc,rfl⟩
theorem Inv.drop(h:Inv C g β s a w)(ks:List Nat):Inv C g β (s.drop ks) a w:=by
 refine⟨h.defers,by simpa[AS.drop,lj]using h.size,fun i=> ?_,h.bH,h.trans,h.le⟩
 rcases qc ks s.cg 0 i with h1 | h1
 ·have:(s.drop ks).slot i= .undef:=h1
  rw[this];exact VS.undef
 ·have:(s.drop ks).slot i=s.slot i:=h1
  rw[this];exact h.cg i
def mg(i i':Id):hZ→hZ
 | .own (.id x) k=>if x=i then .own (.id i') k else .own (.id x) k
 |l=>l
theorem Trans.DM(w:World)(g:Nat→hZ)(i i':Id):Trans w w g fun b=>mg i i' (g b):=by
 refine⟨rfl,rfl,rfl,Nat.le_refl _,fun b _=> ?_⟩
 cases hg:g b with
 |free=>exact⟨by simp[mg],rfl⟩
 |own o k=>cases o with
  |eG=>exact⟨by simp[mg],rfl⟩
  |id x=>
   refine⟨.inr ?_,fun _ _ _ h=>h⟩
   simp only[mg]
   split
   ·exact⟨_,_,rfl,Nat.le_refl _⟩
   ·exact⟨_,_,rfl,Nat.le_refl _⟩
theorem A8(f:aA→aA)(hf:f .undef= .undef)(l:List aA)(i:Nat):(l.map f).getD i .undef=f (l.getD i .undef):=by
 simp only[List.getD_eq_getElem?_getD,List.getElem?_map]
 cases l[i]? <;> simp[hf]
theorem Inv.nj(h:Inv C g β s a w)(hC:∀i j,C.E.s (.new i j)=none){b v q:Nat}{fr:Bool}{c:aA}(hob:s.obj (.new b 0)=some (v,fr,c))(hm:s.uA q b=true):
  ∃g1 β1,Inv C g1 β1 (s.nj b v q fr c) a w:=by
 have hent:=eg hob
 unfold AS.uA at hm
 simp only[Bool.and_eq_true,Bool.or_eq_true,decide_eq_true_eq]at hm
 obtain⟨hsb,hsq⟩:=hm
 have hone:∀x,single s.news[x]? =true→x < s.news.length∧∀j',s.bY (.new x (j'+1))=none:=fun x hx=>by
  unfold single at hx
  split at hx
  ·rename_i y hy;exact⟨(List.getElem?_eq_some_iff.1 hy).1,fun j'=>by simp[AS.bY,List.getD_eq_getElem?_getD,hy]⟩
  ·cases hx
 obtain⟨hbl,hb1⟩:=hone b hsb
 have hq:q < s.news.length∧∀j',s.bY (.new q (j'+1))=none:=by
  rcases hsq with(hsq | hsq) | hsq
  ·subst hsq;exact⟨hbl,hb1⟩
  ·exact hone q hsq
  ·exact⟨(fW hsq).2,fun j'=>(fW hsq).1 _⟩
 obtain⟨hql,hq1⟩:=hq
 let ρ:wW:=rT (.new b 0) v q
 let s1:=s.nj b v q fr c
 have hself:∀j',s1.bY (.new q j')=[eF.obj 0 fr (c.fR ρ)][j']? :=fun j'=>by
  simp[s1,AS.nj,AS.bY,List.getD_eq_getElem?_getD,hql,ρ]
 have hgone:b≠q→∀j',s1.bY (.new b j')=none:=fun hbq j'=>by
  have hbq':¬q=b:=fun e=>hbq e.symm
  simp only[s1,AS.nj,AS.bY,List.getD_eq_getElem?_getD]
  rw[List.getElem?_set_ne hbq',List.getElem?_set,if_pos rfl]
  split <;> simp
 have hoth:∀i,(∀j',i≠ .new q j')→(∀j',i≠ .new b j')→s1.bY i=(s.bY i).map (eF.fR ρ):=fun i hi hi'=>by
  cases i with
  |fB k=>simp[s1,AS.nj,AS.bY,ρ]
  |new x y=>
   have h1:¬q=x:=fun e=>hi y (by rw[e])
   have h2:¬b=x:=fun e=>hi' y (by rw[e])
   simp only[s1,AS.nj,AS.bY,List.getD_eq_getElem?_getD]
   rw[List.getElem?_set_ne h1,List.getElem?_set_ne h2,List.getElem?_map]
   cases s.news[x]? <;> simp[ρ]
 let g1:Nat→hZ:=fun x=>mg (.new b 0) (.new q 0) (g x)
 let β1:Id→Option Pl:=fun i=>if i= .new q 0 then β (.new b 0) else β i
 have ht:Trans w w g g1:=Trans.DM w g _ _
 have hρ:∀i ver r,ρ i ver=some r→(i= .new b 0∧ver=v∧r=(.new q 0,0))∨(i≠ .new b 0∧i≠ .new q 0∧r=(i,ver)):=fun i ver r hr=>by
  have hr:rT (.new b 0) v q i ver=some r:=hr
  unfold rT at hr
  split at hr
  ·rename_i hi
   have hi:i= .new b 0:=by simpa using hi
   split at hr
   ·rename_i hv
    exact .inl ⟨hi,by simpa using hv,(Option.some.inj hr).symm⟩
   ·cases hr
  ·rename_i hi
   have hi:¬i= .new b 0:=by simpa using hi
   split at hr
   ·cases hr
   ·rename_i hi'
    have hi':¬i= .new q 0:=by simpa using hi'
    exact .inr ⟨hi,hi',(Option.some.inj hr).symm⟩
 have hle:mq ρ (s.env w g β) (s1.env w g1 β1):=by
  refine⟨Trans.mem (E:=s.env w g β) (E':=s1.env w g1 β1) ht,fun i ver r hr hbd=> ?_⟩
  rcases hρ i ver r hr with⟨rfl,rfl,rfl⟩ | ⟨hi,hi',rfl⟩
  ·refine⟨⟨by show s1.bY (.new q 0)≠none;rw[hself];simp,fun _ _ _ _=>Nat.zero_le _⟩,fun _=>⟨⟨fr,c,hent⟩,if_pos rfl⟩⟩
  ·obtain⟨k1,k2⟩:=hbd
   have k1:s.bY i≠none:=k1
   have e:s1.bY i=(s.bY i).map (eF.fR ρ):=hoth i (fun j' e=>by
     cases j' with
     |zero=>exact hi' e
     |succ j'=>exact k1 (by rw[e];exact hq1 j')) (fun j' e=>by
     cases j' with
     |zero=>exact hi e
     |succ j'=>exact k1 (by rw[e];exact hb1 j'))
   have back:∀v' fr' c',s1.bY i=some (.obj v' fr' c')→∃c0,s.bY i=some (.obj v' fr' c0):=fun v' fr' c' hh=>by
    rw[e]at hh
    cases hs:s.bY i with
    |none=>exact absurd hs k1
    |some en=>
     rw[hs]at hh
     cases en with
     |dead=>simp[eF.fR]at hh
     |obj v0 fr0 c0=>
      simp only[Option.map_some,eF.fR,Option.some.injEq,eF.obj.injEq]at hh
      obtain⟨rfl,rfl,_⟩:=hh
      exact⟨c0,rfl⟩
   refine⟨⟨by
    show s1.bY i≠none
    rw[e]
    cases hs:s.bY i with
    |none=>exact absurd hs k1
    |some en=>simp,fun v' fr' c' hh=> ?_⟩,fun⟨fr',c',hh⟩=> ?_⟩
   ·obtain⟨c0,hc0⟩:=back v' fr' c' hh
    exact k2 v' fr' c0 hc0
   ·obtain⟨c0,hc0⟩:=back ver fr' c' hh
    exact⟨⟨fr',c0,hc0⟩,if_neg hi'⟩
 refine⟨g1,β1,h.tv hC ρ (by simp[AS.nj]) ht hle (fun i=> ?_) (fun id ver fr' c' hid=> ?_) fun k=>⟨fun hk=> ?_,fun v' fr' c' hh=> ?_,if_neg (by simp)⟩⟩
 ·have:(s.nj b v q fr c).slot i=(s.slot i).fR ρ:=A8 _ rfl _ _
  rw[this]
  exact qX hle (h.cg i)
 ·have hid:s1.bY id=some (.obj ver fr' c'):=hid
  by_cases hi:∃j',id= .new q j'
  ·obtain⟨j',rfl⟩:=hi
   rw[hself]at hid
   cases j' with
   |zero=>
    simp only[List.getElem?_cons_zero,Option.some.injEq,eF.obj.injEq]at hid
    obtain⟨_,rfl,rfl⟩:=hid
    exact⟨.new b 0,v,c,hent,rfl,if_pos rfl,fun pl hp=>⟨fun k hk=>by simp[g1,hk,mg],fun hk=>by simp[g1,hk,mg]⟩⟩
   |succ j'=>simp at hid
  ·by_cases hi':∃j',id= .new b j'
   ·obtain⟨j',rfl⟩:=hi'
    have hbq:b≠q:=fun e=>hi ⟨j',by rw[e]⟩
    rw[hgone hbq]at hid;cases hid
   ·have e:=hoth id (fun j' e=>hi ⟨j',e⟩) (fun j' e=>hi' ⟨j',e⟩)
    rw[e]at hid
    cases hs:s.bY id with
    |none=>rw[hs]at hid;cases hid
    |some en=>
     rw[hs]at hid
     cases en with
     |dead=>simp[eF.fR]at hid
     |obj v0 fr0 c0=>
      simp only[Option.map_some,eF.fR,Option.some.injEq,eF.obj.injEq]at hid
      obtain⟨rfl,rfl,rfl⟩:=hid
      have hne:id≠ .new b 0:=fun e=>hi' ⟨0,e⟩
      exact⟨id,v0,c0,hs,rfl,if_neg fun e=>hi ⟨0,e⟩,fun pl hp=>⟨fun k hk=>by simp[g1,hk,mg,hne],fun hk=>by simp[g1,hk,mg]⟩⟩
 ·have e:=hoth (.fB k) (fun _=>by simp) (fun _=>by simp)
  show s1.bY (.fB k)≠none
  rw[e]
  cases hs:s.bY (.fB k) with
  |none=>exact absurd hs hk
  |some en=>simp
 ·have e:=hoth (.fB k) (fun _=>by simp) (fun _=>by simp)
  have hh:s1.bY (.fB k)=some (.obj v' fr' c'):=hh
  rw[e]at hh
  cases hs:s.bY (.fB k) with
  |none=>rw[hs]at hh;cases hh
  |some en=>
   rw[hs]at hh
   cases en with
   |dead=>simp[eF.fR]at hh
   |obj v0 fr0 c0=>
    simp only[Option.map_some,eF.fR,Option.some.injEq,eF.obj.injEq]at hh
    obtain⟨rfl,rfl,_⟩:=hh
    exact⟨c0,rfl⟩
theorem xM{k t:Ty}{l:List (k.den×t.den)}:∀ {p:List oK} {x c':aA},¬(mH (.mp k t l) p x).eval=some c'
 |[],x,c',h=>by simp only[mH,ah]at h
 | .arr::p,x,c',h=>by simp only[mH]at h;exact xM h
 | .idx i::p,x,c',h=>by simp only[mH,ah]at h
 | .fst::p,x,c',h=>by simp only[mH,ah]at h
 | .snd::p,x,c',h=>by simp only[mH,ah]at h
theorem qy{l:List Value}{n:Nat}{vs:List Value}(h:(l.drop n).take vs.length=vs):cW l n vs=l:=by
 unfold cW
 have h2:l.drop n=vs++l.drop (n+vs.length):=by
  conv=>lhs;rw[←List.take_append_drop vs.length (l.drop n)]
  rw[h,List.drop_drop]
 have h3:=List.take_append_drop n l
 rw[h2]at h3
 simpa[List.append_assoc]using h3
theorem Inv.DJ(h:Inv C g β s a w){j:Nat}{p:List oK}(hat:(s.at j p).eval=some .cU){q:Nat}(hq:s.dH q=true){e:TypeId}{t:Ty}(hz:0 < t.size){s':AS}
  (he:((s.born q [.obj 0 false (.vec e t [])]).putAt j (.cd (.new q 0) 0 [] 0 0 0) p).eval=some s'):fI C s' a w:=by
 obtain⟨β',h1,h2,h3⟩:=h.AJ hq (e:=e) hz
 cases p with
 |nil=>
  simp only[AS.at]at hat
  have hj:=au.1 hat
  simp only[AS.putAt]at he
  obtain rfl:=au.1 he
  refine⟨g,β',h1.DN j ?_⟩
  have:=h.cg j
  rw[hj]at this
  rw[gC this]
  exact h3
 |cons st p=>
  simp only[AS.at]at hat
  simp only[AS.putAt]at he
  have hslot:(s.born q [.obj 0 false (.vec e t [])]).slot j=s.slot j:=rfl
  rw[hslot]at he
  split at hat
  ·rename_i id ver p0 nn hj
   split at hat
   ·rename_i v fr c hob
    obtain⟨hv,hat⟩:=aC.1 hat
    obtain⟨⟨n,u⟩,hl,hat⟩:=ao.1 hat
    have hu:=au.1 hat
    simp only at hu
    subst hu
    have hent:=eg hob
    have hne:id≠ .new q 0:=fun e=>by rw[e,(fW hq).1 0]at hent;cases hent
    have hne':∀j',id≠ .new q j':=fun j' e=>by rw[e,(fW hq).1 j']at hent;cases hent
    have hent1:(s.born q [.obj 0 false (.vec e t [])]).bY id=some (.obj v fr c):=(gl _ hne').trans hent
    have hob1:(s.born q [.obj 0 false (.vec e t [])]).obj id=some (v,fr,c):=by simp only[AS.obj,hent1]
    simp only[hj,hob1]at he
    split at he
    ·simp only[ah]at he
    ·rename_i c1 hc1
     obtain⟨c',hup,he⟩:=ao.1 he
     obtain rfl:=au.1 he
     have hn:c.fC=false:=by
      cases c <;> first | rfl | (exact(hc1 _ _ _ rfl).elim) | (exact absurd hup xM)
     have hO:=h1.bH id v fr c hent1
     obtain⟨pl,cur,e0,hp,hh,hg,hk,hV⟩:=hO.box hn
     have ht:=Trans.refl w g
     have hN:=qN hk
     have hle:=cP.bp (s:=s.born q [.obj 0 false (.vec e t [])]) (β:=β') (v':=v) (fr':=fr) (c':=c.wrap c') hent1 (Nat.le_refl _) ht (fun _ _=>rfl) (fun _=>rfl)
     refine⟨g,β',h1.step (dC _ _ _) ht hle (gh.bp h1.bH (by rw[hent1];simp) hle (fun _ _=>rfl) (fun _ _ _ _ _ _ _ _=>⟨rfl,rfl⟩) ?_)⟩
     obtain⟨cs,k1,k2⟩:=h3
     have k2:cs=[.slice none 0 0]:=k2
     subst k2
     obtain⟨u1,u2,u3⟩:=hP (p0++st::p) c.strip (cur.toList.take (c.j5 cur.size)) n .cU _ c' [.slice none 0 0] (VO.of hV) hl k1 hup
     have u4:=u2.to (u3.jc hV.jc)
     have hcell:((cur.toList.take (c.j5 cur.size)).drop n).take 1=[.slice none 0 0]:=by
      rcases iP (p0++st::p) c.strip (cur.toList.take (c.j5 cur.size)) n .cU (VO.of hV) hl with⟨hn0,hc0⟩ | ⟨q1,q2⟩
      ·rw[←hc0]at hV
       simp only[V]at hV
       rw[hV,hn0]
       rfl
      ·simpa only[V,aA.size]using q1
     rw[qy (vs:=[.slice none 0 0]) hcell]at u4
     have hsz:c'.size=c.strip.size:=by have e1:=u4.size;have e2:=hV.size;omega
     exact pD.obj ⟨pl,cur,e0,hp,hh,hg,nY hk u4.kH hsz,by rw[oD c u4.kH,pF u4.kH hsz];exact V.mono hle u4⟩
   ·simp only[ah]at hat
  ·simp only[ah]at hat
theorem nR:∀(ids:List Id) {s:AS} {i:Id} {v:Nat} {fr:Bool} {c:aA},s.bY i=some (.obj v fr c)→∃fr',(s.a9 ids).bY i=some (.obj v fr' c)
 |[],s,i,v,fr,c,h=>⟨fr,h⟩
 |id::ids,s,i,v,fr,c,h=>by
  obtain⟨fr',h'⟩:=ri (id:=id) h
  exact nR ids h'
theorem Inv.Dr(h:Inv C g β s a w){j:Nat}{p:List oK}{u:aA}(hat:(s.at j p).eval=some u){t:Ty}{x:t.den}(ht:(s.fG t u).eval=some x){s':AS}
  (he:((s.a9 u.shared).putAt j (.d t x) p).eval=some s'):fI C s' a w:=by
 cases p with
 |nil=>
  simp only[AS.at]at hat
  have hj:=au.1 hat
  simp only[AS.putAt]at he
  obtain rfl:=au.1 he
  have hs:=h.cg j
  rw[hj]at hs
  obtain⟨g',i1,_,_,cs,hR,hO⟩:=kP h hs ht
  exact⟨g',β,i1.DN j (VS.of (a:= .d t x) (cs:=cs) (by simpa only[V]using hR) hO)⟩
 |cons st p=>
  simp only[AS.at]at hat
  simp only[AS.putAt]at he
  have hslot:(s.a9 u.shared).slot j=s.slot j:=by simp only[AS.slot,gH]
  rw[hslot]at he
  split at hat
  ·rename_i id ver p0 nn hj
   split at hat
   ·rename_i v fr c hob
    obtain⟨hv,hat⟩:=aC.1 hat
    obtain⟨⟨n,u'⟩,hl,hat⟩:=ao.1 hat
    have hu:=au.1 hat
    simp only at hu
    subst hu
    have hent:=eg hob
    obtain⟨g',h1,h2,h3,h4⟩:=fm u'.shared h
    obtain⟨fr',hent1⟩:=nR u'.shared hent
    have hob1:(s.a9 u'.shared).obj id=some (v,fr',c):=by simp only[AS.obj,hent1]
    simp only[hj,hob1]at he
    split at he
    ·simp only[ah]at he
    ·rename_i c1 hc1
     obtain⟨c',hup,he⟩:=ao.1 he
     obtain rfl:=au.1 he
     have hn:c.fC=false:=by
      cases c <;> first | rfl | (exact(hc1 _ _ _ rfl).elim) | (exact absurd hup xM)
     obtain⟨pl0,cur0,e00,hp0,hh0,hg0,hk0,hV0⟩:=(h.bH id v fr c hent).box hn
     obtain⟨pl,cur,e0,hp,hh,hg,hk,hV⟩:=(h1.bH id v fr' c hent1).box hn
     have hpl:pl0=pl:=by
      have hp0:β id=some pl0:=hp0
      have hp:β id=some pl:=hp
      rw[hp0]at hp
      exact Option.some.inj hp
     subst hpl
     have hcur:cur0=cur:=by
      have hh0:w.heap[pl0.b]? =_:=hh0
      have hh:w.heap[pl0.b]? =_:=hh
      rw[hh0]at hh
      simpa using(congrArg (fun o=>match o with | some (.cells x _ _)=>x | _=>cur0) hh)
     subst hcur
     obtain⟨cs,hVu,hcell⟩:∃cs,V (s.env w g β) u' cs∧((cur0.toList.take (c.j5 cur0.size)).drop n).take cs.length=cs:=by
      rcases iP (p0++st::p) c.strip (cur0.toList.take (c.j5 cur0.size)) n u' (VO.of hV0) hl with⟨hn0,hc0⟩ | ⟨q1,q2⟩
      ·refine⟨cur0.toList.take (c.j5 cur0.size),by rw[hc0];exact hV0,?_⟩
       rw[hn0,List.drop_zero,List.take_length]
      ·refine⟨_,q1,?_⟩
       rw[List.length_take,List.length_drop]
       congr 1
       omega
     have hR:=j2 rfl h.bH h2 u' t x cs hVu ht h4
     have hVx:V ((s.a9 u'.shared).env w g' β) (.d t x) cs:=by simpa only[V]using hR
     have ht':=Trans.refl w g'
     have hle:=cP.bp (s:=s.a9 u'.shared) (β:=β) (v':=v) (fr':=fr') (c':=c.wrap c') hent1 (Nat.le_refl _) ht' (fun _ _=>rfl) (fun _=>rfl)
     refine⟨g',β,h1.step (dC _ _ _) ht' hle (gh.bp h1.bH (by rw[hent1];simp) hle (fun _ _=>rfl) (fun _ _ _ _ _ _ _ _=>⟨rfl,rfl⟩) ?_)⟩
     obtain⟨u1,u2,u3⟩:=hP (p0++st::p) c.strip (cur0.toList.take (c.j5 cur0.size)) n u' _ c' cs (VO.of hV) hl hVx hup
     have u4:=u2.to (u3.jc hV.jc)
     rw[qy (vs:=cs) hcell]at u4
     have hsz:c'.size=c.strip.size:=by have e1:=u4.size;have e2:=hV.size;omega
     exact pD.obj ⟨pl0,cur0,e0,hp,hh,hg,nY hk u4.kH hsz,by rw[oD c u4.kH,pF u4.kH hsz];exact V.mono hle u4⟩
   ·simp only[ah]at hat
  ·simp only[ah]at hat
theorem om{E:Env}:∀(t:Ty) (x:t.den) (u:aA),(pJ t x).eval=some u→∀cs,cK E t cs x→V E u cs
 | .fh t,x,u,h,cs,hr=>by
  simp only[pJ]at h
  obtain⟨h1,h2⟩:=bA.1 h
  obtain rfl:=au.1 h2
  simp only[cK]at hr
  simp only[V]
  exact hr.1 (Option.isNone_iff_eq_none.1 h1)
 | .pair a b,x,u,h,cs,hr=>by
  simp only[pJ]at h
  obtain⟨u1,h1,h2⟩:=ao.1 h
  obtain⟨u2,h3,h4⟩:=ao.1 h2
  obtain rfl:=au.1 h4
  simp only[cK]at hr
  obtain⟨ca,cb,rfl,ha,hb⟩:=hr
  exact wZ (om a x.1 u1 h1 ca ha) (om b x.2 u2 h3 cb hb)
 | .int k,x,u,h,cs,hr=>by simp only[pJ]at h;obtain rfl:=au.1 h;simpa only[V]using hr
 | .bool,x,u,h,cs,hr=>by simp only[pJ]at h;obtain rfl:=au.1 h;simpa only[V]using hr
 | .str,x,u,h,cs,hr=>by simp only[pJ]at h;obtain rfl:=au.1 h;simpa only[V]using hr
 | .slice t,x,u,h,cs,hr=>by simp only[pJ]at h;obtain rfl:=au.1 h;simpa only[V]using hr
 | .unit,x,u,h,cs,hr=>by simp only[pJ]at h;obtain rfl:=au.1 h;simpa only[V]using hr
 | .arr n t,x,u,h,cs,hr=>by simp only[pJ]at h;obtain rfl:=au.1 h;simpa only[V]using hr
theorem yS{e:TypeId}{z:Nat}{c:aA}{pl:Pl}{n:Nat}(hz:0 < z)(h1:n=pl.cap*z)(h2:pl.cap≤maxLen)(h3:c.size≤n):(aA.bx e z c).mQ pl n e:=by
 cases z with
 |zero=>omega
 |succ z=>exact⟨rfl,h1,h2,h3⟩
theorem vf{e:TypeId}{z:Nat}{c:aA}{n:Nat}(hz:0 < z):(aA.bx e z c).j5 n=c.size:=by
 cases z with
 |zero=>omega
 |succ z=>rfl
theorem uF{e e':TypeId}{z:Nat}{c:aA}{pl:Pl}{n:Nat}(hz:0 < z)(h:(aA.bx e z c).mQ pl n e'):e'=e∧n=pl.cap*z∧pl.cap≤maxLen∧c.size≤n:=by
 cases z with
 |zero=>omega
 |succ z=>exact h
theorem wk{E:Env}{id:Id}{ver n:Nat}{p p':List oK}{y:Value}(h:VS E (.ptr id ver p n) y):VS E (.ptr id ver p' n) y:=by
 obtain⟨cs,h1,h2⟩:=h
 exact⟨cs,by simpa only[V]using h1,h2⟩
theorem Inv.Du(h:Inv C g β s a w){j:Nat}{id:Id}{ver n k v:Nat}{p p':List oK}(hj:s.slot j= .ptr id ver p n){e:TypeId}{t:Ty}{r:List t.den}(hob:s.obj id=some (v,false,.vec e t r))
  (hk:k < r.length) {u:aA} (hu:(pJ t (nth t r k)).eval=some u):
  fI C ((s.bp id (.obj v false (.bx e t.size (.pr (.d (.arr k t) (r.take k)) (.pr u (.d (.arr (r.drop (k+1)).length t) (r.drop (k+1)))))))).put (some j) (.ptr id ver p' n)) a w:=by
 have hent:=eg hob
 obtain⟨hz,hO⟩:lR (s.env w g β) id false (.vec e t r):=h.bH id v false _ hent
 have hO:(match β id with
  |none=>r=[]
  |some pl=>∃cur k,w.heap[pl.b]? =some (.cells cur e (0,0))∧cur.size=pl.cap*t.size∧r.length≤pl.cap∧pl.cap≤maxLen∧g pl.b= .own (.id id) k∧
    k≤r.length*t.size∧(false=false→k=0)∧aZ (cK (s.env w g β) t) (cur.toList.take (r.length*t.size)) r):=hO
 have ht:=Trans.refl w g
 have hle:cP (s.env w g β) ((s.bp id (.obj v false (.bx e t.size (.pr (.d (.arr k t) (r.take k)) (.pr u (.d (.arr (r.drop (k+1)).length t) (r.drop (k+1)))))))).env w g β):=
  cP.bp hent (Nat.le_refl _) ht (fun _ _=>rfl) (fun _=>rfl)
 have hI:=h.step (dC _ _ _) ht hle (gh.bp h.bH (by rw[hent];simp) hle (fun _ _=>rfl) (fun _ _ _ _ _ _ _ _=>⟨rfl,rfl⟩) (by
  cases hp:β id with
  |none=>rw[hp]at hO;simp only at hO;subst hO;simp at hk
  |some pl=>
   rw[hp]at hO
   obtain⟨cur,k0,q1,q2,q3,q4,q5,q6,q7,q8⟩:=hO
   have hk0:=q7 rfl
   subst hk0
   have hzz:∀c x,cK (s.env w g β) t c x→c.length=t.size:=fun c x hx=>hx.size
   have c1:=aZ.take hzz k q8
   have c2:=(q8.get hzz k hk)
   have c3:=aZ.drop hzz (k+1) q8
   have hu2:V (s.env w g β) u (((cur.toList.take (r.length*t.size)).drop (k*t.size)).take t.size):=om t _ u (by rw[rL hk]at hu;exact hu) _ c2
   have hus:=hu2.size
   have hlen:(cur.toList.take (r.length*t.size)).length=r.length*t.size:=aZ.length hzz q8
   have hsz:r.length*t.size≤cur.size:=by rw[q2];exact Nat.mul_le_mul_right _ q3
   have hkk:(k+1)*t.size≤r.length*t.size:=Nat.mul_le_mul_right _ hk
   have hk1:(k+1)*t.size=k*t.size+t.size:=Nat.succ_mul k t.size
   have hul:u.size=t.size:=by rw[←hus,List.length_take,List.length_drop,hlen];omega
   have hm:(r.drop (k+1)).length*t.size=r.length*t.size - (k+1)*t.size:=by rw[List.length_drop,Nat.sub_mul]
   have hcs:(aA.pr (.d (.arr k t) (r.take k)) (.pr u (.d (.arr (r.drop (k+1)).length t) (r.drop (k+1))))).size=r.length*t.size:=by
    simp only[aA.size,Ty.size,hul,hm]
    omega
   refine pD.obj ⟨pl,cur,e,hp,q1,q5,yS hz q2 q4 (by rw[hcs];exact hsz),?_⟩
   rw[vf hz,hcs]
   refine V.mono hle ?_
   show V _ (.pr (.d (.arr k t) (r.take k)) (.pr u (.d (.arr (r.drop (k+1)).length t) (r.drop (k+1))))) _
   simp only[V]
   generalize cur.toList.take (r.length*t.size)=R at*
   refine⟨R.take (k*t.size),R.drop (k*t.size),(List.take_append_drop _ _).symm,?_,(R.drop (k*t.size)).take t.size,R.drop ((k+1)*t.size),?_,hu2,?_⟩
   ·simp only[cK]
    exact⟨by rw[List.length_take];omega,c1⟩
   ·rw[hk1,←List.drop_drop,List.take_append_drop]
   ·simp only[cK]
    exact⟨trivial,c3⟩))
 refine⟨g,β,hI.DN j ?_⟩
 have:=h.cg j
 rw[hj]at this
 exact wk (VS.mono hle this)
theorem pM:∀(l:List Nat) {s s1:AS},fI C s a w→(y6 s l).eval=some s1→fI C s1 a w
 |[],s,s1,h,he=>by
  simp only[y6]at he
  obtain rfl:=au.1 he
  exact h
 |j::l,s,s1,h,he=>by
  obtain⟨g,β,h⟩:=h
  simp only[y6]at he
  split at he
  ·rename_i id ver k p n hj
   split at he
   ·rename_i v e t r hob
    obtain⟨h1,he⟩:=aC.1 he
    obtain⟨h2,he⟩:=bA.1 he
    obtain⟨u,h3,he⟩:=ao.1 he
    exact pM l (h.Du hj hob (of_decide_eq_true h2) h3) he
   ·simp only[ah]at he
  ·exact pM l ⟨g,β,h⟩ he
  ·simp only[ah]at he
theorem pI{s:AS}{id i:Id}(h:i≠id):(s.freeze id).bY i=s.bY i:=by
 unfold AS.freeze
 split
 ·exact dN s id i _ h
 ·rfl
theorem j9:∀(ids:List Id) {s:AS} {i:Id},i ∉ ids→(s.a9 ids).bY i=s.bY i
 |[],_,_,_=>rfl
 |id::ids,s,i,h=>by
  have h1:i≠id:=fun e=>h (by rw[e];exact List.mem_cons_self)
  exact(j9 ids fun hi=>h (List.mem_cons_of_mem _ hi)).trans (pI h1)
theorem Inv.DT(h:Inv C g β s a w){j:Nat}{id:Id}{ver n k m v z:Nat}{p p':List oK}(hj:s.slot j= .ptr id ver p n){e:TypeId}{t:Ty}{l1 l2:List t.den}{u:aA}
  (hob:s.obj id=some (v,false,.bx e z (.pr (.d (.arr k t) l1) (.pr u (.d (.arr m t) l2))))) (hz:z=t.size) (hz0:0 < z) (hid:id ∉ u.shared) {x:t.den} (hx:(s.fG t u).eval=some x):
  fI C (((s.a9 u.shared).bp id (.obj v false (.vec e t (l1++x::l2)))).put (some j) (.ptr id ver p' n)) a w:=by
 have hent:=eg hob
 obtain⟨pl0,cur0,e0,hp0,hh0,hg0,hk0,hV0⟩:=(h.bH id v false _ hent).box rfl
 obtain⟨g',h1,h2,h3,h4⟩:=fm u.shared h
 have hent1:(s.a9 u.shared).bY id=some (.obj v false (.bx e z (.pr (.d (.arr k t) l1) (.pr u (.d (.arr m t) l2))))):=(j9 _ hid).trans hent
 obtain⟨pl,cur,e1,hp,hh,hg,hk,hV⟩:=(h1.bH id v false _ hent1).box rfl
 have hp:β id=some pl:=hp
 have hpl:pl0=pl:=by
  have hp0:β id=some pl0:=hp0
  rw[hp0]at hp
  exact Option.some.inj hp
 subst hpl
 have hcur:cur0=cur:=by
  have hh0:w.heap[pl0.b]? =_:=hh0
  have hh:w.heap[pl0.b]? =_:=hh
  rw[hh0]at hh
  simpa using(congrArg (fun o=>match o with | some (.cells x _ _)=>x | _=>cur0) hh)
 subst hcur
 obtain⟨rfl,q2,q4,q3⟩:=uF hz0 hk
 rw[vf hz0]at hV0
 have hV0:V (s.env w g β) (.pr (.d (.arr k t) l1) (.pr u (.d (.arr m t) l2))) _:=hV0
 have hss:=hV0.size
 simp only[V]at hV0
 obtain⟨ca,cb,hR,hA,cu,cc,hcb,hU,hB⟩:=hV0
 subst hcb
 simp only[cK]at hA hB
 have hX:=j2 rfl h.bH h2 u t x cu hU hx h4
 have hzz:∀c x,cK ((s.a9 u.shared).env w g' β) t c x→c.length=t.size:=fun c x hx=>hx.size
 have cA:=hA.2.mono fun _ _ hx=>hx.mono h2.mem
 have cB:=hB.2.mono fun _ _ hx=>hx.mono h2.mem
 have hch:aZ (cK ((s.a9 u.shared).env w g' β) t) (ca++(cu++cc)) (l1++x::l2):=aZ.append cA ⟨cu,cc,rfl,hX,cB⟩
 have hlen:=aZ.length hzz hch
 have hcs:(aA.pr (.d (.arr k t) l1) (.pr u (.d (.arr m t) l2))).size=(l1++x::l2).length*t.size:=by rw[←hlen,←hR];exact hss.symm
 rw[hcs]at hR q3
 rw[hz]at q2
 have hle0:(l1++x::l2).length≤pl0.cap:=by
  rw[q2]at q3
  exact Nat.le_of_mul_le_mul_right q3 (by omega)
 have ht:=Trans.refl w g'
 have hle:cP ((s.a9 u.shared).env w g' β) (((s.a9 u.shared).bp id (.obj v false (.vec e1 t (l1++x::l2)))).env w g' β):=cP.bp hent1 (Nat.le_refl _) ht (fun _ _=>rfl) (fun _=>rfl)
 have hI:=h1.step (dC _ _ _) ht hle (gh.bp h1.bH (by rw[hent1];simp) hle (fun _ _=>rfl) (fun _ _ _ _ _ _ _ _=>⟨rfl,rfl⟩) (by
  refine⟨by omega,?_⟩
  show(match β id with
   |none=>l1++x::l2=[]
   |some pl=>_)
  rw[hp]
  exact⟨cur0,0,hh,q2,hle0,q4,hg,Nat.zero_le _,fun _=>rfl,by rw[hR];exact hch.mono fun _ _ hx=>hx.mono hle.mem⟩))
 refine⟨g',β,hI.DN j ?_⟩
 have:=h.cg j
 rw[hj]at this
 exact wk (VS.mono (h2.trans hle) this)
theorem tI:∀(l:List Nat) {s s1:AS},fI C s a w→(Bi s l).eval=some s1→fI C s1 a w
 |[],s,s1,h,he=>by
  simp only[Bi]at he
  obtain rfl:=au.1 he
  exact h
 |j::l,s,s1,h,he=>by
  obtain⟨g,β,h⟩:=h
  simp only[Bi]at he
  split at he
  ·rename_i id ver p n hj
   split at he
   ·rename_i v e z k t l1 u m t' l2 hob
    obtain⟨h1,he⟩:=aC.1 he
    obtain⟨l2',h2,he⟩:=ao.1 he
    obtain⟨x,h3,he⟩:=ao.1 he
    simp only[Bool.and_eq_true,beq_iff_eq,Bool.not_eq_true',beq_eq_false_iff_ne]at h1
    obtain⟨⟨⟨h5,h6⟩,h7⟩,h8⟩:=h1
    obtain⟨et,hl⟩:=fN (fT.1 h2)
    have et':t'=t:=by simpa using et
    subst et'
    simp only at hl
    subst hl
    refine tI l (h.DT hj hob h6 (by omega) (fun hi=> ?_) h3) he
    have:(u.shared.any fun i=>decide (i=id))=true:=List.any_eq_true.2 ⟨id,hi,by simp⟩
    rw[this]at h8
    cases h8
   ·simp only[ah]at he
  ·simp only[ah]at he
theorem oe:∀(l:List DX) {s s1:AS},fI C s a w→(s7 s l).eval=some s1→fI C s1 a w
 |[],s,s1,h,he=>by
  simp only[s7]at he
  obtain rfl:=au.1 he
  exact h
 |o::l,s,s1,h,he=>by
  obtain⟨g,β,h⟩:=h
  simp only[s7]at he
  obtain⟨u,hu,he⟩:=ao.1 he
  obtain⟨x,hx,he⟩:=ao.1 he
  obtain⟨s',hs,he⟩:=ao.1 he
  exact oe l (h.Dr hu hx hs) he
theorem jC(hC:∀i j,C.E.s (.new i j)=none):∀(l:List Bw) {s s1:AS},fI C s a w→(me P s l).eval=some s1→fI C s1 a w
 |[],s,s1,h,he=>by
  simp only[me]at he
  obtain rfl:=au.1 he
  exact h
 |o::l,s,s1,h,he=>by
  obtain⟨g,β,h⟩:=h
  simp only[me]at he
  obtain⟨u,hu,he⟩:=ao.1 he
  split at he
  ·split at he
   ·rename_i e t b hel hv
    obtain⟨s',h1,h2⟩:=ao.1 he
    exact jC hC l (h.DJ hu hv (sH hel) h1) h2
   ·simp only[ah]at he
  ·split at he
   ·rename_i b ver hhead
    split at he
    ·rename_i v fr c hob hm
     split at he
     ·obtain⟨g1,β1,h1⟩:=h.nj hC hob hm
      exact jC hC l ⟨g1,β1,h1⟩ he
     ·simp only[ah]at he
    ·simp only[ah]at he
   ·simp only[ah]at he
theorem sw:∀(l:List Nat) {s s1:AS},fI C s a w→(wR s l).eval=some s1→fI C s1 a w
 |[],s,s1,h,he=>by
  simp only[wR]at he
  obtain rfl:=au.1 he
  exact h
 |j::l,s,s1,h,he=>by
  obtain⟨g,β,h⟩:=h
  simp only[wR]at he
  split at he
  ·rename_i id ver len hj
   split at he
   ·rename_i v e t r hob
    split at he
    ·obtain⟨h1,h2⟩:=bA.1 he
     have h1:len≤r.length:=by simpa using h1
     refine sw l ?_ h2
     have hent:=eg hob
     have hO:lR (s.env w g β) id false (.vec e t r):=h.bH id v false _ hent
     have ht:=Trans.refl w g
     have hle:cP (s.env w g β) ((s.bp id (.obj v false (.vec e t (r.take len)))).env w g β):=cP.bp hent (Nat.le_refl _) ht (fun _ _=>rfl) (fun _=>rfl)
     refine⟨g,β,h.step (dC _ _ _) ht hle (gh.bp h.bH (by rw[hent];simp) hle (fun _ _=>rfl) (fun _ _ _ _ _ _ _ _=>⟨rfl,rfl⟩) ?_)⟩
     obtain⟨hz,hO⟩:=hO
     refine⟨hz,?_⟩
     have hO:(match β id with
      |none=>r=[]
      |some pl=>∃cur k,w.heap[pl.b]? =some (.cells cur e (0,0))∧cur.size=pl.cap*t.size∧r.length≤pl.cap∧pl.cap≤maxLen∧g pl.b= .own (.id id) k∧
        k≤r.length*t.size∧(false=false→k=0)∧aZ (cK (s.env w g β) t) (cur.toList.take (r.length*t.size)) r):=hO
     show(match β id with
      |none=>r.take len=[]
      |some pl=>_)
     cases hp:β id with
     |none=>rw[hp]at hO;simp only at hO;subst hO;simp
     |some pl=>
      rw[hp]at hO
      obtain⟨cur,k,q1,q2,q3,q4,q5,q6,q7,q8⟩:=hO
      have hk:=q7 rfl
      subst hk
      have hlen:(r.take len).length=len:=by simp;omega
      refine⟨cur,0,q1,q2,by omega,q4,q5,Nat.zero_le _,fun _=>rfl,?_⟩
      have:=aZ.take (fun _ _ hx=>cK.size hx) len q8
      rw[List.take_take,Nat.min_eq_left (Nat.mul_le_mul_right _ h1)]at this
      rw[hlen]
      exact this.mono fun _ _ hx=>hx.mono hle.mem
    ·simp only[ah]at he
   ·simp only[ah]at he
  ·simp only[ah]at he
theorem oM:∀(l:List (Nat×Ty)) {s s1:AS},fI C s a w→(asData s l).eval=some s1→fI C s1 a w
 |[],s,s1,h,he=>by
  simp only[asData]at he
  obtain rfl:=au.1 he
  exact h
 | (j,t)::l,s,s1,h,he=>by
  obtain⟨g,β,h⟩:=h
  simp only[asData]at he
  obtain⟨x,h1,h2⟩:=ao.1 he
  obtain⟨g',i1,_,_,cs,hR,hO⟩:=kP h (h.cg j) h1
  exact oM l ⟨g',β,i1.DN j (VS.of (a:= .d t x) (cs:=cs) (by simpa only[V]using hR) hO)⟩ h2
theorem jr(hC:∀i j,C.E.s (.new i j)=none){an:gZ}{s1:AS}(h:fI C s a w)(he:(norm P an s).eval=some s1):fI C s1 a w:=by
 unfold norm at he
 obtain⟨su,h0u,he⟩:=ao.1 he
 obtain⟨sd,h0d,he⟩:=ao.1 he
 obtain⟨s0,h1,h2⟩:=ao.1 he
 obtain⟨h3,h4⟩:=aC.1 h2
 obtain⟨sf,h5,h6⟩:=ao.1 h4
 obtain⟨g0,β0,h0⟩:=h
 obtain⟨g1,i1,_⟩:=fm an.yd h0
 obtain⟨g,β,h⟩:=oM _ (oe _ (tI _ ⟨g1,β0,i1⟩ h0u) h0d) h1
 exact jC hC _ (pM _ ⟨g,β,h.bh hC h3⟩ h5) h6
end
end Go.Ab
namespace Go.Ab
section
variable {P:Program} {Γ:dR} {an:eu} {C:Ctx}
def zO(P:Program)(Γ:dR)(an:eu)(N:Nat)(b:Code):Prop:=
 ∀le,an.fF (dP b)=some le→∀s x,le.run s=some x→
  ∃n,rI (norm P (an.loops (dP b))) (fun e=>norm P (an.outs (dP b) (yj e))) (ev P Γ an N b) n s (fun e s'=>some (e,s'))=(le.out x).eval
def uV(P:Program)(Γ:dR)(an:eu)(N:Nat):List Code→Prop
 |[]=>True
 |b::l=>zO P Γ an N b∧uV P Γ an N l
theorem uV.append{N:Nat}:∀ {l l':List Code},uV P Γ an N (l++l')→uV P Γ an N l∧uV P Γ an N l'
 |[],_,h=>⟨trivial,h⟩
 |_::_,_,⟨h1,h2⟩=>⟨⟨h1,(uV.append h2).1⟩,(uV.append h2).2⟩
theorem ow{R:Type}{r:R}{b:Code}{nrm:AS→Out AS}{nrmX:Exit→AS→Out AS}{body:AS→(Exit→AS→Option R)→Option R}
  (hn:∀s s1 a w,fI C s a w→(nrm s).eval=some s1→fI C s1 a w) (hx:∀e s s1 a w,fI C s a w→(nrmX e s).eval=some s1→fI C s1 a w)
  (hb:∀(s:AS) (a:Act) (w:World) (k:Exit→AS→Option R) (Q:Exit→Act→World→Prop),fI C s a w→body s k=some r→(∀e s' a' w',fI C s' a' w'→k e s'=some r→Q e a' w')→b.wp P Q a w)
  {k:Exit→AS→Option R} {Q:Exit→Act→World→Prop} (hk:∀e s' a' w',fI C s' a' w'→k e s'=some r→Q e a' w'):
  ∀(n:Nat) (s:AS) (a:Act) (w:World),fI C s a w→rI nrm nrmX body n s k=some r→Code.rounds P b Q n a w
 | 0,s,a,w,_,h=>by simp[rI]at h
 |n+1,s,a,w,hs,h=>by
  simp only[rI]at h
  rw[rounds_succ]
  refine hb s a w _ _ hs h fun e s' a' w' hs' hke=> ?_
  have exits:∀e,(nrmX e s').run (k e)=some r→Q e a' w':=fun e hke=>by
   obtain⟨s1,h1,h2⟩:=iv.1 hke
   exact hk e s1 a' w' (hx e s' s1 a' w' hs' h1) h2
  cases e with
  |normal=>
   simp only at hke
   obtain⟨s1,h1,h2⟩:=iv.1 hke
   exact ow hn hx hb hk n s1 a' w' (hn s' s1 a' w' hs' h1) h2
  |_=>exact exits _ hke
theorem oW(hC:∀i j,C.E.s (.new i j)=none){j:Option yL}{run: {R:Type}→(Exit→AS→Option R)→Option R}{c:Code}{a:Act}{w:World}
  (hrun:∀ {R:Type} {r:R} (k:Exit→AS→Option R) (Q:Exit→Act→World→Prop),run k=some r→(∀e s' a' w',fI C s' a' w'→k e s'=some r→Q e a' w')→c.wp P Q a w)
  {R:Type} {r:R} {k:Exit→AS→Option R} {Q:Exit→Act→World→Prop} (h:ur P j run k=some r) (hk:∀e s' a' w',fI C s' a' w'→k e s'=some r→Q e a' w'):c.wp P Q a w:=by
 cases j with
 |none=>exact hrun k Q h hk
 |some j=>
  simp only[ur]at h
  cases hx:run fun e s=>(norm P j.an s).run (j.D3 e) with
  |none=>rw[hx]at h;cases h
  |some x=>
   rw[hx]at h
   simp only[aq]at h
   obtain⟨y,hy,h⟩:=iv.1 h
   refine hrun _ Q hx fun e s' a' w' hs' hK=> ?_
   obtain⟨s1,h1,h2⟩:=iv.1 hK
   have he:=j.ok _ _ _ h2
   rw[hy,Option.some.injEq]at he
   subst he
   exact hk e s1 a' w' (jr hC hs' h1) h
theorem iX(hm:P.follows .mixedOrders=true)(hΓ:Sound P Γ)(hC:∀i j,C.E.s (.new i j)=none){N:Nat}:∀(c:Code),uV P Γ an N (gB c)→∀ {R:Type} {r:R} (s:AS) (a:Act) (w:World) (k:Exit→AS→Option R) (Q:Exit→Act→World→Prop),
  fI C s a w→ev P Γ an N c s k=some r→(∀e s' a' w',fI C s' a' w'→k e s'=some r→Q e a' w')→c.wp P Q a w
 | .skip,hL,_,_,s,a,w,k,Q,hs,h,hk=>wp_skip (hk _ _ _ _ hs h)
 | .region id ops draw,hL,_,_,s,a,w,k,Q,hs,h,hk=>by
  simp only[ev]at h
  refine oW hC (fun k Q h hk=> ?_) h hk
  cases draw with
  |true=>
   simp only at h
   split at h
   ·rename_i hE
    exact wu hm hΓ hs hE h fun s' a' w' hs' hk'=>hk _ _ _ _ hs' hk'
   ·cases h
  |false=>exact wp_region_list (qm hΓ ops.toList hs h fun s' a' w' hs' hk'=>hk _ _ _ _ hs' hk')
 | .seq x y,hL,_,_,s,a,w,k,Q,hs,h,hk=>by
  simp only[ev]at h
  refine wp_seq (oW hC (fun k Q h hk=>iX hm hΓ hC x hL.append.1 s a w k Q hs h hk) h fun e s' a' w' hs' hk'=> ?_)
  cases e with
  |normal=>exact iX hm hΓ hC y hL.append.2 s' a' w' k Q hs' hk' hk
  |_=>exact hk _ s' a' w' hs' hk'
 | .cond c x y,hL,_,_,s,a,w,k,Q,hs,h,hk=>by
  simp only[ev]at h
  split at h
  ·rename_i b hb
   have hc:a.eval c= .bool b:=by
    obtain⟨g,β,hi⟩:=hs
    have:=hi.ev c
    rw[hb]at this
    exact qM this
   refine wp_cond hc ?_
   cases b with
   |true=>exact iX hm hΓ hC x hL.append.1 s a w k Q hs h hk
   |false=>exact iX hm hΓ hC y hL.append.2 s a w k Q hs h hk
  ·cases h
 | .block id b,hL,_,_,s,a,w,k,Q,hs,h,hk=>by
  simp only[ev]at h
  refine wp_block (iX hm hΓ hC b hL s a w _ _ hs h fun e s' a' w' hs' hk'=> ?_)
  cases e with
  |exit i=>
   simp only at hk'
   simp only[Exit.inBlock]
   by_cases hi:i=id
   ·rw[if_pos hi]
    simp only[hi,decide_true]at hk'
    exact hk _ s' a' w' hs' hk'
   ·rw[if_neg hi]
    simp only[hi,decide_false]at hk'
    exact hk _ s' a' w' hs' hk'
  |_=>exact hk _ s' a' w' hs' hk'
 | .loop b,hL,R,r,s,a,w,k,Q,hs,h,hk=>by
  simp only[ev]at h
  obtain⟨s1,h1,h⟩:=iv.1 h
  have hs1:=jr hC hs h1
  obtain⟨hL1,hL2⟩:=(hL:zO P Γ an N b∧uV P Γ an N (gB b))
  split at h
  ·rename_i le hle
   unfold Bk at h
   cases hr:le.run s1 with
   |none=>rw[hr]at h;cases h
   |some x=>
    rw[hr]at h
    simp only[aq]at h
    obtain⟨y,hy,h⟩:=iv.1 h
    obtain⟨n,hn⟩:=hL1 le hle s1 x hr
    rw[hy]at hn
    refine wp_loop_rounds n (ow (fun s s1 a w hs hn=>jr hC hs hn) (fun e s s1 a w hs hn=>jr hC hs hn) (fun s a w k Q hs hb hk=>iX hm hΓ hC b hL2 s a w k Q hs hb hk) (fun e s' a' w' hs' he=> ?_) n s1 a w hs1 hn)
    simp only[Option.some.injEq]at he
    subst he
    exact hk e s' a' w' hs' h
  ·exact wp_loop_rounds N (ow (fun s s1 a w hs hn=>jr hC hs hn) (fun e s s1 a w hs hn=>jr hC hs hn) (fun s a w k Q hs hb hk=>iX hm hΓ hC b hL2 s a w k Q hs hb hk) hk N s1 a w hs1 h)
 | .exit id,hL,_,_,s,a,w,k,Q,hs,h,hk=>wp_exit (hk _ _ _ _ hs h)
 | .ret,hL,_,_,s,a,w,k,Q,hs,h,hk=>wp_ret (hk _ _ _ _ hs h)
 | .rangeFunc ..,_,_,_,_,_,_,_,_,_,h,_=>by simp[ev]at h
 | .scope b,hL,_,_,s,a,w,k,Q,hs,h,hk=>by
  simp only[ev]at h
  refine wp_scope_straight (iX hm hΓ hC b hL s a w _ _ hs h fun e s' a' w' hs' hk'=> ?_)
  cases e with
  |goto l=>cases hk'
  |_=>exact hk _ s' a' w' hs' hk'
 | .label _,hL,_,_,s,a,w,k,Q,hs,h,hk=>wp_label (hk _ _ _ _ hs h)
 | .goto _,_,_,_,_,_,_,_,_,_,h,_=>by simp[ev]at h
 | .refuse _,_,_,_,_,_,_,_,_,_,h,_=>by simp[ev]at h
variable {g:Nat→hZ} {β:Id→Option Pl} {s:AS} {a:Act} {w:World}
def rU(tmps:Array Value)(r:ResultVar):Sem Value:=
 match r with
 | .tmp t=>pure (tmps.getD t undef)
 | .cell a t=>do loadVar t (←asAddr (tmps.getD a undef))
theorem ph(h:Inv C g β s a w){r:ResultVar}{v:aA}(he:(rW P s r).eval=some v):∃x,(rU a.tmps r).run P w= .ok x w∧VS (s.env w g β) v x:=by
 cases r with
 |tmp t=>
  simp only[rW]at he
  obtain rfl:=au.1 he
  exact⟨_,by simp[rU],h.cg t⟩
 |cell t T=>
  simp only[rW]at he
  obtain⟨ad,z,hy,hr,hv⟩:=rG h (h.cg t) he
  exact⟨z,by simp[rU,hy,asAddr,hr],hv⟩
theorem pg(h:Inv C g β s a w){r:ResultVar}{o:Option Ty}{y:AS×aA}(he:(rV P s r o).eval=some y):
  ∃x g',(rU a.tmps r).run P w= .ok x w∧Inv C g' β y.1 a w∧cP (s.env w g β) (y.1.env w g' β)∧VS (y.1.env w g' β) y.2 x:=by
 cases o with
 |none=>
  simp only[rV]at he
  obtain⟨v,h1,h2⟩:=ao.1 he
  obtain rfl:=au.1 h2
  obtain⟨x,hx,hv⟩:=ph h h1
  exact⟨x,g,hx,h,cP.refl _,hv⟩
 |some t=>
  simp only[rV]at he
  obtain⟨v,h1,h2⟩:=ao.1 he
  obtain⟨d,h3,h4⟩:=ao.1 h2
  obtain rfl:=au.1 h4
  obtain⟨x,hx,hv⟩:=ph h h1
  obtain⟨g',i1,e1,_,cs,hR,hO⟩:=kP h hv h3
  exact⟨x,g',hx,i1,e1,VS.of (a:= .d t d) (cs:=cs) (by simpa only[V]using hR) hO⟩
theorem nV:∀(l:List ResultVar) (ts:List (Option Ty)) {s:AS} {g:Nat→hZ} (_:Inv C g β s a w) {y:AS×aA},(pj P s l ts).eval=some y→
  ∃(xs:List Value) (g':Nat→hZ),(l.mapM (rU a.tmps)).run P w= .ok xs w∧Inv C g' β y.1 a w∧cP (s.env w g β) (y.1.env w g' β)∧VC (y.1.env w g' β) y.2 xs∧xs.length=l.length
 |[],ts,s,g,h,y,he=>by
  simp only[pj]at he
  obtain rfl:=au.1 he
  exact⟨[],g,by simp,h,cP.refl _,by simp[VC],rfl⟩
 |r::l,ts,s,g,h,y,he=>by
  simp only[pj]at he
  obtain⟨u,h1,h2⟩:=ao.1 he
  obtain⟨hc,h2⟩:=aC.1 h2
  obtain⟨us,h3,h4⟩:=ao.1 h2
  obtain rfl:=au.1 h4
  obtain⟨x,g1,hx,i1,e1,hv⟩:=pg h h1
  obtain⟨xs,g2,hxs,i2,e2,hvs,hl⟩:=nV l ts.tail i1 h3
  obtain⟨cs,hV,hO⟩:=(hv.mono e2).ei hc
  refine⟨x::xs,g2,?_,i2,e1.trans e2,by simp only[VC];exact⟨x,xs,cs,rfl,hV,hO,hvs⟩,by simp[hl]⟩
  simp only[List.mapM_cons,Sem.run_bind,hx,Result.andThen_ok,hxs,Sem.run_pure]
theorem zU{E:Env}{v:aA}{xs:List Value}(h:VC E v xs):VS E v (.tuple xs.toArray):=by
 cases v <;> first
  | (simp only[VC]at h;done)
  |exact⟨xs,rfl,h⟩
  | (simp only[VC]at h;subst h;rfl)
theorem sR(h:Inv C g β s a w){fn:Func}{ts:List (Option Ty)}{y:AS×aA}(he:(uI P fn ts s).eval=some y):
  ∃x g',(results fn a.tmps).run P w= .ok x w∧Inv C g' β y.1 a w∧VS (y.1.env w g' β) y.2 x:=by
 have key:∀xs:List Value,(fn.results.toList.mapM (rU a.tmps)).run P w= .ok xs w→(results fn a.tmps).run P w= .ok (if h:xs.length=1 then xs[0] else .tuple xs.toArray) w:=fun xs hxs=>by
  have e:results fn a.tmps=(do
   let vs ←fn.results.mapM (rU a.tmps)
   pure (if h:vs.size=1 then vs[0] else .tuple vs)):=rfl
  rw[e,Array.mapM_eq_mapM_toList]
  simp only[map_eq_pure_bind,Sem.run_bind,hxs,Result.andThen_ok,Sem.run_pure]
  congr 1
 unfold uI at he
 split at he
 ·rename_i r hr
  obtain⟨x,g',hx,hi,_,hv⟩:=pg h he
  refine⟨x,g',?_,hi,hv⟩
  rw[key [x] (by simp[hr,hx])]
  simp
 ·rename_i rs hne
  obtain⟨xs,g',hx,hi,_,hv,hl⟩:=nV _ _ h he
  refine⟨.tuple xs.toArray,g',?_,hi,zU hv⟩
  rw[key xs hx,dif_neg]
  rw[hl]
  intro h1
  obtain⟨r,hr⟩:=List.length_eq_one_iff.1 h1
  exact hne r hr
end
end Go.Ab
namespace Go.Ab
def jo(ids:List Id):hZ→hZ
 | .own (.id (.new i j)) k=> .own (.id (match idxOf (.new i j) ids with | some m=> .new 0 m | none=> .new 1 0)) k
 |l=>l
def AU(β:Id→Option Pl)(ids:List Id):Id→Option Pl
 | .fB k=>β (.fB k)
 | .new 0 m=>(ids[m]?).bind β
 | .new (_+1) _=>none
theorem zf{ids:List Id}{g:Nat→hZ}{b off:Nat}(h:jT g b off):jT (fun b=>jo ids (g b)) b off:=by
 unfold jT at*
 simp only
 cases hg:g b with
 |free=>simp[jo]
 |own o k=>
  rw[hg]at h
  cases o with
  |eG=>exact h
  |id i=>cases i <;> exact h
theorem ug(s:AS)(v:aA):(s.pL v).Nodup:=(jW s _ _ _ (by simp)).filter _
theorem xm{s:AS}{v:aA}{id:Id}(h:id∈s.pL v):∃i j,id= .new i j:=by
 unfold AS.pL at h
 have:=(List.mem_filter.1 h).2
 cases id with
 |fB k=>simp[Id.Cm]at this
 |new i j=>exact⟨i,j,rfl⟩
section
variable {P:Program} {Γ:dR} {C:Ctx} {g:Nat→hZ} {β:Id→Option Pl} {s:AS} {a:Act} {w:World}
theorem y5(h:Inv C g β s a w)(hC:∀i j,C.E.s (.new i j)=none){v:aA}{x:Value}(hv:VS (s.env w g β) v x):mI C.E (s.fin v) x w:=by
 unfold AS.fin
 have hn:=ug s v
 have hnew:∀id∈s.pL v,∃i j,id= .new i j:=fun id hid=>xm hid
 generalize s.pL v=ids at hn hnew
 generalize hG:s.Ci ids v=G
 have hval:G.val=v.fR (oo ids):=by rw[←hG];rfl
 have hold:∀k,G.st.bY (.fB k)=(s.bY (.fB k)).map (eF.fin ids):=fun k=>by
  rw[←hG]
  show(s.db.map (eF.fin ids))[k]? =_
  rw[List.getElem?_map];rfl
 have hnw:∀m,G.st.bY (.new 0 m)=(ids[m]?).map fun id=>((s.bY id).getD .dead).fin ids:=fun m=>by
  rw[←hG]
  show(ids.map fun id=>((s.bY id).getD .dead).fin ids)[m]? =_
  rw[List.getElem?_map]
 have hns:∀i m,G.st.bY (.new (i+1) m)=none:=fun i m=>by simp[aY.st,AS.bY]
 let g':Nat→hZ:=fun b=>jo ids (g b)
 let β':=AU β ids
 have hfin:∀e ver fr c,eF.fin ids e= .obj ver fr c→∃c0,e= .obj ver fr c0∧c=c0.fR (oo ids):=fun e ver fr c he=>by
  cases e with
  |dead=>cases he
  |obj v0 fr0 c0=>
   simp only[eF.fin,eF.obj.injEq]at he
   obtain⟨rfl,rfl,rfl⟩:=he
   exact⟨c0,rfl,rfl⟩
 have hle:mq (oo ids) (s.env w g β) (G.st.env w g' β'):=by
  refine⟨⟨fun b off v ⟨h1,h2⟩=>⟨h1,zf h2⟩,fun b ob h1 h2=>⟨by show jo ids (g b)= .free;have h1:g b= .free:=h1;rw[h1];rfl,h2⟩⟩,fun id ver r hr hb=> ?_⟩
  obtain⟨hb1,hb2⟩:=hb
  have hb1:s.bY id≠none:=hb1
  have hb2:∀v fr c,s.bY id=some (.obj v fr c)→ver≤v:=hb2
  cases id with
  |fB k=>
   simp only[oo,Option.some.injEq]at hr
   subst hr
   refine⟨⟨?_,fun v fr c hh=> ?_⟩,fun⟨fr,c,hh⟩=>⟨?_,rfl⟩⟩
   ·show G.st.bY (.fB k)≠none
    rw[hold];simpa using hb1
   ·have hh:G.st.bY (.fB k)=some (.obj v fr c):=hh
    rw[hold,Option.map_eq_some_iff]at hh
    obtain⟨e,he,hh⟩:=hh
    obtain⟨c0,rfl,_⟩:=hfin _ _ _ _ hh
    exact hb2 v fr c0 he
   ·have hh:G.st.bY (.fB k)=some (.obj ver fr c):=hh
    rw[hold,Option.map_eq_some_iff]at hh
    obtain⟨e,he,hh⟩:=hh
    obtain⟨c0,rfl,_⟩:=hfin _ _ _ _ hh
    exact⟨fr,c0,he⟩
  |new i j=>
   simp only[oo]at hr
   split at hr
   ·rename_i m hm
    simp only[Option.some.injEq]at hr
    subst hr
    have hid:=iH hm
    obtain⟨e,he⟩:=Option.ne_none_iff_exists'.1 hb1
    have hg:G.st.bY (.new 0 m)=some (e.fin ids):=by rw[hnw,hid];simp[he]
    refine⟨⟨?_,fun v fr c hh=> ?_⟩,fun⟨fr,c,hh⟩=>⟨?_,?_⟩⟩
    ·show G.st.bY (.new 0 m)≠none
     rw[hg];simp
    ·have hh:G.st.bY (.new 0 m)=some (.obj v fr c):=hh
     rw[hg,Option.some.injEq]at hh
     obtain⟨c0,rfl,_⟩:=hfin _ _ _ _ hh
     exact hb2 v fr c0 he
    ·have hh:G.st.bY (.new 0 m)=some (.obj ver fr c):=hh
     rw[hg,Option.some.injEq]at hh
     obtain⟨c0,rfl,_⟩:=hfin _ _ _ _ hh
     exact⟨fr,c0,he⟩
    ·show(ids[m]?).bind β=β (.new i j)
     rw[hid];rfl
   ·cases hr
 have htr:Trans C.E.w w C.E.g g':=by
  have h0:=h.trans
  refine⟨h0.os,h0.tape,h0.output,h0.size,fun b hb=> ?_⟩
  have h1:=h0.yP b hb
  show match C.E.g b with | .free=>jo ids (g b)= .free∧_ | .own .eG k=>jo ids (g b)= .own .eG k∧_ | .own (.id _) k=>(jo ids (g b)= .free∨∃i k',jo ids (g b)= .own (.id i) k'∧k≤k')∧_
  cases hgb:C.E.g b with
  |free=>simp only[hgb]at h1 ⊢;rw[h1.1];exact⟨rfl,h1.2⟩
  |own o k=>cases o with
   |eG=>simp only[hgb]at h1 ⊢;rw[h1.1];exact⟨rfl,h1.2⟩
   |id i=>
    simp only[hgb]at h1 ⊢
    refine⟨?_,h1.2⟩
    rcases h1.1 with h2 | ⟨i',k',h2,h3⟩
    ·rw[h2];exact .inl rfl
    ·rw[h2]
     right
     cases i' with
     |fB m=>exact⟨_,k',rfl,h3⟩
     |new i j=>exact⟨_,k',rfl,h3⟩
 have hobj:gh (G.st.env w g' β'):=by
  intro id ver fr c hid
  have hid:G.st.bY id=some (.obj ver fr c):=hid
  cases id with
  |fB k=>
   rw[hold,Option.map_eq_some_iff]at hid
   obtain⟨e,he,hid⟩:=hid
   obtain⟨c0,rfl,rfl⟩:=hfin _ _ _ _ hid
   refine lz hle (h.bH (.fB k) ver fr c0 he) rfl fun pl _=>⟨rfl,fun n hg=> ?_,fun hg=> ?_⟩
   ·have hg:g pl.b= .own (.id (.fB k)) n:=hg
    show jo ids (g pl.b)=_
    rw[hg];rfl
   ·have hg:g pl.b= .free:=hg
    show jo ids (g pl.b)=_
    rw[hg];rfl
  |new i m=>
   cases i with
   |succ i=>rw[hns]at hid;cases hid
   |zero=>
    rw[hnw,Option.map_eq_some_iff]at hid
    obtain⟨id0,hid0,hid⟩:=hid
    obtain⟨c0,he,rfl⟩:=hfin _ _ _ _ hid
    have hent:s.bY id0=some (.obj ver fr c0):=by
     cases hs:s.bY id0 with
     |none=>rw[hs]at he;cases he
     |some e=>rw[hs]at he;simp only[Option.getD_some]at he;rw[he]
    obtain⟨i0,j0,rfl⟩:=hnew id0 (List.mem_of_getElem? hid0)
    refine lz hle (h.bH (.new i0 j0) ver fr c0 hent) (by show(ids[m]?).bind β=_;rw[hid0];rfl) fun pl _=>⟨rfl,fun n hg=> ?_,fun hg=> ?_⟩
    ·have hg:g pl.b= .own (.id (.new i0 j0)) n:=hg
     show jo ids (g pl.b)=_
     rw[hg]
     simp only[jo,kY hn hid0]
    ·have hg:g pl.b= .free:=hg
     show jo ids (g pl.b)=_
     rw[hg];rfl
 have ho:∀id ver,C.E.qL id ver→∃k,id= .fB k:=fun id ver hb=>by
  cases id with
  |fB k=>exact⟨k,rfl⟩
  |new i j=>exact absurd (hC i j) hb.1
 refine⟨g',β',by rw[hval];exact qX hle hv,hobj,htr,Trans.mem (E:=C.E) (E':=G.st.env w g' β') htr,fun id ver hb=> ?_,fun id ver hb hc=> ?_⟩
 ·obtain⟨k,rfl⟩:=ho id ver hb
  exact(hle.ref (.fB k) ver (.fB k,ver) rfl (h.le.qL _ _ hb)).1
 ·obtain⟨k,rfl⟩:=ho id ver hb
  obtain⟨h1,h2⟩:=(hle.ref (.fB k) ver (.fB k,ver) rfl (h.le.qL _ _ hb)).2 hc
  obtain⟨h3,h4⟩:=h.le.cur _ _ hb h1
  exact⟨h3,h2.trans h4⟩
theorem oI.len{E:Env}:∀ {as:List aA} {vs:List Value},oI E as vs→as.length=vs.length
 |[],[],_=>rfl
 |_::_,_::_,⟨_,h⟩=>by simp[oI.len h]
 |[],_::_,h=>h.elim
 |_::_,[],h=>h.elim
theorem oI.get{E:Env}:∀ {as:List aA} {vs:List Value},oI E as vs→∀i,VS E (as.getD i .undef) (vs.getD i undef)
 |[],[],_,i=>by simpa using VS.undef
 |_::_,_::_,⟨h,_⟩,0=>by simpa using h
 |_::_,_::_,⟨_,h⟩,i+1=>by simpa using oI.get h i
 |[],_::_,h,_=>h.elim
 |_::_,[],h,_=>h.elim
theorem zI{w:World}{g:Nat→hZ}{β:Id→Option Pl}{fn:Func}{args:List aA}{db:List eF}{jh:List Value}(hv:oI ((ig db).env w g β) args jh)(ho:gh ((ig db).env w g β)):
  Inv ⟨(ig db).env w g β⟩ g β (start fn args db) {tmps:=jh.toArray++Array.replicate (fn.ntmps - jh.toArray.size) undef,defers:=[]} w:=by
 have hl:=hv.len
 have hent:(start fn args db).bY=(ig db).bY:=by
  funext id
  cases id with
  |fB k=>rfl
  |new i j=>
   simp only[start,ig,AS.bY,List.getD_eq_getElem?_getD,List.getElem?_replicate]
   split <;> simp
 have henv:(start fn args db).env w g β=(ig db).env w g β:=by simp only[AS.env,hent]
 refine⟨rfl,by simp[start,hl],fun i=> ?_,by rw[henv];exact ho,Trans.refl _ _,by rw[henv];exact cP.refl _⟩
 rw[henv]
 have h1:(start fn args db).slot i=args.getD i .undef:=by
  simp only[start,AS.slot,List.getD_eq_getElem?_getD,List.getElem?_append,List.getElem?_replicate]
  split
  ·rfl
  ·rw[List.getElem?_eq_none (l:=args) (by omega)]
   split <;> rfl
 have h2:(jh.toArray++Array.replicate (fn.ntmps - jh.toArray.size) undef).getD i undef=jh.getD i undef:=by
  simp only[Array.getD_eq_getD_getElem?,List.getD_eq_getElem?_getD,Array.getElem?_append,Array.getElem?_replicate]
  simp only[List.size_toArray,List.getElem?_toArray]
  split
  ·rfl
  ·rw[List.getElem?_eq_none (l:=jh) (by omega)]
   split <;> rfl
 rw[h1,h2]
 exact hv.get i
theorem lv.pW(hm:P.follows .mixedOrders=true)(hΓ:Sound P Γ){f:FuncId}{fn:Func}(hf:P.funcs[f]? =some fn)(hb:fn.body.isSome=true)(hname:(fn.name== "runtime.NumGoroutine")=false){en:Entry}{an:eu}{N:Nat}(hL:∀c,fn.body=some c→uV P Γ an N (gB c))
  (h:∀args db x,en.run args db=some x→By P Γ an N fn args db some=some (en.out args db x)):lv P f en:=by
 intro w g β args db jh x hv ho hx
 left
 obtain⟨c,hc⟩:=Option.isSome_iff_exists.1 hb
 refine⟨?_,?_⟩
 ·unfold callFunc
  have hname':¬fn.name= "runtime.NumGoroutine" :=by simpa using hname
  simp[hf,hname',hc]
 ·have hN:=h args db x hx
  unfold By at hN
  rw[hc]at hN
  simp only at hN
  have hC:∀i j,((ig db).env w g β).s (.new i j)=none:=fun i j=>by simp[AS.env,ig,AS.bY]
  refine calls_of_wp hf hc (iX (C:=⟨(ig db).env w g β⟩) hm hΓ hC c (hL c hc) _ _ w _ _ ⟨g,β,zI hv ho⟩ hN fun e s' a' w' hs' hk'=> ?_)
  have fin:(finish P an fn s').run (fun v=>some v)=some (en.out args db x)→a'.defers=[]∧∃v,(results fn a'.tmps).run P w'= .ok v w'∧∃u,Ending.returned v= .returned u∧mI ((ig db).env w g β) (en.out args db x) u w':=fun hr=>by
   obtain⟨G,h1,h2⟩:=iv.1 hr
   simp only[Option.some.injEq]at h2
   subst h2
   unfold finish at h1
   obtain⟨sd,h0d,h1⟩:=ao.1 h1
   obtain⟨s2,h3,h4⟩:=ao.1 h1
   obtain⟨s3,h4a,h4⟩:=ao.1 h4
   obtain⟨y,h5,h6⟩:=ao.1 h4
   obtain⟨g0,β0,hi0⟩:=oe _ hs' h0d
   obtain⟨g',β',hi⟩:=sw _ (jC hC _ ⟨g0,β0,hi0.drop _⟩ h3) h4a
   obtain⟨z,g2,h7,h8,h9⟩:=sR hi h5
   refine⟨hi.defers,z,h7,z,rfl,?_⟩
   rw[←au.1 h6]
   exact y5 h8 hC h9
  cases e with
  |normal=>exact fin hk'
  |ret=>exact fin hk'
  |_=>cases hk'
end
end Go.Ab
namespace Go.Ab
def dA(k:IntKind)(n:Int):Int:=k.wrap n
def bK(k:IntKind)(x y:Int):Int:=k.wrap (x+y)
def dd(k:IntKind)(x y:Int):Int:=k.wrap (x - y)
def eT(k:IntKind)(x y:Int):Int:=k.wrap (x*y)
def kF(k:IntKind)(x y:Int):Int:=k.wrap (x.tdiv y)
def iT(x y:Int):Int:=x.tmod y
def gm(k:IntKind)(x y:Int):Int:=k.wrap (x*2^(min y.toNat k.bits))
def bI(k:IntKind)(x y:Int):Int:=x.fdiv (2^(min y.toNat k.bits))
def BP(k:IntKind)(x:Int):Int:=cl .xor k (if k.signed then -1 else k.max) x
def nN(x y:Int):Bool:=x==y
def ku(x y:Int):Bool:=x !=y
def fY(x y:Int):Bool:=decide (x < y)
def za(x y:Int):Bool:=decide (x≤y)
def mG(x y:Int):Bool:=decide (x > y)
def mZ(x y:Int):Bool:=decide (x≥y)
def seq(x y:ByteArray):Bool:=x.toList==y.toList
def wD(a:ByteArray)(i:Int):Int:=((a.data.toList.getD i.toNat 0).toNat:Int)
def eh(i n:Int):Bool:=decide (0≤i∧i < n)
def inc(i n:Int):Bool:=decide (0≤i∧i≤n)
def gD(y:Int):Bool:=decide (0≤y)
def iB(y:Int):Bool:= !(decide (y=0))
open Classical in
noncomputable def bM.of{D X:Type}(st:D→AS)(aB:D→Prop)(F:D→X)(out:X→Out (Exit×AS)):bM:=
 {X,run:=fun s=>if h:∃d,st d=s∧aB d then some (F h.choose) else none,out}
open Classical in
theorem bM.pW{D X:Type}{st:D→AS}{aB:D→Prop}{F:D→X}{out:X→Out (Exit×AS)}(hinj:∀d d',st d=st d'→d=d'){d:D}(h:aB d):(bM.of st aB F out).run (st d)=some (F d):=by
 have hex:∃d',st d'=st d∧aB d':=⟨d,rfl,h⟩
 show(if h:∃d',st d'=st d∧aB d' then some (F h.choose) else none)=_
 rw[dif_pos hex,hinj _ _ hex.choose_spec.1]
open Classical in
noncomputable def yL.of{X:Type}(an:gZ)(st:X→AS):yL:=
 {an,X,D3:=fun e s=>if h:e= .normal∧∃x,st x=s then some h.2.choose else none,out:=fun x=> .ok (.normal,st x),
  ok:=fun e s x h=>by
   by_cases h1:e= .normal∧∃x,st x=s
   ·rw[dif_pos h1]at h
    have h2:=h1.2.choose_spec
    rw[Option.some.inj h]at h2
    rw[h1.1,←h2]
    rfl
   ·rw[dif_neg h1]at h;cases h}
open Classical in
open Classical in
theorem zO.of{P:Program}{Γ:dR}{an:eu}{N:Nat}{fn:Func}{i:Nat}{D X:Type}{st:D→AS}{aB:D→Prop}{F:D→X}{out:X→Out (Exit×AS)}
  (hle:an.fF (dP (iG fn i))=some (bM.of st aB F out)) (h:∀d,aB d→∃n,vR P Γ an N fn i n (st d) (fun e s=>some (e,s))=(out (F d)).eval):zO P Γ an N (iG fn i):=by
 intro le hle' s x hx
 rw[hle]at hle'
 simp only[Option.some.injEq]at hle'
 subst hle'
 change (if h:∃d',st d'=s∧aB d' then some (F h.choose) else none)=some x at hx
 split at hx
 ·rename_i hex
  obtain rfl:=Option.some.inj hx
  obtain⟨h1,h2⟩:=hex.choose_spec
  obtain⟨n,hn⟩:=h _ h2
  refine⟨n,?_⟩
  show vR P Γ an N fn i n s _=_
  rw[h1]at hn
  exact hn
 ·cases hx
theorem tj(P:Program)(Γ:dR)(an:eu)(N:Nat)(fn:Func)(i:Nat){R:Type}(n:Nat)(s:AS)(k:Exit→AS→Option R):
  vR P Γ an N fn i (n+1) s k=pS P Γ an N fn i s (fun s1=>vR P Γ an N fn i n s1 k) k:=rfl
theorem yn{P:Program}{Γ:dR}{an:eu}{N:Nat}{fn:Func}{i:Nat}{D X:Type}{st:D→AS}{aB:D→Prop}{F:D→X}{out:X→Out (Exit×AS)}(μ:D→Nat)
  (h:∀d,aB d→(∃d',aB d'∧μ d' < μ d∧F d'=F d∧∀ {R:Type} (kn:AS→Option R) (kx:Exit→AS→Option R),pS P Γ an N fn i (st d) kn kx=kn (st d'))∨
   (∃r,(out (F d)).eval=some r∧∀ {R:Type} (kn:AS→Option R) (kx:Exit→AS→Option R),pS P Γ an N fn i (st d) kn kx=kx r.1 r.2)):
  ∀d,aB d→∃n,vR P Γ an N fn i n (st d) (fun e s=>some (e,s))=(out (F d)).eval:=by
 have key:∀m d,μ d=m→aB d→∃n,vR P Γ an N fn i n (st d) (fun e s=>some (e,s))=(out (F d)).eval:=by
  intro m
  induction m using Nat.strongRecOn with
  |_ m ih=>
   intro d hm hp
   rcases h d hp with⟨d',hp',hlt,hF,hr⟩ | ⟨r,hr,hx⟩
   ·obtain⟨n,hn⟩:=ih (μ d') (by omega) d' rfl hp'
    exact⟨n+1,by rw[tj,hr,hn,hF]⟩
   ·exact⟨1,by rw[tj,hx,hr]⟩
 exact fun d hp=>key _ d rfl hp
theorem AG{P:Program}{Γ:dR}{an:eu}{N:Nat}{fn:Func}{i:Nat}{D X:Type}{st:D→AS}{aB:D→Prop}{F:D→X}{ex:X→Exit×AS}(μ:D→Nat)
  (h:∀d,aB d→(∃d',aB d'∧μ d' < μ d∧F d'=F d∧∀ {R:Type} (kn:AS→Option R) (kx:Exit→AS→Option R),pS P Γ an N fn i (st d) kn kx=kn (st d'))∨
   (∀ {R:Type} (kn:AS→Option R) (kx:Exit→AS→Option R),pS P Γ an N fn i (st d) kn kx=kx (ex (F d)).1 (ex (F d)).2)):
  ∀d,aB d→∃n,vR P Γ an N fn i n (st d) (fun e s=>some (e,s))=(Out.ok (ex (F d))).eval:=
 yn (out:=fun x=> .ok (ex x)) μ fun d hp=>(h d hp).imp id fun h=>⟨_,rfl,h⟩
open Classical in
noncomputable def Entry.of{D X:Type}(params:List (Option Ty))(st:D→List aA×List eF)(aB:D→Prop)(F:D→X)(out:X→aY):Entry:=
 {params,X,run:=fun args db=>if h:∃d,st d=(args,db)∧aB d then some (F h.choose) else none,out:=fun _ _=>out}
open Classical in
theorem Entry.pW{D X:Type}{params:List (Option Ty)}{st:D→List aA×List eF}{aB:D→Prop}{F:D→X}{out:X→aY}(hinj:∀d d',st d=st d'→d=d'){d:D}(h:aB d):
  (Entry.of params st aB F out).run (st d).1 (st d).2=some (F d):=by
 have hex:∃d',st d'=((st d).1,(st d).2)∧aB d':=⟨d,rfl,h⟩
 show(if h:∃d',st d'=((st d).1,(st d).2)∧aB d' then some (F h.choose) else none)=_
 rw[dif_pos hex,hinj _ _ hex.choose_spec.1]
open Classical in
theorem lv.of{P:Program}{Γ:dR}(hm:P.follows .mixedOrders=true)(hΓ:Sound P Γ){f:FuncId}{fn:Func}(hf:P.funcs[f]? =some fn)(hb:fn.body.isSome=true)(hname:(fn.name== "runtime.NumGoroutine")=false){an:eu}{N:Nat}
  (hL:∀c,fn.body=some c→uV P Γ an N (gB c)) {D X:Type} {params:List (Option Ty)} {st:D→List aA×List eF} {aB:D→Prop} {F:D→X} {out:X→aY}
  (h:∀d,aB d→By P Γ an N fn (st d).1 (st d).2 some=some (out (F d))):lv P f (Entry.of params st aB F out):=by
 refine lv.pW hm hΓ hf hb hname hL fun args db x hx=> ?_
 change (if h:∃d',st d'=(args,db)∧aB d' then some (F h.choose) else none)=some x at hx
 split at hx
 ·rename_i hex
  obtain rfl:=Option.some.inj hx
  obtain⟨h1,h2⟩:=hex.choose_spec
  have:=h _ h2
  rw[h1]at this
  exact this
 ·cases hx
def Dd(P:Program)(Γ:dR)(an:eu)(N:Nat)(fn:Func):Nat→Nat→Prop
 | 0,_=>True
 |n+1,i=>zO P Γ an N (iG fn i)∧Dd P Γ an N fn n (i+1)
theorem Dd.get{P:Program}{Γ:dR}{an:eu}{N:Nat}{fn:Func}:∀ {n i:Nat},Dd P Γ an N fn n i→∀j,j < n→zO P Γ an N (iG fn (i+j))
 | 0,_,_,j,hj=>by omega
 |n+1,i,h,0,_=>h.1
 |n+1,i,h,j+1,hj=>by
  have:=Dd.get h.2 j (by omega)
  rwa[show i+1+j=i+(j+1) by omega]at this
theorem uV.AP{P:Program}{Γ:dR}{an:eu}{N:Nat}:∀(l:List Code),(∀j,j < l.length→zO P Γ an N (l.getD j .skip))→uV P Γ an N l
 |[],_=>trivial
 |b::l,h=>⟨h 0 (by simp),uV.AP l fun j hj=>by have:=h (j+1) (by simpa using hj);simpa using this⟩
theorem uV.fn{P:Program}{Γ:dR}{an:eu}{N:Nat}{fn:Func}(n:Nat)(hn:(match fn.body with | some c=>(gB c).length | none=>0)=n)(h:Dd P Γ an N fn n 0):∀c,fn.body=some c→uV P Γ an N (gB c):=by
 intro c hc
 refine uV.AP _ fun j hj=> ?_
 rw[hc]at hn
 simp only at hn
 have:=h.get j (by omega)
 unfold iG at this
 rw[hc]at this
 simpa using this
theorem zO.none{P:Program}{Γ:dR}{an:eu}{N:Nat}{fn:Func}{i:Nat}(h:an.fF (dP (iG fn i))=none):zO P Γ an N (iG fn i):=fun le hle=>by
 rw[h]at hle;cases hle
def Dx:dR:=fun _ _=>none
theorem Sound.nil(P:Program):Sound P Dx:=fun _ _ _ h=>by cases h
def Ar(f:FuncId)(p:List aA→Bool)(en:Entry)(Γ:dR):dR:=fun g vs=>match Nat.beq g f with | true=>(match p vs with | true=>some en | false=>Γ g vs) | false=>Γ g vs
theorem Sound.cons{P:Program}{f:FuncId}{p:List aA→Bool}{en:Entry}{Γ:dR}(h:lv P f en)(hΓ:Sound P Γ):Sound P (Ar f p en Γ):=fun g vs e hg=>by
 unfold Ar at hg
 split at hg
 ·rename_i he
  have:g=f:=Nat.eq_of_beq_eq_true he
  split at hg
  ·simp only[Option.some.injEq]at hg
   subst hg this
   exact h
  ·exact hΓ g vs e hg
 ·exact hΓ g vs e hg
theorem Ch{t:Ty}{x y:t.den}(h:aA.d t x=aA.d t y):x=y:=by
 injection h with _ h
def aU:List aA→Bool:=fun _=>true
def zo:List aA→Bool | .cU::_=>true | _=>false
def zH:List aA→Bool | .cd .. ::_=>true | _=>false
@[simp] theorem az{α:Type}(x y:Option α):aJ true x y=x:=rfl
@[simp] theorem ay{α:Type}(x y:Option α):aJ false x y=y:=rfl
@[simp] theorem ab{α β:Type}(x:α)(f:α→Option β):aq (some x) f=f x:=rfl
@[simp] theorem nH{α:Type}(x:Option α):nd x x=x:=by simp[nd]
structure SG(P:Program) where
 f:FuncId
 p:List aA→Bool
 e:Entry
 h:lv P f e
def eO{P:Program}:List (SG P)→dR
 |[]=>Dx
 |a::l=>Ar a.f a.p a.e (eO l)
theorem Sound.eO{P:Program}:∀l:List (SG P),Sound P (eO l)
 |[]=>Sound.nil P
 |a::l=>Sound.cons a.h (Sound.eO l)
abbrev SA:=List aA×List eF
noncomputable def cI(P:Program)(G:dR)(an:eu)(N:Nat)(fn:Func){D:Type}(st:D→SA){R:Type}(d:D)(k:aY→Option R):Option R:=By P G an N fn (st d).1 (st d).2 k
noncomputable def cf(P:Program)(G:dR)(an:eu)(N:Nat)(fn:Func)(i:Nat){D:Type}(st:D→AS){R:Type}(d:D)(kn:AS→Option R)(kx:Exit→AS→Option R):Option R:=pS P G an N fn i (st d) kn kx
abbrev cJ{D X Y:Type}(A: {R:Type}→D→(aY→Option R)→Option R)(aB:D→Prop)(add:D→Y→X)(F:D→Y)(out:X→aY):Prop:=
 ∀d,aB d→A d some=some (out (add d (F d)))
abbrev ez(P:Program)(G:dR)(an:eu)(N:Nat)(fn:Func)(i:Nat){D X Y:Type}(st:D→AS)(aB:D→Prop)(add:D→Y→X)(F:D→Y)(out:X→Out (Exit×AS)):Prop:=
 ∀d,aB d→∃n,vR P G an N fn i n (st d) (fun e s=>some (e,s))=(out (add d (F d))).eval
abbrev fP{D X Y:Type}(R: {R:Type}→D→(AS→Option R)→(Exit→AS→Option R)→Option R)(st:D→AS)(aB:D→Prop)(add:D→Y→X)(F:D→Y)(ex:X→Exit×AS)(C:Prop):Prop:=
 ∀μ:D→Nat,(∀d,aB d→(∃d',aB d'∧μ d' < μ d∧add d' (F d')=add d (F d)∧∀ {T:Type} (kn:AS→Option T) (kx:Exit→AS→Option T),R d kn kx=kn (st d'))∨
  (∀ {T:Type} (kn:AS→Option T) (kx:Exit→AS→Option T),R d kn kx=kx (ex (add d (F d))).1 (ex (add d (F d))).2))→C
abbrev jl{D X Y:Type}(R: {R:Type}→D→(AS→Option R)→(Exit→AS→Option R)→Option R)(st:D→AS)(aB:D→Prop)(add:D→Y→X)(F:D→Y)(out:X→Out (Exit×AS))(C:Prop):Prop:=
 ∀μ:D→Nat,(∀d,aB d→(∃d',aB d'∧μ d' < μ d∧add d' (F d')=add d (F d)∧∀ {T:Type} (kn:AS→Option T) (kx:Exit→AS→Option T),R d kn kx=kn (st d'))∨
  (∃r,(out (add d (F d))).eval=some r∧∀ {T:Type} (kn:AS→Option T) (kx:Exit→AS→Option T),R d kn kx=kx r.1 r.2))→C
theorem fS{P:Program}{G:dR}{an:eu}{N:Nat}{fn:Func}{i:Nat}{D X Y:Type}{st:D→AS}{aB:D→Prop}{add:D→Y→X}{F:D→Y}{ex:X→Exit×AS}:
  fP (cf P G an N fn i st) st aB add F ex (ez P G an N fn i st aB add F fun x=> .ok (ex x)):=fun μ h=>AG (F:=fun d=>add d (F d)) μ h
theorem jL{P:Program}{G:dR}{an:eu}{N:Nat}{fn:Func}{i:Nat}{D X Y:Type}{st:D→AS}{aB:D→Prop}{add:D→Y→X}{F:D→Y}{out:X→Out (Exit×AS)}:
  jl (cf P G an N fn i st) st aB add F out (ez P G an N fn i st aB add F out):=fun μ h=>yn (F:=fun d=>add d (F d)) (out:=out) μ h
def jO:List (Nat×gZ)→Nat→gZ
 |[],_=> {}
 |a::l,r=>bif Nat.beq r a.1 then a.2 else jO l r
def jN:List (Nat×gZ×gZ)→Nat→Bool→gZ
 |[],_,_=> {}
 |a::l,r,b=>bif Nat.beq r a.1 then(bif b then a.2.2 else a.2.1) else jN l r b
def ky{α:Type 1}:List (Nat×α)→Nat→Option α
 |[],_=>none
 |a::l,r=>bif Nat.beq r a.1 then some a.2 else ky l r
inductive Lf where
 |d (t:Ty)
 |n
@[reducible] def Lf.den:Lf→Type
 | .d t=>t.den
 | .n=>Nat
@[reducible] def Lf.C8:List Lf→Type
 |[]=>Unit
 |[a]=>a.den
 |a::b::l=>a.den×Lf.C8 (b::l)
abbrev Dk:=List (Sigma Lf.den)
def Lf.mk:(ts:List Lf)→Lf.C8 ts→Dk
 |[],_=> []
 |[a],x=> [⟨a,x⟩]
 |a::b::l,x=>⟨a,x.1⟩::Lf.mk (b::l) x.2
theorem Lf.mk_inj:∀(ts:List Lf) (x y:Lf.C8 ts),Lf.mk ts x=Lf.mk ts y→x=y
 |[],_,_,_=>rfl
 |[a],x,y,h=>by
  injection h with h _
  injection h
 |a::b::l,(x,u),(y,v),h=>by
  injection h with h h2
  injection h with _ h
  have h:x=y:=h
  rw[h,Lf.mk_inj (b::l) u v h2]
def aA.leaves:aA→Dk
 | .d .unit _=> []
 | .d (.arr _ t) l=> [⟨.d (.slice t),l⟩]
 | .d t x=> [⟨.d t,x⟩]
 | .eC t x=> [⟨.d t,x⟩]
 | .vec _ t l=> [⟨.d (.slice t),l⟩]
 | .mp k v l=> [⟨.d (.slice (.pair k v)),l⟩]
 | .cd _ _ _ _ _ n=> [⟨.n,n⟩]
 | .pr a b=>a.leaves++b.leaves
 | .cons a b=>a.leaves++b.leaves
 | .fn _ c=>c.leaves
 | .bx _ _ c=>c.leaves
 |_=> []
def eF.leaves:eF→Dk
 | .obj _ _ c=>c.leaves
 | .dead=> []
def SA.leaves(s:SA):Dk:=s.1.flatMap aA.leaves++s.2.flatMap eF.leaves
def AS.leaves(s:AS):Dk:=s.cg.flatMap aA.leaves++(s.db.flatMap eF.leaves++s.news.flatMap (·.flatMap eF.leaves))
theorem cM(ts:List Lf){st:Lf.C8 ts→SA}(h:∀d,SA.leaves (st d)=Lf.mk ts d)(d d':Lf.C8 ts)(e:st d=st d'):d=d':=Lf.mk_inj ts d d' (by rw[←h,←h,e])
theorem eD(ts:List Lf){st:Lf.C8 ts→AS}(h:∀d,AS.leaves (st d)=Lf.mk ts d)(d d':Lf.C8 ts)(e:st d=st d'):d=d':=Lf.mk_inj ts d d' (by rw[←h,←h,e])
noncomputable def Entry.ct{D X Y:Type}(params:List (Option Ty))(st:D→SA)(aB:D→Prop)(add:D→Y→X)(F:D→Y)(out:X→aY):Entry:=Entry.of params st aB (fun d=>add d (F d)) out
noncomputable def bM.ct{D X Y:Type}(st:D→AS)(aB:D→Prop)(add:D→Y→X)(F:D→Y)(out:X→Out (Exit×AS)):bM:=bM.of st aB (fun d=>add d (F d)) out
noncomputable def bG{D:Type}(E:Entry)(st:D→SA):D→Option E.X:=fun d=>E.run (st d).1 (st d).2
noncomputable def dg{D:Type}(E:bM)(st:D→AS):D→Option E.X:=fun d=>E.run (st d)
abbrev bB{D X Y:Type}(call:D→Option X)(aB:D→Prop)(add:D→Y→X)(F:D→Y):Prop:=∀ {d:D},aB d→call d=some (add d (F d))
theorem cO{D X Y:Type}{params:List (Option Ty)}{st:D→SA}{aB:D→Prop}{add:D→Y→X}{F:D→Y}{out:X→aY}(hinj:∀d d',st d=st d'→d=d'):
  bB (bG (Entry.ct params st aB add F out) st) aB add F:=fun h=>Entry.pW hinj h
theorem eE{D X Y:Type}{st:D→AS}{aB:D→Prop}{add:D→Y→X}{F:D→Y}{out:X→Out (Exit×AS)}(hinj:∀d d',st d=st d'→d=d'):
  bB (dg (bM.ct st aB add F out) st) aB add F:=fun h=>bM.pW hinj h
def Ds(P:Program)(fn:Func):Bool:=P.follows .mixedOrders && fn.body.isSome && !(fn.name== "runtime.NumGoroutine")
def Ef(fn:Func):Nat:=match fn.body with | some c=>(gB c).length | none=>0
theorem lv.fn{P:Program}{l:List (SG P)}{f:FuncId}{fn:Func}{an:eu}{N:Nat}{D X Y:Type}{params:List (Option Ty)}{st:D→SA}{aB:D→Prop}{add:D→Y→X}{F:D→Y}{out:X→aY}(n:Nat)
  (hc:(P.funcs[f]?,Ds P fn,Ef fn)=(some fn,true,n))
  (h:cJ (@cI P (eO l) an N fn D st) aB add F out)
  (hL:Dd P (eO l) an N fn n 0):lv P f (Entry.ct params st aB add F out):=by
 injection hc with h1 h2
 injection h2 with h2 h3
 unfold Ds at h2
 simp only[Bool.and_eq_true,Bool.not_eq_true']at h2
 exact lv.of h2.1.1 (Sound.eO l) h1 h2.1.2 h2.2 (uV.fn n h3 hL) h
theorem zO.ct{P:Program}{Γ:dR}{an:eu}{N:Nat}{fn:Func}{i:Nat}{D X Y:Type}{st:D→AS}{aB:D→Prop}{add:D→Y→X}{F:D→Y}{out:X→Out (Exit×AS)}
  (h:ez P Γ an N fn i st aB add F out) (hle:an.fF (dP (iG fn i))=some (bM.ct st aB add F out)):zO P Γ an N (iG fn i):=zO.of hle h
abbrev tu:Ty:=(.int .u64)
abbrev ti:Ty:=(.int .i64)
abbrev tb:Ty:=(.int .u8)
abbrev tB:Ty:=(.slice tb)
abbrev Bs:=(List Int)
abbrev tH:Ty:=(.arr 32 tb)
abbrev tU:Ty:=(.slice tu)
abbrev kp:Ty:=(.pair tH (.pair ti .unit))
abbrev j4:=(Bs×(Int×Unit))
abbrev jg:Ty:=(.pair tu (.pair tu .unit))
abbrev Sg:=(Int×(Int×Unit))
abbrev sC:Ty:=(.pair ti (.pair (.slice jg) (.pair tu .unit)))
abbrev mE:=(Int×((List Sg)×(Int×Unit)))
abbrev eH:Ty:=(.pair kp (.pair sC .unit))
abbrev ff:=(j4×(mE×Unit))
abbrev fe:Ty:=(.pair tU (.pair ti (.pair ti (.pair tu .unit))))
abbrev fX:=(Bs×(Int×(Int×(Int×Unit))))
abbrev j3:Ty:=(.pair (.slice fe) .unit)
abbrev Lk:=((List fX)×Unit)
abbrev eR:Ty:=(.pair ti (.pair j3 .unit))
abbrev fM:=(Int×(Lk×Unit))
abbrev gb:Ty:=(.pair (.slice eH) (.pair (.slice eR) (.pair ti .unit)))
abbrev eX:=((List ff)×((List fM)×(Int×Unit)))
abbrev iU:Ty:=(.pair tB (.pair .bool .unit))
abbrev eJ:=(Bs×(Bool×Unit))
abbrev ER:Ty:=(.pair ti (.pair (.fh jg) (.pair tu .unit)))
abbrev Eb:=(Int×((Option (List Sg))×(Int×Unit)))
abbrev ix:Ty:=(.pair kp (.pair ER .unit))
abbrev jK:=(j4×(Eb×Unit))
end Go.Ab
namespace Go.Ab
theorem iY{n:Int}(h1: -9223372036854775808≤n)(h2:n≤9223372036854775807):IntKind.i64.wrap n=n:=by
 simp[IntKind.wrap,IntKind.bits,IntKind.signed]
 split <;> omega
theorem gF{x y:Int}(h1: -9223372036854775808≤x+y)(h2:x+y≤9223372036854775807):bK .i64 x y=x+y:=iY h1 h2
theorem fw{x y:Int}(h1: -9223372036854775808≤x - y)(h2:x - y≤9223372036854775807):dd .i64 x y=x - y:=iY h1 h2
theorem oT{x y:Int}(h1: -9223372036854775808≤x*y)(h2:x*y≤9223372036854775807):eT .i64 x y=x*y:=iY h1 h2
theorem BL{x:Int}(h1: -9223372036854775808≤x)(h2:x≤9223372036854775807):dA .i64 x=x:=iY h1 h2
def vw{n:Nat}(w:BitVec n):Int:=(w.toNat:Int)
theorem fD(n:Nat)(x:Int):vw (BitVec.ofInt n x)=x%((2^n:Nat):Int):=by
 unfold vw
 rw[BitVec.toNat_ofInt]
 have:0≤x%((2^n:Nat):Int):=Int.emod_nonneg _ (by have:=Nat.two_pow_pos n;omega)
 omega
theorem qh{n:Nat}(w:BitVec n):0≤vw w:=Int.natCast_nonneg _
theorem Bl{n:Nat}(w:BitVec n):vw w < ((2^n:Nat):Int):=by have:=w.isLt;unfold vw;omega
theorem jd{n:Nat}(w:BitVec n):BitVec.ofInt n (vw w)=w:=by
 apply BitVec.eq_of_toNat_eq
 have:=fD n (vw w)
 unfold vw at this ⊢
 have h:=w.isLt
 rw[Int.emod_eq_of_lt (Int.natCast_nonneg _) (by omega)]at this
 omega
theorem wrap_u32(x:Int):IntKind.u32.wrap x=vw (BitVec.ofInt 32 x):=by rw[fD];simp[IntKind.wrap,IntKind.bits,IntKind.signed]
theorem wrap_u64(x:Int):IntKind.u64.wrap x=vw (BitVec.ofInt 64 x):=by rw[fD];simp[IntKind.wrap,IntKind.bits,IntKind.signed]
theorem wrap_u8(x:Int):IntKind.u8.wrap x=vw (BitVec.ofInt 8 x):=by rw[fD];simp[IntKind.wrap,IntKind.bits,IntKind.signed]
theorem ofInt_add(n:Nat)(x y:Int):BitVec.ofInt n (x+y)=BitVec.ofInt n x+BitVec.ofInt n y:=BitVec.ofInt_add ..
theorem lJ(x y:BitVec 32):bK .u32 (vw x) (vw y)=vw (x+y):=by rw[bK,wrap_u32,BitVec.ofInt_add,jd,jd]
theorem yf(x:Int):dA .u32 x=vw (BitVec.ofInt 32 x):=wrap_u32 x
theorem uk(x:Int):dA .u64 x=vw (BitVec.ofInt 64 x):=wrap_u64 x
theorem rB(x:Int):dA .u8 x=vw (BitVec.ofInt 8 x):=wrap_u8 x
theorem AI{n:Nat}(x:BitVec n):BitVec.ofInt n ((x.toNat:Nat):Int)=x:=jd x
theorem g7(op:BinOp)(x y:BitVec 32):cl op .u32 (vw x) (vw y)=vw (match op with | .and=>x &&& y | .or=>x ||| y | .xor=>x^^^y | _=>x &&& ~~~y):=by
 unfold cl
 split <;> (simp only[IntKind.bits,jd,wrap_u32,AI];rfl)
theorem yO(op:BinOp)(x y:BitVec 64):cl op .u64 (vw x) (vw y)=vw (match op with | .and=>x &&& y | .or=>x ||| y | .xor=>x^^^y | _=>x &&& ~~~y):=by
 unfold cl
 split <;> (simp only[IntKind.bits,jd,wrap_u64,AI];rfl)
theorem An(x y:Nat):Int.fdiv (x:Int) (y:Int)=((x / y:Nat):Int):=by
 rw[Int.fdiv_eq_ediv_of_nonneg _ (Int.natCast_nonneg _)]
 rfl
theorem pA(k:Nat):(2:Int)^k=((2^k:Nat):Int):=by simp
theorem C3{n:Nat}(w:BitVec n)(k:Nat):Int.fdiv (vw w) (2^(min k n))=vw (w >>> k):=by
 rw[pA]
 unfold vw
 rw[An,BitVec.toNat_ushiftRight,Nat.shiftRight_eq_div_pow]
 congr 1
 rcases Nat.le_total k n with hk | hk
 ·rw[Nat.min_eq_left hk]
 ·rw[Nat.min_eq_right hk,Nat.div_eq_of_lt w.isLt,Nat.div_eq_of_lt]
  exact Nat.lt_of_lt_of_le w.isLt (Nat.pow_le_pow_right (by omega) hk)
theorem m9(w:BitVec 32)(k:Int):bI .u32 (vw w) k=vw (w >>> k.toNat):=C3 w k.toNat
theorem C2{n:Nat}(w:BitVec n)(k:Nat):BitVec.ofInt n (vw w*2^(min k n))=w <<< k:=by
 apply BitVec.eq_of_toNat_eq
 rw[BitVec.toNat_ofInt,BitVec.toNat_shiftLeft,Nat.shiftLeft_eq]
 unfold vw
 rw[pA]
 have e:((w.toNat:Int)*((2^min k n:Nat):Int))=((w.toNat*2^min k n:Nat):Int):=by simp
 rw[e]
 have:(((w.toNat*2^min k n:Nat):Int)%((2^n:Nat):Int)).toNat=(w.toNat*2^min k n)%2^n:=by omega
 rw[this]
 rcases Nat.le_total k n with hk | hk
 ·rw[Nat.min_eq_left hk]
 ·rw[Nat.min_eq_right hk,Nat.mul_mod_left]
  obtain⟨m,rfl⟩:=Nat.exists_eq_add_of_le hk
  rw[Nat.pow_add,←Nat.mul_assoc,Nat.mul_right_comm,Nat.mul_mod_left]
theorem oV(w:BitVec 32)(k:Int):gm .u32 (vw w) k=vw (w <<< k.toNat):=by rw[gm,wrap_u32];congr 1;exact C2 w k.toNat
theorem bn{i n:Int}(h1:0≤i)(h2:i < n):eh i n=true:=by simp[eh,h1,h2]
theorem kD{i n:Int}(h1:0≤i)(h2:i≤n):inc i n=true:=by simp[inc,h1,h2]
theorem bw{x y:Int}(h:x < y):fY x y=true:=by simp[fY,h]
theorem bm{x y:Int}(h:¬x < y):fY x y=false:=by simp[fY];omega
theorem m0{x y:Int}(h:x≤y):za x y=true:=by simp[za,h]
theorem kr{x y:Int}(h:¬x≤y):za x y=false:=by simp[za];omega
theorem dQ{x y:Int}(h:x > y):mG x y=true:=by simp[mG];omega
theorem dE{x y:Int}(h:¬x > y):mG x y=false:=by simp[mG];omega
theorem fU{x y:Int}(h:x≥y):mZ x y=true:=by simp[mZ];omega
theorem eM{x y:Int}(h:¬x≥y):mZ x y=false:=by simp[mZ];omega
theorem dq{x y:Int}(h:x=y):nN x y=true:=by simp[nN,h]
theorem eL{x y:Int}(h:¬x=y):nN x y=false:=by simp[nN,h]
theorem dB{x y:Int}(h:¬x=y):ku x y=true:=by simp[ku,h]
theorem bT{x y:Int}(h:x=y):ku x y=false:=by simp[ku,h]
theorem jS{x:Int}(h:0≤x):gD x=true:=by simp[gD,h]
theorem aO{p:Prop} [Decidable p] (h:p):decide p=true:=by simp[h]
theorem aK{p:Prop} [Decidable p] (h:¬p):decide p=false:=by simp[h]
theorem eB{n b:Nat}(h:n*b≤140737488355328)(h2:n≤9223372036854775807):dh n b=true:=by simp[dh,h,h2]
def from_{α:Type}(f:Nat→α→α)(t:Nat)(l:List α):List α:=l.mapIdx fun i x=>if i < t then x else f i x
theorem nC{α:Type}(f:Nat→α→α)(l:List α)(t:Nat)(h:t < l.length):from_ f (t+1) (l.set t (f t l[t]))=from_ f t l:=by
 unfold from_
 apply List.ext_getElem (by simp)
 intro i h1 h2
 simp only[List.getElem_mapIdx,List.getElem_set]
 by_cases hi:t=i
 ·subst hi;simp
 ·simp only[if_neg hi]
  by_cases h3:i < t
  ·rw[if_pos (by omega),if_pos h3]
  ·rw[if_neg (by omega),if_neg h3]
theorem oS{α:Type}(f:Nat→α→α)(l:List α)(t:Nat)(h:l.length≤t):from_ f t l=l:=by
 unfold from_
 apply List.ext_getElem (by simp)
 intro i h1 h2
 simp only[List.getElem_mapIdx]
 rw[if_pos (by omega)]
theorem rr{α:Type}(f:Nat→α→α)(n:Nat)(x:α):from_ f 0 (List.replicate n x)=(List.range n).map fun i=>f i x:=by
 unfold from_
 apply List.ext_getElem (by simp)
 intro i h1 h2
 simp
theorem cw{t:Ty}{l:List t.den}{i:Nat}(h:i < l.length):nth t l i=l[i]:=by simp[nth,h]
end Go.Ab
namespace Go.Ab.N
section
variable {α:Type} {x y:Option α} {a b n:Nat} {i j:Int}
theorem lt:aJ (fY i j) x y=if i < j then x else y:=by unfold fY;split <;> rename_i h <;> simp[h]
theorem le:aJ (za i j) x y=if i≤j then x else y:=by unfold za;split <;> rename_i h <;> simp[h]
theorem gt:aJ (mG i j) x y=if j < i then x else y:=by unfold mG;split <;> rename_i h <;> simp[h]
theorem ge:aJ (mZ i j) x y=if j≤i then x else y:=by unfold mZ;split <;> rename_i h <;> simp[h]
theorem eq:aJ (nN i j) x y=if i=j then x else y:=by
 by_cases h:i=j
 ·rw[dq h,if_pos h];rfl
 ·rw[eL h,if_neg h];rfl
theorem ne:aJ (ku i j) x y=if i=j then y else x:=by
 by_cases h:i=j
 ·rw[bT h,if_pos h];rfl
 ·rw[dB h,if_neg h];rfl
theorem ib:aJ (eh i j) x y=if 0≤i∧i < j then x else y:=by unfold eh;split <;> rename_i h <;> simp[h]
theorem ic:aJ (inc i j) x y=if 0≤i∧i≤j then x else y:=by unfold inc;split <;> rename_i h <;> simp[h]
theorem nn:aJ (gD i) x y=if 0≤i then x else y:=by unfold gD;split <;> rename_i h <;> simp[h]
theorem nz:aJ (iB i) x y=if i=0 then y else x:=by unfold iB;split <;> rename_i h <;> simp[h]
theorem dc{p:Prop} [Decidable p]:aJ (decide p) x y=if p then x else y:=by split <;> rename_i h <;> simp[h]
theorem rm:aJ (dh n b) x y=if n*b≤140737488355328∧n≤9223372036854775807 then x else y:=by unfold dh;exact dc
theorem an{c d:Bool}:aJ (c && d) x y=aJ c (aJ d x y) y:=by cases c <;> rfl
theorem or{c d:Bool}:aJ (c || d) x y=aJ c x (aJ d x y):=by cases c <;> rfl
theorem no{c:Bool}:aJ (!c) x y=aJ c y x:=by cases c <;> rfl
theorem D0(h:a+b≤9223372036854775807):bK .i64 (a:Int) (b:Int)=((a+b:Nat):Int):=by rw[gF (by omega) (by omega)];omega
theorem kA(h:a+OfNat.ofNat n≤9223372036854775807):bK .i64 (a:Int) (no_index (OfNat.ofNat n))=((a+OfNat.ofNat n:Nat):Int):=D0 h
theorem EF(h:OfNat.ofNat n+a≤9223372036854775807):bK .i64 (no_index (OfNat.ofNat n)) (a:Int)=((OfNat.ofNat n+a:Nat):Int):=D0 h
theorem D5(h:b≤a)(h2:a≤9223372036854775807):dd .i64 (a:Int) (b:Int)=((a - b:Nat):Int):=by rw[fw (by omega) (by omega)];omega
theorem EM(h:OfNat.ofNat n≤a)(h2:a≤9223372036854775807):dd .i64 (a:Int) (no_index (OfNat.ofNat n))=((a - OfNat.ofNat n:Nat):Int):=D5 h h2
theorem EL(h:a≤OfNat.ofNat n)(h2:(OfNat.ofNat n:Nat)≤9223372036854775807):dd .i64 (no_index (OfNat.ofNat n)) (a:Int)=((OfNat.ofNat n - a:Nat):Int):=D5 h h2
theorem D4(h:a*b≤9223372036854775807):eT .i64 (a:Int) (b:Int)=((a*b:Nat):Int):=by
 have e:(a:Int)*(b:Int)=((a*b:Nat):Int):=by simp
 rw[oT (by omega) (by omega),e]
theorem EJ(h:a*OfNat.ofNat n≤9223372036854775807):eT .i64 (a:Int) (no_index (OfNat.ofNat n))=((a*OfNat.ofNat n:Nat):Int):=D4 h
theorem DF(h:OfNat.ofNat n*a≤9223372036854775807):eT .i64 (no_index (OfNat.ofNat n)) (a:Int)=((OfNat.ofNat n*a:Nat):Int):=D4 h
theorem Eo(h:a≤9223372036854775807):kF .i64 (a:Int) (b:Int)=((a / b:Nat):Int):=by
 have:(a:Int).tdiv (b:Int)=((a / b:Nat):Int):=by rw[Int.tdiv_eq_ediv_of_nonneg (by omega)];simp
 have hl:a / b≤a:=Nat.div_le_self a b
 unfold kF
 rw[this]
 generalize a / b=c at hl
 exact iY (by omega) (by omega)
theorem EK(h:a≤9223372036854775807):kF .i64 (a:Int) (no_index (OfNat.ofNat n))=((a / OfNat.ofNat n:Nat):Int):=Eo h
theorem Er:iT (a:Int) (b:Int)=((a%b:Nat):Int):=by
 unfold iT
 rw[Int.tmod_eq_emod_of_nonneg (by omega)]
 simp
theorem Ep:iT (a:Int) (no_index (OfNat.ofNat n))=((a%OfNat.ofNat n:Nat):Int):=Er
theorem cN(h:a≤9223372036854775807):dA .i64 (a:Int)=(a:Int):=BL (by omega) (by omega)
theorem cL(h:(OfNat.ofNat n:Nat)≤9223372036854775807):dA .i64 (no_index (OfNat.ofNat n))=OfNat.ofNat n:=cN h
theorem tL:Int.toNat (no_index (OfNat.ofNat n))=OfNat.ofNat n:=rfl
end
end Go.Ab.N
namespace Go.Ab
section
variable {P:Program}
theorem Ak{E E':Env}(h1:E'.w=E.w)(h2:E'.g=E.g)(h3:E'.β=E.β)(h4:E'.s=E.s):E'=E:=by
 obtain⟨a,b,c,d⟩:=E
 obtain⟨a',b',c',d'⟩:=E'
 simp only at h1 h2 h3 h4
 subst h1 h2 h3 h4
 rfl
theorem mI.same{w:World}{g:Nat→hZ}{β:Id→Option Pl}{db:List eF}{a:aA}{v:Value}(hv:VS ((ig db).env w g β) a v)(ho:gh ((ig db).env w g β)):
  mI ((ig db).env w g β) ⟨a,db,[]⟩ v w:=by
 have hE:(aY.st ⟨a,db,[]⟩).env w g β=(ig db).env w g β:=by
  refine Ak rfl rfl rfl ?_
  funext id
  cases id with
  |fB k=>rfl
  |new i j=>
   show([([]:List eF)].getD i [])[j]? =(([]:List (List eF)).getD i [])[j]?
   cases i <;> rfl
 refine⟨g,β,?_⟩
 rw[hE]
 exact⟨hv,ho,Trans.refl w g,cP.refl _⟩
theorem lv.extern{f:FuncId}{fn:Func}{e:Array Value→Sem Value}(hf:P.funcs[f]? =some fn)(hname:(fn.name== "runtime.NumGoroutine")=false)(hb:fn.body.isNone=true)(hn:Extern.findNext fn=none)(he:Extern.find fn=some e){en:Entry}
  (h:∀w g β args db jh x,oI ((ig db).env w g β) args jh→gh ((ig db).env w g β)→en.run args db=some x→∃v,(e jh.toArray).run P w= .ok v w∧mI ((ig db).env w g β) (en.out args db x) v w):lv P f en:=by
 intro w g β args db jh x h1 h2 h3
 obtain⟨v,h4,h5⟩:=h w g β args db jh x h1 h2 h3
 refine .inr ⟨v,w,?_,h5⟩
 rw[run_callFunc_extern hf hname hb hn he,h4]
 rfl
def Cq.E:Entry:= {params:=[none],X:=Unit,run:=fun args _=>match args with | [_]=>some () | _=>none,out:=fun args db _=>⟨args.headD .undef,db,[]⟩}
theorem Cq.of{f:FuncId}{fn:Func}(hf:P.funcs[f]? =some fn)(hname:(fn.name== "runtime.NumGoroutine")=false)(hb:fn.body.isNone=true)(hn:Extern.findNext fn=none)(he:Extern.find fn=some Extern.AbiNoEscape.same):lv P f Cq.E:=by
 refine lv.extern hf hname hb hn he fun w g β args db jh x h1 h2 h3=> ?_
 cases args with
 |nil=>cases h3
 |cons a as=>
  cases as with
  |cons _ _=>cases h3
  |nil=>
   cases jh with
   |nil=>exact h1.elim
   |cons v vs=>
    obtain⟨h4,h5⟩:=h1
    cases vs with
    |cons _ _=>exact h5.elim
    |nil=>exact⟨v,rfl,mI.same h4 h2⟩
noncomputable def Br.E:Entry:=Entry.of (D:=ByteArray×Int) (X:=Int) [some .str,some (.int .u8)] (fun d=>([.d .str d.1,.d (.int .u8) d.2],[])) (fun _=>True) (fun d=>firstIdx d.1 d.2.toNat.toUInt8) (fun x=>⟨.d (.int .i64) x,[],[]⟩)
theorem Br.inj:∀d d':ByteArray×Int,(([aA.d .str d.1,aA.d (.int .u8) d.2],([]:List eF)):List aA×List eF)=([.d .str d'.1,.d (.int .u8) d'.2],[])→d=d':=by
 rintro⟨a,b⟩ ⟨a',b'⟩ h
 have e1:a=a':=Ch (t:= .str) (congrArg (fun s:List aA×List eF=>s.1.getD 0 .undef) h)
 have e2:b=b':=Ch (t:= .int .u8) (congrArg (fun s:List aA×List eF=>s.1.getD 1 .undef) h)
 rw[e1,e2]
noncomputable def Br.call:ByteArray×Int→Option Int:=fun d=>Br.E.run [.d .str d.1,.d (.int .u8) d.2] []
theorem Br.run(d:ByteArray×Int):Br.call d=some (firstIdx d.1 d.2.toNat.toUInt8):=Entry.pW (d:=d) Br.inj trivial
theorem Br.of{f:FuncId}{fn:Func}(hf:P.funcs[f]? =some fn)(hname:(fn.name== "runtime.NumGoroutine")=false)(hb:fn.body.isNone=true)(hn:Extern.findNext fn=none)(he:Extern.find fn=some Extern.BytealgIndexByte.indexByte):lv P f Br.E:=by
 refine lv.extern hf hname hb hn he fun w g β args db jh x h1 h2 h3=> ?_
 have hx:∃d:ByteArray×Int,(([aA.d .str d.1,aA.d (.int .u8) d.2],([]:List eF)):List aA×List eF)=(args,db):=by
  by_cases hh:∃d:ByteArray×Int,(([aA.d .str d.1,aA.d (.int .u8) d.2],([]:List eF)):List aA×List eF)=(args,db)
  ·exact hh
  ·exfalso
   have hn:Br.E.run args db=none:=dif_neg fun⟨d,h,_⟩=>hh ⟨d,h⟩
   rw[hn]at h3
   cases h3
 obtain⟨d,hd⟩:=hx
 simp only[Prod.mk.injEq]at hd
 obtain⟨rfl,rfl⟩:=hd
 have hr:=Br.run d
 have hx:x=firstIdx d.1 d.2.toNat.toUInt8:=Option.some.inj (h3.symm.trans hr)
 subst hx
 match jh,h1 with
 |[u,v],⟨h4,h5,_⟩=>
  refine⟨.int .i64 (firstIdx d.1 d.2.toNat.toUInt8),?_,mI.same (gv _ _) h2⟩
  rw[mj h4,kE h5]
  exact run_indexByte_string d.1 d.2 w
def Ec{X Y:Type} [Inhabited Y] (x:Option X):Option (X×Y):=aq x fun y=>some (y,default)
def Ed{X Y:Type} [Inhabited X] (x:Option Y):Option (X×Y):=aq x fun y=>some (default,y)
@[simp] theorem De{X Y:Type} [Inhabited Y] (x:X):Ec (Y:=Y) (some x)=some (x,default):=rfl
@[simp] theorem Df{X Y:Type} [Inhabited X] (x:Y):Ed (X:=X) (some x)=some (default,x):=rfl
end
theorem S1:(type_of% @N.lt)∧(type_of% @N.le)∧(type_of% @N.gt)∧(type_of% @N.ge)∧(type_of% @N.eq)∧(type_of% @N.ne)∧(type_of% @N.ib)∧(type_of% @N.ic)∧(type_of% @N.nn)∧(type_of% @N.nz)∧(type_of% @N.dc)∧(type_of% @N.rm)∧(type_of% @N.an)∧(type_of% @N.or)∧(type_of% @N.no)∧(type_of% @az)∧(type_of% @ay)∧(type_of% @ab):=⟨@N.lt,@N.le,@N.gt,@N.ge,@N.eq,@N.ne,@N.ib,@N.ic,@N.nn,@N.nz,@N.dc,@N.rm,@N.an,@N.or,@N.no,@az,@ay,@ab⟩
theorem S2:(type_of% @ab)∧(type_of% @N.D0)∧(type_of% @N.kA)∧(type_of% @N.EF)∧(type_of% @N.D5)∧(type_of% @N.EM)∧(type_of% @N.EL)∧(type_of% @N.D4)∧(type_of% @N.EJ)∧(type_of% @N.DF)∧(type_of% @N.Eo)∧(type_of% @N.EK)∧(type_of% @N.Er)∧(type_of% @N.Ep)∧(type_of% @N.cN)∧(type_of% @N.cL)∧(type_of% @N.tL)∧(type_of% @Int.toNat_natCast)∧(type_of% @and_self)∧(type_of% @true_and)∧(type_of% @and_true):=⟨@ab,@N.D0,@N.kA,@N.EF,@N.D5,@N.EM,@N.EL,@N.D4,@N.EJ,@N.DF,@N.Eo,@N.EK,@N.Er,@N.Ep,@N.cN,@N.cL,@N.tL,@Int.toNat_natCast,@and_self,@true_and,@and_true⟩
end Go.Ab
namespace Go.Ab
open Go.ChangeShapes Go.WideShapes Go.ChangeAt Go.RowKit Go.Deep
def uW:(t:Ty)→t.den→Prop
 | .int k,x=>(Lit.int k x).wf=true
 | .bool,_=>True
 | .str,s=>(s:ByteArray).size≤maxLen
 | .slice t,l=>(l:List t.den).length≤maxLen∧∀x∈(l:List t.den),uW t x
 | .unit,_=>True
 | .pair a b,x=>uW a x.1∧uW b x.2
 | .arr n t,l=>(l:List t.den).length=n∧∀x∈(l:List t.den),uW t x
 | .fh _,_=>False
def kC(P:Program)(rd:TypeId→Ty→Bool):Nat→List Field→Ty→Bool
 |_,[],.unit=>true
 |off,f::fs,.pair a b=>Nat.beq f.offset off && (rd f.type a && (Nat.beq (P.cellsOf f.type) a.size && kC P rd (off+a.size) fs b))
 |_,_,_=>false
def ln(P:Program):Nat→TypeId→Ty→Bool
 | 0,_,_=>false
 |n+1,T,ty=>
  match P.underlying T,ty with
  |some (.int k),.int k'=>decide (k=k')
  |some .bool,.bool=>true
  |some .string,.str=>true
  |some (.slice e),.slice t=>ln P n e t && Nat.beq (P.cellsOf e) t.size
  |some (.array k e),.arr k' t=>Nat.beq k k' && (ln P n e t && (Nat.beq (P.cellsOf e) t.size && Nat.beq (P.cellsOf T) (k*t.size)))
  |some (.struct fs),ty=>kC P (ln P n) 0 fs.toList ty && Nat.beq (P.cellsOf T) ty.size
  |_,_=>false
theorem Bz{a b:Nat}:(Nat.beq a b=true)=(a=b):=propext ⟨Nat.eq_of_beq_eq_true,fun h=>by subst h;exact Nat.beq_refl a⟩
theorem vT{α β:Type}{f:α→Option β}:∀ {l:List α} {r:List β},l.mapM f=some r→r.length=l.length∧∀(i:Nat) (x:α),l[i]? =some x→f x=r[i]?
 |[],r,h=>by
  simp only[List.mapM_nil,Option.pure_def,Option.some.injEq]at h
  subst h
  exact⟨rfl,fun i x h=>by simp at h⟩
 |y::l,r,h=>by
  simp only[List.mapM_cons,Option.bind_eq_bind,Option.pure_def,Option.bind_eq_some_iff,Option.some.injEq]at h
  obtain⟨b,hb,r',hr,rfl⟩:=h
  obtain⟨h1,h2⟩:=vT hr
  refine⟨by simp[h1],fun i x hi=> ?_⟩
  cases i with
  |zero=>
   simp only[List.getElem?_cons_zero,Option.some.injEq]at hi
   subst hi
   simpa using hb
  |succ i=>
   simp only[List.getElem?_cons_succ]at hi ⊢
   exact h2 i x hi
theorem yY{w:World}{base:Nat}{a:Addr}{n:Nat}{cs:List Value}(h:w.cells? base a n=some cs):cs.length=n∧∀i,i < n→w.cell? (a.add i)=cs[i]? :=by
 unfold World.cells? at h
 split at h
 ·obtain⟨h1,h2⟩:=vT h
  exact⟨by simpa using h1,fun i hi=>h2 i i (by simp[hi])⟩
 ·cases h
theorem add_add(a:Addr)(x y:Nat):(a.add x).add y=a.add (x+y):=by
 unfold Addr.add
 by_cases hx:x=0 <;> by_cases hy:y=0 <;> simp[hx,hy,Nat.add_assoc]
theorem zG{w:World}{a:Addr}{v:Value}(h:w.cell? a=some v):a.spot=none:=by
 unfold World.cell? at h
 split at h
 ·split at h
  ·cases h
  ·rename_i hs
   cases hh:a.spot with
   |none=>rfl
   |some _=>simp[hh]at hs
 ·cases h
theorem CZ{E:Env}(hg:∀b,E.g b= .free){a:Addr}{vs:List Value}(h:∀i,i < vs.length→E.w.cell? (a.add i)=vs[i]?):mL E (some a) vs:=by
 intro i v hv
 have hi:i < vs.length:=(List.getElem?_eq_some_iff.1 hv).1
 have h0:=h 0 (by omega)
 rw[List.getElem?_eq_getElem (by omega)]at h0
 have hs:a.spot=none:=zG (a:=a) (by simpa[Addr.add]using h0)
 obtain⟨b,off,sp⟩:=a
 simp only at hs
 subst hs
 refine⟨b,off,rfl,?_,?_⟩
 ·have:=h i hi
  rw[hv]at this
  rw[←this]
  unfold Addr.add
  split
  ·rename_i h;subst h;rfl
  ·rfl
 ·unfold jT
  rw[hg b]
  trivial
section
variable {H:Type} {enc:TypeId×Value→H} {P:Program} {base:Nat} {spare:Nat→Bool} {held:Bool} {E:Env}
theorem yC{t:Ty}{R:List Value→t.den→Prop}{G:t.den→Prop}{w:World}{a:Addr}{z:Nat}(hR:∀c x,R c x→c.length=z):∀(len:Nat),(∀i,i < len→∃c x,R c x∧G x∧∀j,j < z→w.cell? (a.add (i*z+j))=c[j]?)→
  ∃(vs:List Value) (l:List t.den),vs.length=len*z∧l.length=len∧(∀i,i < vs.length→w.cell? (a.add i)=vs[i]?)∧aZ R vs l∧∀x∈l,G x
 | 0,_=>⟨[],[],by simp,rfl,fun i h=>by simp at h,rfl,fun _ h=>by cases h⟩
 |len+1,h=>by
  obtain⟨vs,l,h1,h2,h3,h4,h5⟩:=yC hR len fun i hi=>h i (by omega)
  obtain⟨c,x,g1,g2,g3⟩:=h len (by omega)
  have hc:=hR c x g1
  refine⟨vs++c,l++ [x],by rw[List.length_append,h1,hc,Nat.add_mul,Nat.one_mul],by rw[List.length_append,h2];rfl,fun i hi=> ?_,aZ.append h4 ⟨c,[],by simp,g1,rfl⟩,fun y hy=> ?_⟩
  ·rw[List.length_append,h1,hc]at hi
   by_cases hl:i < vs.length
   ·rw[h3 i hl,List.getElem?_append_left hl]
   ·rw[List.getElem?_append_right (by omega),h1,←g3 (i - len*z) (by omega),show len*z+(i - len*z)=i by omega]
  ·rcases List.mem_append.1 hy with hy | hy
   ·exact h5 y hy
   ·rw[List.mem_singleton.1 hy];exact g2
theorem sY{t:Ty}{R:List Value→t.den→Prop}{G:t.den→Prop}{z:Nat}:∀(n:Nat) (cs:List Value),cs.length=n*z→(∀i,i < n→∃x,R ((cs.drop (i*z)).take z) x∧G x)→
  ∃l:List t.den,l.length=n∧aZ R cs l∧∀x∈l,G x
 | 0,cs,h,_=>⟨[],rfl,List.eq_nil_of_length_eq_zero (by simpa using h),fun _ h=>by cases h⟩
 |n+1,cs,h,hi=>by
  obtain⟨x,g1,g2⟩:=hi 0 (by omega)
  obtain⟨l,h1,h2,h3⟩:=sY (R:=R) (G:=G) (z:=z) n (cs.drop z) (by rw[List.length_drop,h,Nat.add_mul];omega) fun i hin=>by
   obtain⟨y,k1,k2⟩:=hi (i+1) (by omega)
   refine⟨y,?_,k2⟩
   rw[List.drop_drop,show z+i*z=(i+1)*z by rw[Nat.add_mul];omega]
   exact k1
  refine⟨x::l,by simp[h1],⟨cs.take z,cs.drop z,(List.take_append_drop z cs).symm,by simpa using g1,h2⟩,fun y hy=> ?_⟩
  rcases List.mem_cons.1 hy with rfl | hy
  ·exact g2
  ·exact h3 y hy
theorem qw{rd:TypeId→Ty→Bool}{cs:List Value}:∀(fs:List Field) (off:Nat) (ty:Ty),kC P rd off fs ty=true→off+ty.size≤cs.length→
  (∀f∈fs,∀t,rd f.type t=true→P.cellsOf f.type=t.size→∃v,cK E t ((cs.drop f.offset).take (P.cellsOf f.type)) v∧uW t v)→∃v,cK E ty ((cs.drop off).take ty.size) v∧uW ty v
 |[],off,ty,h,hl,_=>by
  cases ty <;> simp only[kC]at h <;> first | cases h | skip
  exact⟨(),by simp[cK,Ty.size],trivial⟩
 |f::fs,off,ty,h,hl,hf=>by
  cases ty <;> simp only[kC]at h <;> first | cases h | skip
  rename_i a b
  simp only[Bool.and_eq_true,Bz]at h
  obtain⟨h1,h2,h3,h4⟩:=h
  have hl:off+(a.size+b.size)≤cs.length:=hl
  obtain⟨v,k1,k2⟩:=hf f (List.mem_cons_self ..) a h2 h3
  obtain⟨u,k3,k4⟩:=qw fs (off+a.size) b h4 (by omega) fun f' hf'=>hf f' (List.mem_cons_of_mem _ hf')
  refine⟨(v,u),⟨(cs.drop off).take a.size,(cs.drop (off+a.size)).take b.size,?_,?_,k3⟩,k2,k4⟩
  ·rw[show Ty.size (.pair a b)=a.size+b.size from rfl,List.take_add,List.drop_drop]
  ·rw[h1,h3]at k1;exact k1
theorem pe(hg:∀b,E.g b= .free):∀(n:Nat) (T:TypeId) (ty:Ty),ln P n T ty=true→∀ {fuel:Nat} {cs:List Value} {x:DataW H×List MemPlace},DataW.trod enc P E.w base spare held fuel T cs=some x→∃v,cK E ty cs v∧uW ty v
 | 0,_,_,h,_,_,_,_=>by simp[ln]at h
 |n+1,T,ty,h,fuel,cs,x,hx=>by
  unfold ln at h
  split at h
  ·rename_i k k' hu
   obtain rfl:=of_decide_eq_true h
   obtain⟨m,rfl,_,hw⟩:=DataW.trod_int hu hx
   exact⟨m,rfl,hw⟩
  ·rename_i hu
   obtain⟨b,rfl,_⟩:=DataW.trod_bool hu hx
   exact⟨b,rfl,trivial⟩
  ·rename_i hu
   obtain⟨s,rfl,_,hs⟩:=DataW.trod_string hu hx
   exact⟨s,rfl,hs⟩
  ·rename_i e t hu
   simp only[Bool.and_eq_true,Bz]at h
   obtain⟨h1,h2⟩:=h
   rcases open_slice hu hx with⟨rfl,_⟩ | ⟨a,len,cap,m,f,D,Pl,rfl,_,hl,hm,hmm,_,he⟩
   ·exact⟨([]:List t.den),⟨none,0,[],rfl,Nat.le_refl _,fun h=>by simp at h,fun i v hv=>by simp at hv,rfl⟩,Nat.zero_le _,fun _ h=>by cases h⟩
   ·have hlm:len≤m:=by rw[hmm];split <;> omega
    obtain⟨vs,l,k1,k2,k3,k4,k5⟩:=yC (t:=t) (R:=cK E t) (G:=uW t) (w:=E.w) (a:=a) (z:=t.size) (fun c x h=>cK.size h) len fun i hi=>by
     obtain⟨cs',g1,g2⟩:=he i (by omega)
     obtain⟨v,g3,g4⟩:=pe hg n e t h1 g2
     obtain⟨g5,g6⟩:=yY g1
     refine⟨cs',v,g3,g4,fun j hj=> ?_⟩
     rw[←g6 j (by omega),add_add,h2]
    refine⟨l,⟨some a,cap,vs,by rw[k2],by rw[k2];exact hl,fun _=>rfl,CZ hg k3,k4⟩,by rw[k2];omega,k5⟩
  ·rename_i k e k' t hu
   simp only[Bool.and_eq_true,Bz]at h
   obtain⟨rfl,h1,h2,h3⟩:=h
   obtain⟨xs,m,rfl,_,hl,hxl,he⟩:=DataW.trod_array hu hx
   obtain⟨l,k1,k2,k3⟩:=sY (t:=t) (R:=cK E t) (G:=uW t) (z:=t.size) k cs (by rw[hl,h3]) fun i hi=>by
    have:=he i hi
    rw[List.getElem?_eq_getElem (by omega),h2]at this
    exact pe hg n e t h1 this
   exact⟨l,⟨k1,k2⟩,k1,k3⟩
  ·rename_i ty fs hu
   simp only[Bool.and_eq_true,Bz]at h
   obtain⟨h1,h2⟩:=h
   obtain⟨xs,m,rfl,_,hl,hxl,he⟩:=DataW.trod_struct hu hx
   obtain⟨v,k1,k2⟩:=qw (E:=E) (cs:=cs) fs.toList 0 _ h1 (by rw[hl,h2];omega) fun f hf t ht hc=>by
    obtain⟨i,hi,hfi⟩:=List.mem_iff_getElem.1 hf
    have hi':i < fs.size:=by simpa using hi
    have:=he i f (by rw[←hfi];simp[hi'])
    rw[List.getElem?_eq_getElem (by omega)]at this
    exact pe hg n f.type t ht this
   refine⟨v,?_,k2⟩
   rwa[List.drop_zero,List.take_of_length_le (by omega)]at k1
  ·cases h
end
end Go.Ab
namespace Go.Ab
open Go.ChangeShapes Go.WideShapes Go.ChangeAt Go.RowKit Go.Deep
section
variable {H:Type} {enc:TypeId×Value→H} {P:Program} {base b0:Nat} {spare:Nat→Bool} {held:Bool} {E:Env} {W:World}
theorem xl{rd:TypeId→Ty→Bool}{fs:List Field}{off:Nat}{ty:Ty}(h:kC P rd off fs ty=true):ty.agg=true:=by
 cases fs <;> cases ty <;> first | rfl | (simp[kC]at h)
theorem A0(hw:E.w=W)(hg:∀b,E.g b= .free){n:Nat}{t:TypeId}{ty:Ty}(h:ln P n t ty=true){v:Value}{d:DataW H}{ps:List MemPlace}(hval:Value.okWide P W .any base t v)(hd:DataW.Trod enc P W b0 spare held t v d ps):
  ∃x:ty.den,VS E (.d ty x) v∧uW ty x:=by
 subst hw
 obtain⟨fuel,hf⟩:=hd
 obtain⟨x,h1,h2⟩:=pe hg n t ty h hf
 refine⟨x,⟨v.cells.toList,h1,?_⟩,h2⟩
 cases n with
 |zero=>simp[ln]at h
 |succ n=>
  unfold ln at h
  split at h
  ·rename_i k k' hu
   obtain⟨m,rfl⟩:=okWide_int hu hval
   rfl
  ·rename_i hu
   obtain⟨m,rfl⟩:=okWide_bool hu hval
   rfl
  ·rename_i hu
   obtain⟨m,rfl⟩:=okWide_string hu hval
   rfl
  ·rename_i hu
   obtain⟨a,len,cap,rfl⟩:=okWide_slice hu hval
   rfl
  ·rename_i hu
   simp only[Value.okWide,hu]at hval
   obtain⟨cs,rfl,_⟩:=hval
   show _=_
   simp[Value.cells]
  ·rename_i fs hu
   simp only[Value.okWide,hu]at hval
   obtain⟨cs,rfl,_⟩:=hval
   simp only[Bool.and_eq_true]at h
   have:=xl h.1
   simp only[aA.agg,this,eV,Value.cells,Array.toArray_toList]
  ·cases h
def DV:List Ty→Type
 |[]=>Unit
 |t::ts=>t.den×DV ts
def DV.jh:(ts:List Ty)→DV ts→List aA
 |[],_=> []
 |t::ts,x=> .d t x.1::DV.jh ts x.2
def DV.Ex:(ts:List Ty)→DV ts→Prop
 |[],_=>True
 |t::ts,x=>uW t x.1∧DV.Ex ts x.2
def jD(P:Program)(n:Nat):List TypeId→List Ty→Bool
 |[],[]=>true
 |T::Ts,t::ts=>ln P n T t && jD P n Ts ts
 |_,_=>false
theorem tt(hw:E.w=W)(hg:∀b,E.g b= .free){n:Nat}:∀ {Ts:List TypeId} {ts:List Ty} {vs:List Value} {ds:List (DataW H)} {ps:List MemPlace},jD P n Ts ts=true→
  (∀(j:Nat) t v,Ts[j]? =some t→vs[j]? =some v→Value.okWide P W .any base t v)→DataW.TrodAll enc P W b0 spare held Ts vs ds ps→∃x:DV ts,oI E (DV.jh ts x) vs∧DV.Ex ts x
 |[],[],vs,ds,ps,_,_,h=>by
  obtain⟨rfl,rfl,rfl⟩:=trodAll_nil h
  exact⟨(),trivial,trivial⟩
 |T::Ts,[],_,_,_,h,_,_=>by simp[jD]at h
 |[],t::ts,_,_,_,h,_,_=>by simp[jD]at h
 |T::Ts,t::ts,vs,ds,ps,h,hval,hd=>by
  simp only[jD,Bool.and_eq_true]at h
  obtain⟨v,vs',d,ds',p,q,rfl,rfl,rfl,h1,h2⟩:=trodAll_cons hd
  obtain⟨x,k1,k2⟩:=A0 hw hg h.1 (hval 0 T v rfl rfl) h1
  obtain⟨y,k3,k4⟩:=tt hw hg h.2 (fun j t v hj hv=>hval (j+1) t v (by simpa using hj) (by simpa using hv)) h2
  exact⟨(x,y),⟨k1,k3⟩,⟨k2,k4⟩⟩
def jX(P:Program)(Ts:List TypeId):Bool:=Ts.all fun t=>P.readableRec t && decide (t < P.types.size)
theorem nW(hl:laidOutB P=true){W':World}(hb:Below W.heap.size W W')(sp:Nat→Bool):∀ {Ts:List TypeId} {vs:List Value} {ds:List (DataW H)} {ps:List MemPlace},jX P Ts=true→(∀p∈ps,p.block < W.heap.size)→(∀p∈ps,sp p.block=true)→
  DataW.TrodAll enc P W 0 (fun _=>true) true Ts vs ds ps→DataW.TrodAll enc P W' 0 sp true Ts vs ds ps
 |[],vs,ds,ps,_,_,_,h=>by
  obtain⟨rfl,rfl,rfl⟩:=trodAll_nil h
  exact trodAll_mk0
 |T::Ts,vs,ds,ps,hr,hlt,hs,h=>by
  obtain⟨v,vs',d,ds',p,q,rfl,rfl,rfl,h1,h2⟩:=trodAll_cons h
  simp only[jX,List.all_cons,Bool.and_eq_true,decide_eq_true_eq]at hr
  have h3:=WideElems.Trod_stays hl hr.1.1 hr.1.2 h1 (fun x hx=>hb.same (hlt x (List.mem_append.2 (.inl hx)))) (fun x hx=>hs x (List.mem_append.2 (.inl hx)))
  exact⟨p,q,h3,nW hl hb sp (by simpa[jX]using hr.2) (fun x hx=>hlt x (List.mem_append.2 (.inr hx))) (fun x hx=>hs x (List.mem_append.2 (.inr hx))) h2,rfl⟩
end
theorem nr{H:Type}{enc:TypeId×Value→H}{P:Program}{W:World}{b0:Nat}{spare:Nat→Bool}{held:Bool}:∀ {Ts:List TypeId} {vs:List Value} {ds:List (DataW H)} {ps:List MemPlace},DataW.TrodAll enc P W b0 spare held Ts vs ds ps→ds.length=Ts.length
 |[],_,_,_,h=>by
  obtain⟨_,rfl,_⟩:=trodAll_nil h
  rfl
 |_::_,_,_,_,h=>by
  obtain⟨v,vs',d,ds',p,q,rfl,rfl,rfl,h1,h2⟩:=trodAll_cons h
  simp[nr h2]
theorem wj{H:Type}{enc:TypeId×Value→H}{P:Program}{f:Func}{s:ChangeSpec}{W W':World}{args:Array Value}{v:Value}{ds gs:List (DataW H)}{before:List MemPlace}{tb:TypeId}
  (hl:laidOutB P=true) (hra:jX P f.params.toList=true) (hvars:s.vars=[]) (htb:f.resultTypes= #[tb]) (hub:P.underlying tb=some .bool)
  (hW:DataW.Whole enc P f.params.toList s.vars false W args.toList ds gs before) (hfn:s.fn H (ds++gs)= {results:=[.lit (.bool true)],args:=ds}) (hb:Below W.heap.size W W') (hv:v= .bool true):
  s.post enc P f false true false false W args v W':=by
 subst hv
 have hW':=hW
 have hold:∀p∈before,(fun b=>decide (b < W.heap.size)) p.block=true:=fun p hp=>by simpa using hW.lt p hp
 obtain⟨p,q,hA,hV,rfl,hz,_⟩:=hW
 rw[hvars]at hV
 obtain⟨rfl,rfl⟩:=trodVars_none hV
 have hlt:∀x∈p,x.block < W.heap.size:=fun x hx=>hW'.lt x (List.mem_append.2 (.inl hx))
 have hargs:∀sp:Nat→Bool,(∀x∈p,sp x.block=true)→DataW.TrodAll enc P W' 0 sp true f.params.toList args.toList (s.fn H (ds++ [])).args p:=fun sp hs=>by
  rw[hfn]
  exact nW hl hb sp hra hlt hs hA
 have hres:∀(b:Nat) (sp:Nat→Bool) (hd:Bool),DataW.TrodAll enc P W' b sp hd f.resultTypes.toList ((Value.bool true).resultList f.resultTypes.size) (s.fn H (ds++ [])).results []:=fun b sp hd=>by
  rw[hfn,htb]
  exact trodAll_mk1 (shut_bool hub _)
 have hvs:∀sp:Nat→Bool,DataW.TrodVars enc P W' sp s.vars (s.fn H (ds++ [])).vars []:=fun sp=>by
  rw[hfn,hvars]
  rfl
 refine⟨ds,[],p++ [],[],p,[],hW',hres _ _ _,hargs _ (fun x hx=>hold x (List.mem_append.2 (.inl hx))),hvs _,hb.frame _,fun h=>by cases h⟩
theorem ni{P:Program}{n:Nat}:∀ {Ts:List TypeId} {ts:List Ty},jD P n Ts ts=true→Ts.length=ts.length
 |[],[],_=>rfl
 |[],_::_,h=>by simp[jD]at h
 |_::_,[],h=>by simp[jD]at h
 |_::_,_::_,h=>by
  simp only[jD,Bool.and_eq_true]at h
  simp[ni h.2]
theorem zg{H:Type}{enc:TypeId×Value→H}{P:Program}{f:FuncId}{fn:Func}{en:Entry}{s:ChangeSpec}{tb:TypeId}(n:Nat)(tys:List Ty)(hD:lv P f en)(hf:P.funcs[f]? =some fn)(hbody:fn.body.isSome=true)(hname:(fn.name== "runtime.NumGoroutine")=false)
  (hl:laidOutB P=true) (hread:jD P n fn.params.toList tys=true) (hra:jX P fn.params.toList=true) (hvars:s.vars=[]) (htb:fn.resultTypes= #[tb]) (hub:P.underlying tb=some .bool)
  (hfn:∀ds:List (DataW H),ds.length=tys.length→s.fn H (ds++ [])= {results:=[.lit (.bool true)],args:=ds})
  (hrun:∀x:DV tys,DV.Ex tys x→∃r,en.run (DV.jh tys x) []=some r∧en.out (DV.jh tys x) [] r=⟨.d .bool true,[],[]⟩)
  {W:World} {base:Nat} {args:Array Value} {ds gs:List (DataW H)} {before:List MemPlace}
  (hval:∀(j:Nat) t v,fn.params[j]? =some t→args[j]? =some v→Value.okWide P W .any base t v)
  (hW:DataW.Whole enc P fn.params.toList s.vars false W args.toList ds gs before):
  Calls P f args W fun e W'=>∃v,e= .returned v∧s.post enc P fn false true false false W args v W':=by
 have hW':=hW
 obtain⟨p,q,hA,hV,_,_,_⟩:=hW
 rw[hvars]at hV
 obtain⟨rfl,rfl⟩:=trodVars_none hV
 obtain⟨x,hx1,hx2⟩:=tt (E:=(ig []).env W (fun _=> .free) (fun _=>none)) rfl (fun _=>rfl) hread (fun j t v hj hv=>hval j t v (by simpa using hj) (by simpa using hv)) hA
 obtain⟨r,hr1,hr2⟩:=hrun x hx2
 have hent:(callFunc f args).run P W= .ok (.enter f args) W:=by
  unfold callFunc
  obtain⟨c,hc⟩:=Option.isSome_iff_exists.1 hbody
  have hname':¬fn.name= "runtime.NumGoroutine" :=by simpa using hname
  simp[hf,hname',hc]
 have hlen:ds.length=tys.length:=by rw[nr hA,ni hread]
 have ho:gh ((ig []).env W (fun _=> .free) (fun _=>none)):=fun id ver fr c h=>by
  exfalso
  cases id with
  |fB k=>simp[AS.env,AS.bY,ig]at h
  |new i j=>simp[AS.env,AS.bY,ig]at h
 rcases hD W (fun _=> .free) (fun _=>none) (DV.jh tys x) [] args.toList r hx1 ho hr1 with⟨_,hc⟩ | ⟨v,w',hc,_⟩
 ·refine hc.mono fun e w' he=> ?_
  obtain⟨v,rfl,g',β',h1,_,h2,_⟩:=he
  rw[hr2]at h1
  refine⟨v,rfl,wj hl hra hvars htb hub hW' (hfn ds hlen) ⟨h2.os,h2.tape,h2.output,h2.size,fun b hb=>(h2.yP b hb).2⟩ ?_⟩
  obtain⟨cs,k1,k2⟩:=h1
  have k1:cs=[.bool true]:=k1
  subst k1
  have k2: [Value.bool true]=[v]:=k2
  simpa using k2.symm
 ·rw[show args.toList.toArray=args from Array.toArray_toList ..,hent]at hc
  cases hc
end Go.Ab
namespace Go.Ab
abbrev W:=BitVec 32
def jt(w:W)(k:Nat):W:=w <<< (32 - k) ||| w >>> k
def Dm(a b c d:Int):W:=BitVec.ofInt 32 a <<< 24 ||| BitVec.ofInt 32 b <<< 16 ||| BitVec.ofInt 32 c <<< 8 ||| BitVec.ofInt 32 d
def be(l:List Int)(i:Nat):W:=Dm (l.getD (4*i) 0) (l.getD (4*i+1) 0) (l.getD (4*i+2) 0) (l.getD (4*i+3) 0)
structure St where
 a:W
 b:W
 c:W
 d:W
 e:W
 f:W
 g:W
 h:W
def St.l(s:St):List Int:=[vw s.a,vw s.b,vw s.c,vw s.d,vw s.e,vw s.f,vw s.g,vw s.h]
def Ez(x:W):W:=jt x 7^^^jt x 18^^^x >>> 3
def EA(y:W):W:=jt y 17^^^jt y 19^^^y >>> 10
def Cp(l:List W)(i:Nat):W:=l.getD (i - 16) 0+Ez (l.getD (i - 15) 0)+l.getD (i - 7) 0+EA (l.getD (i - 2) 0)
def ext(l:List W):List W:=l++ [Cp l l.length]
def Bu(m:List W):Nat→List W
 | 0=>m
 |n+1=>ext (Bu m n)
def words(b:List Int):List W:=(List.range 16).map (be b)
def sched(b:List Int):List W:=Bu (words b) 48
def kl:List Nat:=[
  0x428a2f98,0x71374491,0xb5c0fbcf,0xe9b5dba5,0x3956c25b,0x59f111f1,0x923f82a4,0xab1c5ed5,
  0xd807aa98,0x12835b01,0x243185be,0x550c7dc3,0x72be5d74,0x80deb1fe,0x9bdc06a7,0xc19bf174,
  0xe49b69c1,0xefbe4786,0x0fc19dc6,0x240ca1cc,0x2de92c6f,0x4a7484aa,0x5cb0a9dc,0x76f988da,
  0x983e5152,0xa831c66d,0xb00327c8,0xbf597fc7,0xc6e00bf3,0xd5a79147,0x06ca6351,0x14292967,
  0x27b70a85,0x2e1b2138,0x4d2c6dfc,0x53380d13,0x650a7354,0x766a0abb,0x81c2c92e,0x92722c85,
  0xa2bfe8a1,0xa81a664b,0xc24b8b70,0xc76c51a3,0xd192e819,0xd6990624,0xf40e3585,0x106aa070,
  0x19a4c116,0x1e376c08,0x2748774c,0x34b0bcb5,0x391c0cb3,0x4ed8aa4a,0x5b9cca4f,0x682e6ff3,
  0x748f82ee,0x78a5636f,0x84c87814,0x8cc70208,0x90befffa,0xa4506ceb,0xbef9a3f7,0xc67178f2]
def kw(i:Nat):W:=BitVec.ofNat 32 (kl.getD i 0)
def pR:List Int:=kl.map fun(n:Nat)=>(n:Int)
def Ew(s:St)(k w:W):St:=
 let t:=s.h+(jt s.e 6^^^jt s.e 11^^^jt s.e 25)+(s.g^^^s.e &&& (s.f^^^s.g))+k+w
 let r:=jt s.a 2^^^jt s.a 13^^^jt s.a 22
 let most:=s.a &&& s.b ||| s.c &&& (s.a ||| s.b)
 ⟨t+r+most,s.a,s.b,s.c,s.d+t,s.e,s.f,s.g⟩
def rounds(ws:List W)(s:St):Nat→St
 | 0=>s
 |n+1=>Ew (rounds ws s n) (kw n) (ws.getD n 0)
def pU(s:St)(b:List Int):St:=
 let v:=rounds (sched b) s 64
 ⟨v.a+s.a,v.b+s.b,v.c+s.c,v.d+s.d,v.e+s.e,v.f+s.f,v.g+s.g,v.h+s.h⟩
def iE:St:=⟨0x6a09e667,0xbb67ae85,0x3c6ef372,0xa54ff53a,0x510e527f,0x9b05688c,0x1f83d9ab,0x5be0cd19⟩
def kW:Nat→St→List Int→St
 | 0,s,_=>s
 |n+1,s,l=>kW n (pU s (l.take 64)) (l.drop 64)
def blocks(s:St)(l:List Int):St:=kW (l.length / 64) s l
def D1(w:W)(k:Nat):Int:=vw ((w >>> (24 - 8*k)).setWidth 8)
def BA(w:W):List Int:=[D1 w 0,D1 w 1,D1 w 2,D1 w 3]
def BZ(s:St):List Int:=BA s.a++BA s.b++BA s.c++BA s.d++BA s.e++BA s.f++BA s.g++BA s.h
def fJ(n:Int):List Int:=[n / 2^56%256,n / 2^48%256,n / 2^40%256,n / 2^32%256,n / 2^24%256,n / 2^16%256,n / 2^8%256,n%256]
def kJ(n:Nat):Nat:=(119 - n%64)%64
def pad(b:List Int):List Int:=b++128::(List.replicate (kJ b.length) 0++fJ (8*b.length))
def C1(b:List Int):List Int:=BZ (blocks iE (pad b))
def gQ(parts:List (List Int)):List Int:=parts.flatMap fun p=>fJ p.length++p
def qf(name:List Int)(parts:List (List Int)):List Int:=fJ name.length++name++gQ parts
def tag(name:List Int)(parts:List (List Int)):List Int:=C1 (qf name parts)
theorem xD(b:List Int):(C1 b).length=32:=rfl
theorem bJ(n:Int):(fJ n).length=8:=rfl
theorem jn(l:List W):(ext l).length=l.length+1:=by simp[ext]
theorem kS(m:List W):∀n,(Bu m n).length=m.length+n
 | 0=>rfl
 |n+1=>by rw[Bu,jn,kS m n];omega
theorem ea(b:List Int):(words b).length=16:=by simp[words]
theorem mO:∀(n:Nat) (s:St) (a b:List Int),a.length=64*n→∀m,kW (n+m) s (a++b)=kW m (kW n s a) b
 | 0,s,a,b,h,m=>by
  have:a=[]:=List.eq_nil_of_length_eq_zero (by omega)
  subst this
  simp[kW]
 |n+1,s,a,b,h,m=>by
  rw[show n+1+m=(n+m)+1 by omega,kW,kW]
  rw[List.take_append_of_le_length (by omega),List.drop_append_of_le_length (by omega)]
  exact mO n _ _ _ (by simp;omega) m
theorem nP(s:St)(a b:List Int)(h:a.length%64=0):blocks s (a++b)=blocks (blocks s a) b:=by
 unfold blocks
 have e:(a++b).length / 64=a.length / 64+b.length / 64:=by simp;omega
 rw[e]
 exact mO _ _ _ _ (by omega) _
theorem mP(s:St)(l:List Int)(h:64≤l.length):blocks s l=blocks (pU s (l.take 64)) (l.drop 64):=by
 unfold blocks
 rw[show l.length / 64=(l.drop 64).length / 64+1 by simp;omega]
 rfl
theorem lS(s:St)(l:List Int)(h:l.length < 64):blocks s l=s:=by
 unfold blocks
 rw[show l.length / 64=0 by omega]
 rfl
def tN(x:Int):Prop:=0≤x∧x < 256
def Bytes(l:List Int):Prop:=∀x∈l,tN x
theorem BB(w:BitVec 8):tN (vw w):=⟨qh w,Bl w⟩
theorem tN.vw{x:Int}(h:tN x):x=vw (BitVec.ofInt 8 x):=by
 rw[fD]
 obtain⟨h1,h2⟩:=h
 omega
theorem xc(s:St):Bytes (BZ s):=by
 intro x hx
 simp only[BZ,BA,List.mem_append,List.mem_cons,List.not_mem_nil,or_false]at hx
 rcases hx with((((((hx | hx) | hx) | hx) | hx) | hx) | hx) | hx <;> rcases hx with rfl | rfl | rfl | rfl <;> exact BB _
theorem yV(b:List Int):Bytes (C1 b):=xc _
theorem lG(n:Int):Bytes (fJ n):=by
 intro x hx
 simp only[fJ,List.mem_cons,List.not_mem_nil,or_false]at hx
 rcases hx with rfl | rfl | rfl | rfl | rfl | rfl | rfl | rfl <;> exact⟨by omega,by omega⟩
end Go.Ab
