/-
  Made short by a program of mine (wip/tools/mini.py).
-/
import Derived.Test.YtcdokckdlaegdaaGreatS20x2
import Derived.ProofKit
import Derived.OpenShut
import Derived.Deep.Slices
import Derived.Carry
set_option linter.unusedVariables false
set_option linter.unusedSimpArgs false
set_option maxRecDepth 100000
set_option synthInstance.maxSize 5000
noncomputable section
namespace Go.Ab
open Go.ChangeShapes Go.WideShapes Go.ChangeAt Go.RowKit Go.Deep
def Ef:(t:Ty)->t.den->Prop
 | .int k,x=>(Lit.int k x).wf=true
 | .bool,_=>True
 | .str,s=>(s:ByteArray).size<=maxLen
 | .slice t,l=>(l:List t.den).length<=maxLen/\∀x∈(l:List t.den),Ef t x
 | .unit,_=>True
 | .pair a b,x=>Ef a x.1/\Ef b x.2
 | .arr n t,l=>(l:List t.den).length=n/\∀x∈(l:List t.den),Ef t x
 | .kg _,_=>False
def sG(P:Program)(rd:TypeId->Ty->Bool):Nat->List Field->Ty->Bool
 |_,[],.unit=>true
 |off,f::fs,.pair a b=>Nat.beq f.offset off && (rd f.type a && (Nat.beq (P.cellsOf f.type) a.size && sG P rd (off+a.size) fs b))
 |_,_,_=>false
def tV(P:Program):Nat->TypeId->Ty->Bool
 | 0,_,_=>false
 |n+1,T,ty=>
  match P.underlying T,ty with
  |some (.int k),.int k'=>decide (k=k')
  |some .bool,.bool=>true
  |some .string,.str=>true
  |some (.slice e),.slice t=>tV P n e t && Nat.beq (P.cellsOf e) t.size
  |some (.array k e),.arr k' t=>Nat.beq k k' && (tV P n e t && (Nat.beq (P.cellsOf e) t.size && Nat.beq (P.cellsOf T) (k*t.size)))
  |some (.struct fs),ty=>sG P (tV P n) 0 fs.toList ty && Nat.beq (P.cellsOf T) ty.size
  |_,_=>false
theorem O0{a b:Nat}:(Nat.beq a b=true)=(a=b):=propext ⟨Nat.eq_of_beq_eq_true,λh=>by subst h;exact Nat.beq_refl a⟩
theorem Hq{α β:Type}{f:α->Option β}:∀ {l:List α} {r:List β},l.mapM f=some r->r.length=l.length/\∀(i:Nat) (x:α),l[i]? =some x->f x=r[i]?
 |[],r,h=>by
  simp only[List.mapM_nil,Option.pure_def,aE]at h
  subst h
  exact⟨rfl,λi x h=>by simp at h⟩
 |y::l,r,h=>by
  simp only[List.mapM_cons,Option.bind_eq_bind,Option.pure_def,Option.bind_eq_some_iff,aE]at h
  obtain⟨b,hb,r',hr,rfl⟩:=h
  obtain⟨h1,h2⟩:=Hq hr
  refine⟨by simp[h1],λi x hi=> ?_⟩
  cases i with
  |zero=>
   simp only[iT,aE]at hi
   subst hi
   simpa using hb
  |succ i=>
   simp only[mi]at hi ⊢
   exact h2 i x hi
theorem Le{w:World}{base:Nat}{a:Addr}{n:Nat}{cs:List Value}(h:w.cells? base a n=some cs):cs.length=n/\∀i,i < n->w.cell? (a.add i)=cs[i]? :=by
 unfold World.cells? at h
 split at h
 ·obtain⟨h1,h2⟩:=Hq h
  exact⟨by simpa using h1,λi hi=>h2 i i (by simp[hi])⟩
 ·cases h
theorem add_add(a:Addr)(x y:Nat):(a.add x).add y=a.add (x+y):=by
 unfold Addr.add
 by_cases hx:x=0 <;> by_cases hy:y=0 <;> simp[hx,hy,gY]
theorem Mc{w:World}{a:Addr}{v:Value}(h:w.cell? a=some v):a.spot=none:=by
 unfold World.cell? at h
 split at h
 ·split at h
  ·cases h
  ·rename_i hs
   cases hh:a.spot with
   |none=>rfl
   |some _=>simp[hh]at hs
 ·cases h
theorem So{E:Env}(hg:∀b,E.g b= .free){a:Addr}{vs:List Value}(h:∀i,i < vs.length->E.w.cell? (a.add i)=vs[i]?):vJ E (some a) vs:=by
 intro i v hv
 have hi:i < vs.length:=(fE.1 hv).1
 have h0:=h 0 (by omega)
 rw[dB (by omega)]at h0
 have hs:a.spot=none:=Mc (a:=a) (by simpa[Addr.add]using h0)
 obtain⟨b,off,sp⟩:=a
 simp only at hs
 subst hs
 refine⟨b,off,rfl,?_,?_⟩
 ·have:=h i hi
  rw[hv]at this
  rw[<-this]
  unfold Addr.add
  split
  ·rename_i h;subst h;rfl
  ·rfl
 ·unfold rq
  rw[hg b]
  trivial
section
variable {H:Type} {enc:TypeId×Value->H} {P:Program} {base:Nat} {spare:Nat->Bool} {held:Bool} {E:Env}
theorem KD{t:Ty}{R:List Value->t.den->Prop}{G:t.den->Prop}{w:World}{a:Addr}{z:Nat}(hR:∀c x,R c x->c.length=z):∀(len:Nat),(∀i,i < len->∃c x,R c x/\G x/\∀j,j < z->w.cell? (a.add (i*z+j))=c[j]?)->
  ∃(vs:List Value) (l:List t.den),vs.length=len*z/\l.length=len/\(∀i,i < vs.length->w.cell? (a.add i)=vs[i]?)/\cg R vs l/\∀x∈l,G x
 | 0,_=>⟨[],[],by simp,rfl,λi h=>by simp at h,rfl,λ_ h=>by cases h⟩
 |len+1,h=>by
  obtain⟨vs,l,h1,h2,h3,h4,h5⟩:=KD hR len λi hi=>h i (by omega)
  obtain⟨c,x,g1,g2,g3⟩:=h len (by omega)
  have hc:=hR c x g1
  refine⟨vs++c,l++ [x],by rw[ae,h1,hc,gN,kK],by rw[ae,h2];rfl,λi hi=> ?_,cg.append h4 ⟨c,[],by simp,g1,rfl⟩,λy hy=> ?_⟩
  ·rw[ae,h1,hc]at hi
   by_cases hl:i < vs.length
   ·rw[h3 i hl,kk hl]
   ·rw[List.getElem?_append_right (by omega),h1,<-g3 (i - len*z) (by omega),show len*z+(i - len*z)=i by omega]
  ·rcases cf.1 hy with hy | hy
   ·exact h5 y hy
   ·rw[aR.1 hy];exact g2
theorem Ep{t:Ty}{R:List Value->t.den->Prop}{G:t.den->Prop}{z:Nat}:∀(n:Nat) (cs:List Value),cs.length=n*z->(∀i,i < n->∃x,R ((cs.drop (i*z)).take z) x/\G x)->
  ∃l:List t.den,l.length=n/\cg R cs l/\∀x∈l,G x
 | 0,cs,h,_=>⟨[],rfl,df (by simpa using h),λ_ h=>by cases h⟩
 |n+1,cs,h,hi=>by
  obtain⟨x,g1,g2⟩:=hi 0 (by omega)
  obtain⟨l,h1,h2,h3⟩:=Ep (R:=R) (G:=G) (z:=z) n (cs.drop z) (by rw[iy,h,gN];omega) λi RK=>by
   obtain⟨y,k1,k2⟩:=hi (i+1) (by omega)
   refine⟨y,?_,k2⟩
   rw[iX,show z+i*z=(i+1)*z by rw[gN];omega]
   exact k1
  refine⟨x::l,by simp[h1],⟨cs.take z,cs.drop z,(fQ z cs).symm,by simpa using g1,h2⟩,λy hy=> ?_⟩
  rcases cH.1 hy with rfl | hy
  ·exact g2
  ·exact h3 y hy
theorem A1{rd:TypeId->Ty->Bool}{cs:List Value}:∀(fs:List Field) (off:Nat) (ty:Ty),sG P rd off fs ty=true->off+ty.size<=cs.length->
  (∀f∈fs,∀t,rd f.type t=true->P.cellsOf f.type=t.size->∃v,eY E t ((cs.drop f.offset).take (P.cellsOf f.type)) v/\Ef t v)->∃v,eY E ty ((cs.drop off).take ty.size) v/\Ef ty v
 |[],off,ty,h,hl,_=>by
  cases ty <;> simp only[sG]at h <;> first | cases h | skip
  exact⟨(),by simp[eY,Ty.size],trivial⟩
 |f::fs,off,ty,h,hl,hf=>by
  cases ty <;> simp only[sG]at h <;> first | cases h | skip
  rename_i a b
  simp only[ak,O0]at h
  obtain⟨h1,h2,h3,h4⟩:=h
  have hl:off+(a.size+b.size)<=cs.length:=hl
  obtain⟨v,k1,k2⟩:=hf f (bq ..) a h2 h3
  obtain⟨u,k3,k4⟩:=A1 fs (off+a.size) b h4 (by omega) λf' hf'=>hf f' (bj _ hf')
  refine⟨(v,u),⟨(cs.drop off).take a.size,(cs.drop (off+a.size)).take b.size,?_,?_,k3⟩,k2,k4⟩
  ·rw[show Ty.size (.pair a b)=a.size+b.size from rfl,List.take_add,iX]
  ·rw[h1,h3]at k1;exact k1
theorem yV(hg:∀b,E.g b= .free):∀(n:Nat) (T:TypeId) (ty:Ty),tV P n T ty=true->∀ {fuel:Nat} {cs:List Value} {x:DataW H×List MemPlace},DataW.trod enc P E.w base spare held fuel T cs=some x->∃v,eY E ty cs v/\Ef ty v
 | 0,_,_,h,_,_,_,_=>by simp[tV]at h
 |n+1,T,ty,h,fuel,cs,x,hx=>by
  unfold tV at h
  split at h
  ·rename_i k k' hu
   obtain rfl:=of_decide_eq_true h
   obtain⟨m,rfl,_,hw⟩:=DataW.trod_int hu hx
   exact⟨m,rfl,hw⟩
  ·rename_i hu
   obtain⟨b,rfl,_⟩:=DataW.trod_bool hu hx
   exact⟨b,rfl,trivial⟩
  ·rename_i hu
   obtain⟨s,rfl,_,hs⟩:=DataW.trod_string hu hx
   exact⟨s,rfl,hs⟩
  ·rename_i e t hu
   simp only[ak,O0]at h
   obtain⟨h1,h2⟩:=h
   rcases open_slice hu hx with⟨rfl,_⟩ | ⟨a,len,cap,m,f,D,Pl,rfl,_,hl,hm,VZ,_,he⟩
   ·exact⟨([]:List t.den),⟨none,0,[],rfl,aC _,λh=>by simp at h,λi v hv=>by simp at hv,rfl⟩,bm _,λ_ h=>by cases h⟩
   ·have RP:len<=m:=by rw[VZ];split <;> omega
    obtain⟨vs,l,k1,k2,k3,k4,k5⟩:=KD (t:=t) (R:=eY E t) (G:=Ef t) (w:=E.w) (a:=a) (z:=t.size) (λc x h=>eY.size h) len λi hi=>by
     obtain⟨cs',g1,g2⟩:=he i (by omega)
     obtain⟨v,g3,g4⟩:=yV hg n e t h1 g2
     obtain⟨g5,g6⟩:=Le g1
     refine⟨cs',v,g3,g4,λj hj=> ?_⟩
     rw[<-g6 j (by omega),add_add,h2]
    refine⟨l,⟨some a,cap,vs,by rw[k2],by rw[k2];exact hl,λ_=>rfl,So hg k3,k4⟩,by rw[k2];omega,k5⟩
  ·rename_i k e k' t hu
   simp only[ak,O0]at h
   obtain⟨rfl,h1,h2,h3⟩:=h
   obtain⟨xs,m,rfl,_,hl,OP,he⟩:=DataW.trod_array hu hx
   obtain⟨l,k1,k2,k3⟩:=Ep (t:=t) (R:=eY E t) (G:=Ef t) (z:=t.size) k cs (by rw[hl,h3]) λi hi=>by
    have:=he i hi
    rw[dB (by omega),h2]at this
    exact yV hg n e t h1 this
   exact⟨l,⟨k1,k2⟩,k1,k3⟩
  ·rename_i ty fs hu
   simp only[ak,O0]at h
   obtain⟨h1,h2⟩:=h
   obtain⟨xs,m,rfl,_,hl,OP,he⟩:=DataW.trod_struct hu hx
   obtain⟨v,k1,k2⟩:=A1 (E:=E) (cs:=cs) fs.toList 0 _ h1 (by rw[hl,h2];omega) λf hf t ht hc=>by
    obtain⟨i,hi,UW⟩:=List.mem_iff_getElem.1 hf
    have hi':i < fs.size:=by simpa using hi
    have:=he i f (by rw[<-UW];simp[hi'])
    rw[dB (by omega)]at this
    exact yV hg n f.type t ht this
   refine⟨v,?_,k2⟩
   rwa[aW,cn (by omega)]at k1
  ·cases h
end
end Go.Ab
namespace Go.Ab
open Go.ChangeShapes Go.WideShapes Go.ChangeAt Go.RowKit Go.Deep
section
variable {H:Type} {enc:TypeId×Value->H} {P:Program} {base b0:Nat} {spare:Nat->Bool} {held:Bool} {E:Env} {W:World}
theorem IY{rd:TypeId->Ty->Bool}{fs:List Field}{off:Nat}{ty:Ty}(h:sG P rd off fs ty=true):ty.agg=true:=by
 cases fs <;> cases ty <;> first | rfl | (simp[sG]at h)
theorem N6(hw:E.w=W)(hg:∀b,E.g b= .free){n:Nat}{t:TypeId}{ty:Ty}(h:tV P n t ty=true){v:Value}{d:DataW H}{ps:List MemPlace}(sI:Value.okWide P W .any base t v)(hd:DataW.Trod enc P W b0 spare held t v d ps):
  ∃x:ty.den,VS E (.d ty x) v/\Ef ty x:=by
 subst hw
 obtain⟨fuel,hf⟩:=hd
 obtain⟨x,h1,h2⟩:=yV hg n t ty h hf
 refine⟨x,⟨v.cells.toList,h1,?_⟩,h2⟩
 cases n with
 |zero=>simp[tV]at h
 |succ n=>
  unfold tV at h
  split at h
  ·rename_i k k' hu
   obtain⟨m,rfl⟩:=okWide_int hu sI
   rfl
  ·rename_i hu
   obtain⟨m,rfl⟩:=okWide_bool hu sI
   rfl
  ·rename_i hu
   obtain⟨m,rfl⟩:=okWide_string hu sI
   rfl
  ·rename_i hu
   obtain⟨a,len,cap,rfl⟩:=okWide_slice hu sI
   rfl
  ·rename_i hu
   simp only[Value.okWide,hu]at sI
   obtain⟨cs,rfl,_⟩:=sI
   show _=_
   simp[Value.cells]
  ·rename_i fs hu
   simp only[Value.okWide,hu]at sI
   obtain⟨cs,rfl,_⟩:=sI
   simp only[ak]at h
   have:=IY h.1
   simp only[aH.agg,this,jI,Value.cells,Array.toArray_toList]
  ·cases h
def DV:List Ty->Type
 |[]=>Unit
 |t::ts=>t.den×DV ts
def DV.mZ:(ts:List Ty)->DV ts->List aH
 |[],_=> []
 |t::ts,x=> .d t x.1::DV.mZ ts x.2
def DV.WN:(ts:List Ty)->DV ts->Prop
 |[],_=>True
 |t::ts,x=>Ef t x.1/\DV.WN ts x.2
def qW(P:Program)(n:Nat):List TypeId->List Ty->Bool
 |[],[]=>true
 |T::Ts,t::ts=>tV P n T t && qW P n Ts ts
 |_,_=>false
theorem EP(hw:E.w=W)(hg:∀b,E.g b= .free){n:Nat}:∀ {Ts:List TypeId} {ts:List Ty} {vs:List Value} {ds:List (DataW H)} {ps:List MemPlace},qW P n Ts ts=true->
  (∀(j:Nat) t v,Ts[j]? =some t->vs[j]? =some v->Value.okWide P W .any base t v)->DataW.TrodAll enc P W b0 spare held Ts vs ds ps->∃x:DV ts,yl E (DV.mZ ts x) vs/\DV.WN ts x
 |[],[],vs,ds,ps,_,_,h=>by
  obtain⟨rfl,rfl,rfl⟩:=trodAll_nil h
  exact⟨(),trivial,trivial⟩
 |T::Ts,[],_,_,_,h,_,_=>by simp[qW]at h
 |[],t::ts,_,_,_,h,_,_=>by simp[qW]at h
 |T::Ts,t::ts,vs,ds,ps,h,sI,hd=>by
  simp only[qW,ak]at h
  obtain⟨v,vs',d,ds',p,q,rfl,rfl,rfl,h1,h2⟩:=trodAll_cons hd
  obtain⟨x,k1,k2⟩:=N6 hw hg h.1 (sI 0 T v rfl rfl) h1
  obtain⟨y,k3,k4⟩:=EP hw hg h.2 (λj t v hj hv=>sI (j+1) t v (by simpa using hj) (by simpa using hv)) h2
  exact⟨(x,y),⟨k1,k3⟩,⟨k2,k4⟩⟩
def rA(P:Program)(Ts:List TypeId):Bool:=Ts.all λt=>P.readableRec t && decide (t < P.types.size)
theorem xt(hl:laidOutB P=true){W':World}(hb:Below W.heap.size W W')(sp:Nat->Bool):∀ {Ts:List TypeId} {vs:List Value} {ds:List (DataW H)} {ps:List MemPlace},rA P Ts=true->(∀p∈ps,p.block < W.heap.size)->(∀p∈ps,sp p.block=true)->
  DataW.TrodAll enc P W 0 (λ_=>true) true Ts vs ds ps->DataW.TrodAll enc P W' 0 sp true Ts vs ds ps
 |[],vs,ds,ps,_,_,_,h=>by
  obtain⟨rfl,rfl,rfl⟩:=trodAll_nil h
  exact trodAll_mk0
 |T::Ts,vs,ds,ps,hr,mw,hs,h=>by
  obtain⟨v,vs',d,ds',p,q,rfl,rfl,rfl,h1,h2⟩:=trodAll_cons h
  simp only[rA,kG,ak,decide_eq_true_eq]at hr
  have h3:=WideElems.Trod_stays hl hr.1.1 hr.1.2 h1 (λx hx=>hb.same (mw x (cf.2 (.inl hx)))) (λx hx=>hs x (cf.2 (.inl hx)))
  exact⟨p,q,h3,xt hl hb sp (by simpa[rA]using hr.2) (λx hx=>mw x (cf.2 (.inr hx))) (λx hx=>hs x (cf.2 (.inr hx))) h2,rfl⟩
end
theorem wG{H:Type}{enc:TypeId×Value->H}{P:Program}{W:World}{b0:Nat}{spare:Nat->Bool}{held:Bool}:∀ {Ts:List TypeId} {vs:List Value} {ds:List (DataW H)} {ps:List MemPlace},DataW.TrodAll enc P W b0 spare held Ts vs ds ps->ds.length=Ts.length
 |[],_,_,_,h=>by
  obtain⟨_,rfl,_⟩:=trodAll_nil h
  rfl
 |_::_,_,_,_,h=>by
  obtain⟨v,vs',d,ds',p,q,rfl,rfl,rfl,h1,h2⟩:=trodAll_cons h
  simp[wG h2]
theorem HT{H:Type}{enc:TypeId×Value->H}{P:Program}{f:Func}{s:ChangeSpec}{W W':World}{args:Array Value}{v:Value}{ds gs:List (DataW H)}{before:List MemPlace}{tb:TypeId}
  (hl:laidOutB P=true) (Iu:rA P f.params.toList=true) (G4:s.vars=[]) (Wg:f.resultTypes= #[tb]) (Wj:P.underlying tb=some .bool)
  (hW:DataW.Whole enc P f.params.toList s.vars false W args.toList ds gs before) (TU:s.fn H (ds++gs)= {results:=[.lit (.bool true)],args:=ds}) (hb:Below W.heap.size W W') (hv:v= .bool true):
  s.post enc P f false true false false W args v W':=by
 subst hv
 have hW':=hW
 have hold:∀p∈before,(λb=>decide (b < W.heap.size)) p.block=true:=λp hp=>by simpa using hW.lt p hp
 obtain⟨p,q,hA,hV,rfl,hz,_⟩:=hW
 rw[G4]at hV
 obtain⟨rfl,rfl⟩:=trodVars_none hV
 have mw:∀x∈p,x.block < W.heap.size:=λx hx=>hW'.lt x (cf.2 (.inl hx))
 have Na:∀sp:Nat->Bool,(∀x∈p,sp x.block=true)->DataW.TrodAll enc P W' 0 sp true f.params.toList args.toList (s.fn H (ds++ [])).args p:=λsp hs=>by
  rw[TU]
  exact xt hl hb sp Iu mw hs hA
 have Wc:∀(b:Nat) (sp:Nat->Bool) (hd:Bool),DataW.TrodAll enc P W' b sp hd f.resultTypes.toList ((Value.bool true).resultList f.resultTypes.size) (s.fn H (ds++ [])).results []:=λb sp hd=>by
  rw[TU,Wg]
  exact trodAll_mk1 (shut_bool Wj _)
 have Cn:∀sp:Nat->Bool,DataW.TrodVars enc P W' sp s.vars (s.fn H (ds++ [])).vars []:=λsp=>by
  rw[TU,G4]
  rfl
 refine⟨ds,[],p++ [],[],p,[],hW',Wc _ _ _,Na _ (λx hx=>hold x (cf.2 (.inl hx))),Cn _,hb.frame _,λh=>by cases h⟩
theorem wu{P:Program}{n:Nat}:∀ {Ts:List TypeId} {ts:List Ty},qW P n Ts ts=true->Ts.length=ts.length
 |[],[],_=>rfl
 |[],_::_,h=>by simp[qW]at h
 |_::_,[],h=>by simp[qW]at h
 |_::_,_::_,h=>by
  simp only[qW,ak]at h
  simp[wu h.2]
theorem LF{H:Type}{enc:TypeId×Value->H}{P:Program}{f:FuncId}{fn:Func}{en:Entry}{s:ChangeSpec}{tb:TypeId}(n:Nat)(tys:List Ty)(hD:qv P f en)(hf:P.funcs[f]? =some fn)(TI:fn.body.isSome=true)(v5:(fn.name== "runtime.NumGoroutine")=false)
  (hl:laidOutB P=true) (Qp:qW P n fn.params.toList tys=true) (Iu:rA P fn.params.toList=true) (G4:s.vars=[]) (Wg:fn.resultTypes= #[tb]) (Wj:P.underlying tb=some .bool)
  (TU:∀ds:List (DataW H),ds.length=tys.length->s.fn H (ds++ [])= {results:=[.lit (.bool true)],args:=ds})
  (oY:∀x:DV tys,DV.WN tys x->∃r,en.run (DV.mZ tys x) []=some r/\en.out (DV.mZ tys x) [] r=⟨.d .bool true,[],[]⟩)
  {W:World} {base:Nat} {args:Array Value} {ds gs:List (DataW H)} {before:List MemPlace}
  (sI:∀(j:Nat) t v,fn.params[j]? =some t->args[j]? =some v->Value.okWide P W .any base t v)
  (hW:DataW.Whole enc P fn.params.toList s.vars false W args.toList ds gs before):
  Calls P f args W λe W'=>∃v,e= .returned v/\s.post enc P fn false true false false W args v W':=by
 have hW':=hW
 obtain⟨p,q,hA,hV,_,_,_⟩:=hW
 rw[G4]at hV
 obtain⟨rfl,rfl⟩:=trodVars_none hV
 obtain⟨x,Wo,Wp⟩:=EP (E:=(oL []).env W (λ_=> .free) (λ_=>none)) rfl (λ_=>rfl) Qp (λj t v hj hv=>sI j t v (by simpa using hj) (by simpa using hv)) hA
 obtain⟨r,RX,Mr⟩:=oY x Wp
 have eP:(callFunc f args).run P W= .ok (.enter f args) W:=by
  unfold callFunc
  obtain⟨c,hc⟩:=dj.1 TI
  have hname':¬fn.name= "runtime.NumGoroutine" :=by simpa using v5
  simp[hf,hname',hc]
 have hlen:ds.length=tys.length:=by rw[wG hA,wu Qp]
 have ho:lO ((oL []).env W (λ_=> .free) (λ_=>none)):=λid ver fr c h=>by
  exfalso
  cases id with
  |ew k=>simp[AS.env,AS.dx,oL]at h
  |new i j=>simp[AS.env,AS.dx,oL]at h
 rcases hD W (λ_=> .free) (λ_=>none) (DV.mZ tys x) [] args.toList r Wo ho RX with⟨_,hc⟩ | ⟨v,w',hc,_⟩
 ·refine hc.mono λe w' he=> ?_
  obtain⟨v,rfl,g',β',h1,_,h2,_⟩:=he
  rw[Mr]at h1
  refine⟨v,rfl,HT hl Iu G4 Wg Wj hW' (TU ds hlen) ⟨h2.os,h2.tape,h2.output.1,h2.size,λb hb=>(h2.K6 b hb).2⟩ ?_⟩
  obtain⟨cs,k1,k2⟩:=h1
  have k1:cs=[.bool true]:=k1
  subst k1
  have k2: [Value.bool true]=[v]:=k2
  simpa using k2.symm
 ·rw[show args.toList.toArray=args from Array.toArray_toList ..,eP]at hc
  cases hc
end Go.Ab
namespace Go.Ab
abbrev W:=BitVec 32
def qO(w:W)(k:Nat):W:=w <<< (32 - k) ||| w >>> k
def Ti(a b c d:Int):W:=BitVec.ofInt 32 a <<< 24 ||| BitVec.ofInt 32 b <<< 16 ||| BitVec.ofInt 32 c <<< 8 ||| BitVec.ofInt 32 d
def be(l:List Int)(i:Nat):W:=Ti (l.getD (4*i) 0) (l.getD (4*i+1) 0) (l.getD (4*i+2) 0) (l.getD (4*i+3) 0)
structure St where
 a:W
 b:W
 c:W
 d:W
 e:W
 f:W
 g:W
 h:W
def St.l(s:St):List Int:=[vw s.a,vw s.b,vw s.c,vw s.d,vw s.e,vw s.f,vw s.g,vw s.h]
def WQ(x:W):W:=qO x 7^^^qO x 18^^^x >>> 3
def WR(y:W):W:=qO y 17^^^qO y 19^^^y >>> 10
def QM(l:List W)(i:Nat):W:=l.getD (i - 16) 0+WQ (l.getD (i - 15) 0)+l.getD (i - 7) 0+WR (l.getD (i - 2) 0)
def ext(l:List W):List W:=l++ [QM l l.length]
def OS(m:List W):Nat->List W
 | 0=>m
 |n+1=>ext (OS m n)
def words(b:List Int):List W:=(List.range 16).map (be b)
def sched(b:List Int):List W:=OS (words b) 48
def kl:List Nat:=[
  0x428a2f98,0x71374491,0xb5c0fbcf,0xe9b5dba5,0x3956c25b,0x59f111f1,0x923f82a4,0xab1c5ed5,
  0xd807aa98,0x12835b01,0x243185be,0x550c7dc3,0x72be5d74,0x80deb1fe,0x9bdc06a7,0xc19bf174,
  0xe49b69c1,0xefbe4786,0x0fc19dc6,0x240ca1cc,0x2de92c6f,0x4a7484aa,0x5cb0a9dc,0x76f988da,
  0x983e5152,0xa831c66d,0xb00327c8,0xbf597fc7,0xc6e00bf3,0xd5a79147,0x06ca6351,0x14292967,
  0x27b70a85,0x2e1b2138,0x4d2c6dfc,0x53380d13,0x650a7354,0x766a0abb,0x81c2c92e,0x92722c85,
  0xa2bfe8a1,0xa81a664b,0xc24b8b70,0xc76c51a3,0xd192e819,0xd6990624,0xf40e3585,0x106aa070,
  0x19a4c116,0x1e376c08,0x2748774c,0x34b0bcb5,0x391c0cb3,0x4ed8aa4a,0x5b9cca4f,0x682e6ff3,
  0x748f82ee,0x78a5636f,0x84c87814,0x8cc70208,0x90befffa,0xa4506ceb,0xbef9a3f7,0xc67178f2]
def kw(i:Nat):W:=BitVec.ofNat 32 (kl.getD i 0)
def zW:List Int:=kl.map λ(n:Nat)=>(n:Int)
def WM(s:St)(k w:W):St:=
 let t:=s.h+(qO s.e 6^^^qO s.e 11^^^qO s.e 25)+(s.g^^^s.e &&& (s.f^^^s.g))+k+w
 let r:=qO s.a 2^^^qO s.a 13^^^qO s.a 22
 let most:=s.a &&& s.b ||| s.c &&& (s.a ||| s.b)
 ⟨t+r+most,s.a,s.b,s.c,s.d+t,s.e,s.f,s.g⟩
def rounds(ws:List W)(s:St):Nat->St
 | 0=>s
 |n+1=>WM (rounds ws s n) (kw n) (ws.getD n 0)
def z9(s:St)(b:List Int):St:=
 let v:=rounds (sched b) s 64
 ⟨v.a+s.a,v.b+s.b,v.c+s.c,v.d+s.d,v.e+s.e,v.f+s.f,v.g+s.g,v.h+s.h⟩
def px:St:=⟨0x6a09e667,0xbb67ae85,0x3c6ef372,0xa54ff53a,0x510e527f,0x9b05688c,0x1f83d9ab,0x5be0cd19⟩
def tf:Nat->St->List Int->St
 | 0,s,_=>s
 |n+1,s,l=>tf n (z9 s (l.take 64)) (l.drop 64)
def blocks(s:St)(l:List Int):St:=tf (l.length / 64) s l
def UP(w:W)(k:Nat):Int:=vw ((w >>> (24 - 8*k)).setWidth 8)
def O2(w:W):List Int:=[UP w 0,UP w 1,UP w 2,UP w 3]
def PU(s:St):List Int:=O2 s.a++O2 s.b++O2 s.c++O2 s.d++O2 s.e++O2 s.f++O2 s.g++O2 s.h
def mu(n:Int):List Int:=[n / 2^56%256,n / 2^48%256,n / 2^40%256,n / 2^32%256,n / 2^24%256,n / 2^16%256,n / 2^8%256,n%256]
def sN(n:Nat):Nat:=(119 - n%64)%64
def pad(b:List Int):List Int:=b++128::(List.replicate (sN b.length) 0++mu (8*b.length))
def Sq(b:List Int):List Int:=PU (blocks px (pad b))
def nG(parts:List (List Int)):List Int:=parts.flatMap λp=>mu p.length++p
def Aq(name:List Int)(parts:List (List Int)):List Int:=mu name.length++name++nG parts
def tag(name:List Int)(parts:List (List Int)):List Int:=Sq (Aq name parts)
theorem Jw(b:List Int):(Sq b).length=32:=rfl
theorem dO(n:Int):(mu n).length=8:=rfl
theorem qI(l:List W):(ext l).length=l.length+1:=by simp[ext]
theorem sZ(m:List W):∀n,(OS m n).length=m.length+n
 | 0=>rfl
 |n+1=>by rw[OS,qI,sZ m n];omega
theorem iq(b:List Int):(words b).length=16:=by simp[words]
theorem vO:∀(n:Nat) (s:St) (a b:List Int),a.length=64*n->∀m,tf (n+m) s (a++b)=tf m (tf n s a) b
 | 0,s,a,b,h,m=>by
  have:a=[]:=df (by omega)
  subst this
  simp[tf]
 |n+1,s,a,b,h,m=>by
  rw[show n+1+m=(n+m)+1 by omega,tf,tf]
  rw[kJ (by omega),List.drop_append_of_le_length (by omega)]
  exact vO n _ _ _ (by simp;omega) m
theorem xj(s:St)(a b:List Int)(h:a.length%64=0):blocks s (a++b)=blocks (blocks s a) b:=by
 unfold blocks
 have e:(a++b).length / 64=a.length / 64+b.length / 64:=by simp;omega
 rw[e]
 exact vO _ _ _ _ (by omega) _
theorem vP(s:St)(l:List Int)(h:64<=l.length):blocks s l=blocks (z9 s (l.take 64)) (l.drop 64):=by
 unfold blocks
 rw[show l.length / 64=(l.drop 64).length / 64+1 by simp;omega]
 rfl
theorem uL(s:St)(l:List Int)(h:l.length < 64):blocks s l=s:=by
 unfold blocks
 rw[show l.length / 64=0 by omega]
 rfl
def DA(x:Int):Prop:=0<=x/\x < 256
def Bytes(l:List Int):Prop:=∀x∈l,DA x
theorem O3(w:BitVec 8):DA (vw w):=⟨Ar w,OF w⟩
theorem DA.vw{x:Int}(h:DA x):x=vw (BitVec.ofInt 8 x):=by
 rw[kP]
 obtain⟨h1,h2⟩:=h
 omega
theorem II(s:St):Bytes (PU s):=by
 intro x hx
 simp only[PU,O2,cf,cH,List.not_mem_nil,or_false]at hx
 rcases hx with((((((hx | hx) | hx) | hx) | hx) | hx) | hx) | hx <;> rcases hx with rfl | rfl | rfl | rfl <;> exact O3 _
theorem Lb(b:List Int):Bytes (Sq b):=II _
end Go.Ab
end
