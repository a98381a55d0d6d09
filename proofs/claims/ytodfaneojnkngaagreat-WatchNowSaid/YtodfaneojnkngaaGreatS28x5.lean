/-
  Made short by a program of mine (wip/tools/mini.py).
-/
import Derived.Test.YtodfaneojnkngaaGreatS28x4
import Derived.Shelf.SlSortCmp.NoneTotal
import Derived.Test.YtodfaneojnkngaaGreatProg
set_option linter.unusedVariables false
set_option linter.unusedSimpArgs false
set_option maxRecDepth 100000
set_option synthInstance.maxSize 5000
open Int renaming toNat->ae
open List renaming length->ag,replicate->ab,take->aR,drop->bR,set->fX
open BitVec renaming ofInt->bh
open Or renaming inl->lZ,inr->fi
open UInt8 renaming ofNat->fm
noncomputable section
namespace Go.Ab
open Go.Sort (grow)
structure aQj(P:Program)(t:Ty)(g:FuncId)(Q:t.den->Prop)(cf:t.den->t.den->Int):Prop where
 bW:∃en,ra P g en/\∀x y,Q x->Q y->∃X,en.run [.d t x,.d t y] []=some X/\en.out [.d t x,.d t y] [] X=⟨.d (.int .i64) (cf x y),[],[]⟩
 enters:∀args w,(callFunc g args).run P w= .ok (.enter g args) w
 irrefl:∀x,Q x->¬cf x x < 0
 trans:∀x y z,Q x->Q y->Q z->cf x y < 0->cf y z < 0->cf x z < 0
 ntrans:∀x y z,Q x->Q y->Q z->¬cf x y < 0->¬cf y z < 0->¬cf x z < 0
theorem aK5{w w':World}(aNz:w'.os=w.os)(aUm:w'.tape=w.tape)(ai1:w'.output=w.output/\w.drawn<=w'.drawn)(tW:w.heap.size<=w'.heap.size)(hb:∀b:Nat,b < w.heap.size->w'.heap[b]? =w.heap[b]?):
  ∃q os,w'=grow (w.drewN q) os:=by
 obtain⟨h1,t1,d1,o1,p1⟩:=w;obtain⟨h2,t2,d2,o2,p2⟩:=w';simp only at*;obtain⟨ai1,hd⟩:=ai1;subst aNz aUm ai1;obtain⟨q,rfl⟩:∃q,d2=d1+q:=⟨d2 - d1,ak⟩;refine⟨q,h2.extract h1.size h2.size,?_⟩;have hh:h2=h1++h2.extract h1.size h2.size:=by
  apply sO;intro i;rw[kK];by_cases hi:i < h1.size
  ·rw[if_pos hi,hb i hi]
  ·rw[if_neg hi,Array.getElem?_extract];by_cases h3:i < h2.size
   ·rw[if_pos ak];congr 1;omega
   ·rw[if_neg ak,Array.getElem?_eq_none ak]
 show({heap:=h2,tape:=_,drawn:=_,os:=_,output:=_}:World)= {heap:=h1++h2.extract h1.size h2.size,tape:=_,drawn:=_,os:=_,output:=_};rw[<-hh];rfl
section
variable {P:Program} {t:Ty} {g:FuncId} {Q:t.den->Prop} {cf:t.den->t.den->Int}
theorem aQj.aRf(h:aQj P t g Q cf)(ha:t.agg=true){W:World}{cx cy:List Value}{x y:t.den}(hx:df ((fN []).env W (λ_=> .free) (λ_=>none)) t cx x)
  (hy:df ((fN []).env W (λ_=> .free) (λ_=>none)) t cy y) (qx:Q x) (qy:Q y):
  Calls P g #[.agg cx.toArray,.agg cy.toArray] W λe w'=>e= .returned (.int .i64 (cf x y))/\∃q os,w'=grow (W.drewN q) os:=by
 obtain⟨en,hd,gG⟩:=h.bW;obtain⟨X,hX1,hX2⟩:=gG x y qx qy;have one:∀ {c:List Value} {z:t.den},df ((fN []).env W (λ_=> .free) (λ_=>none)) t c z->VS ((fN []).env W (λ_=> .free) (λ_=>none)) (.d t z) (.agg c.toArray):=λhz=>
  ⟨_,by simpa only[V]using hz,by show fT t.agg _ _;rw[ha];rfl⟩
 have ho:iZ ((fN []).env W (λ_=> .free) (λ_=>none)):=λid ver fr c h=>by
  exfalso;cases id with
  |bm k=>simp[AS.env,AS.bW,fN]at h
  |new i j=>simp[AS.env,AS.bW,fN]at h
 rcases hd W (λ_=> .free) (λ_=>none) [.d t x,.d t y] [] [.agg cx.toArray,.agg cy.toArray] X ⟨one hx,one hy,trivial⟩ ho hX1 with⟨_,hc⟩ | ⟨v,w',hc,_⟩
 ·refine hc.mono λe w' he=> ?_
  obtain⟨v,rfl,g',β',hv,_,ht,_⟩:=he;rw[hX2]at hv;obtain⟨cs,k1,k2⟩:=hv;have k1:cs=[.int .i64 (cf x y)]:=k1;subst k1;have k2: [Value.int .i64 (cf x y)]=[v]:=k2;have hv:v= .int .i64 (cf x y):=by simpa using k2.symm
  exact⟨by rw[hv],aK5 ht.os ht.tape ht.output ht.size λb hb=>(ht.SX b hb).2⟩
 ·rw[h.enters]at hc;cases hc
def aCr(cf:t.den->t.den->Int)(l l':List t.den):Prop:=l'.Perm l/\l'.Pairwise λx y=>¬cf y x < 0
open Classical in
def OT(cf:t.den->t.den->Int)(l:List t.den):List t.den:=if h:∃l',aCr cf l l' then h.choose else l
theorem aku(h:aQj P t g Q cf){l:List t.den}(hQ:∀x∈l,Q x):aCr cf l (OT cf l):=by
 have hx:∃l',aCr cf l l':=by
  let le: {x // Q x}-> {x // Q x}->Bool:=λx y=> !decide (cf y.1 x.1 < 0)
  refine⟨((l.attachWith Q hQ).mergeSort le).map (·.1),?_,?_⟩
  ·have h1:=(List.mergeSort_perm (l.attachWith Q hQ) le).map (·.1);rwa[List.attachWith_map_subtype_val]at h1
  ·have h2:=List.pairwise_mergeSort (le:=le) (λa b c h1 h2=>by
    simp only[le,cC,gU]at*;exact h.ntrans _ _ _ c.2 b.2 a.2 h2 h1) (λa b=>by
    simp only[le,gf,cC,gU];by_cases h1:cf b.1 a.1 < 0
    ·exact .inr λh2=>h.irrefl _ a.2 (h.trans _ _ _ a.2 b.2 a.2 h2 h1)
    ·exact .inl h1) (l.attachWith Q hQ)
   rw[List.pairwise_map];exact h2.imp λ {a b} h3=>by simpa[le]using h3
 unfold OT;rw[ze hx];exact hx.choose_spec
theorem GA(h:aQj P t g Q cf){l l':List t.den}(hQ:∀x∈l,Q x)(hT:∀x∈l,∀y∈l,¬cf x y < 0->¬cf y x < 0->x=y)(hs:aCr cf l l'):l'=OT cf l:=by have h2:=aku h hQ;exact List.Perm.eq_of_pairwise (λa b ha hb h3 h4=>hT a (hs.1.mem_iff.1 ha) b (h2.1.mem_iff.1 hb) h4 h3) hs.2 h2.2 (hs.1.trans h2.1.symm)
def RZ(g:FuncId)(e:TypeId)(t:Ty):Nat×List t.den->List aB×List dE:=λd=>([.bA (.bm 0) 0 [] 0 0 d.1,.fn g .nil],[.obj 0 false (.vec e t d.2)])
def acL(Q:t.den->Prop)(cf:t.den->t.den->Int):Nat×List t.den->Prop:=λd=>d.1=d.2.length/\d.2.length < 4611686018427387904/\(∀x∈d.2,Q x)/\∀x∈d.2,∀y∈d.2,¬cf x y < 0->¬cf y x < 0->x=y
def aP5(e:TypeId)(t:Ty):Nat×List t.den->fK:=λx=>⟨.nil,[.obj 0 false (.vec e t x.2)],[]⟩
def aMM(g:FuncId)(e:TypeId)(t:Ty)(Q:t.den->Prop)(cf:t.den->t.den->Int):Entry:=Entry.of [none,none] (RZ g e t) (acL Q cf) (λd=>(d.1,OT cf d.2)) (aP5 e t)
theorem aMR{g:FuncId}{e:TypeId}{t:Ty}(d d':Nat×List t.den)(h:RZ g e t d=RZ g e t d'):d=d':=by obtain⟨n,l⟩:=d;obtain⟨n',l'⟩:=d';simp only[RZ,cE,dh,aB.bA.injEq,dE.obj.injEq,mQ,iQ]at h;obtain⟨rfl,h2⟩:=h;rw[aMZ h2]
def akt(g:FuncId)(e:TypeId)(t:Ty)(Q:t.den->Prop)(cf:t.den->t.den->Int):Nat×List t.den->Option (Nat×List t.den):=λd=>(aMM g e t Q cf).run (RZ g e t d).1 (RZ g e t d).2
theorem awG{g:FuncId}{e:TypeId}{t:Ty}{Q:t.den->Prop}{cf:t.den->t.den->Int}{d:Nat×List t.den}(h:acL Q cf d):akt g e t Q cf d=some (d.1,OT cf d.2):=Entry.vO aMR h
theorem PQ{R:List Value->t.den->Prop}:∀ {cs:List Value} {l:List t.den},bD R cs l->(∀x∈l,Q x)->∃ps:List {p:List Value×t.den // R p.1 p.2/\Q p.2},ps.map (·.1.2)=l/\(ps.map (·.1.1)).flatten=cs
 |cs,[],h,_=>⟨[],rfl,by have h:cs=[]:=h;rw[h];rfl⟩
 |cs,x::l,⟨c,cs',h1,h2,h3⟩,hq=>by
  obtain⟨ps,h4,h5⟩:=PQ h3 λy hy=>hq y (aG _ hy)
  exact⟨⟨(c,x),h2,hq x (aI ..)⟩::ps,by simp[h4],by simp[h5,h1]⟩
theorem Ra{R R':List Value->t.den->Prop}(hR:∀c x,R c x->R' c x):∀ps:List {p:List Value×t.den // R p.1 p.2/\Q p.2},bD R' (ps.map (·.1.1)).flatten (ps.map (·.1.2))
 |[]=>rfl
 |p::ps=>⟨p.1.1,(ps.map (·.1.1)).flatten,by simp,hR _ _ p.2.1,Ra hR ps⟩
theorem am4{α:Type} [Inhabited α] (enc:α->List Value) {k:Nat} (hk:∀x,(enc x).length=k):∀(ps:List α) (j:Nat),j < ps.length*k->((ps.map enc).flatten)[j]? =(enc (ps.toArray[j / k]!))[j%k]?
 |[],j,h=>by simp at h
 |p::ps,j,h=>by
  have k0:0 < k:=by
   rcases iY k with h0 | h0
   ·subst h0;simp at h
   ·exact h0
  simp only[bQ,jt];by_cases hj:j < k
  ·rw[fq (by rw[hk];exact hj),Nat.div_eq_of_lt hj,kc hj];rfl
  ·have e1:j / k=(j - k) / k+1:=by rw[Nat.div_eq_sub_div k0 ak]
   have e2:j%k=(j - k)%k:=by rw[Nat.mod_eq_sub_mod ak]
   rw[List.getElem?_append_right (by rw[hk];omega),hk,am4 enc hk ps (j - k) (by simp only[aA,eE,iE]at h;omega),e1,e2];congr 2;simp
theorem NT{α:Type} [Inhabited α] (enc:α->List Value) {k:Nat} (hk:∀x,(enc x).length=k) (d:Array α):(Go.Sort.flatK enc k d).toList=(d.toList.map enc).flatten:=by
 have hl:((d.toList.map enc).flatten).length=d.size*k:=by
  rw[List.length_flatten,List.map_map];have:(d.toList.map (ag∘enc))=ab d.size k:=by rw[List.eq_replicate_iff];exact⟨by simp,λx hx=>by obtain⟨y,_,rfl⟩:=cT.1 hx;exact hk y⟩
  rw[this,List.sum_replicate_nat]
 apply ln;intro j;by_cases hj:j < d.size*k
 ·rw[am4 enc hk d.toList j (by simpa using hj)];have h2:(Go.Sort.flatK enc k d).toList[j]? =some ((Go.Sort.flatK enc k d)[j]!):=by rw[iP,lH _ j (by rw[Go.Sort.size_flatK];exact hj)];simp[hj]
  rw[h2,Go.Sort.get_flatK _ _ _ _ hj];have aRE:0 < k:=by
   rcases iY k with h0 | h0
   ·subst h0;simp at hj
   ·exact h0
  have hm:j%k < k:=Nat.mod_lt _ aRE;simp only[Array.toArray_toList];rw[bU (by rw[hk];exact hm),lH _ _ (by rw[hk];exact hm)]
 ·rw[dG (by simpa using hj),dG (by rw[hl];omega)]
theorem aG1{F cur:Array Value}(h:F.size<=cur.size):(Go.Sort.putCells id 0 F cur).toList=F.toList++cur.toList.drop F.size:=by
 apply ln;intro j;simp only[Go.Sort.putCells,iP,Array.getElem?_mapIdx,aK,mQ,aO,Nat.sub_zero,id];by_cases hj:j < F.size
 ·rw[fq (by simpa using hj),iP,fp hj,fp ak,dV,if_pos hj,lH F j hj]
 ·rw[List.getElem?_append_right (by simpa using hj),fV,iP,cK,show F.size+(j - F.size)=j by omega];cases cur[j]? with
  |none=>rfl
  |some y=>rw[dV,if_neg hj]
end
section
open Go.Proofs Go.Shelf Go.Lib Go.Sort
variable {P:Program} {ρ:Go.Shelf.Ren} {t:Ty} {g:FuncId} {Q:t.den->Prop} {cf:t.den->t.den->Int}
theorem acO{α:Type} [Inhabited α] (enc:α->List Value) (k:Nat) (w:World) (SX m:Nat) (dk:Array α) (os:Array Obj) {b:Nat} (hb:b < w.heap.size) (gF:b≠SX):(sortWorldK enc k w SX 0 m dk os).heap[b]? =w.heap[b]? :=by
 show((w.heap.modify SX _)++os)[b]? =_
 rw[kK,if_pos (by simpa using hb),gH,if_neg (λe=>gF e.symm)]
theorem aMU{α:Type} [Inhabited α] (enc:α->List Value) (k:Nat) (w:World) (SX m:Nat) (dk:Array α) (os:Array Obj) {cur:Array Value} {e:TypeId} {fr:Nat×Nat} (hb:w.heap[SX]? =some (.cells cur e fr)):
  (sortWorldK enc k w SX 0 m dk os).heap[SX]? =some (.cells (putCells id 0 (flatK enc k dk) cur) e fr):=by
 have gQ:SX < w.heap.size:=(bP.1 hb).1;show((w.heap.modify SX _)++os)[SX]? =_
 rw[kK,if_pos (by simpa using gQ),gH,if_pos rfl,hb];rfl
set_option maxHeartbeats 1000000 in
theorem aIj(L:SlLaysF0.n6 P ρ){e:TypeId}(ha:t.agg=true)(aE:∀w,(isAgg (ρ.t 24)).run P w= .ok true w)(zE:∀w,(Go.sizeOf (ρ.t 24)).run P w= .ok t.size w)(hc:aQj P t g Q cf):
  ra P (ρ.f 6) (aMM g e t Q cf):=by
 intro w γ β args bZ ji x hv ho hx;obtain⟨d0,aSL,ai3⟩:∃d,RZ g e t d=(args,bZ)/\acL Q cf d:=by
  by_cases hh:∃d,RZ g e t d=(args,bZ)/\acL Q cf d
  ·exact hh
  ·exfalso;have hn:(aMM g e t Q cf).run args bZ=none:=Cg hh;rw[hn]at hx;cases hx
 have hr:=awG (g:=g) (e:=e) ai3;unfold akt at hr;rw[aSL]at hr;obtain rfl:x=(d0.1,OT cf d0.2):=bf (hx.symm.trans hr);obtain⟨n,l⟩:=d0;simp only[RZ,cE]at aSL;obtain⟨rfl,rfl⟩:=aSL;obtain⟨hn,tW,hQ,hT⟩:=ai3;have hn:n=l.length:=hn;subst hn
 match ji,hv with
 |[y1,y2],⟨aPe,VE,_⟩=>
 obtain⟨vs,rfl,VF⟩:=ZR VE;have VF:vs=[]:=by simpa only[VC]using VF
 subst VF;have h1:=aPe.single rfl rfl;simp only[V]at h1;obtain⟨a,cap,h1,Qw,qX,_,fB⟩:=h1;have h1:y1= .slice a l.length cap:=by simpa using h1
 subst h1;have cQ:(fN [dE.obj 0 false (.vec e t l)]).bW (.bm 0)=some (.obj 0 false (.vec e t l)):=rfl;obtain⟨hz,hO⟩:aQZ ((fN [dE.obj 0 false (.vec e t l)]).env w γ β) (.bm 0) false e t l:=ho (.bm 0) 0 false _ cQ;have fB:=fB ⟨false,_,cQ⟩;refine .inl ⟨L.f6.enters rfl _ _,?_⟩;have aWO:∀v:Value,v= .tuple #[]->VS ((fK.st ⟨.nil,[.obj 0 false (.vec e t (OT cf l))],[]⟩).env w γ β) .nil v:=λv hv=>by rw[hv];exact rfl
 have hS:=aku hc hQ;by_cases hl:l=[]
 ·subst hl;have hs:OT cf ([]:List t.den)=[]:=bE hS.1.length_eq;refine(AnyF.slices_SortFunc_none L a cap _ w).mono λe' w' he=> ?_
  obtain⟨rfl,rfl⟩:=he;refine⟨_,rfl,?_⟩;show ua _ (⟨.nil,[.obj 0 false (.vec e t (OT cf []))],[]⟩:fK) _ _;rw[hs];exact ua.same rfl ho
 ·have uI:0 < l.length:=List.length_pos_iff.2 hl
  change (match β (.bm 0) with | none=>l=[] | some pl=>∃cur k,w.heap[pl.b]? =some (.cells cur e (0,0))/\cur.size=pl.cap*t.size/\l.length<=pl.cap/\pl.cap<=maxLen/\γ pl.b= .own (.id (.bm 0)) k/\
   k<=l.length*t.size/\(false=false->k=0)/\bD (df ((fN [dE.obj 0 false (.vec e t l)]).env w γ β) t) (cur.toList.take (l.length*t.size)) l) at hO
  change (match β (.bm 0) with | some pl=>(0 < l.length\/True->a=some ⟨pl.b,0,none⟩)/\(True->True->cap=pl.cap) | none=>a=none/\l.length=0/\cap=0) at fB;cases hβ:β (.bm 0) with
  |none=>rw[hβ]at hO;exact absurd hO hl
  |some pl=>
  rw[hβ]at hO fB;obtain⟨cur,k0,q1,q2,q3,q4,q5,_,q7,q8⟩:=hO;obtain rfl:=q7 rfl;obtain rfl:=fB.1 (.inl uI);have hblk:pl.b < w.heap.size:=(bP.1 q1).1;obtain⟨R,hR⟩:∃R:List Value->t.den->Prop,R=df ((fN [dE.obj 0 false (.vec e t l)]).env w γ β) t:=⟨_,rfl⟩;have hRm:∀c x,R c x->df ((fN [dE.obj 0 false (.vec e t l)]).env w γ β) t c x:=by rw[hR];exact λ_ _ h=>h
  rw[<-hR]at q8;obtain⟨ps,p1,p2⟩:=PQ (Q:=Q) q8 hQ;have aRS:ps.length=l.length:=by rw[<-p1,bV]
  let α:= {p:List Value×t.den // R p.1 p.2/\Q p.2}
  have:0 < ps.length:=ak
  letI:Inhabited α:=⟨ps[0]⟩
  let enc:α->List Value:=λp=>p.1.1
  let cf':α->α->Int:=λp q=>cf p.1.2 q.1.2
  have hk:∀x,(enc x).length=t.size:=λx=>(hRm _ _ x.2.1).size
  have hO:SWO (ltOf cf'):=⟨λx=>by simpa[ltOf,cf']using hc.irrefl _ x.2.2,λx y z h1 h2=>by
   simp only[ltOf,aW,cf']at*;exact hc.trans _ _ _ x.2.2 y.2.2 z.2.2 h1 h2,λx y z h1 h2=>by
   simp only[ltOf,gU,cf']at*;exact hc.ntrans _ _ _ x.2.2 y.2.2 z.2.2 h1 h2⟩
  have Ed:∀j,j < l.length*t.size->cur[j]? =((ps.map enc).flatten)[j]? :=λj hj=>by have:(ps.map enc).flatten=cur.toList.take (l.length*t.size):=p2;rw[this,di,if_pos hj,iP]
  have hH:HoldsK enc t.size w pl.b 0 ps.toArray:=λj hj=>by
   rw[size_flatK]at hj;have hj:j < ps.length*t.size:=by simpa using hj
   have h2:=Ed j (by rw[<-aRS];exact hj);have h3:((flatK enc t.size ps.toArray).toList)[j]? =((ps.map enc).flatten)[j]? :=by rw[NT enc hk]
   rw[iP,fp (by rw[size_flatK];simpa using hj)]at h3;refine⟨?_,?_⟩
   ·show(match w.heap[pl.b]? with | some (.cells c _ _)=>if(none:Option _).isSome then none else c[0+j]? | _=>none)=_;rw[q1];simp only[Option.isSome_none,bn,bt,aO];rw[h2,<-h3,lH _ j (by rw[size_flatK];simpa using hj)];rfl
   ·show(match w.heap[pl.b]? with | some (.cells _ _ (lo,hi))=>decide (lo<=0+j) && decide (0+j < hi) | _=>false)=false;rw[q1];simp
  have FO:∀(m:Nat) (dk:Array α) (os:Array Obj),uf ((fN [dE.obj 0 false (.vec e t l)]).env w γ β) ((fN []).env (sortWorldK enc t.size w pl.b 0 m dk os) (λ_=> .free) (λ_=>none)):=λm dk os=>by
   refine⟨λb off v hh=>⟨?_,trivial⟩,λb ob hf ml=>⟨rfl,?_⟩⟩
   ·obtain⟨h1,h2⟩:=hh;have hb:b < w.heap.size:=World.block_lt_of_cell? _ _ h1;have gF:b≠pl.b:=λe=>by have h2:vk γ b off:=h2;unfold vk at h2;rw[e,q5]at h2;exact Nat.not_lt_zero _ h2
    have h1:w.cell? ⟨b,off,none⟩=some v:=h1;show(sortWorldK enc t.size w pl.b 0 m dk os).cell? ⟨b,off,none⟩=some v;simpa only[World.cell?,acO enc t.size w pl.b m dk os hb gF]using h1
   ·have ml:w.heap[b]? =some ob:=ml
    have hb:b < w.heap.size:=(bP.1 ml).1;have gF:b≠pl.b:=λe=>by have hf:γ b= .free:=hf;rw[e,q5]at hf;cases hf
    exact(acO enc t.size w pl.b m dk os hb gF).trans ml
  have aTG:CmpLays P g #[] enc t.size cf' pl.b 0 ps.toArray.size w:=λm os dk _ p q=>
   hc.aRf ha ((hRm _ _ p.2.1).mono (FO m dk os)) ((hRm _ _ q.2.1).mono (FO m dk os)) p.2.2 q.2.2
  have aRt:=AnyQ.slices_SortFunc L t.size aE zE enc hk (λp=>(hRm _ _ p.2.1).one) cf' hO g #[] pl.b 0 cap ps.toArray w hc.enters aTG hH hblk (by simpa[aRS]using tW);rw[show ps.toArray.size=l.length by simpa using aRS]at aRt;refine aRt.mono λe' w' he=> ?_
  obtain⟨rfl,d',m,os,hp,hs,rfl⟩:=he;refine⟨_,rfl,?_⟩;obtain⟨s1,_,s2⟩:=hp;have hd:d'.size=l.length:=by rw[s1];simpa using aRS
  have ank:d'.toList.Perm ps:=by
   have e1:(d'.extract 0 l.length)=d':=by rw[<-hd];simp
   have e2:(ps.toArray.extract 0 l.length)=ps.toArray:=by rw[<-aRS];simp
   rw[e1,e2]at s2;exact s2
  have hl':aCr cf l (d'.toList.map (·.1.2)):=by refine⟨by rw[<-p1];exact ank.map _,?_⟩;rw[List.pairwise_map,List.pairwise_iff_getElem];intro i j hi hj aSS;have:=hs i j (aK _) aSS (by rw[<-hd];simpa using hj);rw[lH d' i (by simpa using hi),lH d' j (by simpa using hj)]at this;simpa[ltOf,cf']using this
  have heq:=GA hc hQ hT hl';show ua _ (⟨.nil,[.obj 0 false (.vec e t (OT cf l))],[]⟩:fK) _ _;rw[<-heq];have lI:=aMU enc t.size w pl.b m d' os q1;have hFs:(flatK enc t.size d').size<=cur.size:=by rw[size_flatK,hd,q2];exact cS _ q3
  have Lh:∀b,b < w.heap.size->b≠pl.b->(sortWorldK enc t.size w pl.b 0 m d' os).heap[b]? =w.heap[b]? :=λb hb gF=>acO enc t.size w pl.b m d' os hb gF
  have aFj:w.heap.size<=(sortWorldK enc t.size w pl.b 0 m d' os).heap.size:=size_sortWorldK_c enc t.size w pl.b 0 m d' os;have hw:(sortWorldK enc t.size w pl.b 0 m d' os).os=w.os/\(sortWorldK enc t.size w pl.b 0 m d' os).tape=w.tape/\((sortWorldK enc t.size w pl.b 0 m d' os).output=w.output/\w.drawn<=(sortWorldK enc t.size w pl.b 0 m d' os).drawn):=⟨rfl,rfl,rfl,qj _ _⟩;generalize sortWorldK enc t.size w pl.b 0 m d' os=w' at lI Lh aFj hw;have ht:Trans w w' γ γ:=by
   refine⟨hw.1,hw.2.1,hw.2.2,aFj,λb hb=> ?_⟩;by_cases aTB:b=pl.b
   ·subst aTB;rw[q5];exact⟨.inr ⟨_,0,rfl,ax _⟩,λ_ _ hh=>ak⟩
   ·rw[Lh b hb aTB];cases Xa:γ b with
    |free=>exact⟨rfl,rfl⟩
    |own o' k=>cases o' with
     |eo=>exact⟨rfl,rfl⟩
     |id i'=>exact⟨.inr ⟨i',k,rfl,ax _⟩,λoff v _ hv=>by simpa only[World.cell?,Lh b hb aTB]using hv⟩
  have hle:cM ((fN [dE.obj 0 false (.vec e t l)]).env w γ β) ((fK.st ⟨.nil,[.obj 0 false (.vec e t (d'.toList.map (·.1.2)))],[]⟩).env w' γ β):=by
   have e0:∀id,(∃c,(fN [dE.obj 0 false (.vec e t l)]).bW id=some (.obj 0 false c)/\id= .bm 0)\/((fN [dE.obj 0 false (.vec e t l)]).bW id=none/\(fK.st ⟨.nil,[.obj 0 false (.vec e t (d'.toList.map (·.1.2)))],[]⟩).bW id=none):=λid=>by
    cases id with
    |bm k=>cases k with
     |zero=>exact .inl ⟨_,rfl,rfl⟩
     |succ k=>exact .inr ⟨rfl,rfl⟩
    |new i j=>refine .inr ⟨?_,?_⟩ <;> cases i <;> rfl
   refine⟨Trans.mem (E:=(fN [dE.obj 0 false (.vec e t l)]).env w γ β) (E':=(fK.st ⟨.nil,[.obj 0 false (.vec e t (d'.toList.map (·.1.2)))],[]⟩).env w' γ β) ht,λid ver hb=> ?_,λid ver hb aWp=> ?_⟩
   ·rcases e0 id with⟨c,_,rfl⟩ | ⟨h1,_⟩
    ·refine⟨by show(some _:Option dE)≠none;simp,λv fr c h=> ?_⟩;have h:some (dE.obj 0 false (.vec e t (d'.toList.map (·.1.2))))=some (.obj v fr c):=h;simp only[az,dE.obj.injEq]at h;have:=hb.2 0 false _ rfl;omega
    ·exact absurd h1 hb.1
   ·rcases e0 id with⟨c,_,rfl⟩ | ⟨h1,_⟩
    ·obtain⟨fr,c,h⟩:=aWp;have h:some (dE.obj 0 false (.vec e t (d'.toList.map (·.1.2))))=some (.obj ver fr c):=h;simp only[az,dE.obj.injEq]at h;obtain⟨rfl,rfl,_⟩:=h;exact⟨⟨false,_,rfl⟩,rfl⟩
    ·exact absurd h1 hb.1
  refine⟨γ,β,rfl,λid ver fr c h=> ?_,ht,hle⟩;have cY:id= .bm 0/\ver=0/\fr=false/\c= .vec e t (d'.toList.map (·.1.2)):=by
   cases id with
   |bm k=>cases k with
    |zero=>
     have h:some (dE.obj 0 false (.vec e t (d'.toList.map (·.1.2))))=some (.obj ver fr c):=h;simp only[az,dE.obj.injEq]at h;obtain⟨rfl,rfl,rfl⟩:=h;exact⟨rfl,rfl,rfl,rfl⟩
    |succ k=>cases h
   |new i j=>cases i <;> cases h
  obtain⟨rfl,rfl,rfl,rfl⟩:=cY;refine⟨hz,?_⟩;show(match β (.bm 0) with | none=>(d'.toList.map (·.1.2))=[] | some pl=>_);rw[hβ];have hlen:(d'.toList.map (λp:α=>p.1.2)).length=l.length:=by simpa using hd
  refine⟨_,0,lI,?_,by rw[hlen];exact q3,q4,q5,aK _,λ_=>rfl,?_⟩
  ·rw[<-q2];simp[putCells]
  ·have e3:(putCells id 0 (flatK enc t.size d') cur).toList.take ((d'.toList.map (λp:α=>p.1.2)).length*t.size)=(d'.toList.map enc).flatten:=by
    rw[aG1 hFs,NT enc hk,hlen];have e4:((d'.toList.map enc).flatten).length=l.length*t.size:=by rw[<-NT enc hk,cK,size_flatK,hd]
    rw[<-e4,List.take_left]
   rw[e3];exact Ra (Q:=Q) (λc x h=>(hRm c x h).mono hle.mem) d'.toList
end
end Go.Ab
namespace Go.Ab
open Go.Proofs
abbrev DY:=Bs×Bs×Int×Int
def sR:DY->AS:=λ(BA,kI,t12,t13)=>⟨([.d tB BA,.d tB kI]++aP 10 ([.d ti t12,.d ti t13]++aP 12 [])),[],(ab 26 [])⟩
def tq:Unit->Exit×AS:=λx=>(.ret,⟨(aP 4 ([.d .bool false]++aP 21 [])),[],(ab 26 [])⟩)
def B7:Unit->Exit×AS:=λx=>(.exit 0,⟨(aP 26 []),[],(ab 26 [])⟩)
abbrev SQ:=(Unit)⊕(Unit)
abbrev afu:=(Unit)⊕(Unit)
def HU:SQ->Out (Exit×AS):=λx=> .br x.isLeft (.get x.getLeft? λa=> .ok (tq a)) (.get x.getRight? λb=> .ok (B7 b))
def mV:DY->afu->SQ:=λ(BA,kI,t12,t13) y=>match y with | .inl y=> .inl y | .inr z=> .inr (z)
def B6:DY->Prop:=λ(a,b,m,i)=>a.length<=1000000000/\a.length=b.length/\m=a.length/\∃k:Nat,k<=a.length/\i=k
def tp:DY->afu:=λ(a,b,m,i)=>if a.drop i.toNat=b.drop i.toNat then .inr () else .inl ()
def aCR:(Bs×Bs)->Prop:=λ(a,b)=>a.length<=1000000000
def aqR:(Bs×Bs)->Bool:=λ(a,b)=>decide (a=b)
def aft:=dz.fv sR B6 mV tp HU
def Pv:DY->Option SQ:=gM aft sR
def SO:Fs Tryz.prog aCR bu aqR:=eN 179 Tryz.f179 (λ(s1,s2)=>([.d tB s1,.d tB s2],[])) (λx=>⟨.d .bool x,[],[]⟩) [some tB,some tB] [] {loops:=nY [(4,{aV:=[0,1,12,13]})],outs:=nX [(4,{},{aV:=[4]})],fF:=nK [(4,aft)]}
def SP:= @eC Tryz.prog (jI SO.G) SO.an 0 Tryz.f179 0 _ sR
abbrev YN:=kP Tryz.prog (jI SO.G) SO.an 0 Tryz.f179 0 sR B6 mV tp HU
theorem alH:jf Pv B6 mV tp:=mn (jx [.d tB,.d tB,.d ti,.d ti] λ_=>b8)
theorem SR:nq @SP sR B6 mV tp HU YN:=oa
theorem Pw{R:Type}(BA:Bs)(kI:Bs)(t12:Int)(t13:Int)(kn:AS->Option R)(kx:Exit->AS->Option R):SP (BA,kI,t12,t13) kn kx=aJ ((gr t13 t12)) (aJ (ed t13 (((ag BA):Nat):Int)) (aJ (ed t13 (((ag kI):Nat):Int)) (aJ ((A7 (nth tb BA (ae t13)) (nth tb kI (ae t13)))) (kx (tq ()).1 (tq ()).2) (kn (sR (BA,kI,t12,(bI .i64 t13 (1:Int)))))) none) none) (kx (B7 ()).1 (B7 ()).2):=b8
theorem aJ0{R:Type}(s1 s2)(k:K1 R):SO.A (s1,s2) k=aJ ((A7 (s1.length:Int) (s2.length:Int))) (k (SO.out false)) (al (Pv (s1,s2,(s1.length:Int),0)) λx1=>aJ (x1.isLeft) (al (x1.getLeft?) λa2=>k (SO.out false)) (al (x1.getRight?) λb3=>k (SO.out true))):=b8
theorem aqS:YN:=by
 refine SR (λ(a,b,m,i)=>a.length - i.toNat) ?_
 rintro⟨a,b,m,i⟩ ⟨hl,Le,rfl,k,hk,rfl⟩;have hl:a.length<=1000000000:=hl;have Le:a.length=b.length:=Le;have hk:k<=a.length:=hk;by_cases h:k < a.length
 ·have h2:k < b.length:=ak;have n1:nth (.int .u8) a k=a[k]:=cd (t:=(.int .u8)) h;have n2:nth (.int .u8) b k=b[k]:=cd (t:=(.int .u8)) h2;have hd:(a.drop k=b.drop k)=(a[k]=b[k]/\a.drop (k+1)=b.drop (k+1)):=by rw[aq h,aq h2,dh]
  have step:∀ {R:Type} (kn:AS->Option R) (kx:Exit->AS->Option R),SP (a,b,(a.length:Int),(k:Int)) kn kx=if a[k]=b[k] then kn (sR (a,b,(a.length:Int),((k+1:Nat):Int))) else kx (tq ()).1 (tq ()).2:=by
   intro R kn kx;rw[Pw,aU ak,bj ak ak,bj ak ak,aa,n1,n2,N.mD ak];simp only[aj];by_cases hx:a[k]=b[k]
   ·rw[dB hx,if_pos hx];rfl
   ·rw[fo hx,if_neg hx];rfl
  by_cases hx:a[k]=b[k]
  ·left;refine⟨(a,b,(a.length:Int),((k+1:Nat):Int)),⟨hl,Le,rfl,k+1,ak,rfl⟩,by simp only[aa];omega,?_,λkn kx=> ?_⟩
   ·simp only[mV,tp,aa,hd,hx,mQ]
   ·rw[step,if_pos hx]
  ·right;refine⟨tq (),?_,λkn kx=> ?_⟩
   ·simp only[mV,tp,aa,hd,hx,false_and,bt];rfl
   ·rw[step,if_neg hx]
 ·right;obtain rfl:k=a.length:=ak;refine⟨B7 (),?_,λkn kx=> ?_⟩
  ·simp only[mV,tp,aa,aL];rw[Le,aL,if_pos rfl];rfl
  ·rw[Pw,aQ ak,ao]
theorem aJ1:SO.Ok:=by
 rintro⟨a,b⟩ hl;have hl:a.length<=1000000000:=hl;rw[aJ0];simp only[bu,aqR];by_cases h:a.length=b.length
 ·rw[dB ak,ao,alH (d:=(a,b,(a.length:Int),0)) ⟨hl,h,rfl,0,aK _,rfl⟩];simp only[ah,mV,tp,aX,aD];by_cases hx:a=b
  ·rw[if_pos hx,aM hx];rfl
  ·rw[if_neg hx,aS hx];rfl
 ·rw[fo ak,aS (λx=>h (by rw[x]))];rfl
theorem aCS:SO.RS:=rE [.d tB,.d tB] SO
def aJ2:=SO.eU aJ1 1 ⟨.fv aqS,trivial⟩
abbrev IT:=Bs×Bs×Int×Int
def vS:IT->AS:=λ(BA,kI,t12,t13)=>⟨([.d tU BA,.d tU kI]++aP 10 ([.d ti t12,.d ti t13]++aP 12 [])),[],(ab 26 [])⟩
def vR:Unit->Exit×AS:=λx=>(.ret,⟨(aP 4 ([.d .bool false]++aP 21 [])),[],(ab 26 [])⟩)
def Gi:Unit->Exit×AS:=λx=>(.exit 0,⟨(aP 26 []),[],(ab 26 [])⟩)
abbrev abw:=(Unit)⊕(Unit)
abbrev aou:=(Unit)⊕(Unit)
def OC:abw->Out (Exit×AS):=λx=> .br x.isLeft (.get x.getLeft? λa=> .ok (vR a)) (.get x.getRight? λb=> .ok (Gi b))
def pM:IT->aou->abw:=λ(BA,kI,t12,t13) y=>match y with | .inl y=> .inl y | .inr z=> .inr (z)
def Gh:IT->Prop:=λ(a,b,m,i)=>a.length<=1000000000/\a.length=b.length/\m=a.length/\∃k:Nat,k<=a.length/\i=k
def xB:IT->aou:=λ(a,b,m,i)=>if a.drop i.toNat=b.drop i.toNat then .inr () else .inl ()
def aMd:(Bs×Bs)->Prop:=λ(a,b)=>a.length<=1000000000
def aGU:(Bs×Bs)->Bool:=λ(a,b)=>decide (a=b)
def aot:=dz.fv vS Gh pM xB OC
def Wd:IT->Option abw:=gM aot vS
def peq:Fs Tryz.prog aMd bu aGU:=eN 78 Tryz.f78 (λ(s1,s2)=>([.d tU s1,.d tU s2],[])) (λx=>⟨.d .bool x,[],[]⟩) [some tU,some tU] [] {loops:=nY [(4,{aV:=[0,1,12,13]})],outs:=nX [(4,{},{aV:=[4]})],fF:=nK [(4,aot)]}
def abv:= @eC Tryz.prog (jI peq.G) peq.an 0 Tryz.f78 0 _ vS
abbrev agI:=kP Tryz.prog (jI peq.G) peq.an 0 Tryz.f78 0 vS Gh pM xB OC
theorem asZ:jf Wd Gh pM xB:=mn (jx [.d tU,.d tU,.d ti,.d ti] λ_=>b8)
theorem Xi:nq @abv vS Gh pM xB OC agI:=oa
theorem We{R:Type}(BA:Bs)(kI:Bs)(t12:Int)(t13:Int)(kn:AS->Option R)(kx:Exit->AS->Option R):abv (BA,kI,t12,t13) kn kx=aJ ((gr t13 t12)) (aJ (ed t13 (((ag BA):Nat):Int)) (aJ (ed t13 (((ag kI):Nat):Int)) (aJ ((A7 (nth tu BA (ae t13)) (nth tu kI (ae t13)))) (kx (vR ()).1 (vR ()).2) (kn (vS (BA,kI,t12,(bI .i64 t13 (1:Int)))))) none) none) (kx (Gi ()).1 (Gi ()).2):=b8
theorem aPL{R:Type}(s1 s2)(k:K1 R):peq.A (s1,s2) k=aJ ((A7 (s1.length:Int) (s2.length:Int))) (k (peq.out false)) (al (Wd (s1,s2,(s1.length:Int),0)) λx1=>aJ (x1.isLeft) (al (x1.getLeft?) λa2=>k (peq.out false)) (al (x1.getRight?) λb3=>k (peq.out true))):=b8
theorem azY:agI:=by
 refine Xi (λ(a,b,m,i)=>a.length - i.toNat) ?_
 rintro⟨a,b,m,i⟩ ⟨hl,Le,rfl,k,hk,rfl⟩;have hl:a.length<=1000000000:=hl;have Le:a.length=b.length:=Le;have hk:k<=a.length:=hk;by_cases h:k < a.length
 ·have h2:k < b.length:=ak;have n1:nth (.int .u64) a k=a[k]:=cd (t:=(.int .u64)) h;have n2:nth (.int .u64) b k=b[k]:=cd (t:=(.int .u64)) h2;have hd:(a.drop k=b.drop k)=(a[k]=b[k]/\a.drop (k+1)=b.drop (k+1)):=by rw[aq h,aq h2,dh]
  have step:∀ {R:Type} (kn:AS->Option R) (kx:Exit->AS->Option R),abv (a,b,(a.length:Int),(k:Int)) kn kx=if a[k]=b[k] then kn (vS (a,b,(a.length:Int),((k+1:Nat):Int))) else kx (vR ()).1 (vR ()).2:=by
   intro R kn kx;rw[We,aU ak,bj ak ak,bj ak ak,aa,n1,n2,N.mD ak];simp only[aj];by_cases hx:a[k]=b[k]
   ·rw[dB hx,if_pos hx];rfl
   ·rw[fo hx,if_neg hx];rfl
  by_cases hx:a[k]=b[k]
  ·left;refine⟨(a,b,(a.length:Int),((k+1:Nat):Int)),⟨hl,Le,rfl,k+1,ak,rfl⟩,by simp only[aa];omega,?_,λkn kx=> ?_⟩
   ·simp only[pM,xB,aa,hd,hx,mQ]
   ·rw[step,if_pos hx]
  ·right;refine⟨vR (),?_,λkn kx=> ?_⟩
   ·simp only[pM,xB,aa,hd,hx,false_and,bt];rfl
   ·rw[step,if_neg hx]
 ·right;obtain rfl:k=a.length:=ak;refine⟨Gi (),?_,λkn kx=> ?_⟩
  ·simp only[pM,xB,aa,aL];rw[Le,aL,if_pos rfl];rfl
  ·rw[We,aQ ak,ao]
theorem aPM:peq.Ok:=by
 rintro⟨a,b⟩ hl;have hl:a.length<=1000000000:=hl;rw[aPL];simp only[bu,aGU];by_cases h:a.length=b.length
 ·rw[dB ak,ao,asZ (d:=(a,b,(a.length:Int),0)) ⟨hl,h,rfl,0,aK _,rfl⟩];simp only[ah,pM,xB,aX,aD];by_cases hx:a=b
  ·rw[if_pos hx,aM hx];rfl
  ·rw[if_neg hx,aS hx];rfl
 ·rw[fo ak,aS (λx=>h (by rw[x]))];rfl
theorem aMe:peq.RS:=rE [.d tU,.d tU] peq
def aPN:=peq.eU aPM 1 ⟨.fv azY,trivial⟩
theorem QS{α:Type}{f:α->α->Bool}(hf:∀x,f x x=true):∀l:List α,mu f l l=true
 |[]=>rfl
 |x::l=>by rw[ID,hf,QS hf l];rfl
theorem Px:∀(t:Ty) (x:t.den),t.comp=true->t.beq x x=true
 | .int _,x,_=>by simp[Ty.beq]
 | .bool,x,_=>by simp[Ty.beq]
 | .str,x,_=>by simp[Ty.beq]
 | .unit,_,_=>rfl
 | .pair a b,x,h=>by simp only[Ty.comp,au]at h;simp only[Ty.beq,Px a x.1 h.1,Px b x.2 h.2,wi]
 | .arr _ t,l,h=>QS (λx=>Px t x h) l
 | .slice _,_,h=>by cases h
 | .ig _,_,h=>by cases h
theorem au9(t:Ty)(hc:t.comp=true)(x y:t.den) [Decidable (x=y)]:t.beq x y=decide (x=y):=by
 by_cases h:x=y
 ·subst h;rw[aM rfl,Px t x hc]
 ·rw[aS h];cases hb:t.beq x y
  ·rfl
  ·exact absurd (beq_eq t x y hc hb) h
theorem aOf(x y:Sg):Ty.beq Av x y=decide (x=y):= @au9 Av rfl x y (inferInstanceAs (Decidable (x=y)))
theorem aOe(x y:bC):Ty.beq bg x y=decide (x=y):= @au9 bg rfl x y (inferInstanceAs (Decidable (x=y)))
abbrev EP:=(List Sg)×(List Sg)×Int×Int
def tl:EP->AS:=λ(BA,kI,t12,t13)=>⟨([.d (.slice Av) BA,.d (.slice Av) kI]++aP 10 ([.d ti t12,.d ti t13]++aP 12 [])),[],(ab 26 [])⟩
def tS:Unit->Exit×AS:=λx=>(.ret,⟨(aP 4 ([.d .bool false]++aP 21 [])),[],(ab 26 [])⟩)
def CM:Unit->Exit×AS:=λx=>(.exit 0,⟨(aP 26 []),[],(ab 26 [])⟩)
abbrev Us:=(Unit)⊕(Unit)
abbrev aha:=(Unit)⊕(Unit)
def JB:Us->Out (Exit×AS):=λx=> .br x.isLeft (.get x.getLeft? λa=> .ok (tS a)) (.get x.getRight? λb=> .ok (CM b))
def ni:EP->aha->Us:=λ(BA,kI,t12,t13) y=>match y with | .inl y=> .inl y | .inr z=> .inr (z)
abbrev aH1:=(List Sg)×(List Sg)
def CL:EP->Prop:=λ(a,b,m,i)=>a.length<=1000000000/\a.length=b.length/\m=a.length/\∃k:Nat,k<=a.length/\i=k
def tR:EP->aha:=λ(a,b,m,i)=>if a.drop i.toNat=b.drop i.toNat then .inr () else .inl ()
def aH2:aH1->Prop:=λ(a,b)=>a.length<=1000000000
def at0:aH1->Bool:=λ(a,b)=>decide (a=b)
def ag9:=dz.fv tl CL ni tR JB
def RP:EP->Option Us:=gM ag9 tl
def Uq:Fs Tryz.prog aH2 bu at0:=eN 76 Tryz.f76 (λ(s1,s2)=>([.d (.slice Av) s1,.d (.slice Av) s2],[])) (λx=>⟨.d .bool x,[],[]⟩) [some (.slice Av),some (.slice Av)] [] {loops:=nY [(4,{aV:=[0,1,12,13]})],outs:=nX [(4,{},{aV:=[4]})],fF:=nK [(4,ag9)]}
def Ur:= @eC Tryz.prog (jI Uq.G) Uq.an 0 Tryz.f76 0 _ tl
abbrev acA:=kP Tryz.prog (jI Uq.G) Uq.an 0 Tryz.f76 0 tl CL ni tR JB
theorem apu:jf RP CL ni tR:=mn (jx [.d (.slice Av),.d (.slice Av),.d ti,.d ti] λ_=>b8)
theorem Ut:nq @Ur tl CL ni tR JB acA:=oa
theorem RQ{R:Type}(BA:(List Sg))(kI:(List Sg))(t12:Int)(t13:Int)(kn:AS->Option R)(kx:Exit->AS->Option R):Ur (BA,kI,t12,t13) kn kx=aJ ((gr t13 t12)) (aJ (ed t13 (((ag BA):Nat):Int)) (aJ (ed t13 (((ag kI):Nat):Int)) (aJ ((!(Ty.beq Av (nth Av BA (ae t13)) (nth Av kI (ae t13))))) (kx (tS ()).1 (tS ()).2) (kn (tl (BA,kI,t12,(bI .i64 t13 (1:Int)))))) none) none) (kx (CM ()).1 (CM ()).2):=b8
theorem aME{R:Type}(s1 s2)(k:K1 R):Uq.A (s1,s2) k=aJ ((A7 (s1.length:Int) (s2.length:Int))) (k (Uq.out false)) (al (RP (s1,s2,(s1.length:Int),0)) λx1=>aJ (x1.isLeft) (al (x1.getLeft?) λa2=>k (Uq.out false)) (al (x1.getRight?) λb3=>k (Uq.out true))):=b8
theorem at1:acA:=by
 refine Ut (λ(a,b,m,i)=>a.length - i.toNat) ?_
 rintro⟨a,b,m,i⟩ ⟨hl,Le,rfl,k,hk,rfl⟩;have hl:a.length<=1000000000:=hl;have Le:a.length=b.length:=Le;have hk:k<=a.length:=hk;by_cases h:k < a.length
 ·have h2:k < b.length:=ak;have n1:nth Av a k=a[k]:=cd (t:=Av) h;have n2:nth Av b k=b[k]:=cd (t:=Av) h2;have hd:(a.drop k=b.drop k)=(a[k]=b[k]/\a.drop (k+1)=b.drop (k+1)):=by rw[aq h,aq h2,dh]
  have step:∀ {R:Type} (kn:AS->Option R) (kx:Exit->AS->Option R),Ur (a,b,(a.length:Int),(k:Int)) kn kx=if a[k]=b[k] then kn (tl (a,b,(a.length:Int),((k+1:Nat):Int))) else kx (tS ()).1 (tS ()).2:=by
   intro R kn kx;rw[RQ,aU ak,bj ak ak,bj ak ak,aa,n1,n2,N.mD ak];simp only[aj];rw[aOf];by_cases hx:a[k]=b[k]
   ·rw[aM hx,if_pos hx];rfl
   ·rw[aS hx,if_neg hx];rfl
  by_cases hx:a[k]=b[k]
  ·left;refine⟨(a,b,(a.length:Int),((k+1:Nat):Int)),⟨hl,Le,rfl,k+1,ak,rfl⟩,by simp only[aa];omega,?_,λkn kx=> ?_⟩
   ·simp only[ni,tR,aa,hd,hx,mQ]
   ·rw[step,if_pos hx]
  ·right;refine⟨tS (),?_,λkn kx=> ?_⟩
   ·simp only[ni,tR,aa,hd,hx,false_and,bt];rfl
   ·rw[step,if_neg hx]
 ·right;obtain rfl:k=a.length:=ak;refine⟨CM (),?_,λkn kx=> ?_⟩
  ·simp only[ni,tR,aa,aL];rw[Le,aL,if_pos rfl];rfl
  ·rw[RQ,aQ ak,ao]
theorem aMF:Uq.Ok:=by
 rintro⟨a,b⟩ hl;have hl:a.length<=1000000000:=hl;rw[aME];simp only[bu,at0];by_cases h:a.length=b.length
 ·rw[dB ak,ao,apu (d:=(a,b,(a.length:Int),0)) ⟨hl,h,rfl,0,aK _,rfl⟩];simp only[ah,ni,tR,aX,aD];by_cases hx:a=b
  ·rw[if_pos hx,aM hx];rfl
  ·rw[if_neg hx,aS hx];rfl
 ·rw[fo ak,aS (λx=>h (by rw[x]))];rfl
theorem aH3:Uq.RS:=rE [.d (.slice Av),.d (.slice Av)] Uq
def aMG:=Uq.eU aMF 1 ⟨.fv at1,trivial⟩
def auv:(gK×gK)->Prop:=λ(x,y)=>x.2.1.2.1.length<=1000000000
def adi:(gK×gK)->Bool:=λ(x,y)=>decide (x=y)
def DM:Fs Tryz.prog auv bu adi:=eN 75 Tryz.f75 (λ(x,yv)=>([.d gh x,.d gh yv],[])) (λx=>⟨.d .bool x,[],[]⟩) [some gh,some gh] [aMG]
theorem aBz{R:Type}(x yv)(k:K1 R):DM.A (x,yv) k=aJ ((Ty.beq bg x.1 yv.1)) (aJ ((qY x.2.1.1 yv.2.1.1)) (aJ ((qY x.2.1.2.2.1 yv.2.1.2.2.1)) (al (Uq.call (x.2.1.2.1,yv.2.1.2.1)) λx1=>k (DM.out x1)) (k (DM.out false))) (k (DM.out false))) (k (DM.out false)):=b8
theorem aBA:DM.Ok:=by
 rintro⟨⟨f1,⟨b1,s1,c1,u1⟩,v1⟩,⟨f2,⟨b2,s2,c2,u2⟩,v2⟩⟩ h;have h:s1.length<=1000000000:=h;rw[aBz,aH3 (d:=(s1,s2)) h,aOe];simp only[ah,bu,at0,bu,adi];by_cases e1:f1=f2
 ·by_cases e2:b1=b2
  ·by_cases e3:c1=c2
   ·by_cases e4:s1=s2
    ·rw[aM e1,du e2,du e3,aM e4,aM (by rw[e1,e2,e3,e4])];rfl
    ·rw[aM e1,du e2,du e3,aS e4,aS (by rintro⟨⟩;exact e4 rfl)];rfl
   ·rw[aM e1,du e2,eS e3,aS (p:=(f1,(b1,s1,c1,u1),v1)=(f2,(b2,s2,c2,u2),v2)) (by rintro⟨⟩;exact e3 rfl)];rfl
  ·rw[aM e1,eS e2,aS (p:=(f1,(b1,s1,c1,u1),v1)=(f2,(b2,s2,c2,u2),v2)) (by rintro⟨⟩;exact e2 rfl)];rfl
 ·rw[aS e1,aS (p:=(f1,(b1,s1,c1,u1),v1)=(f2,(b2,s2,c2,u2),v2)) (by rintro⟨⟩;exact e1 rfl)];rfl
theorem auw:DM.RS:=rE [.d gh,.d gh] DM
def aBB:=DM.eU aBA
def auy:(ot×ot)->Prop:=λ(x,z)=>x.1.length<=1000000000
def adj:(ot×ot)->Bool:=λ(x,z)=>decide (x=z)
def DN:Fs Tryz.prog auy bu adj:=eN 77 Tryz.f77 (λ(x,yv)=>([.d ki x,.d ki yv],[])) (λx=>⟨.d .bool x,[],[]⟩) [some ki,some ki] [aPN]
theorem aBC{R:Type}(x yv)(k:K1 R):DN.A (x,yv) k=aJ ((qY x.2.1 yv.2.1)) (aJ ((qY x.2.2.1 yv.2.2.1)) (aJ ((qY x.2.2.2.1 yv.2.2.2.1)) (al (peq.call (x.1,yv.1)) λx1=>k (DN.out x1)) (k (DN.out false))) (k (DN.out false))) (k (DN.out false)):=b8
theorem aBD:DN.Ok:=by
 rintro⟨⟨k1,a1,d1,s1,u1⟩,⟨k2,a2,d2,s2,u2⟩⟩ h;have h:k1.length<=1000000000:=h;rw[aBC,aMe (d:=(k1,k2)) h];simp only[ah,bu,aGU,bu,adj];by_cases e1:k1=k2
 ·by_cases e2:a1=a2
  ·by_cases e3:d1=d2
   ·by_cases e4:s1=s2
    ·rw[aM e1,du e2,du e3,du e4,aM (by rw[e1,e2,e3,e4])];rfl
    ·rw[du e2,du e3,eS e4,aS (p:=(k1,a1,d1,s1,u1)=(k2,a2,d2,s2,u2)) (by rintro⟨⟩;exact e4 rfl)];rfl
   ·rw[du e2,eS e3,aS (p:=(k1,a1,d1,s1,u1)=(k2,a2,d2,s2,u2)) (by rintro⟨⟩;exact e3 rfl)];rfl
  ·rw[eS e2,aS (p:=(k1,a1,d1,s1,u1)=(k2,a2,d2,s2,u2)) (by rintro⟨⟩;exact e2 rfl)];rfl
 ·rw[aS e1,aS (p:=(k1,a1,d1,s1,u1)=(k2,a2,d2,s2,u2)) (by rintro⟨⟩;exact e1 rfl)];cases qY a1 a2 <;> cases qY d1 d2 <;> cases qY s1 s2 <;> rfl
theorem auz:DN.RS:=rE [.d ki,.d ki] DN
def aBE:=DN.eU aBD
abbrev AH:=(List ot)×(List ot)×Int×Int
def oZ:AH->AS:=λ(kI,t15,t16,t17)=>⟨([bF,.d (.slice ki) kI,.fn 77 (.nil)]++aP 12 ([.d (.slice ki) t15,.d ti t16,.d ti t17]++aP 14 [])),[],(ab 32 [])⟩
def qp:Unit->Exit×AS:=λx=>(.ret,⟨(aP 6 ([.d .bool false]++aP 25 [])),[],(ab 32 [])⟩)
def yQ:Unit->Exit×AS:=λx=>(.exit 0,⟨(aP 32 []),[],(ab 32 [])⟩)
abbrev Nj:=(Unit)⊕(Unit)
abbrev Y0:=(Unit)⊕(Unit)
def E7:Nj->Out (Exit×AS):=λx=> .br x.isLeft (.get x.getLeft? λa=> .ok (qp a)) (.get x.getRight? λb=> .ok (yQ b))
def lu:AH->Y0->Nj:=λ(kI,t15,t16,t17) y=>match y with | .inl y=> .inl y | .inr z=> .inr (z)
abbrev avh:=(List ot)×(List ot)
def yP:AH->Prop:=λ(b,a,m,i)=>(a.length<=1000000000/\∀x∈a,x.1.length<=1000000000)/\a.length=b.length/\m=a.length/\∃k:Nat,k<=a.length/\i=k
def oY:AH->Y0:=λ(b,a,m,i)=>if a.drop i.toNat=b.drop i.toNat then .inr () else .inl ()
def axJ:avh->Prop:=λ(a,b)=>a.length<=1000000000/\∀x∈a,x.1.length<=1000000000
def ahT:avh->Bool:=λ(a,b)=>decide (a=b)
def YZ:=dz.fv oZ yP lu oY E7
def Lw:AH->Option Nj:=gM YZ oZ
def D0:Fs Tryz.prog axJ bu ahT:=eN 80 Tryz.f80 (λ(s1,s2)=>([.d (.slice ki) s1,.d (.slice ki) s2,.fn 77 (.nil)],[])) (λx=>⟨.d .bool x,[],[]⟩) [some (.slice ki),some (.slice ki),none] [aBE] {loops:=nY [(4,{aV:=[1,2,15,16,17]})],outs:=nX [(4,{},{aV:=[6]})],fF:=nK [(4,YZ)]}
def Ni:= @eC Tryz.prog (jI D0.G) D0.an 0 Tryz.f80 0 _ oZ
abbrev U8:=kP Tryz.prog (jI D0.G) D0.an 0 Tryz.f80 0 oZ yP lu oY E7
theorem ahU:jf Lw yP lu oY:=mn (jx [.d (.slice ki),.d (.slice ki),.d ti,.d ti] λ_=>b8)
theorem PG:nq @Ni oZ yP lu oY E7 U8:=oa
theorem Lx{R:Type}(kI:(List ot))(t15:(List ot))(t16:Int)(t17:Int)(kn:AS->Option R)(kx:Exit->AS->Option R):Ni (kI,t15,t16,t17) kn kx=aJ ((gr t17 t16)) (aJ (ed t17 (((ag t15):Nat):Int)) (aJ (ed t17 (((ag kI):Nat):Int)) (al (DN.call ((nth ki t15 (ae t17)),(nth ki kI (ae t17)))) λx1=>aJ ((!x1)) (kx (qp ()).1 (qp ()).2) (kn (oZ (kI,t15,t16,(bI .i64 t17 (1:Int)))))) none) none) (kx (yQ ()).1 (yQ ()).2):=b8
theorem aDd{R:Type}(s1 s2)(k:K1 R):D0.A (s1,s2) k=aJ ((A7 (s1.length:Int) (s2.length:Int))) (k (D0.out false)) (al (Lw (s2,s1,(s1.length:Int),0)) λx2=>aJ (x2.isLeft) (al (x2.getLeft?) λa3=>k (D0.out false)) (al (x2.getRight?) λb4=>k (D0.out true))):=b8
theorem alX:U8:=by
 refine PG (λ(b,a,m,i)=>a.length - i.toNat) ?_
 rintro⟨b,a,m,i⟩ ⟨⟨hl,he⟩,Le,rfl,k,hk,rfl⟩;have hl:a.length<=1000000000:=hl;have Le:a.length=b.length:=Le;have hk:k<=a.length:=hk;by_cases h:k < a.length
 ·have h2:k < b.length:=ak;have n1:nth ki a k=a[k]:=cd (t:=ki) h;have n2:nth ki b k=b[k]:=cd (t:=ki) h2;have hd:(a.drop k=b.drop k)=(a[k]=b[k]/\a.drop (k+1)=b.drop (k+1)):=by rw[aq h,aq h2,dh]
  have step:∀ {R:Type} (kn:AS->Option R) (kx:Exit->AS->Option R),Ni (b,a,(a.length:Int),(k:Int)) kn kx=if a[k]=b[k] then kn (oZ (b,a,(a.length:Int),((k+1:Nat):Int))) else kx (qp ()).1 (qp ()).2:=by
   intro R kn kx;rw[Lx,aU ak,bj ak ak,bj ak ak,aa,n1,n2,N.mD ak,auz (d:=(a[k],b[k])) (he _ (aN h))];simp only[aj,ah,bu,adj];by_cases hx:a[k]=b[k]
   ·rw[aM hx,if_pos hx];rfl
   ·rw[aS hx,if_neg hx];rfl
  by_cases hx:a[k]=b[k]
  ·left;refine⟨(b,a,(a.length:Int),((k+1:Nat):Int)),⟨⟨hl,he⟩,Le,rfl,k+1,ak,rfl⟩,by simp only[aa];omega,?_,λkn kx=> ?_⟩
   ·simp only[lu,oY,aa,hd,hx,mQ]
   ·rw[step,if_pos hx]
  ·right;refine⟨qp (),?_,λkn kx=> ?_⟩
   ·simp only[lu,oY,aa,hd,hx,false_and,bt];rfl
   ·rw[step,if_neg hx]
 ·right;obtain rfl:k=a.length:=ak;refine⟨yQ (),?_,λkn kx=> ?_⟩
  ·simp only[lu,oY,aa,aL];rw[Le,aL,if_pos rfl];rfl
  ·rw[Lx,aQ ak,ao]
theorem aDe:D0.Ok:=by
 rintro⟨a,b⟩ hl;have aVC:a.length<=1000000000:=hl.1;rw[aDd];simp only[bu,ahT];by_cases h:a.length=b.length
 ·rw[dB ak,ao,ahU (d:=(b,a,(a.length:Int),0)) ⟨hl,h,rfl,0,aK _,rfl⟩];simp only[ah,lu,oY,aX,aD];by_cases hx:a=b
  ·rw[if_pos hx,aM hx];rfl
  ·rw[if_neg hx,aS hx];rfl
 ·rw[fo ak,aS (λx=>h (by rw[x]))];rfl
theorem axK:D0.RS:=rE [.d (.slice ki),.d (.slice ki)] D0
def aDf:=D0.eU aDe 1 ⟨.fv alX,trivial⟩
def auA:(gm×gm)->Prop:=λ(x,y)=>x.2.1.1.length<=1000000000/\∀b∈x.2.1.1,b.1.length<=1000000000
def adk:(gm×gm)->Bool:=λ(x,y)=>decide (x=y)
def J7:Fs Tryz.prog auA bu adk:=eN 79 Tryz.f79 (λ(x,yv)=>([.d gl x,.d gl yv,.ptr (.bm 0) 0 [] 0],[.obj 0 false (.fn 77 (.nil))])) (λx=>⟨.d .bool x,[.obj 0 false (.fn 77 (.nil))],[]⟩) [some gl,some gl,none] [aDf]
theorem aBF{R:Type}(x yv)(k:K1 R):J7.A (x,yv) k=aJ ((qY x.1 yv.1)) (al (D0.call (x.2.1.1,yv.2.1.1)) λx1=>k (J7.out x1)) (k (J7.out false)):=b8
theorem aBG:J7.Ok:=by
 rintro⟨⟨n1,⟨b1,w1⟩,u1⟩,⟨n2,⟨b2,w2⟩,u2⟩⟩ h;rw[aBF,axK (d:=(b1,b2)) h];simp only[ah,bu,ahT,bu,adk];by_cases e1:n1=n2
 ·by_cases e2:b1=b2
  ·rw[du e1,aM e2,aM (by rw[e1,e2])];rfl
  ·rw[du e1,aS e2,aS (by rintro⟨⟩;exact e2 rfl)];rfl
 ·rw[eS e1,aS (p:=(n1,(b1,w1),u1)=(n2,(b2,w2),u2)) (by rintro⟨⟩;exact e1 rfl)];rfl
theorem auB:J7.RS:=rE [.d gl,.d gl] J7
def aBH:=J7.eU aBG
abbrev Eh:=(List gK)×(List gK)×Int×Int
def td:Eh->AS:=λ(kI,t15,t16,t17)=>⟨([bF,.d (.slice gh) kI,.fn 75 (.nil)]++aP 12 ([.d (.slice gh) t15,.d ti t16,.d ti t17]++aP 14 [])),[],(ab 32 [])⟩
def tA:Unit->Exit×AS:=λx=>(.ret,⟨(aP 6 ([.d .bool false]++aP 25 [])),[],(ab 32 [])⟩)
def Cp:Unit->Exit×AS:=λx=>(.exit 0,⟨(aP 32 []),[],(ab 32 [])⟩)
abbrev TD:=(Unit)⊕(Unit)
abbrev agi:=(Unit)⊕(Unit)
def Iv:TD->Out (Exit×AS):=λx=> .br x.isLeft (.get x.getLeft? λa=> .ok (tA a)) (.get x.getRight? λb=> .ok (Cp b))
def na:Eh->agi->TD:=λ(kI,t15,t16,t17) y=>match y with | .inl y=> .inl y | .inr z=> .inr (z)
abbrev aFz:=(List gK)×(List gK)
def Co:Eh->Prop:=λ(b,a,m,i)=>(a.length<=1000000000/\∀x∈a,x.2.1.2.1.length<=1000000000)/\a.length=b.length/\m=a.length/\∃k:Nat,k<=a.length/\i=k
def tz:Eh->agi:=λ(b,a,m,i)=>if a.drop i.toNat=b.drop i.toNat then .inr () else .inl ()
def aFA:aFz->Prop:=λ(a,b)=>a.length<=1000000000/\∀x∈a,x.2.1.2.1.length<=1000000000
def ash:aFz->Bool:=λ(a,b)=>decide (a=b)
def agh:=dz.fv td Co na tz Iv
def QF:Eh->Option TD:=gM agh td
def TB:Fs Tryz.prog aFA bu ash:=eN 81 Tryz.f81 (λ(s1,s2)=>([.d (.slice gh) s1,.d (.slice gh) s2,.fn 75 (.nil)],[])) (λx=>⟨.d .bool x,[],[]⟩) [some (.slice gh),some (.slice gh),none] [aBB] {loops:=nY [(4,{aV:=[1,2,15,16,17]})],outs:=nX [(4,{},{aV:=[6]})],fF:=nK [(4,agh)]}
def TC:= @eC Tryz.prog (jI TB.G) TB.an 0 Tryz.f81 0 _ td
abbrev aab:=kP Tryz.prog (jI TB.G) TB.an 0 Tryz.f81 0 td Co na tz Iv
theorem anw:jf QF Co na tz:=mn (jx [.d (.slice gh),.d (.slice gh),.d ti,.d ti] λ_=>b8)
theorem TE:nq @TC td Co na tz Iv aab:=oa
theorem QG{R:Type}(kI:(List gK))(t15:(List gK))(t16:Int)(t17:Int)(kn:AS->Option R)(kx:Exit->AS->Option R):TC (kI,t15,t16,t17) kn kx=aJ ((gr t17 t16)) (aJ (ed t17 (((ag t15):Nat):Int)) (aJ (ed t17 (((ag kI):Nat):Int)) (al (DM.call ((nth gh t15 (ae t17)),(nth gh kI (ae t17)))) λx1=>aJ ((!x1)) (kx (tA ()).1 (tA ()).2) (kn (td (kI,t15,t16,(bI .i64 t17 (1:Int)))))) none) none) (kx (Cp ()).1 (Cp ()).2):=b8
theorem aLv{R:Type}(s1 s2)(k:K1 R):TB.A (s1,s2) k=aJ ((A7 (s1.length:Int) (s2.length:Int))) (k (TB.out false)) (al (QF (s2,s1,(s1.length:Int),0)) λx2=>aJ (x2.isLeft) (al (x2.getLeft?) λa3=>k (TB.out false)) (al (x2.getRight?) λb4=>k (TB.out true))):=b8
theorem asi:aab:=by
 refine TE (λ(b,a,m,i)=>a.length - i.toNat) ?_
 rintro⟨b,a,m,i⟩ ⟨⟨hl,he⟩,Le,rfl,k,hk,rfl⟩;have hl:a.length<=1000000000:=hl;have Le:a.length=b.length:=Le;have hk:k<=a.length:=hk;by_cases h:k < a.length
 ·have h2:k < b.length:=ak;have n1:nth gh a k=a[k]:=cd (t:=gh) h;have n2:nth gh b k=b[k]:=cd (t:=gh) h2;have hd:(a.drop k=b.drop k)=(a[k]=b[k]/\a.drop (k+1)=b.drop (k+1)):=by rw[aq h,aq h2,dh]
  have step:∀ {R:Type} (kn:AS->Option R) (kx:Exit->AS->Option R),TC (b,a,(a.length:Int),(k:Int)) kn kx=if a[k]=b[k] then kn (td (b,a,(a.length:Int),((k+1:Nat):Int))) else kx (tA ()).1 (tA ()).2:=by
   intro R kn kx;rw[QG,aU ak,bj ak ak,bj ak ak,aa,n1,n2,N.mD ak,auw (d:=(a[k],b[k])) (he _ (aN h))];simp only[aj,ah,bu,adi];by_cases hx:a[k]=b[k]
   ·rw[aM hx,if_pos hx];rfl
   ·rw[aS hx,if_neg hx];rfl
  by_cases hx:a[k]=b[k]
  ·left;refine⟨(b,a,(a.length:Int),((k+1:Nat):Int)),⟨⟨hl,he⟩,Le,rfl,k+1,ak,rfl⟩,by simp only[aa];omega,?_,λkn kx=> ?_⟩
   ·simp only[na,tz,aa,hd,hx,mQ]
   ·rw[step,if_pos hx]
  ·right;refine⟨tA (),?_,λkn kx=> ?_⟩
   ·simp only[na,tz,aa,hd,hx,false_and,bt];rfl
   ·rw[step,if_neg hx]
 ·right;obtain rfl:k=a.length:=ak;refine⟨Cp (),?_,λkn kx=> ?_⟩
  ·simp only[na,tz,aa,aL];rw[Le,aL,if_pos rfl];rfl
  ·rw[QG,aQ ak,ao]
theorem aLw:TB.Ok:=by
 rintro⟨a,b⟩ hl;have aVC:a.length<=1000000000:=hl.1;rw[aLv];simp only[bu,ash];by_cases h:a.length=b.length
 ·rw[dB ak,ao,anw (d:=(b,a,(a.length:Int),0)) ⟨hl,h,rfl,0,aK _,rfl⟩];simp only[ah,na,tz,aX,aD];by_cases hx:a=b
  ·rw[if_pos hx,aM hx];rfl
  ·rw[if_neg hx,aS hx];rfl
 ·rw[fo ak,aS (λx=>h (by rw[x]))];rfl
theorem aFB:TB.RS:=rE [.d (.slice gh),.d (.slice gh)] TB
def aLx:=TB.eU aLw 1 ⟨.fv asi,trivial⟩
abbrev Bm:=(List gm)×(List gm)×Int×Int
def pL:Bm->AS:=λ(kI,t15,t16,t17)=>⟨([bF,.d (.slice gl) kI,.fn 79 (.cons (.ptr (.bm 0) 0 [] 0) (.nil))]++aP 12 ([.d (.slice gl) t15,.d ti t16,.d ti t17]++aP 14 [])),dK (.fn 77 (.nil)),(ab 32 [])⟩
def qD:Unit->Exit×AS:=λx=>(.ret,⟨(aP 6 ([.d .bool false]++aP 25 [])),dK (.fn 77 (.nil)),(ab 32 [])⟩)
def zN:Unit->Exit×AS:=λx=>(.exit 0,⟨(aP 32 []),dK (.fn 77 (.nil)),(ab 32 [])⟩)
abbrev Oz:=(Unit)⊕(Unit)
abbrev abq:=(Unit)⊕(Unit)
def Gf:Oz->Out (Exit×AS):=λx=> .br x.isLeft (.get x.getLeft? λa=> .ok (qD a)) (.get x.getRight? λb=> .ok (zN b))
def lP:Bm->abq->Oz:=λ(kI,t15,t16,t17) y=>match y with | .inl y=> .inl y | .inr z=> .inr (z)
abbrev awl:=(List gm)×(List gm)
def zM:Bm->Prop:=λ(b,a,m,i)=>(a.length<=1000000000/\∀x∈a,x.2.1.1.length<=1000000000/\∀b∈x.2.1.1,b.1.length<=1000000000)/\a.length=b.length/\m=a.length/\∃k:Nat,k<=a.length/\i=k
def pK:Bm->abq:=λ(b,a,m,i)=>if a.drop i.toNat=b.drop i.toNat then .inr () else .inl ()
def azT:awl->Prop:=λ(a,b)=>a.length<=1000000000/\∀x∈a,x.2.1.1.length<=1000000000/\∀b∈x.2.1.1,b.1.length<=1000000000
def ajI:awl->Bool:=λ(a,b)=>decide (a=b)
def abp:=dz.fv pL zM lP pK Gf
def Mo:Bm->Option Oz:=gM abp pL
def Eo:Fs Tryz.prog azT bu ajI:=eN 82 Tryz.f82 (λ(s1,s2)=>([.d (.slice gl) s1,.d (.slice gl) s2,.fn 79 (.cons (.ptr (.bm 0) 0 [] 0) (.nil))],[.obj 0 false (.fn 77 (.nil))])) (λx=>⟨.d .bool x,[.obj 0 false (.fn 77 (.nil))],[]⟩) [some (.slice gl),some (.slice gl),none] [aBH] {loops:=nY [(4,{aV:=[1,2,15,16,17]})],outs:=nX [(4,{},{aV:=[6]})],fF:=nK [(4,abp)]}
def Oy:= @eC Tryz.prog (jI Eo.G) Eo.an 0 Tryz.f82 0 _ pL
abbrev Wb:=kP Tryz.prog (jI Eo.G) Eo.an 0 Tryz.f82 0 pL zM lP pK Gf
theorem ajJ:jf Mo zM lP pK:=mn (jx [.d (.slice gl),.d (.slice gl),.d ti,.d ti] λ_=>b8)
theorem Q8:nq @Oy pL zM lP pK Gf Wb:=oa
theorem Mp{R:Type}(kI:(List gm))(t15:(List gm))(t16:Int)(t17:Int)(kn:AS->Option R)(kx:Exit->AS->Option R):Oy (kI,t15,t16,t17) kn kx=aJ ((gr t17 t16)) (aJ (ed t17 (((ag t15):Nat):Int)) (aJ (ed t17 (((ag kI):Nat):Int)) (al (J7.call ((nth gl t15 (ae t17)),(nth gl kI (ae t17)))) λx1=>aJ ((!x1)) (kx (qD ()).1 (qD ()).2) (kn (pL (kI,t15,t16,(bI .i64 t17 (1:Int)))))) none) none) (kx (zN ()).1 (zN ()).2):=b8
theorem aGL{R:Type}(s1 s2)(k:K1 R):Eo.A (s1,s2) k=aJ ((A7 (s1.length:Int) (s2.length:Int))) (k (Eo.out false)) (al (Mo (s2,s1,(s1.length:Int),0)) λx2=>aJ (x2.isLeft) (al (x2.getLeft?) λa3=>k (Eo.out false)) (al (x2.getRight?) λb4=>k (Eo.out true))):=b8
theorem aok:Wb:=by
 refine Q8 (λ(b,a,m,i)=>a.length - i.toNat) ?_
 rintro⟨b,a,m,i⟩ ⟨⟨hl,he⟩,Le,rfl,k,hk,rfl⟩;have hl:a.length<=1000000000:=hl;have Le:a.length=b.length:=Le;have hk:k<=a.length:=hk;by_cases h:k < a.length
 ·have h2:k < b.length:=ak;have n1:nth gl a k=a[k]:=cd (t:=gl) h;have n2:nth gl b k=b[k]:=cd (t:=gl) h2;have hd:(a.drop k=b.drop k)=(a[k]=b[k]/\a.drop (k+1)=b.drop (k+1)):=by rw[aq h,aq h2,dh]
  have step:∀ {R:Type} (kn:AS->Option R) (kx:Exit->AS->Option R),Oy (b,a,(a.length:Int),(k:Int)) kn kx=if a[k]=b[k] then kn (pL (b,a,(a.length:Int),((k+1:Nat):Int))) else kx (qD ()).1 (qD ()).2:=by
   intro R kn kx;rw[Mp,aU ak,bj ak ak,bj ak ak,aa,n1,n2,N.mD ak,auB (d:=(a[k],b[k])) (he _ (aN h))];simp only[aj,ah,bu,adk];by_cases hx:a[k]=b[k]
   ·rw[aM hx,if_pos hx];rfl
   ·rw[aS hx,if_neg hx];rfl
  by_cases hx:a[k]=b[k]
  ·left;refine⟨(b,a,(a.length:Int),((k+1:Nat):Int)),⟨⟨hl,he⟩,Le,rfl,k+1,ak,rfl⟩,by simp only[aa];omega,?_,λkn kx=> ?_⟩
   ·simp only[lP,pK,aa,hd,hx,mQ]
   ·rw[step,if_pos hx]
  ·right;refine⟨qD (),?_,λkn kx=> ?_⟩
   ·simp only[lP,pK,aa,hd,hx,false_and,bt];rfl
   ·rw[step,if_neg hx]
 ·right;obtain rfl:k=a.length:=ak;refine⟨zN (),?_,λkn kx=> ?_⟩
  ·simp only[lP,pK,aa,aL];rw[Le,aL,if_pos rfl];rfl
  ·rw[Mp,aQ ak,ao]
theorem aGM:Eo.Ok:=by
 rintro⟨a,b⟩ hl;have aVC:a.length<=1000000000:=hl.1;rw[aGL];simp only[bu,ajI];by_cases h:a.length=b.length
 ·rw[dB ak,ao,ajJ (d:=(b,a,(a.length:Int),0)) ⟨hl,h,rfl,0,aK _,rfl⟩];simp only[ah,lP,pK,aX,aD];by_cases hx:a=b
  ·rw[if_pos hx,aM hx];rfl
  ·rw[if_neg hx,aS hx];rfl
 ·rw[fo ak,aS (λx=>h (by rw[x]))];rfl
theorem azU:Eo.RS:=rE [.d (.slice gl),.d (.slice gl)] Eo
def aGN:=Eo.eU aGM 1 ⟨.fv aok,trivial⟩
def aBI:(dw×dw)->Prop:=λ(a,b)=>ahA a
def akN:(dw×dw)->Bool:=λ(a,b)=>decide (a=b)
def J6:Fs Tryz.prog aBI bu akN:=eN 34 Tryz.f34 (λ(a,b)=>([.d ez a,.d ez b],[])) (λx=>⟨.d .bool x,[],[]⟩) [some ez,some ez] [aLx,aGN]
theorem aIC{R:Type}(a b)(k:K1 R):J6.A (a,b) k=aJ ((qY a.2.2.1 b.2.2.1)) (al (TB.call (a.1,b.1)) λx1=>aJ (x1) (al (Eo.call (a.2.1,b.2.1)) λx2=>k (J6.out x2)) (k (J6.out false))) (k (J6.out false)):=b8
theorem aID:J6.Ok:=by
 rintro⟨⟨i1,o1,n1,u1⟩,⟨i2,o2,n2,u2⟩⟩ h;have h:ahA (i1,o1,n1,u1):=h;rw[aIC,aFB (d:=(i1,i2)) h.1,azU (d:=(o1,o2)) h.2];simp only[ah,bu,ash,bu,ajI,bu,akN];by_cases e1:n1=n2
 ·by_cases e2:i1=i2
  ·by_cases e3:o1=o2
   ·rw[du e1,aM e2,aM e3,aM (by rw[e1,e2,e3])];rfl
   ·rw[du e1,aM e2,aS e3,aS (by rintro⟨⟩;exact e3 rfl)];rfl
  ·rw[du e1,aS e2,aS (p:=(i1,o1,n1,u1)=(i2,o2,n2,u2)) (by rintro⟨⟩;exact e2 rfl)];rfl
 ·rw[eS e1,aS (p:=(i1,o1,n1,u1)=(i2,o2,n2,u2)) (by rintro⟨⟩;exact e1 rfl)];rfl
theorem aho:J6.RS:=rE [.d ez,.d ez] J6
def ap3:=J6.eU aID
def zZ(x:gK):Bool:=decide (x.2.1.2.1.length<=14)
def zY(b:ot):Bool:=decide (b.1.length<=14)
def u7(o:gm):Bool:=decide (o.2.1.1.length<=6) && o.2.1.1.all zY
def akq(t:dw):Bool:=decide (t.1.length<=66/\t.2.1.length<=66) && (t.1.all zZ && t.2.1.all u7)
abbrev rK:=dw×Int
def kE:rK->AS:=λ(oO,i)=>⟨([bF,.dO ez oO,bF,.d ti i]++aP 69 []),[],(ab 73 [])⟩
def lf:Unit->Exit×AS:=λx=>(.ret,⟨([bF,bF,.d .bool false]++aP 70 []),[],(ab 73 [])⟩)
def sD:dw->Exit×AS:=λx=>(.exit 0,⟨([bF,.dO ez x]++aP 71 []),[],(ab 73 [])⟩)
abbrev Dw:=(Unit)⊕(dw)
abbrev Mz:=(Unit)⊕(Unit)
def yi:Dw->Out (Exit×AS):=λx=> .br x.isLeft (.get x.getLeft? λa=> .ok (lf a)) (.get x.getRight? λb=> .ok (sD b))
def iJ:rK->Mz->Dw:=λ(oO,i) y=>match y with | .inl y=> .inl y | .inr z=> .inr (oO)
abbrev rM:=dw×Int
def kF:rM->AS:=λ(vl,fM)=>⟨([bF,.dO ez vl,bF,bF,.d ti fM]++aP 68 []),[],(ab 73 [])⟩
def iL:Unit->Exit×AS:=λx=>(.ret,⟨([bF,bF,.d .bool false]++aP 70 []),[],(ab 73 [])⟩)
def sF:Unit->Exit×AS:=λx=>(.exit 2,⟨(aP 73 []),[],(ab 73 [])⟩)
abbrev Dy:=(Unit)⊕(Unit)
abbrev MB:=(Unit)⊕(Unit)
def yj:Dy->Out (Exit×AS):=λx=> .br x.isLeft (.get x.getLeft? λa=> .ok (iL a)) (.get x.getRight? λb=> .ok (sF b))
def iK:rM->MB->Dy:=λ(vl,fM) y=>match y with | .inl y=> .inl y | .inr z=> .inr (z)
abbrev rN:=dw×Int×Int
def kG:rN->AS:=λ(XJ,G9,kv)=>⟨([bF,.dO ez XJ,bF,bF,.d ti G9,.d ti kv]++aP 67 []),[],(ab 73 [])⟩
def lg:Unit->Exit×AS:=λx=>(.ret,⟨([bF,bF,.d .bool false]++aP 70 []),[],(ab 73 [])⟩)
def sH:(dw×Int)->Exit×AS:=λx=>(.exit 4,⟨([bF,.dO ez x.1,bF,bF,.d ti x.2]++aP 68 []),[],(ab 73 [])⟩)
abbrev DA:=(Unit)⊕((dw×Int))
abbrev MD:=(Unit)⊕(Unit)
def yk:DA->Out (Exit×AS):=λx=> .br x.isLeft (.get x.getLeft? λa=> .ok (lg a)) (.get x.getRight? λb=> .ok (sH b))
def iM:rN->MD->DA:=λ(XJ,G9,kv) y=>match y with | .inl y=> .inl y | .inr z=> .inr ((XJ,G9))
def sC:rK->Prop:=λ(t,i)=>t.1.length<=1000000000/\∃k:Nat,k<=t.1.length/\i=k
def jW:rK->Mz:=λ(t,i)=>if(bR (ae i) t.1).all zZ then .inr () else .inl ()
def sG:rN->Prop:=λ(t,j,i)=>(nth gl t.2.1 (ae j)).2.1.1.length<=1000000000/\∃k:Nat,k<=(nth gl t.2.1 (ae j)).2.1.1.length/\i=k/\(0<=j/\j < (t.2.1.length:Int))
def jY:rN->MD:=λ(t,j,i)=>if(bR (ae i) (nth gl t.2.1 (ae j)).2.1.1).all zY then .inr () else .inl ()
def sE:rM->Prop:=λ(t,i)=>t.2.1.length<=1000000000/\∃k:Nat,k<=t.2.1.length/\i=k
def jX:rM->MB:=λ(t,i)=>if(bR (ae i) t.2.1).all u7 then .inr () else .inl ()
def aj3:dw->Prop:=λ_=>True
def OL:dw->Bool:=λt=>akq t
def My:=dz.fv kE sC iJ jW yi
def ED:rK->Option Dw:=gM My kE
def MA:=dz.fv kF sE iK jX yj
def EF:rM->Option Dy:=gM MA kF
def MC:=dz.fv kG sG iM jY yk
def EH:rN->Option DA:=gM MC kG
def gb:Fs Tryz.prog aj3 bu OL:=eN 42 Tryz.f42 (λt=>([.d ez t],[])) (λx=>⟨.d .bool x,[],[]⟩) [some ez] [] {loops:=nY [(4,{aV:=[1,3]}),(9,{aV:=[1,4]}),(14,{aV:=[1,4,5]})],outs:=nX [(4,{aV:=[1]},{aV:=[2]}),(9,{},{aV:=[2]}),(14,{aV:=[1,4]},{aV:=[2]})],fF:=nK [(4,My),(9,MA),(14,MC)]}
def Dv:= @eC Tryz.prog (jI gb.G) gb.an 0 Tryz.f42 0 _ kE
abbrev Ja:=kP Tryz.prog (jI gb.G) gb.an 0 Tryz.f42 0 kE sC iJ jW yi
def Dx:= @eC Tryz.prog (jI gb.G) gb.an 0 Tryz.f42 1 _ kF
abbrev Jc:=kP Tryz.prog (jI gb.G) gb.an 0 Tryz.f42 1 kF sE iK jX yj
def Dz:= @eC Tryz.prog (jI gb.G) gb.an 0 Tryz.f42 2 _ kG
abbrev Je:=kP Tryz.prog (jI gb.G) gb.an 0 Tryz.f42 2 kG sG iM jY yk
theorem Xw:jf ED sC iJ jW:=mn (jx [.d ez,.d ti] λ_=>b8)
theorem Jb:nq @Dv kE sC iJ jW yi Ja:=oa
theorem EE{R:Type}(oO:dw)(i:Int)(kn:AS->Option R)(kx:Exit->AS->Option R):Dv (oO,i) kn kx=aJ ((gr i (((ag oO.1):Nat):Int))) (aJ (ed i (((ag oO.1):Nat):Int)) (aJ ((qZ (((ag (nth gh oO.1 (ae i)).2.1.2.1):Nat):Int) (14:Int))) (kx (lf ()).1 (lf ()).2) (kn (kE (oO,(bI .i64 i (1:Int)))))) none) (kx (sD oO).1 (sD oO).2):=b8
theorem Xx:jf EF sE iK jX:=mn (jx [.d ez,.d ti] λ_=>b8)
theorem Jd:nq @Dx kF sE iK jX yj Jc:=oa
theorem EG{R:Type}(vl:dw)(fM:Int)(kn:AS->Option R)(kx:Exit->AS->Option R):Dx (vl,fM) kn kx=aJ ((gr fM (((ag vl.2.1):Nat):Int))) (aJ (ed fM (((ag vl.2.1):Nat):Int)) (aJ ((qZ (((ag (nth gl vl.2.1 (ae fM)).2.1.1):Nat):Int) (6:Int))) (kx (iL ()).1 (iL ()).2) (al (EH (vl,fM,(0:Int))) λx1=>aJ (x1.isLeft) (al (x1.getLeft?) λa2=>kx (iL ()).1 (iL ()).2) (al (x1.getRight?) λb3=>kn (kF (b3.1,(bI .i64 b3.2 (1:Int))))))) none) (kx (sF ()).1 (sF ()).2):=b8
theorem Xy:jf EH sG iM jY:=mn (jx [.d ez,.d ti,.d ti] λ_=>b8)
theorem Jf:nq @Dz kG sG iM jY yk Je:=oa
theorem EI{R:Type}(XJ:dw)(G9:Int)(kv:Int)(kn:AS->Option R)(kx:Exit->AS->Option R):Dz (XJ,G9,kv) kn kx=aJ (ed G9 (((ag XJ.2.1):Nat):Int)) (aJ ((gr kv (((ag (nth gl XJ.2.1 (ae G9)).2.1.1):Nat):Int))) (aJ (ed G9 (((ag XJ.2.1):Nat):Int)) (aJ (ed kv (((ag (nth gl XJ.2.1 (ae G9)).2.1.1):Nat):Int)) (aJ ((qZ (((ag (nth ki (nth gl XJ.2.1 (ae G9)).2.1.1 (ae kv)).1):Nat):Int) (14:Int))) (kx (lg ()).1 (lg ()).2) (kn (kG (XJ,G9,(bI .i64 kv (1:Int)))))) none) none) (kx (sH (XJ,G9)).1 (sH (XJ,G9)).2)) none:=b8
theorem aoN{R:Type}(t)(k:K1 R):gb.A t k=aJ ((qZ (t.1.length:Int) 66)) (k (gb.out false)) (aJ ((qZ (t.2.1.length:Int) 66)) (k (gb.out false)) (al (ED (t,0)) λx1=>aJ (x1.isLeft) (al (x1.getLeft?) λa2=>k (gb.out false)) (al (x1.getRight?) λb3=>al (EF (b3,0)) λx7=>aJ (x7.isLeft) (al (x7.getLeft?) λa8=>k (gb.out false)) (al (x7.getRight?) λb9=>k (gb.out true))))):=b8
theorem abM:Ja:=by
 refine Jb (λ(t,i)=>t.1.length - ae i) ?_
 rintro⟨t,i⟩ ⟨hlen,k,hk,rfl⟩;have hlen:t.1.length<=1000000000:=hlen;have hk:k<=t.1.length:=hk;by_cases h:k < t.1.length
 ·have n1:nth gh t.1 k=t.1[k]:=cd (t:=gh) h;have hd:(bR k t.1).all zZ=(zZ t.1[k] && (bR (k+1) t.1).all zZ):=by rw[aq h,ff]
  have step:∀ {R:Type} (kn:AS->Option R) (kx:Exit->AS->Option R),Dv (t,(k:Int)) kn kx=aJ (zZ t.1[k]) (kn (kE (t,((k+1:Nat):Int)))) (kx (lf ()).1 (lf ()).2):=by
   intro R kn kx;rw[EE,aU ak,bj (show(0:Int)<=(k:Int) by omega) ak,aa,n1];simp only[aj];rw[N.mD ak];unfold zZ;by_cases hs:t.1[k].2.1.2.1.length<=14
   ·rw[cr ak,aM hs];rfl
   ·rw[cP ak,aS hs];rfl
  cases hp:zZ t.1[k]
  ·right;refine⟨lf (),?_,λkn kx=> ?_⟩
   ·simp only[iJ,jW,aa,hd,hp,cH,bn,bt];rfl
   ·rw[step,hp,ao]
  ·left;refine⟨(t,((k+1:Nat):Int)),⟨hlen,k+1,ak,rfl⟩,by simp only[aa];omega,?_,λkn kx=> ?_⟩
   ·simp only[iJ,jW,aa,hd,hp,bw]
   ·rw[step,hp,aj]
 ·right;obtain rfl:k=t.1.length:=ak;refine⟨sD t,?_,λkn kx=> ?_⟩
  ·simp only[iJ,jW,aa,aL];rfl
  ·rw[EE,aQ ak,ao]
theorem abO:Je:=by
 refine Jf (λ(t,j,i)=>(nth gl t.2.1 (ae j)).2.1.1.length - ae i) ?_
 rintro⟨t,j,i⟩ ⟨hlen,k,hk,rfl,hj⟩;have hlen:(nth gl t.2.1 (ae j)).2.1.1.length<=1000000000:=hlen;have hk:k<=(nth gl t.2.1 (ae j)).2.1.1.length:=hk;have hj:0<=j/\j < (t.2.1.length:Int):=hj;by_cases h:k < (nth gl t.2.1 (ae j)).2.1.1.length
 ·have n1:nth ki (nth gl t.2.1 (ae j)).2.1.1 k=(nth gl t.2.1 (ae j)).2.1.1[k]:=cd (t:=ki) h;have hd:(bR k (nth gl t.2.1 (ae j)).2.1.1).all zY=(zY (nth gl t.2.1 (ae j)).2.1.1[k] && (bR (k+1) (nth gl t.2.1 (ae j)).2.1.1).all zY):=by rw[aq h,ff]
  have step:∀ {R:Type} (kn:AS->Option R) (kx:Exit->AS->Option R),Dz (t,j,(k:Int)) kn kx=aJ (zY (nth gl t.2.1 (ae j)).2.1.1[k]) (kn (kG (t,j,((k+1:Nat):Int)))) (kx (lg ()).1 (lg ()).2):=by
   intro R kn kx;rw[EI,bj hj.1 hj.2,aj,aU ak,bj (show(0:Int)<=(k:Int) by omega) ak,aa,n1];simp only[aj];rw[N.mD ak];unfold zY;by_cases hs:(nth gl t.2.1 (ae j)).2.1.1[k].1.length<=14
   ·rw[cr ak,aM hs];rfl
   ·rw[cP ak,aS hs];rfl
  cases hp:zY (nth gl t.2.1 (ae j)).2.1.1[k]
  ·right;refine⟨lg (),?_,λkn kx=> ?_⟩
   ·simp only[iM,jY,aa,hd,hp,cH,bn,bt];rfl
   ·rw[step,hp,ao]
  ·left;refine⟨(t,j,((k+1:Nat):Int)),⟨hlen,k+1,ak,rfl,hj⟩,by simp only[aa];omega,?_,λkn kx=> ?_⟩
   ·simp only[iM,jY,aa,hd,hp,bw]
   ·rw[step,hp,aj]
 ·right;obtain rfl:k=(nth gl t.2.1 (ae j)).2.1.1.length:=ak;refine⟨sH (t,j),?_,λkn kx=> ?_⟩
  ·simp only[iM,jY,aa,aL];rfl
  ·rw[EI,bj hj.1 hj.2,aj,aQ ak,ao]
theorem abN:Jc:=by
 refine Jd (λ(t,i)=>t.2.1.length - ae i) ?_
 rintro⟨t,i⟩ ⟨hlen,k,hk,rfl⟩;have hlen:t.2.1.length<=1000000000:=hlen;have hk:k<=t.2.1.length:=hk;by_cases h:k < t.2.1.length
 ·have n1:nth gl t.2.1 k=t.2.1[k]:=cd (t:=gl) h;have hd:(bR k t.2.1).all u7=(u7 t.2.1[k] && (bR (k+1) t.2.1).all u7):=by rw[aq h,ff]
  have step:∀ {R:Type} (kn:AS->Option R) (kx:Exit->AS->Option R),Dx (t,(k:Int)) kn kx=aJ (u7 t.2.1[k]) (kn (kF (t,((k+1:Nat):Int)))) (kx (iL ()).1 (iL ()).2):=by
   intro R kn kx;rw[EG,aU ak,bj (show(0:Int)<=(k:Int) by omega) ak,aa,n1];simp only[aj];unfold u7;by_cases hs:t.2.1[k].2.1.1.length<=6
   ·rw[cr ak,aM hs,ao,Xy (d:=(t,(k:Int),0)) ⟨by rw[aa,n1];show t.2.1[k].2.1.1.length<=_;omega,0,aK _,rfl,by show(0:Int)<=(k:Int);omega,by show(k:Int) < (t.2.1.length:Int);omega⟩];simp only[ah,iM,jY,aa,n1,aX,aD,bw];cases t.2.1[k].2.1.1.all zY
    ·rfl
    ·simp only[bG,dJ,da,ao,ah,aj];rw[N.mD ak]
   ·rw[cP ak,aS hs];rfl
  cases hp:u7 t.2.1[k]
  ·right;refine⟨iL (),?_,λkn kx=> ?_⟩
   ·simp only[iK,jX,aa,hd,hp,cH,bn,bt];rfl
   ·rw[step,hp,ao]
  ·left;refine⟨(t,((k+1:Nat):Int)),⟨hlen,k+1,ak,rfl⟩,by simp only[aa];omega,?_,λkn kx=> ?_⟩
   ·simp only[iK,jX,aa,hd,hp,bw]
   ·rw[step,hp,aj]
 ·right;obtain rfl:k=t.2.1.length:=ak;refine⟨sF (),?_,λkn kx=> ?_⟩
  ·simp only[iK,jX,aa,aL];rfl
  ·rw[EG,aQ ak,ao]
theorem aoO:gb.Ok:=by
 intro t _;rw[aoN];simp only[bu,OL,akq];by_cases h1:t.1.length<=66
 ·by_cases h2:t.2.1.length<=66
  ·rw[cr ak,cr ak,ao,ao,aM ⟨h1,h2⟩,Xw (d:=(t,0)) ⟨by show t.1.length<=_;omega,0,aK _,rfl⟩];simp only[ah,iJ,jW,aX,aD,bw];cases t.1.all zZ
   ·rfl
   ·simp only[bG,dJ,da,ao,ah,bw];rw[Xx (d:=(t,0)) ⟨by show t.2.1.length<=_;omega,0,aK _,rfl⟩];simp only[ah,iK,jX,aX,aD];cases t.2.1.all u7 <;> rfl
  ·rw[cr ak,cP ak,aS (λx=>h2 x.2)];rfl
 ·rw[cP ak,aS (λx=>h1 x.1)];rfl
theorem aj4:gb.RS:=rE [.d ez] gb
def aoP:=gb.eU aoO 3 ⟨.fv abM,⟨.fv abN,⟨.fv abO,trivial⟩⟩⟩
def H7(a b:bC):Int:=aQL [adW a.1 b.1,ary a.2.1 b.2.1]
def aDl:(bC×bC)->Prop:=λ(a,b)=>a.1.length=32/\b.1.length=32
def aDk:(bC×bC)->Int:=λ(a,b)=>H7 a b
def ard:Fs Tryz.prog aDl bu aDk:=eN 62 Tryz.f62 (λ(a,b)=>([.d bg a,.d bg b],[])) (λx=>⟨.d ti x,[],[]⟩) [some bg,some bg] [aJZ,aLn,aOv]
theorem aKd{R:Type}(a b)(k:K1 R):ard.A (a,b) k=al (aqN.call ((cut a.1 0 32),(cut b.1 0 32))) λx1=>al (Xc.call (a.2.1,b.2.1)) λx2=>al (aCe.call [x1,x2]) λx3=>k (ard.out x3):=b8
theorem aKe:ard.Ok:=by rintro⟨a,b⟩ ⟨ha,hb⟩;have ha:a.1.length=32:=ha;have hb:b.1.length=32:=hb;have c1:cut a.1 0 32=a.1:=eY ha;have c2:cut b.1 0 32=b.1:=eY hb;rw[aKd,c1,c2,aCP (d:=(a.1,b.1)) trivial];simp only[ah,bu,aCN];rw[aFs (d:=(a.2.1,b.2.1)) trivial];simp only[ah,bu,asf];rw[aKF (d:=[adW a.1 b.1,ary a.2.1 b.2.1]) (by show 2<=_;decide)];simp only[ah,bu,aD6,bu,aDk,H7]
theorem aDm:ard.RS:=rE [.d bg,.d bg] ard
def aKf:=ard.eU aKe
def lx:List Int->List Int->Int
 |x::xs,y::ys=>if x≠y then(if x < y then -1 else 1) else lx xs ys
 |_,_=>0
theorem av8:∀a,lx a a=0
 |[]=>rfl
 |x::a=>by simp[lx,av8 a]
theorem aNK:∀ {a b:List Int},a.length=b.length->lx a b=0->a=b
 |[],[],_,_=>rfl
 |[],_::_,h,_=>by simp at h
 |_::_,[],h,_=>by simp at h
 |x::a,y::b,h,h2=>by
  simp only[lx]at h2;split at h2
  ·split at h2 <;> omega
  ·rename_i e;have e:x=y:=ak;rw[e,aNK (by simpa using h) h2]
theorem aaC:∀a b:List Int,lx b a= - lx a b
 |[],[]=>rfl
 |[],_::_=>rfl
 |_::_,[]=>rfl
 |x::a,y::b=>by
  simp only[lx];by_cases h:x=y
  ·rw[if_neg ak,if_neg ak,aaC a b]
  ·rw[if_pos ak,if_pos h];by_cases h2:x < y
   ·rw[if_neg ak,if_pos h2];rfl
   ·rw[if_pos ak,if_neg h2]
theorem aaD:∀ {a b c:List Int},a.length=b.length->b.length=c.length->lx a b<=0->lx b c<=0->lx a c<=0/\(lx a c=0->lx a b=0/\lx b c=0)
 |[],[],[],_,_,_,_=>by simp[lx]
 |x::a,y::b,z::c,h1,h2,h3,h4=>by
  have ih:=aaD (a:=a) (b:=b) (c:=c) (by simpa using h1) (by simpa using h2);simp only[lx]at h3 h4 ⊢;by_cases e1:x=y
  ·by_cases e2:y=z
   ·rw[if_neg ak]at h3 h4;rw[if_neg ak,if_neg ak,if_neg ak];exact ih h3 h4
   ·rw[if_neg ak]at h3;rw[if_pos e2]at h4;rw[if_pos ak];by_cases e3:y < z
    ·rw[if_pos ak];exact⟨ak,λh=>ak⟩
    ·rw[if_neg e3]at h4;omega
  ·rw[if_pos e1]at h3;by_cases e3:x < y
   ·by_cases e2:y=z
    ·rw[if_pos ak,if_pos ak];exact⟨ak,λh=>ak⟩
    ·rw[if_pos e2]at h4;by_cases e4:y < z
     ·rw[if_pos ak,if_pos ak];exact⟨ak,λh=>ak⟩
     ·rw[if_neg e4]at h4;omega
   ·rw[if_neg e3]at h3;omega
 |[],_::_,_,h,_,_,_=>by simp at h
 |_::_,[],_,h,_,_,_=>by simp at h
 |_,[],_::_,_,h,_,_=>by simp at h
 |_,_::_,[],_,h,_,_=>by simp at h
def aS4(a b:Int):Int:=if a=0 then b else a
theorem aju{p:Int}{a b:List Int}:lx (p::a) (p::b)=lx a b:=by simp[lx]
theorem TO{p q:Int}{a b:List Int}(h:¬p=q):lx (p::a) (q::b)=if p < q then -1 else 1:=by simp[lx,h]
theorem av7:∀ {a b:List Int} (x y:Int),a.length=b.length->lx (a++ [x]) (b++ [y])=aS4 (lx a b) (ary x y)
 |[],[],x,y,_=>by
  show lx [x] [y]=aS4 0 (ary x y);simp only[aS4,bG];unfold ary;by_cases h:x=y
  ·subst h;rw[aju,if_neg ak,if_neg ak];rfl
  ·rw[TO h];by_cases h2:x < y
   ·rw[if_pos h2,if_pos h2]
   ·rw[if_neg h2,if_neg h2,if_pos ak]
 |[],_::_,_,_,h=>by simp at h
 |_::_,[],_,_,h=>by simp at h
 |p::a,q::b,x,y,h=>by
  show lx (p::(a++ [x])) (q::(b++ [y]))=_;by_cases h2:p=q
  ·subst h2;rw[aju,aju];exact av7 x y (by simpa using h)
  ·rw[TO h2,TO h2];by_cases h3:p < q
   ·rw[if_pos h3];rfl
   ·rw[if_neg h3];rfl
def aDZ:List UInt8->List UInt8->Int
 |x::xs,y::ys=>if x !=y then(if x < y then -1 else 1) else aDZ xs ys
 |_,_=>0
theorem amj:∀(xs ys:List UInt8),xs.length=ys.length->(match(List.range xs.length).find? λi=>xs[i]! !=ys[i]! with | some i=>if xs[i]! < ys[i]! then(-1:Int) else 1 | none=>0)=aDZ xs ys
 |[],[],_=>rfl
 |[],_::_,h=>by simp at h
 |_::_,[],h=>by simp at h
 |x::xs,y::ys,h=>by
  have ih:=amj xs ys (by simpa using h);rw[aA,List.range_succ_eq_map,List.find?_cons];simp only[List.getElem!_cons_zero,aDZ];cases hb:(x !=y) with
  |true=>simp
  |false=>
   simp only[bn,bt];rw[List.find?_map,<-ih];have e:((λi=>(x::xs)[i]! !=(y::ys)[i]!)∘Nat.succ)=λi=>xs[i]! !=ys[i]! :=by funext i;simp
   rw[e];cases(List.range xs.length).find? λi=>xs[i]! !=ys[i]! <;> simp
theorem avq:∀ {a b:List Int},(∀x∈a,0<=x/\x < 256)->(∀x∈b,0<=x/\x < 256)->aDZ (a.map λn=>fm n.toNat) (b.map λn=>fm n.toNat)=lx a b
 |[],_,_,_=>by cases ‹List Int› <;> rfl
 |_::_,[],_,_=>rfl
 |x::a,y::b,ha,hb=>by
  have hx:=ha x (aI ..);have hy:=hb y (aI ..);have ih:=avq (a:=a) (b:=b) (λz hz=>ha z (aG _ hz)) (λz hz=>hb z (aG _ hz));simp only[bQ,aDZ,lx,ih];have e1:(fm x.toNat).toNat=x.toNat:=by simp[UInt8.toNat_ofNat];omega
  have e2:(fm y.toNat).toNat=y.toNat:=by simp[UInt8.toNat_ofNat];omega
  by_cases h:x=y
  ·subst h;simp
  ·have gF:(fm x.toNat !=fm y.toNat)=true:=by rw[bne_iff_ne];intro e;have:=bo UInt8.toNat e;rw[e1,e2]at this;omega
   rw[gF,if_pos rfl,if_pos h];have gQ:fm x.toNat < fm y.toNat↔x < y:=by rw[UInt8.lt_iff_toNat_lt,e1,e2];omega
   by_cases h2:x < y
   ·rw[if_pos (gQ.2 h2),if_pos h2]
   ·rw[if_neg (λe=>h2 (gQ.1 e)),if_neg h2]
theorem aKx{a b:List Int}(hl:a.length=b.length)(ha:∀x∈a,0<=x/\x < 256)(hb:∀x∈b,0<=x/\x < 256):adW a b=lx a b:=by
 rw[<-avq ha hb,<-amj _ _ (by simpa using hl)];unfold adW Extern.BytealgCompare.cmp;have s1:∀l:List Int,(fy l).size=l.length:=λl=>by simp[fy,ByteArray.size]
 have g1:∀(l:List Int) (i:Nat),(fy l)[i]! =(l.map λn=>fm n.toNat)[i]! :=λl i=>by
  by_cases h:i < (fy l).size
  ·rw[lH _ i h];have h2:i < (l.map λn=>fm n.toNat).length:=by simpa[fy,ByteArray.size]using h
   rw[lH _ i h2];rfl
  ·rw[getElem!_neg _ i h];have h2:¬i < (l.map λn=>fm n.toNat).length:=by simpa[fy,ByteArray.size]using h
   rw[getElem!_neg _ i h2]
 simp only[s1,g1,hl,Nat.min_self,bV];cases(List.range b.length).find? λi=>(a.map λn=>fm n.toNat)[i]! !=(b.map λn=>fm n.toNat)[i]! <;> simp
def Lp(o:bC):Prop:=o.1.length=32/\∀x∈o.1,0<=x/\x < 256
def Bj(o:bC):List Int:=o.1++ [o.2.1]
theorem rF{o:bC}(h:Lp o):(Bj o).length=33:=by simp[Bj,h.1]
theorem aGC{a b:bC}(ha:Lp a)(hb:Lp b)(h:Bj a=Bj b):a=b:=by obtain⟨a1,a2,_⟩:=a;obtain⟨b1,b2,_⟩:=b;have h:a1++ [a2]=b1++ [b2]:=h;have:=List.append_inj' h rfl;rw[this.1,show a2=b2 by simpa using this.2]
theorem wu{a b:bC}(ha:Lp a)(hb:Lp b):H7 a b=lx (Bj a) (Bj b):=by
 unfold Bj H7;rw[av7 _ _ (ha.1.trans hb.1.symm),aKx (ha.1.trans hb.1.symm) ha.2 hb.2];simp only[aQL,aS4];by_cases h:lx a.1 b.1=0
 ·rw[if_pos h,if_neg (λe=>e h)];split
  ·rfl
  ·omega
 ·rw[if_neg h,if_pos h]
theorem D7:aQj Tryz.prog bg 62 Lp H7:= {
 bW:=⟨ard.E,aKf.h.1 (by rfl),λx y hx hy=>⟨_,aDm (d:=(x,y)) ⟨hx.1,hy.1⟩,rfl⟩⟩
 enters:=enters_of Tryz.func62 b8 rfl
 irrefl:=λx hx=>by rw[wu hx hx,av8];decide
 trans:=λx y z hx hy hz h1 h2=>by
  rw[wu hx hy]at h1;rw[wu hy hz]at h2;rw[wu hx hz];have:=aaD (by rw[rF hx,rF hy]) (by rw[rF hy,rF hz]) (by omega:lx (Bj x) (Bj y)<=0) (by omega:lx (Bj y) (Bj z)<=0);have h3:=this.1;by_cases h4:lx (Bj x) (Bj z)=0
  ·have:=(this.2 h4).1;omega
  ·omega
 ntrans:=λx y z hx hy hz h1 h2=>by
  rw[wu hx hy]at h1;rw[wu hy hz]at h2;rw[wu hx hz];have e1:=aaC (Bj x) (Bj y);have e2:=aaC (Bj y) (Bj z);have e3:=aaC (Bj x) (Bj z);have:=(aaD (by rw[rF hz,rF hy]) (by rw[rF hy,rF hx]) (by omega:lx (Bj z) (Bj y)<=0) (by omega:lx (Bj y) (Bj x)<=0)).1;omega}
theorem Fh{x y:bC}(hx:Lp x)(hy:Lp y)(h1:¬H7 x y < 0)(h2:¬H7 y x < 0):x=y:=by rw[wu hx hy]at h1;rw[wu hy hx,aaC]at h2;exact aGC hx hy (aNK (by rw[rF hx,rF hy]) ak)
end Go.Ab
namespace Go.Proofs
open Go.Shelf
def Tryz.aua:Go.Shelf.Ren:=⟨λ | 6=>106 | 15=>168 | 14=>167 | 28=>207 | 29=>208 | 20=>199 | 21=>200 | 22=>201 | 23=>202 | 24=>203 | 25=>204 | 26=>205 | 27=>206 | 46=>232 | 47=>233 | 48=>234 | 49=>235 | 50=>236 | 57=>245 | n=>n,λ | 22=>46 | 24=>38 | 25=>129 | 3=>3 | 39=>229 | 0=>0 | 53=>231 | 55=>74 | 4=>4 | 46=>262 | 45=>261 | 50=>182 | 5=>5 | 9=>9 | 66=>288 | 70=>291 | 76=>298 | 77=>299 | n=>n,λ | n=>n⟩
theorem Tryz.aP0:Go.Proofs.SlLaysF0.n6 Tryz.prog Tryz.aua:= {
 mixed:=by kernel_rfl
 f6:=⟨Tryz.f106.name,by decide,Tryz.func106.trans (congrArg some (by kernel_rfl))⟩
 f14:=⟨Tryz.f167.name,by decide,Tryz.func167.trans (congrArg some (by kernel_rfl))⟩
 f15:=Tryz.func168.trans (congrArg some (by kernel_rfl))
 f20:=⟨Tryz.f199.name,by decide,Tryz.func199.trans (congrArg some (by kernel_rfl))⟩
 f21:=⟨Tryz.f200.name,by decide,Tryz.func200.trans (congrArg some (by kernel_rfl))⟩
 f22:=⟨Tryz.f201.name,by decide,Tryz.func201.trans (congrArg some (by kernel_rfl))⟩
 f23:=⟨Tryz.f202.name,by decide,Tryz.func202.trans (congrArg some (by kernel_rfl))⟩
 f24:=⟨Tryz.f203.name,by decide,Tryz.func203.trans (congrArg some (by kernel_rfl))⟩
 f25:=⟨Tryz.f204.name,by decide,Tryz.func204.trans (congrArg some (by kernel_rfl))⟩
 f26:=⟨Tryz.f205.name,by decide,Tryz.func205.trans (congrArg some (by kernel_rfl))⟩
 f27:=⟨Tryz.f206.name,by decide,Tryz.func206.trans (congrArg some (by kernel_rfl))⟩
 f28:=Tryz.func207.trans (congrArg some (by kernel_rfl))
 f29:=Tryz.func208.trans (congrArg some (by kernel_rfl))
 f46:=⟨Tryz.f232.name,by decide,Tryz.func232.trans (congrArg some (by kernel_rfl))⟩
 f47:=Tryz.func233.trans (congrArg some (by kernel_rfl))
 f48:=Tryz.func234.trans (congrArg some (by kernel_rfl))
 f49:=⟨Tryz.f235.name,by decide,Tryz.func235.trans (congrArg some (by kernel_rfl))⟩
 f50:=⟨Tryz.f236.name,by decide,Tryz.func236.trans (congrArg some (by kernel_rfl))⟩
 f57:=⟨Tryz.f245.name,by decide,Tryz.func245.trans (congrArg some (by kernel_rfl))⟩
 t0:=Tryz.underlying0
 a0:=Tryz.isAgg0
 z0:=Tryz.sizeOf0
 v0:=Tryz.zeroValue0
 t3:=Tryz.underlying3
 a3:=Tryz.isAgg3
 z3:=Tryz.sizeOf3
 v3:=Tryz.zeroValue3
 t4:=Tryz.underlying4
 a4:=Tryz.isAgg4
 z4:=Tryz.sizeOf4
 v4:=Tryz.zeroValue4
 t5:=Tryz.underlying5
 a5:=Tryz.isAgg5
 z5:=Tryz.sizeOf5
 v5:=Tryz.zeroValue5
 t9:=Tryz.underlying9
 a9:=Tryz.isAgg9
 z9:=Tryz.sizeOf9
 v9:=Tryz.zeroValue9
 t22:=Tryz.underlying46
 a22:=Tryz.isAgg46
 z22:=Tryz.sizeOf46
 v22:=Tryz.zeroValue46
 t25:=Tryz.underlying129
 a25:=Tryz.isAgg129
 z25:=Tryz.sizeOf129
 v25:=Tryz.zeroValue129
 t39:=Tryz.underlying229
 a39:=Tryz.isAgg229
 z39:=Tryz.sizeOf229
 v39:=Tryz.zeroValue229
 t45:=Tryz.underlying261
 a45:=Tryz.isAgg261
 z45:=Tryz.sizeOf261
 v45:=Tryz.zeroValue261
 t46:=Tryz.underlying262
 a46:=Tryz.isAgg262
 z46:=Tryz.sizeOf262
 v46:=Tryz.zeroValue262
 t50:=Tryz.underlying182
 a50:=Tryz.isAgg182
 z50:=Tryz.sizeOf182
 v50:=Tryz.zeroValue182
 t53:=Tryz.underlying231
 a53:=Tryz.isAgg231
 z53:=Tryz.sizeOf231
 v53:=Tryz.zeroValue231
 t55:=Tryz.underlying74
 a55:=Tryz.isAgg74
 z55:=Tryz.sizeOf74
 v55:=Tryz.zeroValue74
 t66:=Tryz.underlying288
 a66:=Tryz.isAgg288
 z66:=Tryz.sizeOf288
 v66:=Tryz.zeroValue288
 t70:=Tryz.underlying291
 a70:=Tryz.isAgg291
 z70:=Tryz.sizeOf291
 v70:=Tryz.zeroValue291
 t76:=Tryz.underlying298
 a76:=Tryz.isAgg298
 z76:=Tryz.sizeOf298
 v76:=Tryz.zeroValue298
 t77:=Tryz.underlying299
 a77:=Tryz.isAgg299
 z77:=Tryz.sizeOf299
 v77:=Tryz.zeroValue299}
end Go.Proofs
namespace Go.Ab
open Go.Proofs
def aP4:Entry:=aMM 62 38 bg Lp H7
def Ux:Nat×List bC->Option (Nat×List bC):=akt 62 38 bg Lp H7
theorem aIe{d:Nat×List bC}(h:acL (t:=bg) Lp H7 d):Ux d=some (d.1,OT (t:=bg) H7 d.2):=awG h
def aMN:SG Tryz.prog:=⟨106,mr,aP4,.of (aIj Tryz.aP0 (by rfl) (λw=>Tryz.isAgg38 w) (λw=>Tryz.sizeOf38 w) D7) (by rfl)⟩
theorem Cw{β:Type}{kt:Ty}(hc:kt.comp=true){x:kt.den}{v:β}:∀ {l:List (kt.den×β)},x ∉ l.map (·.1)->eG kt x v l=l++ [(x,v)]
 |[],_=>rfl
 |p::l,h=>by
  rw[pF];have h1:¬kt.beq x p.1=true:=λe=>h (by rw[beq_eq kt _ _ hc e];simp)
  rw[if_neg h1,Cw hc λe=>h (by simp[e])];rfl
theorem eV:bg.comp=true:=rfl
def vE(l:List (bC×dP)):Int:=(l.map λp=>p.2.1.1).sum
theorem qn(p:bC×dP)(l:List (bC×dP)):vE (p::l)=p.2.1.1+vE l:=by simp[vE]
theorem alr(l l':List (bC×dP)):vE (l++l')=vE l+vE l':=by simp[vE]
theorem SL{l l':List (bC×dP)}(h:l.Perm l'):vE l=vE l':=by
 induction h with
 |nil=>rfl
 |cons x _ ih=>rw[qn,qn,ih]
 |swap x y l=>rw[qn,qn,qn,qn];omega
 |trans _ _ h1 h2=>rw[h1,h2]
theorem ZL{α:Type}{l:List α}{j:Nat}(h:j < l.length):l.Perm (l[j]::l.eraseIdx j):=by
 induction l generalizing j with
 |nil=>simp at h
 |cons x l ih=>
  cases j with
  |zero=>exact im _
  |succ j=>
   have h:j < l.length:=by simpa using h
   simp only[List.getElem_cons_succ,List.eraseIdx_cons_succ];exact((ih h).cons x).trans (List.Perm.swap _ _ _)
theorem ajB{kt vt:Ty}{l:List (kt.den×vt.den)}{j:Nat}(h:j < l.length):zI kt vt l j=l[j]:=by simp[zI,aH,bU h]
abbrev aie:=Nat×(List bT)
abbrev avp:=Nat×(List bT)
def S9:aie->avp->(((List bT))×(Nat×(List bT))):=λ(sL,o0) y=>(o0,y)
def ax4:aie->Prop:=λ(n,l)=>n<=l.length/\l.length<=1000000
def aif:aie->avp:=λ(n,l)=>((l.take n).length,l.take n)
def PT:Fs Tryz.prog ax4 S9 aif:=eN 198 Tryz.f198 (λ(sL,o0)=>([.bA (.bm 0) 0 [] 0 0 sL],[.obj 0 false (.vec 256 cD o0)])) (λx=>⟨.bA (.new 0 0) 0 [] 0 0 x.2.1,[.obj 0 false (.vec 256 cD x.1)],[.obj 0 false (.vec 256 cD x.2.2)]⟩) [none] [] {bJ:=[5],owns:=[⟨2,[],5,158⟩]}
theorem aDW{R:Type}(sL o0)(k:K1 R):PT.A (sL,o0) k=aJ (decide (0 < sL)) (aJ (decide (0=0/\(0+sL)<=(ag o0))) (aJ (db (0+(ag (cut o0 0 sL))) 48) (k (PT.out (o0,((0+(ag (cut o0 0 sL))),((aR 0 (ab 0 (([]:List XL),(([]:List bC),()))))++(cut o0 0 sL)))))) none) none) (nd (k (PT.out (o0,(0,([]:List bT))))) (aJ (decide (0=0/\(0+sL)<=(ag o0))) (aJ (db (0+(ag (cut o0 0 sL))) 48) (k (PT.out (o0,((0+(ag (cut o0 0 sL))),((aR 0 (ab 0 (([]:List XL),(([]:List bC),()))))++(cut o0 0 sL)))))) none) none)):=b8
theorem aDX:PT.Ok:=by
 rintro⟨n,l⟩ ⟨h1,h2⟩;have h1:n<=l.length:=h1;have h2:l.length<=1000000:=h2;have ec:cut l 0 n=l.take n:=by simp[cut]
 have ht:(l.take n).length<=1000000:=by rw[bp];omega
 have hr:db (l.take n).length 48=true:=dr ak ak;rw[aDW];simp only[aO,ec,hr,aj,dH,aT,mQ,aM h1,S9,aif];by_cases h:0 < n
 ·simp only[aM h,aj]
 ·have:n=0:=ak;subst this;simp only[dH,ba,aK,cv,aj,zH,aS (ik 0),ao]
theorem ax5:PT.RS:=rE [.n,.d (.slice cD)] PT
def aDY:=PT.aS7 ahf aDX
abbrev Ie:=Nat×(List (bC×dP))×(List bT)×(List (bC×dP))×(List bT)×Nat×(List (bC×dP))
abbrev Vn:=(List (bC×dP))
def wy:Ie->Vn->((Nat×(List (bC×dP))×(List bT)×(List bT)×Nat)×((List (bC×dP)))):=λ(o0L,dS,eA,n6,n11,HG,n18) y=>((o0L,dS,eA,n11,HG),y)
abbrev amG:=Nat×(List (bC×dP))×(List bT)
def adX:Ie->Prop:=λ(_,_,_,m,_,_,rest)=>((m++rest).map (·.1)).Nodup
def Cf:Ie->Vn:=λ(_,_,_,m,_,_,rest)=>ja (m++rest)
def arJ:amG->Prop:=λ(n,a,s)=>n<=s.length/\s.length<=1000000/\(a.map (·.1)).Nodup
def amH:amG->(Nat×(List (bC×dP))×(List bT)×Nat×(List (bC×dP))×(List bT)):=λ(n,a,s)=>(n,a,s,(s.take n).length,ja a,s.take n)
def qq:Ls adX wy Cf:=rp (λ(o0L,dS,eA,n6,n11,HG,n18)=>⟨([bF,bF,bF,eT 13]++aP 14 ([eT 18]++aP 12 [])),[.obj 0 false (.pr (.cj (.bm 1) 0) (.pr (.bA (.bm 2) 0 [] 0 0 o0L) fC)),.obj 0 true (.mp bg eO dS),.obj 0 false (.vec 256 cD eA)],(bM 6 ([dK (.mp bg eO n6)]++bM 4 ([dK (.vec 256 cD n11),[],dK (.pr (.cj (.new 6 0) 0) (.pr (om 11 HG) fC))]++bM 4 ([dK (.tC (.bm 1) 1 bg eO n18 none)]++bM 12 []))))⟩) (λx=>(.exit 0,⟨([bF,bF,bF,eT 13]++aP 27 []),[.obj 0 false (.pr (.cj (.bm 1) 0) (.pr (.bA (.bm 2) 0 [] 0 0 x.1.1) fC)),.obj 0 false (.mp bg eO x.1.2.1),.obj 0 false (.vec 256 cD x.1.2.2.1)],(bM 6 ([dK (.mp bg eO x.2)]++bM 4 ([dK (.vec 256 cD x.1.2.2.2.1),[],dK (.pr (.cj (.new 6 0) 0) (.pr (om 11 x.1.2.2.2.2) fC))]++bM 17 [])))⟩))
def xY:Fs Tryz.prog arJ bu amH:=eN 163 Tryz.f163 (λ(o0baL,o1,o2)=>([.ptr (.bm 0) 0 [] 0],[.obj 0 false (.pr (.cj (.bm 1) 0) (.pr (.bA (.bm 2) 0 [] 0 0 o0baL) (.d .unit ()))),.obj 0 false (.mp bg eO o1),.obj 0 false (.vec 256 cD o2)])) (λx=>⟨.ptr (.new 0 0) 0 [] 0,[.obj 0 false (.pr (.cj (.bm 1) 0) (.pr (.bA (.bm 2) 0 [] 0 0 x.1) (.d .unit ()))),.obj 0 false (.mp bg eO x.2.1),.obj 0 false (.vec 256 cD x.2.2.1)],[.obj 0 false (.pr (.cj (.new 0 1) 0) (.pr (.bA (.new 0 2) 0 [] 0 0 x.2.2.2.1) (.d .unit ()))),.obj 0 false (.mp bg eO x.2.2.2.2.1),.obj 0 false (.vec 256 cD x.2.2.2.2.2)]⟩) [none] [aDY] {bJ:=[13],loops:=nY [(3,{aV:=[3,18],sites:=[6,11,13,18],aS0:=[18]})],outs:=nX [(3,{aV:=[3],sites:=[6,11,13],aOr:=[(.new 6 0)]},{aV:=[2]})],fF:=nK [(3,qq.E)]}
theorem adY:qq.RS:=rL [.n,.d (.slice (.pair bg eO)),.d (.slice cD),.d (.slice (.pair bg eO)),.d (.slice cD),.n,.d (.slice (.pair bg eO))] qq
theorem Ig{R:Type}(o0L dS eA n6 n11 HG n18)(kn:K2 R)(kx:K3 R):xY.R 0 qq (o0L,dS,eA,n6,n11,HG,n18) kn kx=aJ (decide (0 < (ag n18))) (aEt (ag n18) λj1=>kn (qq.st (o0L,dS,eA,(eG bg (zI bg eO n18 j1).1 (zI bg eO n18 j1).2 n6),n11,HG,(List.eraseIdx n18 j1)))) (qq.go kx ((o0L,dS,eA,n11,HG),(ja n6))):=b8
theorem ayg{R:Type}(o0baL o1 o2)(k:K1 R):xY.A (o0baL,o1,o2) k=al (PT.call (o0baL,o2)) λx1=>al (qq.call (o0baL,o1,x1.1,([]:List (bC×dP)),x1.2.2,x1.2.1,o1)) λx3=>k (xY.out (x3.1.1,x3.1.2.1,x3.1.2.2.1,x3.1.2.2.2.2,x3.2,x3.1.2.2.2.1)):=b8
theorem ais:(xY.kM 0 qq):=by
 refine(xY.aUR 0 qq) (λ(_,_,_,_,_,_,rest)=>rest.length) ?_
 rintro⟨n,a,s,m,u,k0,rest⟩ hn;have hn:((m++rest).map (·.1)).Nodup:=hn;by_cases h:0 < rest.length
 ·left;have e1:∀j,j < rest.length->eG bg (zI bg eO rest j).1 (zI bg eO rest j).2 m=m++ [zI bg eO rest j]:=λj hj=>by rw[Cw eV];intro hm;rw[rY,List.nodup_append]at hn;exact hn.2.2 _ hm _ (cT.2 ⟨_,aN hj,by rw[ajB hj]⟩) rfl
  have e2:∀j,j < rest.length->(m++ [zI bg eO rest j]++rest.eraseIdx j).Perm (m++rest):=λj hj=>by rw[aF,ajB hj];exact List.Perm.append_left _ (ZL hj).symm
  refine⟨rest.length,λj=>(n,a,s,eG bg (zI bg eO rest j).1 (zI bg eO rest j).2 m,u,k0,rest.eraseIdx j),h,λj hj=>⟨?_,?_,?_⟩,λkn kx=> ?_⟩
  ·show((eG bg (zI bg eO rest j).1 (zI bg eO rest j).2 m++rest.eraseIdx j).map (·.1)).Nodup;rw[e1 j hj];exact(((e2 j hj).map _).nodup_iff).2 hn
  ·show(rest.eraseIdx j).length < rest.length;rw[List.length_eraseIdx,if_pos hj];omega
  ·simp only[wy,Cf,e1 j hj];rw[axN (e2 j hj)]
  ·rw[Ig,aM h,aj]
 ·right;obtain rfl:rest=[]:=bE ak;intro T kn kx;rw[Ig,aS h,ao];simp only[wy,Cf,aZ]
theorem ayh:xY.Ok:=by rintro⟨n,a,s⟩ ⟨h1,h2,h3⟩;have h1:n<=s.length:=h1;have h2:s.length<=1000000:=h2;rw[ayg,ax5 (d:=(n,s)) ⟨h1,h2⟩];simp only[ah,S9,aif];rw[adY (d:=(n,a,s,[],s.take n,(s.take n).length,a)) h3];simp only[ah,wy,Cf,bu,amH,aT]
theorem arK:xY.RS:=rE [.n,.d (.slice (.pair bg eO)),.d (.slice cD)] xY
def afS:=xY.eU ayh 1 ⟨.fv ais,trivial⟩
abbrev Tc:=gm×Nat×Nat×Int×Int×Int×(List ot)
abbrev afP:=(List ot)×(List ot)
def ams:Tc->afP->((gm×Int)×((List ot)×(List ot))):=λ(aPF,lL,Uz,t11,t12,n2,n9) y=>((aPF,n2),y)
def aTd(l:Lk):Prop:=l.1.length<=1000/\∀b∈l.1,b.1.length<=1000000
def amr:Tc->Prop:=λ(_,n,m,t,i,_,l)=>(l.length<=1000/\∀b∈l,b.1.length<=1000000)/\∃k:Nat,k<=l.length/\i=k/\n=l.length/\m=l.length/\t=l.length
def ax9:Tc->afP:=λ(_,_,_,_,_,_,l)=>(l,l)
def aD7:gm->Prop:=λo=>aTd o.2.1
def arF:gm->gm:=λo=>o
def wx:Ls amr ams ax9:=rp (λ(aPF,lL,Uz,t11,t12,n2,n9)=>⟨([bF,.dO gl aPF,eT 2,om 9 lL]++aP 6 ([om 9 Uz,.d ti t11,.d ti t12]++aP 17 [])),[],([[],[],dK (.pr (.d ti n2) (.pr (.pr (.de) fC) fC))]++bM 6 ([dK (.vec 98 ki n9)]++bM 20 []))⟩) (λx=>(.exit 0,⟨([bF,.dO gl x.1.1,eT 2,.d (.slice ki) x.2.1]++aP 26 []),[],([[],[],dK (.pr (.d ti x.1.2) (.pr (.pr (.de) fC) fC))]++bM 6 ([[.obj 0 true (.vec 98 ki x.2.2)]]++bM 20 []))⟩))
def W8:Fs Tryz.prog aD7 bu arF:=eN 92 Tryz.f92 (λo=>([.d gl o],[])) (λx=>⟨.d gl x,[],[]⟩) [some gl] [avo,TV] {loops:=nY [(3,{aV:=[1,2,3,10,11,12],sites:=[2,9]})],outs:=nX [(3,{aV:=[1,2,3],sites:=[2,9],data:=[(3,(.slice ki))]},{aV:=[2]})],fF:=nK [(3,wx.E)],res:=[some gl]}
theorem amt:wx.RS:=rL [.d gl,.n,.n,.d ti,.d ti,.d ti,.d (.slice ki)] wx
theorem PV{R:Type}(aPF lL Uz t11 t12 n2 n9)(kn:K2 R)(kx:K3 R):W8.R 0 wx (aPF,lL,Uz,t11,t12,n2,n9) kn kx=aJ ((gr t12 t11)) (aJ (ed t12 ((Uz:Nat):Int)) (aJ (decide ((0+(ae t12)) < (ag n9))) (aJ (decide ((((0+(ae t12))*4)+0)=(0+((ae t12)*4)))) (al (Bo.call (nth ki n9 (0+(ae t12))).1) λx1=>aJ (ed t12 ((lL:Nat):Int)) (aJ (decide ((0+(ae t12)) < (ag n9))) (aJ (decide ((((0+(ae t12))*4)+0)=((0+((ae t12)*4))+0))) (aJ (decide ((0+(ae t12)) < (ag n9))) (kn (wx.st (aPF,lL,Uz,t11,(bI .i64 t12 1),n2,(fX n9 (0+(ae t12)) (x1,(nth ki n9 (0+(ae t12))).2))))) none) none) none) none) none) none) none) (aJ (decide (0=0/\(0+lL)<=(ag n9))) (wx.go kx ((aPF,n2),((cut n9 0 lL),n9))) none):=b8
theorem aKG{R:Type}(o)(k:K1 R):W8.A o k=al (adV.call o.2.1.1) λx1=>al (wx.call (o,x1.1,x1.1,((x1.1:Nat):Int),0,0,x1.2)) λx3=>k (W8.out (x3.1.1.1,((x3.2.1,()),()))):=b8
theorem arG:(W8.kM 0 wx):=by
 refine(W8.mf 0 wx) (λ(_,_,_,_,i,_,l)=>l.length - i.toNat) ?_
 rintro⟨o,n,m,t,i,u,l⟩ ⟨⟨hlen,hx⟩,k,hk,rfl,rfl,rfl,rfl⟩;have hlen:l.length<=1000:=hlen;have hk:k<=l.length:=hk;by_cases h:k < l.length
 ·left;have n1:nth ki l k=l[k]:=cd (t:=ki) h;have hs:l.set k l[k]=l:=gI h;have e:=hx _ (aN h);refine⟨(o,l.length,l.length,(l.length:Int),((k+1:Nat):Int),u,l),⟨⟨hlen,hx⟩,k+1,ak,rfl,rfl,rfl,rfl⟩,by simp only[aa];omega,rfl,λkn kx=> ?_⟩;rw[PV,aU ak,bj ak ak];simp only[aa,aO,cq,aj,aM h,cv,n1];rw[OB (d:=l[k].1) e];simp only[ah,bu,Re];rw[N.mD ak];exact bo (λz=>kn (wx.st (_,_,_,_,_,_,z))) hs
 ·right;obtain rfl:k=l.length:=ak;intro R kn kx;rw[PV,aQ ak,ao,aM ak,aj,eY rfl];rfl
theorem aKH:W8.Ok:=by rintro⟨a,⟨l,u⟩,v⟩ ⟨h1,h2⟩;have h1:l.length<=1000:=h1;rw[aKG,ami (d:=l) (by show l.length<=_;omega)];simp only[ah,bu,ah9];rw[amt (d:=((a,(l,u),v),l.length,l.length,(l.length:Int),0,0,l)) ⟨⟨h1,h2⟩,0,aK _,rfl,rfl,rfl,rfl⟩];rfl
theorem amu:W8.RS:=rE [.d gl] W8
def avr:=W8.eU aKH 1 ⟨.fv arG,trivial⟩
abbrev AU:=Int×(List gm)×Int×Int×(List (bC×dP))
def pj:AU->AS:=λ(sum,t13,t14,t15,n10)=>⟨([bF,bF,bF,eT 12,.d ti sum]++aP 8 ([.d (.slice gl) t13,.d ti t14,.d ti t15]++aP 35 [])),[],(bM 10 ([dK (.mp bg eO n10),[],dK (.pr (.cj (.new 10 0) 0) (.pr (.de) fC))]++bM 38 []))⟩
def fP:Unit->Exit×AS:=λx=>(.ret,⟨([bF,bF,.ri]++aP 48 []),[],(ab 51 [])⟩)
abbrev Vp:=(List (bC×dP))
def y9:Vp->Exit×AS:=λx=>(.exit 0,⟨([bF,bF,bF,eT 12]++aP 47 []),[],(bM 10 ([dK (.mp bg eO x),[],dK (.pr (.cj (.new 10 0) 0) (.pr (.de) fC))]++bM 38 []))⟩)
abbrev NB:=(Unit)⊕(Vp)
abbrev ZA:=(Unit)⊕(((List (bC×dP))))
def Fu:NB->Out (Exit×AS):=λx=> .br x.isLeft (.get x.getLeft? λa=> .ok (fP a)) (.get x.getRight? λb=> .ok (y9 b))
def lC:AU->ZA->NB:=λ(sum,t13,t14,t15,n10) y=>match y with | .inl y=> .inl y | .inr z=> .inr (z)
abbrev P9:=(List gm)
def ZD:P9->SA:=λouts=>([.d (.slice gl) outs],[])
abbrev avz:=(Unit)⊕((List (bC×dP))×(List bT))
abbrev aiv:=(Unit)⊕((List (bC×dP))×(List bT))
def Ea:aiv->fK:=λx=>match x with | .inl x=>⟨.ri,[],[]⟩ | .inr x=>⟨eT 0,[],[.obj 0 false (.pr (.cj (.new 0 1) 0) (.pr (.bA (.new 0 2) 0 [] 0 0 0) fC)),.obj 0 false (.mp bg eO x.1),.obj 0 false (.vec 256 cD x.2)]⟩
def Kw:P9->avz->aiv:=λouts y=>match y with | .inl y=> .inl y | .inr y=> .inr y
def G7(k:Nat)(o:gm):bC×dP:=((ab 32 (0:Int),((k:Int),())),(o,((0:Int),())))
def Ge(sum:Int)(o:gm):Bool:=kS o.2.1 && decide (0<=o.1/\o.1<=1125899906842624 - sum)
def Xh(sum:Int)(k:Nat):List gm->Option (List (bC×dP))
 |[]=>some []
 |o::l=>match Ge sum o with | true=>(Xh (sum+o.1) (k+1) l).map (G7 k o:: ·) | false=>none
def ajz(outs:List gm):Option (List (bC×dP)):=if outs.length<=256 then Xh 0 0 outs else none
def aqy(o:gm):Prop:=adK o.2.1/\o.2.1.1.length<=9223372036854775807/\o.1<=9223372036854775807
def y8:AU->Prop:=λ(sum,outs,n,i,a)=>(∀o∈outs,aqy o)/\outs.length<=256/\0<=sum/\sum<=1125899906842624/\∃k:Nat,k<=outs.length/\i=k/\n=outs.length/\∀p∈a,p.1.2.1 < (k:Int)
def ph:AU->ZA:=λ(sum,outs,_,i,a)=>match Xh sum i.toNat (outs.drop i.toNat) with | none=> .inl () | some r=> .inr (a++r)
def Te:P9->Prop:=λouts=>∀o∈outs,aqy o
def Qa:P9->avz:=λouts=>match ajz outs with | none=> .inl () | some r=> .inr (r,[])
def ait:oR:=jI (P:=Tryz.prog) [El,avr]
def Zz:=dz.fv pj y8 lC ph Fu
def LQ:AU->Option NB:=gM Zz pj
def ZB:xi:= {bJ:=[12],loops:=nY [(5,{aV:=[3,4,13,14,15],sites:=[10,12]})],outs:=nX [(5,{aV:=[3],sites:=[10,12]},{aV:=[2]})],fF:=nK [(5,Zz)],owns:=[⟨2,[.snd,.fst],0,158⟩]}
def avx:= @HM Tryz.prog ait ZB 0 Tryz.f40 _ ZD
abbrev aEm:=ahy @avx Te Kw Qa Ea
def NA:= @eC Tryz.prog ait ZB 0 Tryz.f40 0 _ pj
abbrev Vo:=kP Tryz.prog ait ZB 0 Tryz.f40 0 pj y8 lC ph Fu
theorem aiu:jf LQ y8 lC ph:=mn (jx [.d ti,.d (.slice gl),.d ti,.d ti,.d (.slice (.pair bg eO))] λ_=>b8)
theorem Qb:nq @NA pj y8 lC ph Fu Vo:=oa
theorem LR{R:Type}(sum:Int)(t13:(List gm))(t14:Int)(t15:Int)(n10:(List (bC×dP)))(kn:AS->Option R)(kx:Exit->AS->Option R):NA (sum,t13,t14,t15,n10) kn kx=aJ ((gr t15 t14)) (aJ (ed t15 (((ag t13):Nat):Int)) (al (pE.call (nth gl t13 (ae t15)).2.1) λx1=>aJ ((!x1)) (kx (fP ()).1 (fP ()).2) (aJ ((gr (nth gl t13 (ae t15)).1 (0:Int))) (kx (fP ()).1 (fP ()).2) (aJ ((qZ (nth gl t13 (ae t15)).1 (cR .i64 (1125899906842624:Int) sum))) (kx (fP ()).1 (fP ()).2) (al (W8.call (nth gl t13 (ae t15))) λx2=>kn (pj ((bI .i64 sum (nth gl t13 (ae t15)).1),t13,t14,(bI .i64 t15 (1:Int)),(eG bg ((ab 32 (0:Int)),(t15,())) (x2,((0:Int),())) n10))))))) none) (kx (y9 n10).1 (y9 n10).2):=b8
theorem aEn{R:Type}(outs:(List gm))(k:fK->Option R):avx outs k=aJ ((qZ (((ag outs):Nat):Int) (256:Int))) (k (Ea (.inl ()))) (al (LQ ((0:Int),outs,(((ag outs):Nat):Int),(0:Int),([]:List (bC×dP)))) λx3=>aJ (x3.isLeft) (al (x3.getLeft?) λa4=>k (Ea (.inl ()))) (al (x3.getRight?) λb5=>k (Ea (.inr (b5,([]:List bT)))))):=b8
theorem amI:Vo:=by
 refine Qb (λ(_,outs,_,i,_)=>outs.length - i.toNat) ?_
 rintro⟨sum,outs,n,i,a⟩ ⟨hg,hl,h0,h1,k,hk,rfl,rfl,hf⟩;have h0:0<=sum:=h0;have h1:sum<=1125899906842624:=h1;have hl:outs.length<=256:=hl;have hk:k<=outs.length:=hk;by_cases h:k < outs.length
 ·obtain⟨g1,g2,g3⟩:=hg _ (aN h);have n1:nth gl outs k=outs[k]:=cd (t:=gl) h;have hd:outs.drop k=outs[k]::outs.drop (k+1):=aq h
  have hs:∀ {R:Type} (kn:AS->Option R) (kx:Exit->AS->Option R),NA (sum,outs,(outs.length:Int),(k:Int),a) kn kx=
    aJ (!(kS outs[k].2.1)) (kx (fP ()).1 (fP ()).2) (aJ (gr outs[k].1 0) (kx (fP ()).1 (fP ()).2) (aJ (qZ outs[k].1 (1125899906842624 - sum)) (kx (fP ()).1 (fP ()).2)
     (al (W8.call outs[k]) λx2=>kn (pj ((bI .i64 sum outs[k].1),outs,(outs.length:Int),(bI .i64 (k:Int) (1:Int)),(eG bg ((ab 32 (0:Int)),((k:Int),())) (x2,((0:Int),())) a)))))):=λkn kx=>by
   rw[LR,aU ak,aj,bj ak ak,aj,aa,n1,Bf (d:=outs[k].2.1) ⟨g1,g2⟩,eL ak ak];rfl
  by_cases jn:Ge sum outs[k]=true
  ·left;have hok':=jn;unfold Ge at hok';simp only[au,aW]at hok';obtain⟨k1,k2,k3⟩:=hok';have ald:=TM k1;refine⟨(sum+outs[k].1,outs,(outs.length:Int),((k+1:Nat):Int),a++ [G7 k outs[k]]),⟨hg,hl,by show 0<=sum+outs[k].1;omega,by show sum+outs[k].1<=_;omega,k+1,ak,rfl,rfl,λp hp=> ?_⟩,by simp only[aa];omega,?_,λkn kx=> ?_⟩
   ·rcases bz.1 hp with hp | hp
    ·have:=hf p hp;omega
    ·rw[bk.1 hp];show(k:Int) < _;omega
   ·simp only[lC,ph,aa,hd,Xh,jn];cases Xh (sum+outs[k].1) (k+1) (outs.drop (k+1)) with
    |none=>rfl
    |some r=>simp only[dV,aF,c9]
   ·rw[hs,k1,cm,ao,aQ ak,ao,cr ak,ao,amu (d:=outs[k]) ⟨ak,λb hb=>by have:=ald.2 b hb;omega⟩];simp only[ah,bu,arF];rw[fZ ak ak,N.mD ak,Cw eV]
    ·rfl
    ·intro hm;obtain⟨p,hp,he⟩:=cT.1 hm;have:=hf p hp;have he:p.1=_:=he;rw[he]at this;have this:(k:Int) < k:=this;omega
  ·right;have aLf:Ge sum outs[k]=false:=by simpa using jn
   refine⟨fP (),?_,λkn kx=> ?_⟩;rotate_left
   ·rw[hs];unfold Ge at aLf;cases k1:kS outs[k].2.1 with
    |false=>rw[fb,aj]
    |true=>
     rw[k1]at aLf;simp only[bw,gU]at aLf;rw[cm,ao];by_cases k2:outs[k].1 < 0
     ·rw[aU k2,aj]
     ·rw[aQ k2,ao,cP ak,aj]
   ·simp only[lC,ph,aa,hd,Xh,aLf];rfl
 ·right;obtain rfl:k=outs.length:=ak;refine⟨y9 a,?_,λkn kx=> ?_⟩;rotate_left
  ·rw[LR,aQ ak,ao]
  ·simp only[lC,ph,aa,aL,Xh,aZ];rfl
theorem aEo:aEm:=by
 intro outs hg;rw[aEn];simp only[Kw,Qa,ajz];by_cases h:outs.length<=256
 ·rw[cr ak,ao,aiu (d:=(0,outs,(outs.length:Int),0,[])) ⟨hg,h,by decide,by decide,0,aK _,rfl,rfl,λp hp=>by cases hp⟩,if_pos h];simp only[ah,lC,ph,aX,aD];cases Xh 0 0 outs with
  |none=>rfl
  |some r=>rfl
 ·rw[cP ak,aj,if_neg h]
def avy:=Entry.aee [some (.slice gl)] ZD Te Kw Qa Ea
def ZC:P9->Option aiv:=Lz avy ZD
theorem ayi:jf ZC Te Kw Qa:=acr (Xd [.d (.slice gl)] λ_=>b8)
def aEp:SG Tryz.prog:=⟨40,mr,avy,.of (.aNX (.fn 1 b8 aEo (And.intro (.fv amI b8) trivial))) (by rfl)⟩
def aQW(c:dP):Prop:=kS c.1.2.1=true/\adK c.1.2.1/\0<=c.1.1/\c.1.1<=1125899906842624/\0<=c.2.1/\c.2.1<=1048576
def alb(a:List (bC×dP)):Prop:=(a.map (·.1)).Nodup/\∀p∈a,Lp p.1/\aQW p.2
theorem alb.get{a:List (bC×dP)}(h:alb a){o:bC}{c:dP}(hg:bN bg o a=some c):aQW c:=(h.2 _ ((jb eV h.1).1 hg)).2
def aJt:dP:=((0,(([],()),())),(0,()))
theorem aQW.own{c:dP}(h:aQW c):aTd c.1.2.1:=by have:=TM h.1;exact⟨ak,λb hb=>by have:=this.2 b hb;omega⟩
abbrev AR:=Int×dw×Int×(List gK)×Int×Int×Nat×(List (bC×dP))×(List bT)×Bs
def pf:AR->AS:=λ(dQ,oO,oG,t35,t36,t37,o0L,dS,eA,n8)=>⟨([.ptr (.bm 0) 0 [] 0,bF,.d ti dQ,bF,.dO ez oO,bF,bF,bF,eT 8,.d ti oG]++aP 25 ([.d (.slice gh) t35,.d ti t36,.d ti t37]++aP 69 [])),[.obj 0 false (.pr (.cj (.bm 1) 0) (.pr (.bA (.bm 2) 0 [] 0 0 o0L) fC)),.obj 0 false (.mp bg eO dS),.obj 0 false (.vec 256 cD eA)],(bM 8 ([dK (.d tH n8)]++bM 98 []))⟩
abbrev Vi:=(Nat×(List (bC×dP))×(List bT))×(Int)
def jH:Vi->Exit×AS:=λx=>(.ret,⟨(aP 6 ([.d ti (0:Int),.d ti x.2]++aP 99 [])),[.obj 0 false (.pr (.cj (.bm 1) 0) (.pr (.bA (.bm 2) 0 [] 0 0 x.1.1) fC)),.obj 0 false (.mp bg eO x.1.2.1),.obj 0 false (.vec 256 cD x.1.2.2)],(ab 107 [])⟩)
abbrev Vj:=(dw×Nat×(List (bC×dP))×(List bT))×(Int)
def yZ:Vj->Exit×AS:=λx=>(.exit 0,⟨([.ptr (.bm 0) 0 [] 0,bF,bF,bF,.dO ez x.1.1]++aP 4 ([.d ti x.2]++aP 97 [])),[.obj 0 false (.pr (.cj (.bm 1) 0) (.pr (.bA (.bm 2) 0 [] 0 0 x.1.2.1) fC)),.obj 0 false (.mp bg eO x.1.2.2.1),.obj 0 false (.vec 256 cD x.1.2.2.2)],(ab 107 [])⟩)
abbrev Nx:=(Vi)⊕(Vj)
abbrev Zv:=(Int)⊕(Int)
def Fo:Nx->Out (Exit×AS):=λx=> .br x.isLeft (.get x.getLeft? λa=> .ok (jH a)) (.get x.getRight? λb=> .ok (yZ b))
def jG:AR->Zv->Nx:=λ(dQ,oO,oG,t35,t36,t37,o0L,dS,eA,n8) y=>match y with | .inl y=> .inl ((o0L,dS,eA),y) | .inr z=> .inr (((oO,o0L,dS,eA),z))
abbrev AT:=dw×Int×(List bC)×Int×Int×Nat×(List (bC×dP))×(List bT)
def tw:AT->AS:=λ(vl,Vr,t75,t76,t77,ij,vN,kf)=>⟨([.ptr (.bm 0) 0 [] 0,bF,bF,bF,.dO ez vl]++aP 4 ([.d ti Vr]++aP 65 ([.d (.slice bg) t75,.d ti t76,.d ti t77]++aP 29 []))),[.obj 0 false (.pr (.cj (.bm 1) 0) (.pr (.bA (.bm 2) 0 [] 0 0 ij) fC)),.obj 0 false (.mp bg eO vN),.obj 0 false (.vec 256 cD kf)],(ab 107 [])⟩
abbrev Vl:=Nat×(List (bC×dP))×(List bT)
def y5:Vl->Exit×AS:=λx=>(.ret,⟨(aP 6 ([.d ti (0:Int),.d ti (4:Int)]++aP 99 [])),[.obj 0 false (.pr (.cj (.bm 1) 0) (.pr (.bA (.bm 2) 0 [] 0 0 x.1) fC)),.obj 0 false (.mp bg eO x.2.1),.obj 0 false (.vec 256 cD x.2.2)],(ab 107 [])⟩)
abbrev Vm:=dw×Int×Nat×(List (bC×dP))×(List bT)
def y6:Vm->Exit×AS:=λx=>(.exit 2,⟨(aP 4 ([.dO ez x.1]++aP 4 ([.d ti x.2.1]++aP 97 []))),[.obj 0 false (.pr (.cj (.bm 1) 0) (.pr (.bA (.bm 2) 0 [] 0 0 x.2.2.1) fC)),.obj 0 false (.mp bg eO x.2.2.2.1),.obj 0 false (.vec 256 cD x.2.2.2.2)],(ab 107 [])⟩)
abbrev Ny:=(Vl)⊕(Vm)
abbrev Zy:=(Unit)⊕(Unit)
def Fp:Ny->Out (Exit×AS):=λx=> .br x.isLeft (.get x.getLeft? λa=> .ok (y5 a)) (.get x.getRight? λb=> .ok (y6 b))
def lB:AT->Zy->Ny:=λ(vl,Vr,t75,t76,t77,ij,vN,kf) y=>match y with | .inl y=> .inl (ij,vN,kf) | .inr z=> .inr ((vl,Vr,ij,vN,kf))
abbrev Nz:=Int×(List gm)×Int×Int×Nat×(List (bC×dP))×(List bT)
def y7:Nz->Int->((Nat×(List (bC×dP))×(List bT))×(Int)):=λ(afY,t93,t94,t95,abg,asM,asN) y=>((abg,asM,asN),y)
abbrev avw:=dw×Int×Nat×(List (bC×dP))×(List bT)
def xw(h:Int)(id:List Int)(a:List (bC×dP)):List gK->Int->Int⊕Int
 |[],oG=> .inr oG
 |x::l,oG=>match bN bg x.1 a with
  |none=> .inl 5
  |some c=>if yx c.1.2.1 x.2.1 id h (h - c.2.1)≠0 then .inl (yx c.1.2.1 x.2.1 id h (h - c.2.1)) else xw h id a l (oG+c.1.1)
def qu(a:List (bC×dP))(o:bC):Bool:=(bN bg o a).isSome
def jc(l:List gm):Int:=(l.map (·.1)).sum
def eK(t:dw)(h:Int)(a:List (bC×dP)):Int×Int:=
 if hJ t=true/\1<=h/\h<=1048576 then
  match xw h (iC t) a t.1 0 with
  | .inl e=>(0,e)
  | .inr oG=>if(gX t).any (qu a)=true then(0,4) else if oG - jc t.2.1 < 0 then(0,8) else(oG - jc t.2.1,0)
 else(0,1)
def yY:AR->Prop:=λ(h,_,oG,l,n,i,_,a,_,id)=>(0<=h/\h<=1048576)/\Sm id/\l.length<=64/\(∀x∈l,aVe x)/\alb a/\∃k:Nat,k<=l.length/\i=k/\n=l.length/\0<=oG/\oG<=(k:Int)*1125899906842624
def nH:AR->Zv:=λ(h,_,oG,l,_,i,_,a,_,id)=>xw h id a (l.drop i.toNat) oG
def y4:AT->Prop:=λ(_,_,l,n,i,_,_,_)=>l.length<=1000/\∃k:Nat,k<=l.length/\i=k/\n=l.length
def pg:AT->Zy:=λ(_,_,l,_,i,_,a,_)=>if(l.drop i.toNat).any (qu a)=true then .inl () else .inr ()
def aiq:Nz->Prop:=λ(oG,l,n,i,_,_,_)=>l.length<=64/\(∀o∈l,0<=o.1/\o.1<=1125899906842624)/\∃k:Nat,k<=l.length/\i=k/\n=l.length/\ -((k:Int)*1125899906842624)<=oG/\oG<=1000000000000000000
def Fq:Nz->Int:=λ(oG,l,_,i,_,_,_)=>oG - jc (l.drop i.toNat)
def ayf:avw->Prop:=λ(t,_,_,a,_)=>nU t/\alb a
def ain:avw->(Int×Int×Nat×(List (bC×dP))×(List bT)):=λ(t,h,n,a,s)=>((eK t h a).1,(eK t h a).2,n,a,s)
def Zu:=dz.fv pf yY jG nH Fo
def LN:AR->Option Nx:=gM Zu pf
def Zw:=dz.fv tw y4 lB pg Fp
def LO:AT->Option Ny:=gM Zw tw
def uC:Ls aiq y7 Fq:=rp (λ(afY,t93,t94,t95,abg,asM,asN)=>⟨(aP 9 ([.d ti afY]++aP 83 ([.d (.slice gl) t93,.d ti t94,.d ti t95]++aP 11 []))),[.obj 0 false (.pr (.cj (.bm 1) 0) (.pr (.bA (.bm 2) 0 [] 0 0 abg) fC)),.obj 0 false (.mp bg eO asM),.obj 0 false (.vec 256 cD asN)],(ab 107 [])⟩) (λx=>(.exit 4,⟨(aP 9 ([.d ti x.2]++aP 97 [])),[.obj 0 false (.pr (.cj (.bm 1) 0) (.pr (.bA (.bm 2) 0 [] 0 0 x.1.1) fC)),.obj 0 false (.mp bg eO x.1.2.1),.obj 0 false (.vec 256 cD x.1.2.2)],(ab 107 [])⟩))
def mY:Fs Tryz.prog ayf bu ain:=eN 196 Tryz.f196 (λ(t,height,o0baL,o1,o2)=>([.ptr (.bm 0) 0 [] 0,.d ez t,.d ti height],[.obj 0 false (.pr (.cj (.bm 1) 0) (.pr (.bA (.bm 2) 0 [] 0 0 o0baL) (.d .unit ()))),.obj 0 false (.mp bg eO o1),.obj 0 false (.vec 256 cD o2)])) (λx=>⟨.cons (.d ti x.1) (.cons (.d ti x.2.1) (.nil)),[.obj 0 false (.pr (.cj (.bm 1) 0) (.pr (.bA (.bm 2) 0 [] 0 0 x.2.2.1) (.d .unit ()))),.obj 0 false (.mp bg eO x.2.2.2.1),.obj 0 false (.vec 256 cD x.2.2.2.2)],[]⟩) [none,some ez,some ti] [tV,UC,aGb,apU] {loops:=nY [(5,{aV:=[0,2,4,8,9,35,36,37],sites:=[8]}),(16,{aV:=[0,4,9,75,76,77]}),(23,{aV:=[9,93,94,95]})],outs:=nX [(5,{aV:=[0,4,9]},{aV:=[6,7]}),(16,{aV:=[4,9]},{aV:=[6,7]}),(23,{aV:=[9]},{aV:=[6,7]})],fF:=nK [(5,Zu),(16,Zw),(23,uC.E)]}
def Nw:= @eC Tryz.prog (jI mY.G) mY.an 0 Tryz.f196 0 _ pf
abbrev Vh:=kP Tryz.prog (jI mY.G) mY.an 0 Tryz.f196 0 pf yY jG nH Fo
def Zx:= @eC Tryz.prog (jI mY.G) mY.an 0 Tryz.f196 1 _ tw
abbrev Vk:=kP Tryz.prog (jI mY.G) mY.an 0 Tryz.f196 1 tw y4 lB pg Fp
theorem aio:jf LN yY jG nH:=mn (jx [.d ti,.d ez,.d ti,.d (.slice gh),.d ti,.d ti,.n,.d (.slice (.pair bg eO)),.d (.slice cD),.d tB] λ_=>b8)
theorem P7:nq @Nw pf yY jG nH Fo Vh:=oa
theorem C1{R:Type}(dQ:Int)(oO:dw)(oG:Int)(t35:(List gK))(t36:Int)(t37:Int)(o0L:Nat)(dS:(List (bC×dP)))(eA:(List bT))(n8:Bs)(kn:AS->Option R)(kx:Exit->AS->Option R):Nw (dQ,oO,oG,t35,t36,t37,o0L,dS,eA,n8) kn kx=aJ ((gr t37 t36)) (aJ (ed t37 (((ag t35):Nat):Int)) (aJ ((!(bN bg (nth gh t35 (ae t37)).1 dS).isSome)) (kx (jH ((o0L,dS,eA),(5:Int))).1 (jH ((o0L,dS,eA),(5:Int))).2) (al (nc.call (((bN bg (nth gh t35 (ae t37)).1 dS).getD (((0:Int),((([]:List ot),()),())),((0:Int),()))).1.2.1,(nth gh t35 (ae t37)).2.1,n8,dQ,(cR .i64 dQ ((bN bg (nth gh t35 (ae t37)).1 dS).getD (((0:Int),((([]:List ot),()),())),((0:Int),()))).2.1))) λx1=>aJ ((A7 x1 (0:Int))) (kx (jH ((o0L,dS,eA),x1)).1 (jH ((o0L,dS,eA),x1)).2) (kn (pf (dQ,oO,(bI .i64 oG ((bN bg (nth gh t35 (ae t37)).1 dS).getD (((0:Int),((([]:List ot),()),())),((0:Int),()))).1.1),t35,t36,(bI .i64 t37 (1:Int)),o0L,dS,eA,n8))))) none) (kx (yZ ((oO,o0L,dS,eA),oG)).1 (yZ ((oO,o0L,dS,eA),oG)).2):=b8
theorem aip:jf LO y4 lB pg:=mn (jx [.d ez,.d ti,.d (.slice bg),.d ti,.d ti,.n,.d (.slice (.pair bg eO)),.d (.slice cD)] λ_=>b8)
theorem P8:nq @Zx tw y4 lB pg Fp Vk:=oa
theorem C2{R:Type}(vl:dw)(Vr:Int)(t75:(List bC))(t76:Int)(t77:Int)(ij:Nat)(vN:(List (bC×dP)))(kf:(List bT))(kn:AS->Option R)(kx:Exit->AS->Option R):Zx (vl,Vr,t75,t76,t77,ij,vN,kf) kn kx=aJ ((gr t77 t76)) (aJ (ed t77 (((ag t75):Nat):Int)) (aJ ((bN bg (nth bg t75 (ae t77)) vN).isSome) (kx (y5 (ij,vN,kf)).1 (y5 (ij,vN,kf)).2) (kn (tw (vl,Vr,t75,t76,(bI .i64 t77 (1:Int)),ij,vN,kf)))) none) (kx (y6 (vl,Vr,ij,vN,kf)).1 (y6 (vl,Vr,ij,vN,kf)).2):=b8
theorem air:uC.RS:=rL [.d ti,.d (.slice gl),.d ti,.d ti,.n,.d (.slice (.pair bg eO)),.d (.slice cD)] uC
theorem LP{R:Type}(afY t93 t94 t95 abg asM asN)(kn:K2 R)(kx:K3 R):mY.R 2 uC (afY,t93,t94,t95,abg,asM,asN) kn kx=aJ ((gr t95 t94)) (aJ (ed t95 (t93.length:Int)) (kn (uC.st ((cR .i64 afY (nth gl t93 (ae t95)).1),t93,t94,(bI .i64 t95 1),abg,asM,asN))) none) (uC.go kx ((abg,asM,asN),afY)):=b8
theorem aEk{R:Type}(t height o0baL o1 o2)(k:K1 R):mY.A (t,height,o0baL,o1,o2) k=al (iN.call t) λx1=>aJ ((!x1)) (k (mY.out (0,1,o0baL,o1,o2))) (aJ ((gr height 1)) (k (mY.out (0,1,o0baL,o1,o2))) (aJ ((qZ height 1048576)) (k (mY.out (0,1,o0baL,o1,o2))) (al (tid.call t) λx2=>al (LN (height,t,0,t.1,(t.1.length:Int),0,o0baL,o1,o2,x2)) λx4=>aJ (x4.isLeft) (al (x4.getLeft?) λa5=>k (mY.out (0,a5.2,a5.1.1,a5.1.2.1,a5.1.2.2))) (al (x4.getRight?) λb6=>al (Hv.call b6.1.1) λx7=>al (LO (b6.1.1,b6.2,x7,(x7.length:Int),0,b6.1.2.1,b6.1.2.2.1,b6.1.2.2.2)) λx8=>aJ (x8.isLeft) (al (x8.getLeft?) λa9=>k (mY.out (0,4,a9.1,a9.2.1,a9.2.2))) (al (x8.getRight?) λaw6=>al (uC.call (aw6.2.1,aw6.1.2.1,(aw6.1.2.1.length:Int),0,aw6.2.2.1,aw6.2.2.2.1,aw6.2.2.2.2)) λawZ=>aJ ((gr awZ.2 0)) (k (mY.out (0,8,awZ.1.1,awZ.1.2.1,awZ.1.2.2))) (k (mY.out (awZ.2,0,awZ.1.1,awZ.1.2.1,awZ.1.2.2)))))))):=b8
theorem amC:Vh:=by
 refine P7 (λ(_,_,_,l,_,i,_,_,_,_)=>l.length - i.toNat) ?_
 rintro⟨h,t,oG,l,n,i,o,a,s,id⟩ ⟨⟨aTL,aTM⟩,cY,hl,hu,ha,k,hk,rfl,rfl,aRy,aNt⟩;have aTL:0<=h:=aTL;have aTM:h<=1048576:=aTM;have hl:l.length<=64:=hl;have aRy:0<=oG:=aRy;have aNt:oG<=(k:Int)*1125899906842624:=aNt;have hk:k<=l.length:=hk;by_cases gQ:k < l.length
 ·have hx:=hu _ (aN gQ);have n1:nth gh l k=l[k]:=cd (t:=gh) gQ;have hd:l.drop k=l[k]::l.drop (k+1):=aq gQ;cases hg:bN bg l[k].1 a with
  |none=>
   right;refine⟨jH ((o,a,s),5),?_,λkn kx=> ?_⟩;rotate_left
   ·rw[C1,aU ak,aj,bj ak ak,aj,aa,n1,hg];simp only[Option.isSome_none,fb,aj]
   ·simp only[jG,nH,aa,hd,xw,hg];rfl
  |some c=>
   have hc:=ha.get hg;obtain⟨c1,c2,c3,c4,c5,c6⟩:=hc
   have mG:∀ {R:Type} (kn:AS->Option R) (kx:Exit->AS->Option R),Nw (h,t,oG,l,(l.length:Int),(k:Int),o,a,s,id) kn kx=
     aJ (A7 (yx c.1.2.1 l[k].2.1 id h (h - c.2.1)) 0) (kx (jH ((o,a,s),yx c.1.2.1 l[k].2.1 id h (h - c.2.1))).1 (jH ((o,a,s),yx c.1.2.1 l[k].2.1 id h (h - c.2.1))).2)
      (kn (pf (h,t,oG+c.1.1,l,(l.length:Int),((k+1:Nat):Int),o,a,s,id))):=λkn kx=>by
    rw[C1,aU ak,aj,bj ak ak,aj,aa,n1,hg];simp only[Option.isSome_some,cm,ao,dN];rw[eL ak ak,azo (d:=(c.1.2.1,l[k].2.1,id,h,h - c.2.1)) ⟨c2,by have:=TM c1;omega,hx.2.1,cY⟩];simp only[ah,bu,ajm];rw[fZ ak ak,N.mD ak]
   by_cases he:yx c.1.2.1 l[k].2.1 id h (h - c.2.1)=0
   ·left;refine⟨(h,t,oG+c.1.1,l,(l.length:Int),((k+1:Nat):Int),o,a,s,id),⟨⟨aTL,aTM⟩,cY,hl,hu,ha,k+1,ak,rfl,rfl,by show 0<=oG+c.1.1;omega,by show oG+c.1.1<=_;omega⟩,by simp only[aa];omega,?_,λkn kx=> ?_⟩
    ·simp only[jG,nH,aa,hd,xw,hg,he,ne_eq,not_true_eq_false,bt]
    ·rw[mG,dB he,ao]
   ·right;refine⟨jH ((o,a,s),yx c.1.2.1 l[k].2.1 id h (h - c.2.1)),?_,λkn kx=> ?_⟩;rotate_left
    ·rw[mG,fo he,aj]
    ·simp only[jG,nH,aa,hd,xw,hg];rw[if_pos he];rfl
 ·right;obtain rfl:k=l.length:=ak;refine⟨yZ ((t,o,a,s),oG),?_,λkn kx=> ?_⟩;rotate_left
  ·rw[C1,aQ ak,ao]
  ·simp only[jG,nH,aa,aL,xw];rfl
theorem amD:Vk:=by
 refine P8 (λ(_,_,l,_,i,_,_,_)=>l.length - i.toNat) ?_
 rintro⟨t,oG,l,n,i,o,a,s⟩ ⟨hl,k,hk,rfl,rfl⟩;have hl:l.length<=1000:=hl;have hk:k<=l.length:=hk;by_cases gQ:k < l.length
 ·have n1:nth bg l k=l[k]:=cd (t:=bg) gQ;have hd:l.drop k=l[k]::l.drop (k+1):=aq gQ;cases hg:(bN bg l[k] a).isSome with
  |true=>
   right;refine⟨y5 (o,a,s),?_,λkn kx=> ?_⟩;rotate_left
   ·rw[C2,aU ak,aj,bj ak ak,aj,aa,n1,hg,aj]
   ·simp only[lB,pg,aa,hd,ru,qu,hg,Bool.true_or,bG];rfl
  |false=>
   left;refine⟨(t,oG,l,(l.length:Int),((k+1:Nat):Int),o,a,s),⟨hl,k+1,ak,rfl,rfl⟩,by simp only[aa];omega,?_,λkn kx=> ?_⟩
   ·simp only[lB,pg,aa,hd,ru,qu,hg,wj]
   ·rw[C2,aU ak,aj,bj ak ak,aj,aa,n1,hg,ao,N.mD ak]
 ·right;obtain rfl:k=l.length:=ak;refine⟨y6 (t,oG,o,a,s),?_,λkn kx=> ?_⟩;rotate_left
  ·rw[C2,aQ ak,ao]
  ·simp only[lB,pg,aa,aL,List.any_nil,bn,bt];rfl
theorem amE:(mY.kM 2 uC):=by
 refine(mY.mf 2 uC) (λ(_,l,_,i,_,_,_)=>l.length - i.toNat) ?_
 rintro⟨oG,l,n,i,o,a,s⟩ ⟨hl,ho,k,hk,rfl,rfl,aRy,aNt⟩;have hl:l.length<=64:=hl;have hk:k<=l.length:=hk;have aRy: -((k:Int)*1125899906842624)<=oG:=aRy;have aNt:oG<=1000000000000000000:=aNt;by_cases gQ:k < l.length
 ·left;have n1:nth gl l k=l[k]:=cd (t:=gl) gQ;have hd:l.drop k=l[k]::l.drop (k+1):=aq gQ;have hx:=ho _ (aN gQ);refine⟨(oG - l[k].1,l,(l.length:Int),((k+1:Nat):Int),o,a,s),⟨hl,ho,k+1,ak,rfl,rfl,by show _<=oG - l[k].1;omega,by show oG - l[k].1<=_;omega⟩,by simp only[aa];omega,?_,λkn kx=> ?_⟩
  ·simp only[y7,Fq,aa,hd,jc,bQ,List.sum_cons];rw[Int.sub_sub]
  ·rw[LP,aU ak,aj,bj ak ak,aj,aa,n1,eL ak ak,N.mD ak]
 ·right;obtain rfl:k=l.length:=ak;intro R kn kx;rw[LP,aQ ak,ao];simp only[y7,Fq,aa,aL,jc,iq,List.sum_nil,qe]
theorem vJ{t:dw}(h:hJ t=true):(gX t).length=t.2.1.length:=by unfold gX;rw[if_pos h];simp[Hb]
theorem aae{h:Int}{id:List Int}{a:List (bC×dP)}(ha:alb a):∀(l:List gK) (oG f:Int),xw h id a l oG= .inr f->oG<=f/\f<=oG+(l.length:Int)*1125899906842624
 |[],oG,f,e=>by simp only[xw,Sum.inr.injEq]at e;subst e;simp
 |x::l,oG,f,e=>by
  simp only[xw]at e;cases hg:bN bg x.1 a with
  |none=>rw[hg]at e;cases e
  |some c=>
   rw[hg]at e;simp only at e;split at e
   ·cases e
   ·have hc:=ha.get hg;have:=aae ha l _ _ e;obtain⟨_,_,c3,c4,_⟩:=hc;rw[aA];omega
theorem aEl:mY.Ok:=by
 rintro⟨t,h,n,a,s⟩ ⟨hv,ha⟩;have hv:nU t:=hv;have ha:alb a:=ha;rw[aEk,pZ (d:=t) hv.1];simp only[ah,bu,rT,bu,ain,eK];by_cases jn:hJ t=true
 ·rw[jn,cm,ao];obtain⟨⟨_,a2,a3,_⟩,b1,b2⟩:=jM jn;by_cases h1:1<=h
  ·rw[aQ ak,ao];by_cases h2:h<=1048576
   ·rw[cr ak,ao,if_pos ⟨rfl,h1,h2⟩,GG (d:=t) hv];simp only[ah,bu,R6];rw[aio (d:=(h,t,0,t.1,(t.1.length:Int),0,n,a,s,iC t)) ⟨⟨by show 0<=h;omega,h2⟩,GN,a2,hv.2.1,ha,0,aK _,rfl,rfl,by decide,by decide⟩];simp only[ah,jG,nH,aX,aD];cases hi:xw h (iC t) a t.1 0 with
    |inl e=>
     simp only[oU,aj,mC,ah]
    |inr oG=>
     have hb:=aae ha _ _ _ hi;simp only[dJ,ao,da,ah];rw[ahl (d:=t) hv];simp only[ah,bu,Yk];rw[aip (d:=(t,oG,gX t,((gX t).length:Int),0,n,a,s)) ⟨by rw[vJ jn];omega,0,aK _,rfl,rfl⟩];simp only[ah,lB,pg,aX,aD];by_cases hm:(gX t).any (qu a)=true
     ·rw[if_pos hm];simp only[oU,aj,mC,ah,bG,hm]
     ·rw[if_neg hm];simp only[dJ,ao,da,ah];rw[air (d:=(oG,t.2.1,(t.2.1.length:Int),0,n,a,s)) ⟨a3,λo ho=>(ky _ _ b2 o ho).1,0,aK _,rfl,rfl,by show -((0:Int)*_)<=oG;omega,by show oG<=_;omega⟩];simp only[ah,y7,Fq,aX,aD];rw[if_neg hm];by_cases hf:oG - jc t.2.1 < 0
      ·rw[aU hf,aj,if_pos hf]
      ·rw[aQ hf,ao,if_neg hf]
   ·rw[cP ak,aj,if_neg (λe=>h2 e.2.2)]
  ·rw[aU ak,aj,if_neg (λe=>h1 e.2.1)]
 ·have hok':hJ t=false:=by simpa using jn
  rw[hok',fb,aj,if_neg (λe=>by cases e.1)]
theorem afR:mY.RS:=rE [.d ez,.d ti,.n,.d (.slice (.pair bg eO)),.d (.slice cD)] mY
def amF:=mY.eU aEl 3 ⟨.fv amC,⟨.fv amD,⟨.fv amE,trivial⟩⟩⟩
def zd(l:List bC)(a:List (bC×dP)):List (bC×dP):=l.foldl (λm o=>gY bg o m) a
def abz(l:List XL)(a:List (bC×dP)):List (bC×dP):=l.foldl (λm e=>eG bg e.1 e.2.1 m) a
def xP(a:List (bC×dP))(st:bT):List (bC×dP):=abz st.1 (zd st.2.1 a)
abbrev NC:=Int×(List bC)×Int×Int×Nat×(List (bC×dP))×(List bT)
abbrev ZE:=(List (bC×dP))
def za:NC->ZE->((Int×Nat×(List bT))×((List (bC×dP)))):=λ(n,t23,t24,t25,o0L,dS,eA) y=>((n,o0L,eA),y)
abbrev ND:=Int×(List XL)×Int×Int×Nat×(List (bC×dP))×(List bT)
abbrev ZF:=(List (bC×dP))
def zb:ND->ZF->((Int×Nat×(List bT))×((List (bC×dP)))):=λ(wJ,t42,t43,t44,ij,vN,kf) y=>((wJ,ij,kf),y)
abbrev avA:=Nat×(List (bC×dP))×(List bT)
def aiw:NC->Prop:=λ(_,l,n,i,_,_,_)=>l.length<=1000/\∃k:Nat,k<=l.length/\i=k/\n=l.length
def Fv:NC->ZE:=λ(_,l,_,i,_,a,_)=>zd (l.drop i.toNat) a
def aiy:ND->Prop:=λ(_,l,n,i,_,_,_)=>l.length<=1000/\∃k:Nat,k<=l.length/\i=k/\n=l.length
def Fw:ND->ZF:=λ(_,l,_,i,_,a,_)=>abz (l.drop i.toNat) a
def ahB(st:bT):Prop:=st.1.length<=1000/\st.2.1.length<=1000
def ayj:avA->Prop:=λ(n,_,s)=>n<=s.length/\s.length<=1000000/\∀st∈s,ahB st
def XQ:avA->(Bool×Nat×(List (bC×dP))×(List bT)):=λ(n,a,s)=>if n=0 then(false,n,a,s) else(true,n - 1,xP a (nth cD s (n - 1)),s)
def uD:Ls aiw za Fv:=rp (λ(n,t23,t24,t25,o0L,dS,eA)=>⟨([.ptr (.bm 0) 0 [] 0,bF,bF,.d ti n]++aP 19 ([.d (.slice bg) t23,.d ti t24,.d ti t25]++aP 40 [])),[.obj 0 false (.pr (.cj (.bm 1) 0) (.pr (.bA (.bm 2) 0 [] 0 0 o0L) fC)),.obj 0 false (.mp bg eO dS),.obj 0 false (.vec 256 cD eA)],(ab 66 [])⟩) (λx=>(.exit 0,⟨([.ptr (.bm 0) 0 [] 0,bF,bF,.d ti x.1.1]++aP 62 []),[.obj 0 false (.pr (.cj (.bm 1) 0) (.pr (.bA (.bm 2) 0 [] 0 0 x.1.2.1) fC)),.obj 0 false (.mp bg eO x.2),.obj 0 false (.vec 256 cD x.1.2.2)],(ab 66 [])⟩))
def uE:Ls aiy zb Fw:=rp (λ(wJ,t42,t43,t44,ij,vN,kf)=>⟨([.ptr (.bm 0) 0 [] 0,bF,bF,.d ti wJ]++aP 38 ([.d (.slice aBk) t42,.d ti t43,.d ti t44]++aP 21 [])),[.obj 0 false (.pr (.cj (.bm 1) 0) (.pr (.bA (.bm 2) 0 [] 0 0 ij) fC)),.obj 0 false (.mp bg eO vN),.obj 0 false (.vec 256 cD kf)],(ab 66 [])⟩) (λx=>(.exit 2,⟨([.ptr (.bm 0) 0 [] 0,bF,bF,.d ti x.1.1]++aP 62 []),[.obj 0 false (.pr (.cj (.bm 1) 0) (.pr (.bA (.bm 2) 0 [] 0 0 x.1.2.1) fC)),.obj 0 false (.mp bg eO x.2),.obj 0 false (.vec 256 cD x.1.2.2)],(ab 66 [])⟩))
def AV:Fs Tryz.prog ayj bu XQ:=eN 165 Tryz.f165 (λ(o0baL,o1,o2)=>([.ptr (.bm 0) 0 [] 0],[.obj 0 false (.pr (.cj (.bm 1) 0) (.pr (.bA (.bm 2) 0 [] 0 0 o0baL) (.d .unit ()))),.obj 0 false (.mp bg eO o1),.obj 0 false (.vec 256 cD o2)])) (λx=>⟨.d .bool x.1,[.obj 0 false (.pr (.cj (.bm 1) 0) (.pr (.bA (.bm 2) 0 [] 0 0 x.2.1) (.d .unit ()))),.obj 0 false (.mp bg eO x.2.2.1),.obj 0 false (.vec 256 cD x.2.2.2)],[]⟩) [none] [] {loops:=nY [(5,{aV:=[0,3,23,24,25]}),(10,{aV:=[0,3,42,43,44]})],outs:=nX [(5,{aV:=[0,3]},{aV:=[2]}),(10,{aV:=[0,3]},{aV:=[2]})],fF:=nK [(5,uD.E),(10,uE.E)]}
theorem aix:uD.RS:=rL [.d ti,.d (.slice bg),.d ti,.d ti,.n,.d (.slice (.pair bg eO)),.d (.slice cD)] uD
theorem LS{R:Type}(n t23 t24 t25 o0L dS eA)(kn:K2 R)(kx:K3 R):AV.R 0 uD (n,t23,t24,t25,o0L,dS,eA) kn kx=aJ ((gr t25 t24)) (aJ (ed t25 (t23.length:Int)) (kn (uD.st (n,t23,t24,(bI .i64 t25 1),o0L,(gY bg (nth bg t23 (ae t25)) dS),eA))) none) (uD.go kx ((n,o0L,eA),dS)):=b8
theorem aiz:uE.RS:=rL [.d ti,.d (.slice aBk),.d ti,.d ti,.n,.d (.slice (.pair bg eO)),.d (.slice cD)] uE
theorem LU{R:Type}(wJ t42 t43 t44 ij vN kf)(kn:K2 R)(kx:K3 R):AV.R 1 uE (wJ,t42,t43,t44,ij,vN,kf) kn kx=aJ ((gr t44 t43)) (aJ (ed t44 (t42.length:Int)) (kn (uE.st (wJ,t42,t43,(bI .i64 t44 1),ij,(eG bg (nth aBk t42 (ae t44)).1 (nth aBk t42 (ae t44)).2.1 vN),kf))) none) (uE.go kx ((wJ,ij,kf),vN)):=b8
theorem aEq{R:Type}(o0baL o1 o2)(k:K1 R):AV.A (o0baL,o1,o2) k=aJ ((gr (cR .i64 ((o0baL:Nat):Int) 1) 0)) (k (AV.out (false,o0baL,o1,o2))) (aJ (ed (cR .i64 ((o0baL:Nat):Int) 1) ((o0baL:Nat):Int)) (aJ (decide ((0+(ae (cR .i64 ((o0baL:Nat):Int) 1))) < (ag o2))) (aJ (decide ((((0+(ae (cR .i64 ((o0baL:Nat):Int) 1)))*2)+1)=((0+((ae (cR .i64 ((o0baL:Nat):Int) 1))*2))+1))) (al (uD.call ((cR .i64 ((o0baL:Nat):Int) 1),(nth cD o2 (0+(ae (cR .i64 ((o0baL:Nat):Int) 1)))).2.1,(((ag (nth cD o2 (0+(ae (cR .i64 ((o0baL:Nat):Int) 1)))).2.1):Nat):Int),0,o0baL,o1,o2)) λx1=>aJ (ed x1.1.1 ((x1.1.2.1:Nat):Int)) (aJ (decide ((0+(ae x1.1.1)) < (ag x1.1.2.2))) (aJ (decide ((((0+(ae x1.1.1))*2)+0)=((0+((ae x1.1.1)*2))+0))) (al (uE.call (x1.1.1,(nth cD x1.1.2.2 (0+(ae x1.1.1))).1,(((ag (nth cD x1.1.2.2 (0+(ae x1.1.1))).1):Nat):Int),0,x1.1.2.1,x1.2,x1.1.2.2)) λx2=>aJ (inc x2.1.1 ((x2.1.2.1:Nat):Int)) (k (AV.out (true,((ae x2.1.1) - 0),x2.2,x2.1.2.2))) none) none) none) none) none) none) none):=b8
theorem amJ:(AV.kM 0 uD):=by
 refine(AV.mf 0 uD) (λ(_,l,_,i,_,_,_)=>l.length - i.toNat) ?_
 rintro⟨u,l,n,i,o,a,s⟩ ⟨hl,k,hk,rfl,rfl⟩;have hl:l.length<=1000:=hl;have hk:k<=l.length:=hk;by_cases gQ:k < l.length
 ·left;have n1:nth bg l k=l[k]:=cd (t:=bg) gQ;have hd:l.drop k=l[k]::l.drop (k+1):=aq gQ;refine⟨(u,l,(l.length:Int),((k+1:Nat):Int),o,zd [l[k]] a,s),⟨hl,k+1,ak,rfl,rfl⟩,by simp only[aa];omega,?_,λkn kx=> ?_⟩
  ·simp only[za,Fv,aa,hd,zd,bq,cO]
  ·rw[LS,aU ak,aj,bj ak ak,aj,aa,n1,N.mD ak];rfl
 ·right;obtain rfl:k=l.length:=ak;intro R kn kx;rw[LS,aQ ak,ao];simp only[za,Fv,aa,aL,zd,cO]
theorem amK:(AV.kM 1 uE):=by
 refine(AV.mf 1 uE) (λ(_,l,_,i,_,_,_)=>l.length - i.toNat) ?_
 rintro⟨u,l,n,i,o,a,s⟩ ⟨hl,k,hk,rfl,rfl⟩;have hl:l.length<=1000:=hl;have hk:k<=l.length:=hk;by_cases gQ:k < l.length
 ·left;have n1:nth aBk l k=l[k]:=cd (t:=aBk) gQ;have hd:l.drop k=l[k]::l.drop (k+1):=aq gQ;refine⟨(u,l,(l.length:Int),((k+1:Nat):Int),o,abz [l[k]] a,s),⟨hl,k+1,ak,rfl,rfl⟩,by simp only[aa];omega,?_,λkn kx=> ?_⟩
  ·simp only[zb,Fw,aa,hd,abz,bq,cO]
  ·rw[LU,aU ak,aj,bj ak ak,aj,aa,n1,N.mD ak];rfl
 ·right;obtain rfl:k=l.length:=ak;intro R kn kx;rw[LU,aQ ak,ao];simp only[zb,Fw,aa,aL,abz,cO]
theorem aEr:AV.Ok:=by
 rintro⟨n,a,s⟩ ⟨h1,h2,h3⟩;have h1:n<=s.length:=h1;have h2:s.length<=1000000:=h2;have h3:∀st∈s,ahB st:=h3;rw[aEq];simp only[bu,XQ];cases n with
 |zero=>
  rw[aU (by decide),aj];rfl
 |succ m=>
  have e1:cR .i64 (((m+1:Nat):Nat):Int) (1:Int)=(m:Int):=by rw[eL ak ak];omega
  have hm:m < s.length:=ak;have n1:nth cD s m=s[m]:=cd (t:=cD) hm;have hs:=h3 _ (aN hm);rw[e1,aQ ak,ao,bj ak ak,aj];simp only[aa,aO,cq,aM hm,aj,cv,n1];rw[aix (d:=((m:Int),s[m].2.1,(s[m].2.1.length:Int),0,m+1,a,s)) ⟨hs.2,0,aK _,rfl,rfl⟩];simp only[ah,za,Fv,aX,aD];rw[bj ak ak,aj];simp only[aa,aO,cq,aM hm,aj,cv,n1];rw[aiz (d:=((m:Int),s[m].1,(s[m].1.length:Int),0,m+1,zd s[m].2.1 a,s)) ⟨hs.1,0,aK _,rfl,rfl⟩];simp only[ah,zb,Fw,aX,aD];rw[uL ak ak,aj,if_neg ak];simp only[aa,Nat.sub_zero,iX,n1,xP]
theorem afT:AV.RS:=rE [.n,.d (.slice (.pair bg eO)),.d (.slice cD)] AV
def aEs:=AV.eU aEr 2 ⟨.fv amJ,⟨.fv amK,trivial⟩⟩
abbrev AO:=Int×dw×(List bC)×Int×Int×Nat×(List (bC×dP))×(List bT)×Nat×((List bC)×Unit)×(List XL)
def tt:AO->AS:=λ(dQ,oO,t28,t29,t30,o0L,dS,eA,aJD,n9,n45)=>⟨([.ptr (.bm 0) 0 [] 0,bF,.d ti dQ,bF,.dO ez oO]++aP 4 ([eT 9]++aP 18 ([.d (.slice bg) t28,.d ti t29,.d ti t30]++aP 54 []))),[.obj 0 false (.pr (.cj (.bm 1) 0) (.pr (.bA (.bm 2) 0 [] 0 0 o0L) fC)),.obj 0 false (.mp bg eO dS),.obj 0 false (.vec 256 cD eA)],(bM 9 ([dK (.pr (om 45 aJD) (.d (.pair (.slice bg) .unit) n9))]++bM 35 ([dK (.vec 258 aBk n45)]++bM 39 [])))⟩
abbrev Cd:=(Int×dw×Nat×(List bT)×((List bC)×Unit))×((List (bC×dP))×Nat×(List XL))
def yV:Cd->Exit×AS:=λx=>(.exit 0,⟨([.ptr (.bm 0) 0 [] 0,bF,.d ti x.1.1,bF,.dO ez x.1.2.1]++aP 4 ([eT 9]++aP 75 [])),[.obj 0 false (.pr (.cj (.bm 1) 0) (.pr (.bA (.bm 2) 0 [] 0 0 x.1.2.2.1) fC)),.obj 0 false (.mp bg eO x.2.1),.obj 0 false (.vec 256 cD x.1.2.2.2.1)],(bM 9 ([dK (.pr (om 45 x.2.2.1) (.d (.pair (.slice bg) .unit) x.1.2.2.2.2))]++bM 35 ([dK (.vec 258 aBk x.2.2.2)]++bM 39 [])))⟩)
def P4:Cd->Out (Exit×AS):=λx=> .ok (yV x)
def nF:AO->((List (bC×dP))×Nat×(List XL))->Cd:=λ(dQ,oO,t28,t29,t30,o0L,dS,eA,aJD,n9,n45) y=>((dQ,oO,o0L,eA,n9),y)
abbrev AP:=Int×dw×(List bC)×Int×Int×Nat×(List (bC×dP))×(List bT)×Nat×((List bC)×Unit)×(List XL)
def tv:AP->AS:=λ(Ee,vl,t54,t55,t56,ij,vN,kf,V8,Q4,V5)=>⟨([.ptr (.bm 0) 0 [] 0,bF,.d ti Ee,bF,.dO ez vl]++aP 4 ([eT 9]++aP 44 ([.d (.slice bg) t54,.d ti t55,.d ti t56]++aP 28 []))),[.obj 0 false (.pr (.cj (.bm 1) 0) (.pr (.bA (.bm 2) 0 [] 0 0 ij) fC)),.obj 0 false (.mp bg eO vN),.obj 0 false (.vec 256 cD kf)],(bM 9 ([dK (.pr (om 45 V8) (.d (.pair (.slice bg) .unit) Q4))]++bM 35 ([dK (.vec 258 aBk V5)]++bM 39 [])))⟩
abbrev Ce:=(Nat×(List bT)×Nat×((List bC)×Unit)×(List XL))×((List (bC×dP)))
def yX:Ce->Exit×AS:=λx=>(.exit 2,⟨([.ptr (.bm 0) 0 [] 0]++aP 8 ([eT 9]++aP 75 [])),[.obj 0 false (.pr (.cj (.bm 1) 0) (.pr (.bA (.bm 2) 0 [] 0 0 x.1.1) fC)),.obj 0 false (.mp bg eO x.2),.obj 0 false (.vec 256 cD x.1.2.1)],(bM 9 ([dK (.pr (om 45 x.1.2.2.1) (.d (.pair (.slice bg) .unit) x.1.2.2.2.1))]++bM 35 ([dK (.vec 258 aBk x.1.2.2.2.2)]++bM 39 [])))⟩)
def P6:Ce->Out (Exit×AS):=λx=> .ok (yX x)
def nG:AP->((List (bC×dP)))->Ce:=λ(Ee,vl,t54,t55,t56,ij,vN,kf,V8,Q4,V5) y=>((ij,kf,V8,Q4,V5),y)
abbrev PZ:=dw×Int×Nat×(List (bC×dP))×(List bT)
def Zt:PZ->SA:=λ(t,height,o0baL,o1,o2)=>([.ptr (.bm 0) 0 [] 0,.d ez t,.d ti height],[.obj 0 false (.pr (.cj (.bm 1) 0) (.pr (.bA (.bm 2) 0 [] 0 0 o0baL) fC)),.obj 0 false (.mp bg eO o1),.obj 0 false (.vec 256 cD o2)])
abbrev avv:=(Int×Nat×(List (bC×dP))×(List bT))⊕(Int×Nat×(List (bC×dP))×(List bT))
abbrev aim:=(Int×Nat×(List (bC×dP))×(List bT))⊕(Int×Nat×(List (bC×dP))×(List bT))
def Kv:aim->fK:=λx=>match x with | .inl x=>⟨.d ti x.1,[.obj 0 false (.pr (.cj (.bm 1) 0) (.pr (.bA (.bm 2) 0 [] 0 0 x.2.1) fC)),.obj 0 false (.mp bg eO x.2.2.1),.obj 0 false (.vec 256 cD x.2.2.2)],[]⟩ | .inr x=>⟨.d ti x.1,[.obj 0 false (.pr (.cj (.bm 1) 0) (.pr (.bA (.bm 2) 1 [] 0 0 x.2.1) fC)),.obj 0 false (.mp bg eO x.2.2.1),.obj 1 false (.vec 256 cD x.2.2.2)],[]⟩
def Ar:PZ->avv->aim:=λ(t,height,o0baL,o1,o2) y=>match y with | .inl y=> .inl y | .inr y=> .inr y
def vp(a:List (bC×dP)):List bC->List XL
 |[]=> []
 |o::l=>(o,((bN bg o a).getD aJt,()))::vp (gY bg o a) l
def Na(h:Int):List bC->List gm->List (bC×dP)->List (bC×dP)
 |o::l,x::xs,a=>Na h l xs (eG bg o (x,(h,())) a)
 |_,_,a=>a
def stepOf(t:dw)(a:List (bC×dP)):bT:=(vp a (dM t),(gX t,()))
def fw(t:dw)(h:Int)(a:List (bC×dP)):List (bC×dP):=Na h (gX t) t.2.1 (zd (dM t) a)
def yU:AO->Prop:=λ(_,_,l,n,i,_,_,_,gL,_,g)=>l.length<=1000/\∃k:Nat,k<=l.length/\i=k/\n=l.length/\gL=g.length/\g.length=k
def sV:AO->((List (bC×dP))×Nat×(List XL)):=λ(_,_,l,_,i,_,a,_,gL,_,g)=>(zd (l.drop i.toNat) a,gL+(l.drop i.toNat).length,g++vp a (l.drop i.toNat))
def yW:AP->Prop:=λ(_,t,l,n,i,_,_,_,_,_,_)=>l.length<=1000/\l.length=t.2.1.length/\(∀o∈t.2.1,aTd o.2.1)/\∃k:Nat,k<=l.length/\i=k/\n=l.length
def sX:AP->((List (bC×dP))):=λ(h,t,l,_,i,_,a,_,_,_,_)=>Na h (l.drop i.toNat) (t.2.1.drop i.toNat) a
def Td:PZ->Prop:=λ(t,_,n,a,s)=>nU t/\alb a/\n<=s.length/\s.length<=1000000
def Ku:PZ->avv:=λ(t,h,n,a,s)=>if(eK t h a).2≠0 then .inl ((eK t h a).2,n,a,s) else .inr (0,n+1,fw t h a,s.take n++ [stepOf t a])
def P0:oR:=jI (P:=Tryz.prog) [amF,apU,adn,avr]
def Zp:=dz.fv tt yU nF sV P4
def LJ:AO->Option Cd:=gM Zp tt
def Zr:=dz.fv tv yW nG sX P6
def LL:AP->Option Ce:=gM Zr tv
def Ic:xi:= {loops:=nY [(6,{aV:=[0,2,4,9,28,29,30],sites:=[9,45],owns:=[⟨9,[.fst],45,254⟩]}),(12,{aV:=[0,2,4,9,54,55,56],sites:=[9,45]})],outs:=nX [(6,{aV:=[0,2,4,9],sites:=[9,45]},{aV:=[6]}),(12,{aV:=[0,9],sites:=[9,45]},{aV:=[6]})],fF:=nK [(6,Zp),(12,Zr)]}
def avt:= @HM Tryz.prog P0 Ic 0 Tryz.f162 _ Zt
abbrev aEh:=ahy @avt Td Ar Ku Kv
def Zq:= @eC Tryz.prog P0 Ic 0 Tryz.f162 0 _ tt
abbrev Vf:=kP Tryz.prog P0 Ic 0 Tryz.f162 0 tt yU nF sV P4
def Zs:= @eC Tryz.prog P0 Ic 0 Tryz.f162 1 _ tv
abbrev Vg:=kP Tryz.prog P0 Ic 0 Tryz.f162 1 tv yW nG sX P6
theorem aik:jf LJ yU nF sV:=mn (jx [.d ti,.d ez,.d (.slice bg),.d ti,.d ti,.n,.d (.slice (.pair bg eO)),.d (.slice cD),.n,.d (.pair (.slice bg) .unit),.d (.slice aBk)] λ_=>b8)
theorem P3:aCm @Zq tt yU nF sV yV Vf:=aOp
theorem LK{R:Type}(dQ:Int)(oO:dw)(t28:(List bC))(t29:Int)(t30:Int)(o0L:Nat)(dS:(List (bC×dP)))(eA:(List bT))(aJD:Nat)(n9:((List bC)×Unit))(n45:(List XL))(kn:AS->Option R)(kx:Exit->AS->Option R):Zq (dQ,oO,t28,t29,t30,o0L,dS,eA,aJD,n9,n45) kn kx=aJ ((gr t30 t29)) (aJ (ed t30 (((ag t28):Nat):Int)) (aJ (decide (aJD<=(ag n45))) (aJ (db (aJD+1) 80) (kn (tt (dQ,oO,t28,t29,(bI .i64 t30 (1:Int)),o0L,(gY bg (nth bg t28 (ae t30)) dS),eA,(aJD+1),n9,((aR aJD n45)++ [((nth bg t28 (ae t30)),(((bN bg (nth bg t28 (ae t30)) dS).getD (((0:Int),((([]:List ot),()),())),((0:Int),()))),()))])))) none) none) none) (kx (yV ((dQ,oO,o0L,eA,n9),(dS,aJD,n45))).1 (yV ((dQ,oO,o0L,eA,n9),(dS,aJD,n45))).2):=b8
theorem ail:jf LL yW nG sX:=mn (jx [.d ti,.d ez,.d (.slice bg),.d ti,.d ti,.n,.d (.slice (.pair bg eO)),.d (.slice cD),.n,.d (.pair (.slice bg) .unit),.d (.slice aBk)] λ_=>b8)
theorem P5:aCm @Zs tv yW nG sX yX Vg:=aOp
theorem LM{R:Type}(Ee:Int)(vl:dw)(t54:(List bC))(t55:Int)(t56:Int)(ij:Nat)(vN:(List (bC×dP)))(kf:(List bT))(V8:Nat)(Q4:((List bC)×Unit))(V5:(List XL))(kn:AS->Option R)(kx:Exit->AS->Option R):Zs (Ee,vl,t54,t55,t56,ij,vN,kf,V8,Q4,V5) kn kx=aJ ((gr t56 t55)) (aJ (ed t56 (((ag t54):Nat):Int)) (aJ (ed t56 (((ag vl.2.1):Nat):Int)) (al (W8.call (nth gl vl.2.1 (ae t56))) λx1=>kn (tv (Ee,vl,t54,t55,(bI .i64 t56 (1:Int)),ij,(eG bg (nth bg t54 (ae t56)) (x1,(Ee,())) vN),kf,V8,Q4,V5))) none) none) (kx (yX ((ij,kf,V8,Q4,V5),vN)).1 (yX ((ij,kf,V8,Q4,V5),vN)).2):=b8
theorem aEi{R:Type}(t:dw)(height:Int)(o0baL:Nat)(o1:(List (bC×dP)))(o2:(List bT))(k:fK->Option R):avt (t,height,o0baL,o1,o2) k=al (mY.call (t,height,o0baL,o1,o2)) λx1=>aJ ((A7 x1.2.1 (0:Int))) (k (Kv (.inl (x1.2.1,x1.2.2.1,x1.2.2.2.1,x1.2.2.2.2)))) (al (Hv.call t) λx2=>al (sN.call t) λx3=>al (LJ (height,t,x3,(((ag x3):Nat):Int),(0:Int),x1.2.2.1,x1.2.2.2.1,x1.2.2.2.2,0,(x2,()),([]:List XL))) λx4=>al (LL (x4.1.1,x4.1.2.1,x4.1.2.2.2.2.1,(((ag x4.1.2.2.2.2.1):Nat):Int),(0:Int),x4.1.2.2.1,x4.2.1,x4.1.2.2.2.1,x4.2.2.1,x4.1.2.2.2.2,x4.2.2.2)) λx6=>aJ (decide (0=0/\(0+x6.1.2.2.1)<=(ag x6.1.2.2.2.2))) (aJ (decide (x6.1.1<=(ag x6.1.2.1))) (aJ (db (x6.1.1+1) 48) (k (Kv (.inr ((0:Int),(x6.1.1+1),x6.2,((aR x6.1.1 x6.1.2.1)++ [((cut x6.1.2.2.2.2 0 x6.1.2.2.1),x6.1.2.2.2.1)]))))) none) none) none):=b8
theorem amz:Vf:=by
 refine P3 (λ(_,_,l,_,i,_,_,_,_,_,_)=>l.length - i.toNat) ?_
 rintro⟨h,t,l,n,i,o,a,s,gL,u,g⟩ ⟨hl,k,hk,rfl,rfl,rfl,hg⟩;have hl:l.length<=1000:=hl;have hk:k<=l.length:=hk;have hg:g.length=k:=hg;by_cases gQ:k < l.length
 ·left;have n1:nth bg l k=l[k]:=cd (t:=bg) gQ;have hd:l.drop k=l[k]::l.drop (k+1):=aq gQ;refine⟨(h,t,l,(l.length:Int),((k+1:Nat):Int),o,gY bg l[k] a,s,g.length+1,u,g++ [(l[k],((bN bg l[k] a).getD aJt,()))]),⟨hl,k+1,ak,rfl,rfl,by simp,by simp[hg]⟩,by simp only[aa];omega,?_,λkn kx=> ?_⟩
  ·simp only[nF,sV,aa,hd,zd,bq,vp,aF,c9,aA];rw[show g.length+1+(l.drop (k+1)).length=g.length+((l.drop (k+1)).length+1) by omega]
  ·rw[LK,aU ak,aj,bj ak ak,aj,aM (ax _),aj,dr ak ak,aj,aa,n1,N.mD ak,bK];rfl
 ·right;obtain rfl:k=l.length:=ak;intro R kn kx;rw[LK,aQ ak,ao];simp only[nF,sV,aa,aL,zd,cO,vp,aZ,ba,cq]
theorem amA:Vg:=by
 refine P5 (λ(_,_,l,_,i,_,_,_,_,_,_)=>l.length - i.toNat) ?_
 rintro⟨h,t,l,n,i,o,a,s,gL,u,g⟩ ⟨hl,he,hb,k,hk,rfl,rfl⟩;have hl:l.length<=1000:=hl;have he:l.length=t.2.1.length:=he;have hk:k<=l.length:=hk;by_cases gQ:k < l.length
 ·left;have aO6:k < t.2.1.length:=ak;have n1:nth bg l k=l[k]:=cd (t:=bg) gQ;have n2:nth gl t.2.1 k=t.2.1[k]:=cd (t:=gl) aO6;have hd:l.drop k=l[k]::l.drop (k+1):=aq gQ;have aSM:t.2.1.drop k=t.2.1[k]::t.2.1.drop (k+1):=aq aO6;refine⟨(h,t,l,(l.length:Int),((k+1:Nat):Int),o,eG bg l[k] (t.2.1[k],(h,())) a,s,gL,u,g),⟨hl,he,hb,k+1,ak,rfl,rfl⟩,by simp only[aa];omega,?_,λkn kx=> ?_⟩
  ·simp only[nG,sX,aa,hd,aSM,Na]
  ·rw[LM,aU ak,aj,bj ak ak,aj,bj ak ak,aj,aa,n1,n2,amu (d:=t.2.1[k]) (hb _ (aN aO6))];simp only[ah,bu,arF];rw[N.mD ak]
 ·right;obtain rfl:k=l.length:=ak;intro R kn kx;rw[LM,aQ ak,ao];simp only[nG,sX,aa,aL,Na]
theorem Kn{t:dw}{h:Int}{a:List (bC×dP)}(e:(eK t h a).2=0):hJ t=true/\1<=h/\h<=1048576/\∃oG,xw h (iC t) a t.1 0= .inr oG/\(gX t).any (qu a)=false/\0<=oG - jc t.2.1/\eK t h a=(oG - jc t.2.1,0):=by
 unfold eK at e ⊢;by_cases h0:hJ t=true/\1<=h/\h<=1048576
 ·rw[if_pos h0]at e;rw[if_pos h0];refine⟨h0.1,h0.2.1,h0.2.2,?_⟩;cases hi:xw h (iC t) a t.1 0 with
  |inl x=>
   exfalso;rw[hi]at e;simp only at e;subst e;have key:∀(l:List gK) (f:Int),xw h (iC t) a l f≠ .inl 0:=by
    intro l
    induction l with
    |nil=>intro f hf;cases hf
    |cons x l ih=>
     intro f hf;simp only[xw]at hf;cases hg:bN bg x.1 a with
     |none=>rw[hg]at hf;simp at hf
     |some c=>
      rw[hg]at hf;simp only at hf;split at hf
      ·rename_i gF;exact gF (by injection hf)
      ·exact ih _ hf
   exact key _ _ hi
  |inr oG=>
   rw[hi]at e;simp only at e ⊢;by_cases hm:(gX t).any (qu a)=true
   ·rw[if_pos hm]at e;cases e
   ·rw[if_neg hm]at e;rw[if_neg hm];by_cases hf:oG - jc t.2.1 < 0
    ·rw[if_pos hf]at e;cases e
    ·rw[if_neg hf];exact⟨oG,rfl,by simpa using hm,ak,rfl⟩
 ·rw[if_neg h0]at e;cases e
theorem aag{t:dw}(h:hJ t=true):(dM t).length=t.1.length:=by unfold dM;rw[if_pos h,bV]
theorem aEj:aEh:=by
 rintro⟨t,h,n,a,s⟩ ⟨hv,ha,hn,hs⟩;have hv:nU t:=hv;have ha:alb a:=ha;have hn:n<=s.length:=hn;have hs:s.length<=1000000:=hs;rw[aEi,afR (d:=(t,h,n,a,s)) ⟨hv,ha⟩];simp only[ah,bu,ain,Ar,Ku];by_cases he:(eK t h a).2=0
 ·rw[dB he,ao,if_neg (λe=>e he)];obtain⟨jn,_,_,_⟩:=Kn he;obtain⟨⟨_,a2,a3,_⟩,b1,b2⟩:=jM jn;rw[ahl (d:=t) hv];simp only[ah,bu,Yk];rw[WX (d:=t) hv.1];simp only[ah,bu,K4];rw[aik (d:=(h,t,dM t,((dM t).length:Int),0,n,a,s,0,(gX t,()),[])) ⟨by rw[aag jn];omega,0,aK _,rfl,rfl,rfl,rfl⟩];simp only[ah,nF,sV,aX,aD,aT,aO];rw[ail (d:=(h,t,gX t,((gX t).length:Int),0,n,zd (dM t) a,s,(dM t).length,(gX t,()),vp a (dM t))) ⟨by rw[vJ jn];omega,vJ jn,λo ho=>by
   have:=TM (ky _ _ b2 o ho).2;exact⟨ak,λb hb=>by have:=this.2 b hb;omega⟩,0,aK _,rfl,rfl⟩]
  simp only[ah,nG,sX,aX,aD];have aVw:∀(l:List bC) (a:List (bC×dP)),(vp a l).length=l.length:=by
   intro l
   induction l with
   |nil=>intro a;rfl
   |cons o l ih=>intro a;simp[vp,ih]
  rw[aM (by rw[aVw];exact⟨trivial,ak⟩),aj,aM hn,aj,dr ak ak,aj,eY (aVw _ _)];rfl
 ·rw[fo he,aj,if_pos he]
def avu:=Entry.aee [none,some ez,some ti] Zt Td Ar Ku Kv
def AQ:PZ->Option aim:=Lz avu Zt
theorem aye:jf AQ Td Ar Ku:=acr (Xd [.d ez,.d ti,.n,.d (.slice (.pair bg eO)),.d (.slice cD)] λ_=>b8)
def amB:SG Tryz.prog:=⟨162,mr,avu,.of (.aNX (.fn 2 b8 aEj (And.intro (.fv amz b8) (And.intro (.fv amA b8) trivial)))) (by rfl)⟩
theorem aH0(k:Int)(m:List Int):aN4 (mN k m):=by
 unfold mN;split
 ·exact⟨(aMT _).u,(au3 _ _).u⟩
 ·exact⟨⟨iD 0,by decide⟩,iD 0,by decide⟩
theorem am5:∀(l l':List gK) (b:List Int),l.map (·.1)=l'.map (·.1)->l.foldl KI b=l'.foldl KI b
 |[],[],_,_=>rfl
 |[],_::_,_,h=>by cases h
 |_::_,[],_,h=>by cases h
 |x::l,y::l',b,h=>by
  rw[bQ,bQ,dh]at h;have e:KI b x=KI b y:=by unfold KI;rw[h.1]
  rw[bq,bq,e,am5 l l' _ h.2]
theorem az3{l l':List gK}(t:List gm×Int×Unit)(h:l.map (·.1)=l'.map (·.1)):uW (l,t)=uW (l',t):=by
 have hl:l.length=l'.length:=by have:=bo ag h;simpa using this
 unfold uW;simp only[hl];rw[am5 l l' _ h]
theorem anz:∀(l l':List gK) (m:List (bC×Bool)),l.map (·.1)=l'.map (·.1)->Ei m l=true->(∀x∈l',BP x.2.1=true)->Ei m l'=true
 |[],[],_,_,_,_=>rfl
 |[],_::_,_,h,_,_=>by cases h
 |_::_,[],_,h,_,_=>by cases h
 |x::l,y::l',m,h,hi,hw=>by
  rw[bQ,bQ,dh]at h;rw[Ei,au,au]at hi ⊢;have hx:=hi.1.2;unfold Iu at hx;rw[au]at hx;refine⟨⟨?_,?_⟩,?_⟩
  ·have:=hi.1.1;unfold Qv at this ⊢;rw[<-h.1];exact this
  ·unfold Iu;rw[<-h.1,hx.1,hw y aI];rfl
  ·rw[<-h.1];exact anz l l' _ h.2 hi.2 λz hz=>hw z (aG _ hz)
theorem aIP{l l':List gK}{t:List gm×Int×Unit}(h:l.map (·.1)=l'.map (·.1))(jn:hJ (l,t)=true)(hw:∀x∈l',BP x.2.1=true):hJ (l',t)=true:=by
 have hl:l.length=l'.length:=by have:=bo ag h;simpa using this
 unfold hJ adr at jn ⊢;rw[au,au]at jn ⊢;simp only[hl]at jn;exact⟨jn.1,anz l l' _ h jn.2.1 hw,jn.2.2⟩
theorem awL{l l':List gK}{t:List gm×Int×Unit}(h:l.map (·.1)=l'.map (·.1))(h1:hJ (l,t)=true)(h2:hJ (l',t)=true):iC (l',t)=iC (l,t):=by unfold iC;rw[h1,h2,az3 t h]
theorem aud{l l':List gK}{t:List gm×Int×Unit}(h:l.map (·.1)=l'.map (·.1))(h1:hJ (l,t)=true)(h2:hJ (l',t)=true):dM (l',t)=dM (l,t):=by unfold dM;rw[h1,h2];exact h.symm
theorem aGk{l l':List gK}{t:List gm×Int×Unit}(h:l.map (·.1)=l'.map (·.1))(h1:hJ (l,t)=true)(h2:hJ (l',t)=true):gX (l',t)=gX (l,t):=by unfold gX;rw[h1,h2,awL h h1 h2]
def XH(t:dw)(k:Nat)(w:UR):dw:=(t.1.set k ((nth gh t.1 k).1,w,()),t.2)
theorem RO(l:List gK)(k:Nat)(w:UR)(h:k < l.length):l.map (·.1)=(l.set k ((nth gh l k).1,w,())).map (·.1):=by
 have n1:nth gh l k=l[k]:=cd (t:=gh) h;rw[n1,List.map_set];have e:(l[k].1:bC)=(l.map (·.1))[k]'(by rw[bV];exact h):=by rw[List.getElem_map]
 show _=(l.map (·.1)).set k l[k].1;rw[e,gI]
theorem apt{l:List gK}{k:Nat}{w:UR}{x:gK}(h:k < l.length)(hx:x∈l.set k ((nth gh l k).1,w,())):x∈l\/(x.1=l[k].1/\x.2.1=w):=by
 have n1:nth gh l k=l[k]:=cd (t:=gh) h;rw[n1]at hx;rcases List.mem_or_eq_of_mem_set hx with h1 | h1
 ·exact .inl h1
 ·exact .inr ⟨by rw[h1],by rw[h1]⟩
theorem Yi{t:dw}{k:Nat}{w:UR}(h:k < t.1.length)(jn:hJ t=true)(hw:BP w=true):hJ (XH t k w)=true:=by
 obtain⟨_,b1,_⟩:=jM jn;refine aIP (l:=t.1) (RO t.1 k w h) jn λx hx=> ?_
 rcases apt h hx with h1 | h1
 ·have:=mH _ _ b1 x h1;unfold Iu at this;rw[au]at this;exact this.2
 ·rw[h1.2];exact hw
theorem aPT{t:dw}{k:Nat}{w:UR}(h:k < t.1.length)(hv:nU t)(hu:Yp w)(hl:w.2.1.length<=9223372036854775807):nU (XH t k w):=by
 refine⟨⟨hv.1.1,by show(t.1.set k _).length<=_;rw[rX];exact hv.1.2.1,hv.1.2.2⟩,λx hx=> ?_,hv.2.2⟩;rcases apt h hx with h1 | h1
 ·exact hv.2.1 x h1
 ·refine⟨?_,by rw[h1.2];exact hu,by rw[h1.2];exact hl⟩;rw[h1.1];exact(hv.2.1 _ (aN h)).1
theorem aMC{t:dw}{k:Nat}{w:UR}(h:k < t.1.length)(jn:hJ t=true)(hw:BP w=true):iC (XH t k w)=iC t/\dM (XH t k w)=dM t/\gX (XH t k w)=gX t:=⟨awL (l:=t.1) (RO t.1 k w h) jn (Yi h jn hw),aud (l:=t.1) (RO t.1 k w h) jn (Yi h jn hw),aGk (l:=t.1) (RO t.1 k w h) jn (Yi h jn hw)⟩
def aeK(t:dw)(br:Int)(ks:List Int)(sc:Int):UR:=(br,ks.map (λk=>mN k (iC t)),sc,())
theorem aH5(t:dw)(i br:Int)(ks:List Int)(sc:Int):aH4 t i br ks sc=if Gy t i br ks then(XH t i.toNat (aeK t br ks sc),0) else(([],[],0,()),1):=rfl
theorem apz{t:dw}{i br:Int}{ks:List Int}(h:Gy t i br ks=true):hJ t=true/\(0<=i/\i < t.1.length/\0<=br/\br < 4/\ks.length<=12)/\∀k∈ks,k < 2305843009213688669/\k≠0:=by unfold Gy at h;simp only[au,aW,cC]at h;refine⟨h.1,h.2.1,λk hk=> ?_⟩;have:=h.2.2;rw[js]at this;have:=this k hk;unfold Nb at this;simpa using this
theorem aMH{t:dw}{i br:Int}{ks:List Int}(sc:Int)(h:Gy t i br ks=true):BP (aeK t br ks sc)=true:=by have e:=(apz h).2.1;unfold BP aeK;rw[aM ⟨e.2.2.1,e.2.2.2.1⟩,aM (by rw[bV];exact e.2.2.2.2)];rfl
theorem aPX(t:dw)(br:Int)(ks:List Int){sc:Int}(h:nV sc):Yp (aeK t br ks sc):=⟨λs hs=>by
  obtain⟨k,_,rfl⟩:=cT.1 (show s∈ks.map λk=>mN k (iC t) from hs);exact aH0 k _,h⟩
theorem aH6{t:dw}{i br sc:Int}{ks:List Int}(hv:nU t)(h:Gy t i br ks=true)(hs:nV sc):
  hJ (XH t i.toNat (aeK t br ks sc))=true/\nU (XH t i.toNat (aeK t br ks sc))/\iC (XH t i.toNat (aeK t br ks sc))=iC t/\dM (XH t i.toNat (aeK t br ks sc))=dM t/\gX (XH t i.toNat (aeK t br ks sc))=gX t:=by
 obtain⟨jn,e,_⟩:=apz h;have hk:i.toNat < t.1.length:=ak;have hw:=aMH sc h;exact⟨Yi hk jn hw,aPT hk hv (aPX t br ks hs) (by show(ks.map _).length<=_;rw[bV];omega),aMC hk jn hw⟩
def Qm:gO:=([],true,())
def rv(r:gO):Prop:=r.1.length<=1000000000/\Bytes r.1
def mP(n:Nat)(r:gO):List Int×gO:=if r.2.1=true\/r.1.length < n then([],Qm) else(r.1.take n,(r.1.drop n,r.2))
def Ou(l:List Int):Int:=l.foldl (λn b=>n*256+b) 0
def rU(r:gO):Int×gO:=(Ou (mP 8 r).1,(mP 8 r).2)
theorem aiI:rv Qm:=⟨aK _,λx hx=>by cases hx⟩
theorem z6{n:Nat}{r:gO}(h:rv r):(mP n r).1.length<=n/\Bytes (mP n r).1/\rv (mP n r).2:=by
 unfold mP;split
 ·exact⟨aK _,λx hx=>(by cases hx),aiI⟩
 ·refine⟨by rw[bp];omega,λx hx=>h.2 x (fj hx),?_,λx hx=>h.2 x (List.mem_of_mem_drop hx)⟩;show(r.1.drop n).length<=_;rw[dp];have:=h.1;omega
theorem azJ(l:List Int)(b:Int):Ou (l++ [b])=Ou l*256+b:=by unfold Ou;rw[List.foldl_append];rfl
theorem aob:∀(l:List Int) (n:Int) (k:Nat),Bytes l->0<=n->n < 256^k->0<=l.foldl (λn b=>n*256+b) n/\l.foldl (λn b=>n*256+b) n < 256^(k+l.length)
 |[],n,k,_,h0,h1=>⟨h0,h1⟩
 |b::l,n,k,hb,h0,h1=>by obtain⟨aPi,aSY⟩:=hb b aI;have e:(256:Int)^(k+1)=256^k*256:=fO 256 k;have:=aob l (n*256+b) (k+1) (λx hx=>hb x (aG _ hx)) ak (by rw[e];omega);rw[show k+(b::l).length=k+1+l.length by rw[aA];omega];exact this
theorem awe{l:List Int}(h:Bytes l):0<=Ou l/\Ou l < 256^l.length:=by have:=aob l 0 0 h (iD 0) (by decide);rw[aO]at this;exact this
theorem agK{a b:Nat}(h:a<=b):(256:Int)^a<=256^b:=by have:((256^a:Nat):Int)<=((256^b:Nat):Int):=Int.ofNat_le.2 (Nat.pow_le_pow_right (by decide) h);rw[kV,kV]at this;exact this
theorem aPE{l:List Int}(h:Bytes l)(h8:l.length<=8):nV (Ou l):=by have e:=awe h;have e2:=agK h8;have e3:(256:Int)^8=18446744073709551616:=rfl;exact⟨e.1,ak⟩
theorem UH{r:gO}(h:rv r):nV (rU r).1/\rv (rU r).2:=⟨aPE (z6 h).2.1 (z6 h).1,(z6 h).2.2⟩
theorem aSv{n b:Int}(h0:0<=n)(h1:n < 72057594037927936)(hb:ahx b):cG .or .u64 (mI .u64 n 8) (dX .u64 b)=n*256+b:=by have e:=(Vw (n:=n) (b:=b) ⟨h0,ak⟩ hb).1;rw[wZ 56 (by rfl) ak]at e;have p:(2:Int)^56=72057594037927936:=rfl;rw[p]at e;omega
def aAI:gO->Prop:=λ_=>True
def aMk:gO->gO:=λ_=>Qm
def Rw:Fs Tryz.prog aAI bu aMk:=eN 177 Tryz.f177 (λo0=>([.ptr (.bm 0) 0 [] 0],[.obj 0 false (.d tZ o0)])) (λx=>⟨.nil,[.obj 0 false (.d tZ x)],[]⟩) [none] [] {NF:=[⟨0,[.arr],tZ⟩]}
theorem aHs{R:Type}(o0)(k:K1 R):Rw.A o0 k=k (Rw.out (([]:List Int),(true,o0.2.2))):=b8
theorem aHt:Rw.Ok:=by intro o _;rw[aHs];rfl
theorem T8:Rw.RS:=rE [.d tZ] Rw
def ao2:=Rw.eU aHt
def agT:gO->Int->((gO)×(Int)):=λo0 y=>(o0,y)
def aAL:gO->Prop:=λ_=>True
def awy:gO->Int:=λo=>(o.1.length:Int)
def ace:Fs Tryz.prog aAL agT awy:=eN 127 Tryz.f127 (λo0=>([.ptr (.bm 0) 0 [] 0],[.obj 0 false (.d tZ o0)])) (λx=>⟨.d ti x.2,[.obj 0 false (.d tZ x.1)],[]⟩) [none]
theorem aHx{R:Type}(o0)(k:K1 R):ace.A o0 k=k (ace.out (o0,(o0.1.length:Int))):=b8
theorem aHy:ace.Ok:=by intro o _;rw[aHx];rfl
theorem aAM:ace.RS:=rE [.d tZ] ace
def aHz:=ace.eU aHy
def ao7:gO->Bool->((gO)×(Bool)):=λo0 y=>(o0,y)
def aHF:gO->Prop:=λ_=>True
def aHE:gO->Bool:=λo=> !o.2.1
def atG:Fs Tryz.prog aHF ao7 aHE:=eN 126 Tryz.f126 (λo0=>([.ptr (.bm 0) 0 [] 0],[.obj 0 false (.d tZ o0)])) (λx=>⟨.d .bool x.2,[.obj 0 false (.d tZ x.1)],[]⟩) [none]
theorem aMo{R:Type}(o0)(k:K1 R):atG.A o0 k=k (atG.out (o0,(!o0.2.1))):=b8
theorem aMp:atG.Ok:=by intro o _;rw[aMo];rfl
theorem aHG:atG.RS:=rE [.d tZ] atG
def aMq:=atG.eU aMp
def aAU:(Int×gO)->Prop:=λ(n,o)=>0<=n/\o.1.length<=1000000000
def Yh:(Int×gO)->(Bs×gO):=λ(n,o)=>mP n.toNat o
def Ju:Fs Tryz.prog aAU bu Yh:=eN 178 Tryz.f178 (λ(n,o0)=>([.ptr (.bm 0) 0 [] 0,.d ti n],[.obj 0 false (.d tZ o0)])) (λx=>⟨.d tB x.1,[.obj 0 false (.d tZ x.2)],[]⟩) [none,some ti] [ao2,S8] {res:=[some tB],NF:=[⟨0,[.arr],tZ⟩]}
theorem aHR{R:Type}(n o0)(k:K1 R):Ju.A (n,o0) k=aJ (o0.2.1) (al (Rw.call o0) λx1=>k (Ju.out (([]:List Int),x1))) (aJ ((qZ n (o0.1.length:Int))) (al (Rw.call o0) λx2=>k (Ju.out (([]:List Int),x2))) (aJ (inc n (o0.1.length:Int)) (al (AM.call (cut o0.1 0 ((ae n) - 0))) λx3=>aJ (inc n (o0.1.length:Int)) (aJ (decide (0=0/\(0+x3.1)<=(ag x3.2))) (k (Ju.out ((cut x3.2 0 x3.1),((cut o0.1 (ae n) ((ag o0.1) - (ae n))),o0.2)))) none) none) none)):=b8
theorem aHS:Ju.Ok:=by
 rintro⟨n,o⟩ ⟨h0,hl⟩;have h0:0<=n:=h0;have hl:o.1.length<=1000000000:=hl;obtain⟨k,rfl⟩:∃k:Nat,n=k:=⟨n.toNat,ak⟩;rw[aHR];simp only[bu,Yh,mP,aa,Nat.sub_zero];cases h2:o.2.1
 ·by_cases hn:o.1.length < k
  ·rw[cP ak,if_pos (fi hn),T8 (d:=o) trivial];rfl
  ·have e1:cut o.1 0 k=o.1.take k:=rfl;have e2:cut o.1 k (o.1.length - k)=o.1.drop k:=by unfold cut;rw[aY];rw[dp];omega
   rw[cr ak,if_neg (by intro x;rcases x with x | x;exact absurd x (by decide);exact hn x),uL ak ak,e1,e2,Nr (d:=o.1.take k) (by show(o.1.take k).length<=_;rw[bp];omega)];simp only[ao,aj,ah,bu,H6,aO,ax,jl,cv,eY]
 ·rw[aj,if_pos (lZ rfl),T8 (d:=o) trivial];rfl
theorem Uk:Ju.RS:=rE [.d ti,.d tZ] Ju
def acq:=Ju.eU aHS
abbrev Um:=Int×Bs×Int×Int×gO
def api:Um->Int->((gO)×(Int)):=λ(n,t7,t8,t9,BZ) y=>(BZ,y)
def aph:Um->Prop:=λ(n,l,m,i,o)=>Bytes l/\l.length<=8/\m=l.length/\∃k:Nat,k<=l.length/\i=k/\n=Ou (l.take k)
def aAW:Um->Int:=λ(n,l,m,i,o)=>Ou l
def aHV:gO->Prop:=λo=>rv o
def Ul:gO->(Int×gO):=λo=>rU o
def zV:Ls aph api aAW:=rp (λ(n,t7,t8,t9,BZ)=>⟨([bF,bF,bF,.d tu n,bF,bF,bF,.d tB t7,.d ti t8,.d ti t9]++aP 10 []),dK (.d tZ BZ),(ab 20 [])⟩) (λx=>(.exit 0,⟨([bF,bF,bF,.d tu x.2]++aP 16 []),dK (.d tZ x.1),(ab 20 [])⟩))
def RH:Fs Tryz.prog aHV bu Ul:=eN 125 Tryz.f125 (λo0=>([.ptr (.bm 0) 0 [] 0],[.obj 0 false (.d tZ o0)])) (λx=>⟨.d tu x.1,[.obj 0 false (.d tZ x.2)],[]⟩) [none] [acq] {loops:=nY [(3,{aV:=[3,7,8,9]})],outs:=nX [(3,{aV:=[3]},{aV:=[2]})],fF:=nK [(3,zV.E)]}
theorem apj:zV.RS:=rL [.d tu,.d tB,.d ti,.d ti,.d tZ] zV
theorem RI{R:Type}(n t7 t8 t9 BZ)(kn:K2 R)(kx:K3 R):RH.R 0 zV (n,t7,t8,t9,BZ) kn kx=aJ ((gr t9 t8)) (aJ (ed t9 (t7.length:Int)) (kn (zV.st ((cG .or .u64 (mI .u64 n 8) (dX .u64 (nth tb t7 (ae t9)))),t7,t8,(bI .i64 t9 1),BZ))) none) (zV.go kx (BZ,n)):=b8
theorem aMx{R:Type}(o0)(k:K1 R):RH.A o0 k=al (Ju.call (8,o0)) λx1=>al (zV.call (0,x1.1,(x1.1.length:Int),0,x1.2)) λx2=>k (RH.out (x2.2,x2.1)):=b8
theorem atQ:(RH.kM 0 zV):=by
 refine(RH.mf 0 zV) (λ(n,l,m,i,o)=>l.length - i.toNat) ?_
 rintro⟨n,l,m,i,o⟩ ⟨hb,h8,rfl,k,hk,rfl,rfl⟩;have h8:l.length<=8:=h8;have hk:k<=l.length:=hk;by_cases h:k < l.length
 ·left;have hx:=hb _ (aN h);have n1:nth (.int .u8) l k=l[k]:=cd (t:= .int .u8) h;have ht:(l.take k).length=k:=by rw[bp];omega
  have b0:=awe (l:=l.take k) λx hx=>hb x (fj hx)
  rw[ht]at b0;have b1:=agK (show k<=7 by omega);have b2:(256:Int)^7=72057594037927936:=rfl;refine⟨(Ou (l.take (k+1)),l,l.length,((k+1:Nat):Int),o),⟨hb,h8,rfl,k+1,ak,rfl,rfl⟩,by simp only[aa];omega,rfl,λkn kx=> ?_⟩;rw[RI,aU ak,bj ak ak,aa,n1,N.mD ak,aSv b0.1 ak hx,iv h,azJ];rfl
 ·right;obtain rfl:k=l.length:=ak;intro R kn kx;rw[RI,aQ ak,ao,bK];rfl
theorem aMy:RH.Ok:=by intro o h;have h:rv o:=h;have t:=z6 (n:=8) h;rw[aMx,Uk (d:=(8,o)) ⟨by decide,h.1⟩];simp only[ah,bu,Yh];rw[show ae 8=8 from rfl,apj (d:=(0,(mP 8 o).1,(mP 8 o).1.length,0,(mP 8 o).2)) ⟨t.2.1,t.1,rfl,0,aK _,rfl,rfl⟩];rfl
theorem Jv:RH.RS:=rE [.d tZ] RH
def awC:=RH.eU aMy 1 ⟨.fv atQ,trivial⟩
def aAP:Bs->Prop:=λb=>b.length<=1000000000
def akd:Bs->gO:=λb=>(b,false,())
def Wv:Fs Tryz.prog aAP bu akd:=eN 119 Tryz.f119 (λb=>([.d tB b],[])) (λx=>⟨.ptr (.new 0 0) 0 [] 0,[],[.obj 0 false (.d tZ x)]⟩) [some tB] [S8] {bJ:=[6],NF:=[⟨2,[.arr],tZ⟩]}
theorem aHH{R:Type}(b)(k:K1 R):Wv.A b k=al (AM.call b) λx1=>aJ (decide (0=0/\(0+x1.1)<=(ag x1.2))) (k (Wv.out ((cut x1.2 0 x1.1),(false,())))) none:=b8
theorem aHI:Wv.Ok:=by intro b hb;have hb:b.length<=1000000000:=hb;rw[aHH,Nr (d:=b) (by show b.length<=_;omega)];simp only[ah,bu,H6,aO,ax,jl,cv,aj,eY];rfl
theorem agX:Wv.RS:=rE [.d tB] Wv
def ao8:=Wv.eU aHI
abbrev acx:=Int×gO
def Gu:acx->Bool->((Int×gO)×(Bool)):=λ(o0,o2) y=>((o0,o2),y)
def atT:acx->Prop:=λ(a,o)=>0<=a
def RK:acx->Bool:=λ(a,o)=>decide (o.1.length<=a.toNat\/8 < a.toNat\/(0 < a.toNat/\nth (.int .u8) o.1 a.toNat=0))
def DF:Fs Tryz.prog atT Gu RK:=eN 176 Tryz.f176 (λ(o0,o2)=>([.ptr (.bm 0) 0 [] 0,.ptr (.bm 1) 0 [] 0],[.obj 0 false (.d ti o0),.obj 0 false (.ptr (.bm 2) 0 [] 0),.obj 0 false (.d tZ o2)])) (λx=>⟨.d .bool x.2,[.obj 0 false (.d ti x.1.1),.obj 0 false (.ptr (.bm 2) 0 [] 0),.obj 0 false (.d tZ x.1.2)],[]⟩) [none,none]
theorem aA1{R:Type}(o0 o2)(k:K1 R):DF.A (o0,o2) k=aJ ((Cn o0 (o2.1.length:Int))) (k (DF.out ((o0,o2),true))) (aJ ((qZ o0 8)) (k (DF.out ((o0,o2),true))) (aJ ((qZ o0 0)) (aJ (ed o0 (o2.1.length:Int)) (k (DF.out ((o0,o2),(qY (nth tb o2.1 (ae o0)) 0)))) none) (k (DF.out ((o0,o2),false))))):=b8
theorem aA2:DF.Ok:=by
 rintro⟨a,o⟩ h0;obtain⟨k,rfl⟩:∃k:Nat,a=k:=⟨a.toNat,by have h0:0<=a:=h0;omega⟩;rw[aA1];simp only[Gu,RK,aa];by_cases h1:o.1.length<=k
 ·rw[gA ak,aM (lZ h1)];rfl
 by_cases h2:8 < k
 ·rw[eF ak,cP ak,aM (fi (lZ h2))];rfl
 by_cases h3:0 < k
 ·rw[eF ak,cr ak,cP ak,bj ak ak];simp only[ao,aj];by_cases h4:nth (.int .u8) o.1 k=0
  ·rw[du h4,aM (fi (fi ⟨h3,h4⟩))]
  ·rw[eS h4,aS (by rintro(x | x | x);exact h1 x;exact h2 x;exact h4 x.2)]
 ·rw[eF ak,cr ak,cr ak,aS (by rintro(x | x | x);exact h1 x;exact h2 x;exact h3 x.1)];rfl
theorem acy:DF.RS:=rE [.d ti,.d tZ] DF
def aA3:=DF.eU aA2
def Bi:List Int->Nat->Int->(Int×Nat)⊕Unit
 |[],_,_=> .inr ()
 |d::l,a,n=>if 8 < a\/(0 < a/\d=0) then .inr () else if d < 128 then .inl (n+d%128*128^a,a+1) else Bi l (a+1) (n+d%128*128^a)
def dD(r:gO):Int×gO:=match Bi r.1 0 0 with | .inl v=>(v.1,(r.1.drop v.2,r.2)) | .inr _=>(0,Qm)
theorem as4(k:Nat):(128:Int)^k=((128^k:Nat):Int):=by rw[kV];rfl
theorem amP{n d k:Nat}(hk:k<=8)(hn:n < 128^k)(hd:d < 128):cG .or .i64 (n:Int) (mI .i64 (d:Int) ((7*k:Nat):Int))=((n+d*128^k:Nat):Int)/\n+d*128^k < 128^(k+1)/\128^(k+1)<=9223372036854775808:=by
 have p:128^k<=128^8:=Nat.pow_le_pow_right (by decide) hk;have p8:128^8=72057594037927936:=rfl;have e1:128^(k+1)=128^k*128:=Nat.pow_succ (n:=128) (m:=k);have e2:2^(7*k)=128^k:=by rw[Nat.pow_mul]
 have e3:d*128^k<=127*128^k:=cS _ ak;refine⟨?_,ak,ak⟩;have s:mI .i64 (d:Int) ((7*k:Nat):Int)=((d*128^k:Nat):Int):=by
  rw[mI];have e:min (ae ((7*k:Nat):Int)) IntKind.i64.bits=7*k:=by simp only[IntKind.bits,aa];omega
  rw[e,show(2:Int)^(7*k)=((2^(7*k):Nat):Int) by rw[kV];rfl,e2,<-kU];exact uJ ak ak
 rw[s];have e:(bh 64 (n:Int) ||| bh 64 ((d*128^k:Nat):Int)).toNat=n+d*128^k:=by
  rw[BitVec.toNat_or];have a:(bh 64 ((d*128^k:Nat):Int)).toNat=2^(7*k)*d:=by rw[jj,kj,e2,ql];exact kc (by rw[ql];omega)
  have b:(bh 64 (n:Int)).toNat=n:=by rw[jj,kj];exact kc ak
  rw[a,b,Nat.or_comm,<-Nat.two_pow_add_eq_or_of_lt (by rw[e2];exact hn),e2,ql];omega
 show IntKind.i64.wrap ((bh 64 (n:Int) ||| bh 64 ((d*128^k:Nat):Int)).toNat:Int)=_;rw[e];exact uJ ak ak
theorem ajC:∀(l:List Int) (a:Nat) (n:Int) (v:Int×Nat),Bytes l->a<=9->0<=n->n < 128^a->Bi l a n= .inl v->0<=v.1/\v.1 < 9223372036854775808/\a < v.2/\v.2<=a+l.length/\v.2<=9
 |[],a,n,v,_,_,_,_,h=>by cases h
 |d::l,a,n,v,hb,ha,h0,h1,h=>by
  have hx:=hb d aI;obtain⟨x1,x2⟩:=hx;rw[Bi]at h;split at h
  ·cases h
  ·rename_i hc;have aVo:a<=8:=ak;rw[as4]at h1 h;obtain⟨nn,rfl⟩:∃m:Nat,n=m:=⟨n.toNat,ak⟩;obtain⟨dn,aSN⟩:∃m:Nat,d%128=m:=⟨(d%128).toNat,ak⟩;have g:=(amP (n:=nn) (d:=dn) aVo ak ak).2;rw[aSN]at h;have ec:((nn:Int)+(dn:Int)*((128^a:Nat):Int))=((nn+dn*128^a:Nat):Int):=by rw[Int.natCast_add,kU]
   rw[ec]at h;split at h
   ·cases h;simp only[aA];exact⟨ak,ak,ak,ak,ak⟩
   ·have:=ajC l (a+1) _ v (λx hx=>hb x (aG _ hx)) ak ak (by rw[as4];omega) h;simp only[aA];exact⟨this.1,this.2.1,ak,ak,this.2.2.2.2⟩
theorem sh{r:gO}(h:rv r):0<=(dD r).1/\(dD r).1<=9223372036854775807/\rv (dD r).2:=by
 unfold dD;cases hf:Bi r.1 0 0 with
 |inl v=>
  have:=ajC r.1 0 0 v h.2 (by decide) (by decide) (by decide) hf;refine⟨this.1,by have:=this.2.1;show v.1<=_;omega,?_,λx hx=>h.2 x (List.mem_of_mem_drop hx)⟩;show(r.1.drop v.2).length<=_;rw[dp];have:=h.1;omega
 |inr _=>exact⟨iD 0,(show(0:Int)<=9223372036854775807 by decide),aiI⟩
theorem aod:∀(f:Nat) (n:Int) (a:Nat) (m:Int) (rest:List Int),0<=n->n < 128^(f+1)->a+f<=8->(a=0\/0 < n)->
  Bi ((gN f n).1++(gN f n).2::rest) a m= .inl (m+n*128^a,a+(gN f n).1.length+1)
 | 0,n,a,m,rest,h0,h1,ha,hp=>by have h1:n < 128:=h1;show Bi (n::rest) a m=_;rw[Bi,if_neg ak,if_pos h1,fe h0 h1];rfl
 |f+1,n,a,m,rest,h0,h1,ha,hp=>by
  rw[gN];have e:(128:Int)^(f+1+1)=128^(f+1)*128:=fO 128 (f+1);split
  ·rename_i h;show Bi ((n%128+128)::((gN f (n / 128)).1++(gN f (n / 128)).2::rest)) a m=_;rw[Bi,if_neg ak,if_neg ak,aod f (n / 128) (a+1) _ rest ak ak ak (fi ak)];have e2:(128:Int)^(a+1)=128^a*128:=fO 128 a;have e3:(n%128+128)%128=n%128:=ak;have e4:m+n%128*128^a+n / 128*(128^a*128)=m+n*128^a:=by
    have:n*128^a=(n%128+n / 128*128)*128^a:=by rw[show n%128+n / 128*128=n by omega]
    rw[this,Int.add_mul,rq (n / 128),qc 128 (128^a),Int.add_assoc]
   rw[e3,e2,e4];simp only[aA];rw[show a+1+(gN f (n / 128)).1.length+1=a+((gN f (n / 128)).1.length+1)+1 by omega]
  ·rename_i h;show Bi (n::rest) a m=_;rw[Bi,if_neg ak,if_pos ak,fe h0 ak];rfl
theorem IL(n:Int)(h:HD n)(rest:List Int)(u:Bool×Unit):dD (gw n++rest,u)=(n,(rest,u)):=by
 have h0:=h.1;have h1:=h.2;have e8:(128:Int)^(8+1)=9223372036854775808:=rfl;have e10:(128:Int)^(10+1)=151115727451828646838272:=rfl;have er:gN 10 n=gN 8 n:=KU 10 8 n (by rw[e10];omega) (by rw[e8];omega);have el:gw n++rest=(gN 8 n).1++(gN 8 n).2::rest:=by unfold gw;rw[er,aF];rfl
 have e:=aod 8 n 0 0 rest h0 (by rw[e8];omega) (by decide) (lZ rfl);unfold dD;show(match Bi (gw n++rest) 0 0 with | .inl v=>(v.1,((gw n++rest).drop v.2,u)) | .inr _=>(0,Qm))=_;rw[el,e];show(0+n*128^0,(((gN 8 n).1++(gN 8 n).2::rest).drop (0+(gN 8 n).1.length+1),u))=_;rw[lk,xj,Int.zero_add,aO,List.append_cons,kW (by rw[ai];rfl)]
theorem aGy(n:Int)(h:nV n):Ou (jr n)=n:=by obtain⟨h0,h1⟩:=h;unfold Ou jr;simp only[bq,cO];omega
theorem J8(n:Int)(h:nV n)(rest:List Int):rU (jr n++rest,false,())=(n,(rest,false,())):=by
 unfold rU mP;have l8:=cn n;rw[if_neg (by
  intro x;rcases x with x | x
  ·have x:false=true:=x;cases x
  ·have x:(jr n++rest).length < 8:=x;rw[ai]at x;omega)]
 show(Ou ((jr n++rest).take 8),((jr n++rest).drop 8,false,()))=_;rw[kX l8,kW l8,aGy n h]
abbrev EM:=Int×gO×Int
def tj:EM->AS:=λ(n,BZ,n4)=>⟨([.ptr (.bm 0) 0 [] 0,eT 1,bF,.d ti n,eT 4,.fn 176 (.cons (eT 4) (.cons (eT 1) (.nil)))]++aP 35 []),dK (.d tZ BZ),([[],dK (.ptr (.bm 0) 0 [] 0),[],[],dK (.d ti n4)]++bM 36 [])⟩
def CG:gO->Exit×AS:=λx=>(.ret,⟨([.ptr (.bm 0) 0 [] 0,bF,.d ti (0:Int)]++aP 38 []),dK (.d tZ x),(ab 41 [])⟩)
def tQ:(Int×gO×Int)->Exit×AS:=λx=>(.exit 0,⟨([.ptr (.bm 0) 0 [] 0,eT 1,bF,.d ti x.1,eT 4]++aP 36 []),dK (.d tZ x.2.1),([[],dK (.ptr (.bm 0) 0 [] 0),[],[],dK (.d ti x.2.2)]++bM 36 [])⟩)
abbrev Ua:=(gO)⊕((Int×gO×Int))
abbrev agV:=(gO)⊕((Int×gO×Int))
def Jr:Ua->Out (Exit×AS):=λx=> .br x.isLeft (.get x.getLeft? λa=> .ok (CG a)) (.get x.getRight? λb=> .ok (tQ b))
def nh:EM->agV->Ua:=λ(n,BZ,n4) y=>match y with | .inl y=> .inl y | .inr z=> .inr (z)
def CF:EM->Prop:=λ(n,o,i)=>rv o/\∃(k m:Nat),k<=9/\i=k/\n=m/\m < 128^k
def tP:EM->agV:=λ(n,o,i)=>match Bi (o.1.drop i.toNat) i.toNat n with | .inl v=> .inr (v.1,o,(v.2:Int)) | .inr _=> .inl Qm
def aHD:gO->Prop:=λo=>rv o
def vZ:gO->(Int×gO):=λo=>dD o
def agU:=dz.fv tj CF nh tP Jr
def Ry:EM->Option Ua:=gM agU tj
def DE:Fs Tryz.prog aHD bu vZ:=eN 121 Tryz.f121 (λo0=>([.ptr (.bm 0) 0 [] 0],[.obj 0 false (.d tZ o0)])) (λx=>⟨.d ti x.1,[.obj 0 false (.d tZ x.2)],[]⟩) [none] [aA3,ao2] {bJ:=[1],loops:=nY [(3,{aV:=[0,1,3,4,5],sites:=[1,4]})],outs:=nX [(3,{aV:=[0,1,3,4],sites:=[1,4]},{aV:=[0,2]})],fF:=nK [(3,agU)],NF:=[⟨0,[.arr],tZ⟩]}
def T9:= @eC Tryz.prog (jI DE.G) DE.an 0 Tryz.f121 0 _ tj
abbrev acf:=kP Tryz.prog (jI DE.G) DE.an 0 Tryz.f121 0 tj CF nh tP Jr
theorem ao6:jf Ry CF nh tP:=mn (jx [.d ti,.d tZ,.d ti] λ_=>b8)
theorem Ub:nq @T9 tj CF nh tP Jr acf:=oa
theorem Rz{R:Type}(n:Int)(BZ:gO)(n4:Int)(kn:AS->Option R)(kx:Exit->AS->Option R):T9 (n,BZ,n4) kn kx=al (DF.call (n4,BZ)) λx1=>aJ (x1.2) (al (Rw.call x1.1.2) λx2=>kx (CG x2).1 (CG x2).2) (aJ (ed x1.1.1 (((ag x1.1.2.1):Nat):Int)) (aJ (mK (gB .i64 (7:Int) x1.1.1)) (aJ ((gr (nth tb x1.1.2.1 (ae x1.1.1)) (128:Int))) (kx (tQ ((cG .or .i64 n (mI .i64 (dX .i64 (mS (nth tb x1.1.2.1 (ae x1.1.1)) (128:Int))) (gB .i64 (7:Int) x1.1.1))),x1.1.2,(bI .i64 x1.1.1 (1:Int)))).1 (tQ ((cG .or .i64 n (mI .i64 (dX .i64 (mS (nth tb x1.1.2.1 (ae x1.1.1)) (128:Int))) (gB .i64 (7:Int) x1.1.1))),x1.1.2,(bI .i64 x1.1.1 (1:Int)))).2) (kn (tj ((cG .or .i64 n (mI .i64 (dX .i64 (mS (nth tb x1.1.2.1 (ae x1.1.1)) (128:Int))) (gB .i64 (7:Int) x1.1.1))),x1.1.2,(bI .i64 x1.1.1 (1:Int)))))) none) none):=b8
theorem aMm{R:Type}(o0)(k:K1 R):DE.A o0 k=al (Ry (0,o0,0)) λx3=>aJ (x3.isLeft) (al (x3.getLeft?) λa4=>k (DE.out (0,a4))) (al (x3.getRight?) λb5=>aJ (inc b5.2.2 (b5.2.1.1.length:Int)) (k (DE.out (b5.1,((cut b5.2.1.1 (ae b5.2.2) ((ag b5.2.1.1) - (ae b5.2.2))),b5.2.1.2)))) none):=b8
theorem atE:acf:=by
 refine Ub (λ(n,o,i)=>9 - i.toNat) ?_
 rintro⟨n,o,i⟩ ⟨hr,k,m,hk,rfl,rfl,hm⟩;have hk:k<=9:=hk;have hr:rv o:=hr;by_cases hw:o.1.length<=k\/8 < k\/(0 < k/\nth (.int .u8) o.1 k=0)
 ·right;have hf:Bi (o.1.drop k) k (m:Int)= .inr ():=by
   by_cases h:k < o.1.length
   ·have n1:nth (.int .u8) o.1 k=o.1[k]:=cd (t:= .int .u8) h;rw[aq h,Bi,if_pos (by rw[n1]at hw;rcases hw with x | x | x;exact absurd x ak;exact lZ x;exact fi x)]
   ·rw[dZ ak];rfl
  refine⟨CG Qm,?_,λkn kx=> ?_⟩
  ·simp only[nh,tP,aa,hf];rfl
  ·rw[Rz,acy (d:=((k:Int),o)) (gR k)];simp only[ah,Gu,RK,aa];rw[aM hw,aj,T8 (d:=o) trivial];rfl
 ·have h:k < o.1.length:=ak;have hx:=hr.2 _ (aN h);obtain⟨x1,x2⟩:=hx;have n1:nth (.int .u8) o.1 k=o.1[k]:=cd (t:= .int .u8) h;have hc:¬(8 < k\/(0 < k/\o.1[k]=0)):=λx=>hw (x.elim (λy=> .inr (.inl y)) λy=> .inr (.inr ⟨y.1,n1.trans y.2⟩))
  obtain⟨dn,aSN⟩:∃d:Nat,o.1[k]=d:=⟨o.1[k].toNat,ak⟩;have g:=amP (n:=m) (d:=dn%128) (k:=k) ak hm ak;have step:∀ {R:Type} (kn:AS->Option R) (kx:Exit->AS->Option R),T9 ((m:Int),o,(k:Int)) kn kx=aJ (gr o.1[k] 128) (kx (tQ (((m+dn%128*128^k:Nat):Int),o,((k+1:Nat):Int))).1 (tQ (((m+dn%128*128^k:Nat):Int),o,((k+1:Nat):Int))).2) (kn (tj (((m+dn%128*128^k:Nat):Int),o,((k+1:Nat):Int)))):=by intro R kn kx;rw[Rz,acy (d:=((k:Int),o)) (gR k)];simp only[ah,Gu,RK,aa];rw[aS hw,ao,bj ak ak,n1,aSN,N.aSb ak,tI ak,N.aS5,N.cN ak,g.1,N.mD ak];rfl
  have ef:Bi (o.1.drop k) k (m:Int)=if o.1[k] < 128 then .inl (((m+dn%128*128^k:Nat):Int),k+1) else Bi (o.1.drop (k+1)) (k+1) ((m+dn%128*128^k:Nat):Int):=by
   have ec:(m:Int)+o.1[k]%128*128^k=((m+dn%128*128^k:Nat):Int):=by rw[aSN,as4,Int.natCast_add,kU];rfl
   rw[aq h,Bi,if_neg hc,ec]
  by_cases hl:o.1[k] < 128
  ·right;refine⟨tQ (((m+dn%128*128^k:Nat):Int),o,((k+1:Nat):Int)),?_,λkn kx=> ?_⟩
   ·simp only[nh,tP,aa,ef,if_pos hl];rfl
   ·rw[step,aU hl,aj]
  ·left;refine⟨(((m+dn%128*128^k:Nat):Int),o,((k+1:Nat):Int)),⟨hr,k+1,_,ak,rfl,rfl,g.2.1⟩,by simp only[aa];omega,?_,λkn kx=> ?_⟩
   ·simp only[nh,tP,aa,ef,if_neg hl]
   ·rw[step,aQ hl,ao]
theorem aMn:DE.Ok:=by
 intro o h;have h:rv o:=h;rw[aMm,ao6 (d:=(0,o,0)) ⟨h,0,0,by decide,rfl,rfl,by decide⟩];simp only[ah,nh,tP,aX,aD,bu,vZ,dD];cases hf:Bi o.1 0 0 with
 |inl v=>
  have g:=ajC o.1 0 0 v h.2 (by decide) (by decide) (by decide) hf;have e2:cut o.1 v.2 (o.1.length - v.2)=o.1.drop v.2:=by unfold cut;rw[aY];rw[dp];omega
  simp only[dJ,da,ao,ah,aa];rw[uL ak ak,aj,e2]
 |inr _=>rfl
theorem pO:DE.RS:=rE [.d tZ] DE
def Yf:=DE.eU aMn 1 ⟨.fv atE,trivial⟩
theorem gv{a b:List Int}(ha:Bytes a)(hb:Bytes b):Bytes (a++b):=λx hx=>by
 rcases bz.1 hx with h | h
 ·exact ha x h
 ·exact hb x h
theorem aci:∀(f:Nat) (n:Int),0<=n->n < 128^(f+1)->Bytes (gN f n).1/\ahx (gN f n).2
 | 0,n,h0,h1=>by have h1:n < 128:=h1;exact⟨λx hx=>(by cases hx),h0,by show n < 256;omega⟩
 |f+1,n,h0,h1=>by
  have e:(128:Int)^(f+1+1)=128^(f+1)*128:=fO 128 (f+1);rw[gN];split
  ·have ih:=aci f (n / 128) ak ak;refine⟨λx hx=> ?_,ih.2⟩;rcases bY.1 hx with rfl | hx
   ·exact⟨ak,ak⟩
   ·exact ih.1 x hx
  ·exact⟨λx hx=>(by cases hx),h0,by show n < 256;omega⟩
theorem lh{n:Int}(h:HD n):Bytes (gw n):=by have e10:(128:Int)^(10+1)=151115727451828646838272:=rfl;obtain⟨h0,h1⟩:=h;have:=aci 10 n h0 (by rw[e10];omega);unfold gw;exact gv this.1 λx hx=>by rw[bk]at hx;subst hx;exact this.2
theorem anD:∀(ks:List Int) (o:List Int),mJ o ks=o++ks.flatMap jr
 |[],o=>by rw[qf,aZ];rfl
 |k::ks,o=>by show mJ (o++jr k) ks=_;rw[anD ks,dx,aF]
theorem aso(ks:List Int):Bytes (ks.flatMap jr):=λx hx=>by obtain⟨k,_,hk⟩:=qh.1 hx;exact D3 k x hk
def aJv(b:ot):List Int:=gw b.1.length++(b.1.flatMap jr++(gw b.2.1++(gw b.2.2.1++jr b.2.2.2.1)))
theorem Yd(o:List Int){n:Int}(h:0<=n):cF o n=o++gw n:=by rw[cF,if_neg ak]
structure aN1(b:ot):Prop where
 len:b.1.length<=12
 af:HD b.2.1
 dl:HD b.2.2.1
theorem aOo{b:ot}(h:vh b=true):aN1 b:=by unfold vh NY at h;simp only[au,aW]at h;obtain⟨h1,_,h2,h3,_⟩:=h;exact⟨h1,⟨h2.1,ak⟩,⟨h3.1,ak⟩⟩
theorem uS{n:Nat}(h:n<=1000000000):HD (n:Int):=⟨ak,ak⟩
theorem aOm(o:List Int){b:ot}(h:aN1 b):aCd o b=o++aJv b:=by unfold aCd aJv;rw[Yd _ (gR _),anD,Yd _ h.af.1,Yd _ h.dl.1];simp only[aF]
theorem avi:∀(bs:List ot) (o:List Int),(∀b∈bs,aN1 b)->bs.foldl aCd o=o++bs.flatMap aJv
 |[],o,_=>by rw[qf,aZ];rfl
 |b::bs,o,h=>by rw[bq,aOm o (h b aI),avi bs _ λx hx=>h x (aG _ hx),dx,aF]
theorem asx{l:Lk}(h:kS l=true):(∀b∈l.1,aN1 b)/\0 < l.1.length/\l.1.length<=4:=by unfold kS at h;simp only[au,cW,aW]at h;exact⟨λb hb=>aOo (h.1 b hb),h.2⟩
theorem aFX{l:Lk}(h:kS l=true):N7 l=gw l.1.length++l.1.flatMap aJv:=by unfold N7;rw[if_pos h,avi _ _ (asx h).1,Yd _ (gR _),aT]
theorem axI{b:ot}(h:aN1 b):Bytes (aJv b):=
 have af9:=h.len
 gv (lh (uS ak)) (gv (aso _) (gv (lh h.af) (gv (lh h.dl) (D3 _))))
theorem azg(l:Lk):Bytes (N7 l):=by
 cases h:kS l
 ·unfold N7;rw[h,if_neg (by decide)];exact λx hx=>(by cases hx)
 ·have hk:=asx h;rw[aFX h];refine gv (lh (uS ak)) λx hx=> ?_
  obtain⟨b,hb,hx⟩:=qh.1 hx;exact axI (hk.1 b hb) x hx
theorem atx{b:List Int}(h:Bytes b)(hl:b.length<=1000000000)(u:Bool×Unit):rv (b,u):=⟨hl,h⟩
def tE:Nat->gO->List Int×gO
 | 0,r=>([],r)
 |k+1,r=>((rU r).1::(tE k (rU r).2).1,(tE k (rU r).2).2)
def DZ(k:Nat)(r:gO):ot×gO:=(((tE k r).1,(dD (tE k r).2).1,(dD (dD (tE k r).2).2).1,(rU (dD (dD (tE k r).2).2).2).1,()),(rU (dD (dD (tE k r).2).2).2).2)
def D1:Nat->Int->gO->List ot
 | 0,_,_=> []
 |f+1,n,r=>if 0 < n then(if f=0\/12 < (dD r).1 then [] else(DZ (dD r).1.toNat (dD r).2).1::D1 f (n - 1) (DZ (dD r).1.toNat (dD r).2).2) else []
def tO(b:List Int):List ot:=D1 5 (dD (b,false,())).1 (dD (b,false,())).2
theorem ajh:∀(k:Nat) (r:gO),rv r->GV (tE k r).1/\(tE k r).1.length=k/\rv (tE k r).2
 | 0,r,h=>⟨λx hx=>(by cases hx),rfl,h⟩
 |k+1,r,h=>by
  have e:=UH h;have ih:=ajh k _ e.2;refine⟨λx hx=> ?_,by rw[tE,aA,ih.2.1],ih.2.2⟩;rcases bY.1 hx with rfl | hx
  ·exact e.1
  ·exact ih.1 x hx
theorem avf(k:Nat)(r:gO)(h:rv r):aCl (DZ k r).1/\(DZ k r).1.1.length=k/\rv (DZ k r).2:=by have h1:=ajh k r h;have h2:=sh h1.2.2;have h3:=sh h2.2.2;have h4:=UH h3.2.2;exact⟨⟨h1.1,h4.1⟩,h1.2.1,h4.2⟩
theorem aDg:∀(f:Nat) (n:Int) (r:gO),rv r->(∀b∈D1 f n r,aCl b)/\(D1 f n r).length<=f
 | 0,n,r,h=>⟨λx hx=>(by cases hx),ax _⟩
 |f+1,n,r,h=>by
  have h1:=sh h;have h2:=avf (dD r).1.toNat _ h1.2.2;have ih:=aDg f (n - 1) _ h2.2.2;rw[D1];split
  ·split
   ·exact⟨λx hx=>(by cases hx),aK _⟩
   ·refine⟨λx hx=> ?_,by rw[aA];omega⟩;rcases bY.1 hx with rfl | hx
    ·exact h2.1
    ·exact ih.1 x hx
  ·exact⟨λx hx=>(by cases hx),aK _⟩
theorem awv{b:List Int}(h:Bytes b)(hl:b.length<=1000000000):adK (tO b,())/\(tO b).length<=5:=by have e:=aDg 5 (dD (b,false,())).1 _ (sh (atx h hl (false,()))).2.2;exact⟨e.1,e.2⟩
theorem agk:∀(ks:List Int) (rest:List Int),GV ks->tE ks.length (ks.flatMap jr++rest,false,())=(ks,(rest,false,()))
 |[],rest,_=>rfl
 |k::ks,rest,h=>by
  have e:rU ((k::ks).flatMap jr++rest,false,())=(k,(ks.flatMap jr++rest,false,())):=by rw[dx,aF];exact J8 k (h k aI) _
  have ih:=agk ks rest λx hx=>h x (aG _ hx)
  rw[aA,tE,e,ih]
theorem axE(b:ot)(hb:aCl b)(hk:aN1 b)(rest:List Int):DZ b.1.length (b.1.flatMap jr++(gw b.2.1++(gw b.2.2.1++(jr b.2.2.2.1++rest))),false,())=(b,(rest,false,())):=by unfold DZ;rw[agk _ _ hb.1];simp only[];rw[IL _ hk.af,IL _ hk.dl,J8 _ hb.2]
theorem aDc(b:ot)(rest:List Int):aJv b++rest=gw b.1.length++(b.1.flatMap jr++(gw b.2.1++(gw b.2.2.1++(jr b.2.2.2.1++rest)))):=by unfold aJv;simp only[aF]
theorem alY:∀(bs:List ot) (f:Nat) (rest:List Int),(∀b∈bs,aCl b)->(∀b∈bs,aN1 b)->bs.length+1<=f->D1 f bs.length (bs.flatMap aJv++rest,false,())=bs
 |[],0,rest,_,_,h=>absurd h (by simp)
 |[],f+1,rest,_,_,_=>by rw[D1,if_neg (by show ¬(0:Int) < ((0:Nat):Int);omega)]
 |b::bs,0,rest,_,_,h=>absurd h (by simp)
 |b::bs,f+1,rest,hu,hk,h=>by
  have ub:=hu b aI;have kb:=hk b aI;have h:bs.length+1+1<=f+1:=h;have e:(b::bs).flatMap aJv++rest=gw b.1.length++(b.1.flatMap jr++(gw b.2.1++(gw b.2.2.1++(jr b.2.2.2.1++(bs.flatMap aJv++rest))))):=by rw[dx,aF,aDc]
  have af9:=kb.len;rw[D1,if_pos (by rw[aA];omega),e,IL _ (uS ak)];simp only[aa];rw[if_neg ak,axE b ub kb];simp only[];rw[show((b::bs).length:Int) - 1=(bs.length:Int) by rw[aA];omega,alY bs f rest (λx hx=>hu x (aG _ hx)) (λx hx=>hk x (aG _ hx)) ak]
theorem aAF{l:Lk}(hu:adK l)(jn:kS l=true)(rest:List Int):tO (N7 l++rest)=l.1:=by have hk:=asx jn;unfold tO;rw[aFX jn,aF,IL _ (uS ak)];exact alY l.1 5 rest hu hk.1 ak
def Hi(b:List Int):Lk×Bool:=if kS (tO b,())=true/\N7 (tO b,())=b then((tO b,()),true) else(([],()),false)
theorem agQ{l:Lk}(hu:adK l)(jn:kS l=true):Hi (N7 l)=(l,true):=by
 have e:tO (N7 l)=l.1:=by have e:=aAF hu jn [];rw[aZ]at e;exact e
 unfold Hi;rw[e];have e2:((l.1,()):Lk)=l:=rfl;rw[e2,if_pos ⟨jn,rfl⟩]
theorem aHl{b:List Int}(h:(Hi b).2=true):∃l:Lk,kS l=true/\N7 l=b/\Hi b=(l,true)/\l=(tO b,()):=by
 unfold Hi at h ⊢;split at h
 ·rename_i hc;exact⟨(tO b,()),hc.1,hc.2,by rw[if_pos hc],rfl⟩
 ·cases h
abbrev aaA:=Bs×Int×Int×Nat×gO×(List ot)
abbrev Ob:=Bs×Int×Int×Int×Int×Nat×Nat×(Int×(Int×(Int×Unit)))×gO×(List Int)×(List ot)
abbrev aaB:=Nat×gO×(List Int)
def zD:Ob->aaB->((Bs×Int×Int×Nat×(Int×(Int×(Int×Unit)))×(List ot))×(Nat×gO×(List Int))):=λ(SB,wJ,fM,t27,t28,aa8,aLV,n8,agu,n35,aa5) y=>((SB,wJ,fM,aa8,n8,aa5),y)
def ajr:Ob->Prop:=λ(b,n,i,t,j,m1,m2,x,r,ks,bs)=>rv r/\ks.length=m2/\m2<=1000/\∃k c:Nat,j=k/\t=c/\k<=c/\c<=12/\m2=k
def FW:Ob->aaB:=λ(b,n,i,t,j,m1,m2,x,r,ks,bs)=>(m2+(t - j).toNat,(tE (t - j).toNat r).2,ks++(tE (t - j).toNat r).1)
def ajp:aaA->Prop:=λ(b,n,i,m,r,bs)=>rv r/\n<=9223372036854775807/\bs.length=m/\∃k:Nat,i=k/\k<=4/\m=k
def Be:aaA->(Bs×Nat×(List ot)):=λ(b,n,i,m,r,bs)=>(b,m+(D1 (5 - i.toNat) (n - i) r).length,bs++D1 (5 - i.toNat) (n - i) r)
def azp:Bs->Prop:=λb=>Bytes b/\b.length<=1000000000
def ajo:Bs->(Lk×Bool):=λb=>Hi b
def pD:Ls ajp bu Be:=rp (λ(iR,n,i,aPy,n11,n51)=>⟨([.d tB iR,bF,eT 2,bF,eT 11,eT 5,.d ti n,.d ti i]++aP 57 []),[],([[],[],dK (.pr (.de) fC),[],[],dK (.pr (om 51 aPy) fC)]++bM 5 ([dK (.d tZ n11)]++bM 39 ([dK (.vec 98 ki n51)]++bM 13 [])))⟩) (λx=>(.exit 0,⟨([.d tB x.1,bF,eT 2,bF,bF,eT 5]++aP 59 []),[],([[],[],dK (.pr (.de) fC),[],[],dK (.pr (om 51 x.2.1) fC)]++bM 45 ([dK (.vec 98 ki x.2.2)]++bM 13 []))⟩))
def uP:Ls ajr zD FW:=rp (λ(SB,wJ,fM,t27,t28,aa8,aLV,n8,agu,n35,aa5)=>⟨([.d tB SB,bF,eT 2,bF,eT 11,eT 5,.d ti wJ,.d ti fM,eT 8]++aP 18 ([.d ti t27,.d ti t28]++aP 36 [])),[],([[],[],dK (.pr (.de) fC),[],[],dK (.pr (om 51 aa8) fC),[],[],dK (.pr (om 35 aLV) (.d (.pair ti (.pair ti (.pair tu .unit))) n8)),[],[],dK (.d tZ agu)]++bM 23 ([dK (.vec 75 tu n35)]++bM 15 ([dK (.vec 98 ki aa5)]++bM 13 [])))⟩) (λx=>(.exit 2,⟨([.d tB x.1.1,bF,eT 2,bF,eT 11,eT 5,.d ti x.1.2.1,.d ti x.1.2.2.1,eT 8]++aP 56 []),[],([[],[],dK (.pr (.de) fC),[],[],dK (.pr (om 51 x.1.2.2.2.1) fC),[],[],dK (.pr (om 35 x.2.1) (.d (.pair ti (.pair ti (.pair tu .unit))) x.1.2.2.2.2.1)),[],[],dK (.d tZ x.2.2.1)]++bM 23 ([dK (.vec 75 tu x.2.2.2)]++bM 15 ([dK (.vec 98 ki x.1.2.2.2.2.2)]++bM 13 [])))⟩))
def Bd:Fs Tryz.prog azp bu ajo:=eN 123 Tryz.f123 (λb=>([.d tB b],[])) (λx=>⟨.cons (.d Pe x.1) (.cons (.d .bool x.2) (.nil)),[],[]⟩) [some tB] [ao8,Yf,awC,El,agl,aJ2] {loops:=nY [(5,{aV:=[0,2,4,5,6,7],sites:=[2,5,11,51],owns:=[⟨5,[.fst],51,70⟩]}),(11,{aV:=[0,2,4,5,6,7,8,27,28],sites:=[2,5,8,11,35,51],owns:=[⟨8,[.fst],35,96⟩]})],outs:=nX [(5,{aV:=[0,2,5],sites:=[2,5,51]},{aV:=[2,3]}),(11,{aV:=[0,2,4,5,6,7,8],sites:=[2,5,8,11,35,51]},{aV:=[2,3]})],fF:=nK [(5,pD.E),(11,uP.E)],res:=[some Pe,none]}
theorem ajq:pD.RS:=rL [.d tB,.d ti,.d ti,.n,.d tZ,.d (.slice ki)] pD
theorem Da{R:Type}(iR n i aPy n11 n51)(kn:K2 R)(kx:K3 R):Bd.R 0 pD (iR,n,i,aPy,n11,n51) kn kx=aJ ((gr i n)) (al (DE.call n11) λDR=>aJ ((qY i 4)) (pD.go kx (iR,aPy,n51)) (aJ ((qZ DR.1 12)) (pD.go kx (iR,aPy,n51)) (al (uP.call (iR,n,i,DR.1,0,aPy,0,(0,(0,(0,()))),DR.2,([]:List Int),n51)) λPb=>al (DE.call Pb.2.2.1) λaV4=>al (DE.call aV4.2) λaJr=>al (RH.call aJr.2) λaNa=>aJ (decide (0=0/\(0+Pb.2.1)<=(ag Pb.2.2.2))) (aJ (decide (Pb.1.2.2.2.1<=(ag Pb.1.2.2.2.2.2))) (aJ (db (Pb.1.2.2.2.1+1) 48) (kn (pD.st (Pb.1.1,Pb.1.2.1,(bI .i64 Pb.1.2.2.1 1),(Pb.1.2.2.2.1+1),aNa.2,((aR Pb.1.2.2.2.1 Pb.1.2.2.2.2.2)++ [((cut Pb.2.2.2 0 Pb.2.1),(aV4.1,(aJr.1,(aNa.1,Pb.1.2.2.2.2.1.2.2.2))))])))) none) none) none))) (pD.go kx (iR,aPy,n51)):=b8
theorem ajs:uP.RS:=rL [.d tB,.d ti,.d ti,.d ti,.d ti,.n,.n,.d (.pair ti (.pair ti (.pair tu .unit))),.d tZ,.d tU,.d (.slice ki)] uP
theorem Mh{R:Type}(SB wJ fM t27 t28 aa8 aLV n8 agu n35 aa5)(kn:K2 R)(kx:K3 R):Bd.R 1 uP (SB,wJ,fM,t27,t28,aa8,aLV,n8,agu,n35,aa5) kn kx=aJ ((gr t28 t27)) (al (RH.call agu) λx4=>aJ (decide (aLV<=(ag n35))) (aJ (db (aLV+1) 8) (kn (uP.st (SB,wJ,fM,t27,(bI .i64 t28 1),aa8,(aLV+1),n8,x4.2,((aR aLV n35)++ [x4.1]),aa5))) none) none) (uP.go kx ((SB,wJ,fM,aa8,n8,aa5),(aLV,agu,n35))):=b8
theorem aGc{R:Type}(b)(k:K1 R):Bd.A b k=al (Wv.call b) λx4=>al (DE.call x4) λx6=>al (pD.call (b,x6.1,0,0,x6.2,([]:List ot))) λaCc=>aJ (decide (0=0/\(0+aCc.2.1)<=(ag aCc.2.2))) (al (pE.call ((cut aCc.2.2 0 aCc.2.1),())) λaU0=>aJ ((!aU0)) (k (Bd.out ((([]:List ot),()),false))) (aJ (decide (0=0/\(0+aCc.2.1)<=(ag aCc.2.2))) (al (tf.call ((cut aCc.2.2 0 aCc.2.1),())) λaU1=>al (SO.call (aU1,aCc.1)) λaql=>aJ ((!aql)) (k (Bd.out ((([]:List ot),()),false))) (aJ (decide (0=0/\(0+aCc.2.1)<=(ag aCc.2.2))) (k (Bd.out (((cut aCc.2.2 0 aCc.2.1),()),true))) none)) none)) none:=b8
theorem anU:(Bd.kM 1 uP):=by
 refine(Bd.mf 1 uP) (λ(b,n,i,t,j,m1,m2,x,r,ks,bs)=>(t - j).toNat) ?_
 rintro⟨b,n,i,t,j,m1,m2,x,r,ks,bs⟩ ⟨hr,aFc,hm,k,c,rfl,rfl,aXC,hc,aLa⟩;have hr:rv r:=hr;have aFc:ks.length=m2:=aFc;have aLa:m2=k:=aLa;by_cases h:k < c
 ·left;have e1:((c:Int) - (k:Int)).toNat=(c - (k+1))+1:=ak;have e2:((c:Int) - ((k+1:Nat):Int)).toNat=c - (k+1):=ak;refine⟨(b,n,i,(c:Int),((k+1:Nat):Int),m1,m2+1,x,(rU r).2,ks++ [(rU r).1],bs),⟨(UH hr).2,by rw[ai];show ks.length+1=_;omega,ak,k+1,c,rfl,rfl,ak,hc,ak⟩,by show((c:Int) - ((k+1:Nat):Int)).toNat < ((c:Int) - (k:Int)).toNat;omega,?_,λkn kx=> ?_⟩
  ·simp only[zD,FW,e1,e2,tE,aF,c9];rw[show m2+1+(c - (k+1))=m2+(c - (k+1)+1) by omega]
  ·rw[Mh,aU ak,Jv (d:=r) hr];simp only[ah,aj,bu,Ul];rw[aM ak,dr ak ak,N.mD ak,aY ak];rfl
 ·right;obtain rfl:k=c:=ak;intro R kn kx;rw[Mh,aQ ak,ao];simp only[zD,FW,Int.sub_self,aX,tE,aZ,cq]
theorem anT:(Bd.kM 0 pD):=by
 refine(Bd.mf 0 pD) (λ(b,n,i,m,r,bs)=>5 - i.toNat) ?_
 rintro⟨b,n,i,m,r,bs⟩ ⟨hr,hn,aVr,k,rfl,hk,aLa⟩;have hr:rv r:=hr;have hn:n<=9223372036854775807:=hn;have aVr:bs.length=m:=aVr;have aLa:m=k:=aLa;have e0:5 - (k:Int).toNat=(4 - k)+1:=by rw[aa];omega
 have g1:=sh hr;by_cases h:(k:Int) < n
 ·have hp:0 < n - (k:Int):=ak;by_cases hc:4 - k=0\/12 < (dD r).1
  ·right;intro R kn kx;have eb:D1 ((4 - k)+1) (n - (k:Int)) r=[]:=by rw[D1,if_pos hp,if_pos hc]
   rw[Da,aU h,pO (d:=r) hr];simp only[ah,aj,bu,vZ,bu,Be,e0,eb,ba,cq,aZ];by_cases h4:(k:Int)=4
   ·rw[du h4,aj]
   ·rw[eS h4,ao,cP ak,aj]
  ·left;have h4:¬(k:Int)=4:=ak;have aWG:¬(dD r).1 > 12:=ak;obtain⟨c,aQw⟩:∃c:Nat,(dD r).1=c:=⟨(dD r).1.toNat,ak⟩;have anh:=avf c _ g1.2.2;have gk:=ajh c _ g1.2.2;have ga:=sh gk.2.2;have gd:=sh ga.2.2;have eb:D1 ((4 - k)+1) (n - (k:Int)) r=(DZ c (dD r).2).1::D1 (4 - k) (n - (k:Int) - 1) (DZ c (dD r).2).2:=by rw[D1,if_pos hp,if_neg hc,aQw,aa]
   have e1:5 - ((k+1:Nat):Int).toNat=4 - k:=by rw[aa];omega
   refine⟨(b,n,((k+1:Nat):Int),m+1,(DZ c (dD r).2).2,bs++ [(DZ c (dD r).2).1]),⟨anh.2.2,hn,by rw[ai];show bs.length+1=_;omega,k+1,rfl,ak,ak⟩,by simp only[aa];omega,?_,λkn kx=> ?_⟩
   ·simp only[bu,Be,e0,e1,eb,aF,c9,aA];rw[show n - ((k+1:Nat):Int)=n - (k:Int) - 1 by omega,show m+1+(D1 (4 - k) (n - (k:Int) - 1) (DZ c (dD r).2).2).length=m+((D1 (4 - k) (n - (k:Int) - 1) (DZ c (dD r).2).2).length+1) by omega]
   ·rw[Da,aU h,pO (d:=r) hr];simp only[ah,aj,bu,vZ];rw[eS h4,ao,cr aWG,ao,aQw,ajs (d:=(b,n,(k:Int),(c:Int),0,m,0,(0,0,0,()),(dD r).2,[],bs)) ⟨g1.2.2,rfl,by decide,0,c,rfl,rfl,aK _,ak,rfl⟩];simp only[ah,zD,FW,qe,aa,aO,aT];rw[pO (d:=(tE c (dD r).2).2) gk.2.2];simp only[ah,bu,vZ];rw[pO (d:=(dD (tE c (dD r).2).2).2) ga.2.2];simp only[ah,bu,vZ];rw[Jv (d:=(dD (dD (tE c (dD r).2).2).2).2) gd.2.2];simp only[ah,bu,Ul];rw[aM ⟨by trivial,by rw[gk.2.1];exact ax _⟩,aM ak,dr ak ak,N.mD ak,aY ak,eY gk.2.1];rfl
 ·right;intro R kn kx;have eb:D1 ((4 - k)+1) (n - (k:Int)) r=[]:=by rw[D1,if_neg ak]
  rw[Da,aQ h,ao];simp only[bu,Be,e0,eb,ba,cq,aZ]
theorem aGd:Bd.Ok:=by
 rintro b ⟨hb,hl⟩;have hb:Bytes b:=hb;have hl:b.length<=1000000000:=hl;have g0:=atx hb hl (false,());have g1:=sh g0;have gu:=awv hb hl;rw[aGc,agX (d:=b) hl];simp only[ah,bu,akd];rw[pO (d:=(b,false,())) g0];simp only[ah,bu,vZ];rw[ajq (d:=(b,(dD (b,false,())).1,0,0,(dD (b,false,())).2,[])) ⟨g1.2.2,g1.2.1,rfl,0,rfl,by decide,rfl⟩];simp only[ah,bu,Be,aX,Nat.sub_zero,qe,aO,aT,ax,jl,cv,aj,eY];rw[show D1 5 (dD (b,false,())).1 (dD (b,false,())).2=tO b from rfl];have hL1:((tO b,()):Lk).1.length<=1000000000:=by show(tO b).length<=_;omega
 rw[Bf (d:=(tO b,())) ⟨gu.1,iw hL1 (by decide)⟩];simp only[ah,bu,Ek,bu,ajo,Hi];cases jn:kS (tO b,())
 ·rw[if_neg (by rintro⟨x,_⟩;cases x)];rfl
 ·rw[aar (d:=(tO b,())) ⟨gu.1,iw hL1 (by decide)⟩];simp only[cm,ao,ah,bu,QQ];rw[aCS (d:=(N7 (tO b,()),b)) (by show(N7 _).length<=_;have:=KM (tO b,());omega)];simp only[ah,bu,aqR];by_cases hx:N7 (tO b,())=b
  ·rw[aM hx,if_pos ⟨by trivial,hx⟩];rfl
  ·rw[aS hx,if_neg (λy=>hx y.2)];rfl
theorem azq:Bd.RS:=rE [.d tB] Bd
def aGe:=Bd.eU aGd 2 ⟨.fv anT,⟨.fv anU,trivial⟩⟩
def Iq(r:gO):List Int×gO:=((mP 32 r).1++bR (mP 32 r).1.length (ab 32 (0:Int)),(mP 32 r).2)
def HE(r:gO):List Int×gO:=if(dD r).2.2.1=true then([],(dD r).2) else mP (dD r).1.toNat (dD r).2
def O8(most:Int)(r:gO):Int×gO:=(if(dD r).1 > most then -1 else(dD r).1,(dD r).2)
def aNR(r:gO):bC×gO:=(((Iq r).1,(dD (Iq r).2).1,()),(dD (Iq r).2).2)
def Lj:Nat->gO->List bC×gO
 | 0,r=>([],r)
 |k+1,r=>((aNR r).1::(Lj k (aNR r).2).1,(Lj k (aNR r).2).2)
def abo(r:gO):gm×gO:=(((dD r).1,(Hi (HE (dD r).2).1).1,()),(HE (dD r).2).2)
def Hd:Nat->gO->Option (List gm×gO)
 | 0,r=>some ([],r)
 |k+1,r=>if(Hi (HE (dD r).2).1).2=true then(match Hd k (abo r).2 with
  |some x=>some ((abo r).1::x.1,x.2)
  |none=>none) else none
def aNW(r:gO):Sg×gO:=(((rU r).1,(rU (rU r).2).1,()),(rU (rU r).2).2)
def Gx:Nat->gO->List Sg×gO
 | 0,r=>([],r)
 |k+1,r=>((aNW r).1::(Gx k (aNW r).2).1,(Gx k (aNW r).2).2)
def we(r:gO):List Sg×gO:=Gx (O8 12 (dD r).2).1.toNat (O8 12 (dD r).2).2
def auO(r:gO):Option (UR×gO):=if(O8 12 (dD r).2).1 < 0 then none else some (((dD r).1,(we r).1,(rU (we r).2).1,()),(rU (we r).2).2)
def Hz:List bC->gO->Option (List gK×gO)
 |[],r=>some ([],r)
 |o::l,r=>match auO r with
  |none=>none
  |some w=>match Hz l w.2 with
   |none=>none
   |some x=>some ((o,w.1,())::x.1,x.2)
def aPC:dw×Bool:=(([],[],0,()),false)
def aEC(n m:Int)(t:dw)(r:gO):dw×Bool:=if n < 0\/m < 0\/r.2.1=true\/0 < r.1.length\/hJ t=false then aPC else(t,true)
def aGl(n m:Int)(ops:List bC)(os:List gm)(r:gO):dw×Bool:=match Hz ops (dD r).2 with
 |none=>aPC
 |some x=>aEC n m (x.1,os,(dD r).1,()) x.2
def ab6(b:List Int):dw×Bool:=
 let n:=O8 64 (b,false,())
 let ops:=Lj n.1.toNat n.2
 let m:=O8 64 ops.2
 match Hd m.1.toNat m.2 with
 |none=>aPC
 |some x=>aGl n.1 m.1 ops.1 x.1 x.2
def asQ(o:bC):List Int:=o.1++gw o.2.1
def En(o:gm):List Int:=gw o.1++(gw (N7 o.2.1).length++N7 o.2.1)
def aCj(s:Sg):List Int:=jr s.1++jr s.2.1
def DO(w:UR):List Int:=gw w.1++(gw w.2.1.length++(w.2.1.flatMap aCj++jr w.2.2.1))
def aS9(t:dw):List Int:=gw t.1.length++(t.1.flatMap (λx=>asQ x.1)++(gw t.2.1.length++(t.2.1.flatMap En++(gw t.2.2.1++t.1.flatMap λx=>DO x.2.1))))
theorem Ec{α:Type}(f:List Int->α->List Int)(w:α->List Int):∀(l:List α) (b:List Int),(∀x∈l,∀b,f b x=b++w x)->l.foldl f b=b++l.flatMap w
 |[],b,_=>by simp
 |x::l,b,h=>by rw[bq,h x aI,Ec f w l _ λy hy=>h y (aG _ hy),dx,aF]
theorem Br(b:List Int){n:Int}(h:0<=n):cF b n=b++gw n:=by unfold cF;rw[if_neg ak]
theorem aIO{t:dw}(jn:hJ t=true):auH t=aS9 t:=by
 obtain⟨⟨_,a2,a3,a4⟩,b1,b2⟩:=jM jn;have e1:∀b,t.1.foldl KI b=b++t.1.flatMap λx=>asQ x.1:=λb=>Ec _ _ _ _ λx hx b=>by have:=A6 (mH _ _ b1 x hx);unfold KI asQ;rw[Br _ this.1,aF]
 have e2:∀b,t.2.1.foldl Ll b=b++t.2.1.flatMap En:=λb=>Ec _ _ _ _ λo ho b=>by have:=(ky _ _ b2 o ho).1;unfold Ll En;rw[Br _ this.1,aF]
 have e3:∀(l:List Sg) b,l.foldl acB b=b++l.flatMap aCj:=λl b=>Ec _ _ _ _ λs _ b=>by unfold acB aCj;rw[aF]
 have e4:∀b,t.1.foldl auN b=b++t.1.flatMap λx=>DO x.2.1:=λb=>Ec _ _ _ _ λx hx b=>by have:=A6 (mH _ _ b1 x hx);unfold auN DO;rw[e3,Br _ this.2.2.1,Br _ ak];simp only[aF]
 unfold auH uW aS9;rw[if_pos jn,e4,Br _ a4,e2,Br _ ak,e1,Br _ ak,aT];simp only[aF]
theorem ahj{n:Nat}(a rest:List Int)(h:a.length=n):mP n (a++rest,false,())=(a,(rest,false,())):=by
 unfold mP;rw[if_neg (by
  intro x;rcases x with x | x
  ·cases x
  ·have x:(a++rest).length < n:=x;rw[ai]at x;omega)]
 show((a++rest).take n,((a++rest).drop n,false,()))=_;rw[kX h,kW h]
theorem ayP(a rest:List Int)(h:a.length=32):Iq (a++rest,false,())=(a,(rest,false,())):=by unfold Iq;rw[ahj a rest h];simp only[h];rw[show bR 32 (ab 32 (0:Int))=[] from rfl,aZ]
theorem Em(n:Int)(h:HD n)(rest:List Int):dD (gw n++rest,false,())=(n,(rest,false,())):=IL n h rest _
theorem aDj(a rest:List Int)(h:a.length<=1000000000):HE (gw a.length++(a++rest),false,())=(a,(rest,false,())):=by unfold HE;rw[Em _ (uS ak)];simp only[bn,bt,aa];exact ahj a rest rfl
theorem akS{n m:Int}(h:HD n)(hm:n<=m)(rest:List Int):O8 m (gw n++rest,false,())=(n,(rest,false,())):=by unfold O8;rw[Em n h];simp only[if_neg (show ¬n > m by omega)]
theorem aoj:∀(l:List bC) (rest:List Int),(∀o∈l,o.1.length=32/\HD o.2.1)->Lj l.length (l.flatMap asQ++rest,false,())=(l,(rest,false,()))
 |[],rest,_=>rfl
 |o::l,rest,h=>by
  obtain⟨h1,h2⟩:=h o aI;have e:aNR ((o::l).flatMap asQ++rest,false,())=(o,(l.flatMap asQ++rest,false,())):=by unfold aNR asQ;rw[dx,aF,aF,ayP _ _ h1];simp only[];rw[Em _ h2]
  rw[aA,Lj,e,aoj l rest λx hx=>h x (aG _ hx)]
theorem agG:∀(l:List gm) (rest:List Int),(∀o∈l,HD o.1/\kS o.2.1=true/\adK o.2.1)->Hd l.length (l.flatMap En++rest,false,())=some (l,(rest,false,()))
 |[],rest,_=>rfl
 |o::l,rest,h=>by
  obtain⟨h1,h2,h3⟩:=h o aI;have hl:=KM o.2.1;have e0:dD ((o::l).flatMap En++rest,false,())=(o.1,(gw (N7 o.2.1).length++(N7 o.2.1++(l.flatMap En++rest)),false,())):=by rw[dx];unfold En;simp only[aF];exact Em _ h1 _
  have e1:HE (dD ((o::l).flatMap En++rest,false,())).2=(N7 o.2.1,(l.flatMap En++rest,false,())):=by rw[e0];exact aDj _ _ ak
  have e2:abo ((o::l).flatMap En++rest,false,())=(o,(l.flatMap En++rest,false,())):=by unfold abo;rw[e1,e0,agQ h3 h2]
  rw[aA,Hd,e1,agQ h3 h2,if_pos rfl,e2,agG l rest λx hx=>h x (aG _ hx)]
theorem apv:∀(l:List Sg) (rest:List Int),(∀s∈l,nV s.1/\nV s.2.1)->Gx l.length (l.flatMap aCj++rest,false,())=(l,(rest,false,()))
 |[],rest,_=>rfl
 |s::l,rest,h=>by
  obtain⟨h1,h2⟩:=h s aI;have e:aNW ((s::l).flatMap aCj++rest,false,())=(s,(l.flatMap aCj++rest,false,())):=by unfold aNW aCj;rw[dx,aF,aF,J8 _ h1];simp only[];rw[J8 _ h2]
  rw[aA,Gx,e,apv l rest λx hx=>h x (aG _ hx)]
theorem aI3(w:UR)(rest:List Int)(hw:Yp w)(hb:HD w.1)(af9:w.2.1.length<=12):auO (DO w++rest,false,())=some (w,(rest,false,())):=by
 have e0:dD (DO w++rest,false,())=(w.1,(gw w.2.1.length++(w.2.1.flatMap aCj++(jr w.2.2.1++rest)),false,())):=by unfold DO;simp only[aF];exact Em _ hb _
 have e1:O8 12 (dD (DO w++rest,false,())).2=((w.2.1.length:Int),(w.2.1.flatMap aCj++(jr w.2.2.1++rest),false,())):=by rw[e0];exact akS (uS ak) ak _
 have e2:we (DO w++rest,false,())=(w.2.1,(jr w.2.2.1++rest,false,())):=by unfold we;rw[e1];exact apv _ _ hw.1
 unfold auO;rw[e1,if_neg (by show ¬(w.2.1.length:Int) < 0;omega),e2,e0];simp only[];rw[J8 _ hw.2]
theorem aht:∀(l:List gK) (rest:List Int),(∀x∈l,Yp x.2.1/\HD x.2.1.1/\x.2.1.2.1.length<=12)->Hz (l.map (·.1)) (l.flatMap (λx=>DO x.2.1)++rest,false,())=some (l,(rest,false,()))
 |[],rest,_=>rfl
 |x::l,rest,h=>by obtain⟨h1,h2,h3⟩:=h x aI;rw[dx,aF,bQ,Hz,aI3 _ _ h1 h2 h3];simp only[];rw[aht l rest λy hy=>h y (aG _ hy)]
theorem aty{t:dw}(hv:nU t)(jn:hJ t=true):ab6 (auH t)=(t,true):=by
 obtain⟨⟨a1,a2,a3,a4⟩,b1,b2⟩:=jM jn;have agb:∀x∈t.1,_:=λx hx=>A6 (mH _ _ b1 x hx)
 have aWQ:=hv.2.2;rw[aIO jn];have e1:=akS (n:=(t.1.length:Int)) (m:=64) (uS ak) ak (t.1.flatMap (λx=>asQ x.1)++(gw t.2.1.length++(t.2.1.flatMap En++(gw t.2.2.1++t.1.flatMap λx=>DO x.2.1))));have ef:t.1.flatMap (λx=>asQ x.1)=(t.1.map (·.1)).flatMap asQ:=by rw[List.flatMap_map]
 have e2:=aoj (t.1.map (·.1)) (gw t.2.1.length++(t.2.1.flatMap En++(gw t.2.2.1++t.1.flatMap λx=>DO x.2.1))) λo ho=>by obtain⟨x,hx,rfl⟩:=cT.1 ho;exact⟨(hv.2.1 x hx).1.1,(agb x hx).1,by have:=(agb x hx).2.1;omega⟩
 rw[<-ef,bV]at e2;have e3:=akS (n:=(t.2.1.length:Int)) (m:=64) (uS ak) ak (t.2.1.flatMap En++(gw t.2.2.1++t.1.flatMap λx=>DO x.2.1));have e4:=agG t.2.1 (gw t.2.2.1++t.1.flatMap λx=>DO x.2.1) λo ho=>by have:=ky _ _ b2 o ho;exact⟨⟨this.1.1,ak⟩,this.2,(hv.1.1 o ho).1⟩
 have e5:=Em t.2.2.1 ⟨a4,aWQ⟩ (t.1.flatMap λx=>DO x.2.1);have e6:=aht t.1 [] λx hx=>⟨(hv.2.1 x hx).2.1,⟨(agb x hx).2.2.1,by have:=(agb x hx).2.2.2.1;omega⟩,(agb x hx).2.2.2.2⟩
 rw[aZ]at e6;unfold ab6 aS9;simp only[e1,aa,e2,e3,e4];unfold aGl;simp only[e5,e6];unfold aEC;rw[if_neg];rintro(x | x | x | x | x)
 ·omega
 ·omega
 ·cases x
 ·simp at x
 ·rw[show((t.1,t.2.1,t.2.2.1,()):dw)=t from rfl,jn]at x;cases x
def uh(r:gO):Prop:=rv r/\(r.2.1=true->r.1=[])
def Ov(r r':gO)(e:List Int):Prop:=uh r'/\(r'.2.1=false->r.2.1=false/\r.1=e++r'.1)
theorem Ov.trans{r r1 r2:gO}{e1 e2:List Int}(h1:Ov r r1 e1)(h2:Ov r1 r2 e2):Ov r r2 (e1++e2):=
 ⟨h2.1,λh=>⟨(h1.2 (h2.2 h).1).1,by rw[(h1.2 (h2.2 h).1).2,(h2.2 h).2,aF]⟩⟩
theorem Ov.of{r r':gO}{e e':List Int}(h:Ov r r' e)(he:r'.2.1=false->e=e'):Ov r r' e':=⟨h.1,λh'=>by rw[<-he h'];exact h.2 h'⟩
theorem Ov.refl{r:gO}(h:uh r):Ov r r []:=⟨h,λh'=>⟨h',rfl⟩⟩
theorem aKT:uh Qm:=⟨aiI,λ_=>rfl⟩
theorem amX(r:gO)(e:List Int):Ov r Qm e:=⟨aKT,λh=>by cases h⟩
theorem aMj{b:List Int}(hb:Bytes b)(hl:b.length<=1000000000):uh (b,false,()):=⟨atx hb hl (false,()),λh=>by cases h⟩
theorem acX{r:gO}(h:uh r)(n:Nat):Ov r (mP n r).2 (mP n r).1/\((mP n r).2.2.1=false->(mP n r).1.length=n):=by
 have hb:=(z6 (n:=n) h.1).2.2
 revert hb
 unfold mP;split
 ·exact λ_=>⟨amX _ _,λh=>by cases h⟩
 ·rename_i hc;intro hb;have h1:r.2.1=false:=by cases hr:r.2.1 with | false=>rfl | true=>exact absurd (lZ hr) hc
  have h2:¬r.1.length < n:=λx=>hc (fi x)
  exact⟨⟨⟨hb,λ(hx:r.2.1=true)=>by rw[h1]at hx;cases hx⟩,λ_=>⟨h1,(dq n r.1).symm⟩⟩,λ_=>by show(r.1.take n).length=n;rw[bp];omega⟩
theorem ack(f:Nat){d:Int}(h:d < 128):gN f d=([],d):=by
 cases f with
 |zero=>rfl
 |succ f=>rw[gN,if_neg ak]
theorem aoc:∀(l:List Int) (a:Nat) (n:Int) (v:Int×Nat),Bytes l->a<=9->Bi l a n= .inl v->
  ∃w rest,v.1=n+w*128^a/\0<=w/\(a=0\/0 < w)/\w < 128^(9 - a)/\l=(gN (8 - a) w).1++(gN (8 - a) w).2::rest/\v.2=a+(gN (8 - a) w).1.length+1
 |[],a,n,v,_,_,h=>by cases h
 |d::l,a,n,v,hb,ha,h=>by
  obtain⟨x1,x2⟩:=hb d aI;rw[Bi]at h;split at h
  ·cases h
  rename_i hc;have aVo:a<=8:=ak;have e9:(128:Int)^(9 - a)=128^(8 - a)*128:=by rw[show 9 - a=(8 - a)+1 by omega];exact fO 128 (8 - a)
  have p8:(0:Int) < 128^(8 - a):=Int.pow_pos (by decide);split at h
  ·rename_i hd;cases h;refine⟨d,l,by rw[fe x1 hd],x1,ak,ak,?_,?_⟩
   ·rw[ack _ hd];rfl
   ·rw[ack _ hd];rfl
  ·rename_i hd;obtain⟨w,rest,e1,w0,w1,w2,e2,e3⟩:=aoc l (a+1) _ v (λx hx=>hb x (aG _ hx)) ak h;have w1:0 < w:=ak;rw[show 9 - (a+1)=8 - a by omega]at w2;have aXA:a<=7:=by
    by_cases h8:a=8
    ·rw[h8]at w2;have:(128:Int)^(8 - 8)=1:=rfl;omega
    ·omega
   have er:gN (8 - a) (d%128+128*w)=((d%128+128)::(gN (8 - (a+1)) w).1,(gN (8 - (a+1)) w).2):=by rw[show 8 - a=(8 - (a+1))+1 by omega,gN,if_pos ak,show(d%128+128*w)%128=d%128 by omega,show(d%128+128*w) / 128=w by omega]
   refine⟨d%128+128*w,rest,?_,ak,ak,ak,?_,?_⟩
   ·rw[e1,fO,Int.add_mul,Int.add_assoc,qc 128 w,rq w,qc 128]
   ·rw[er,e2,show d%128+128=d by omega];rfl
   ·rw[er,e3];simp only[aA];omega
theorem si{r:gO}(h:uh r):Ov r (dD r).2 (gw (dD r).1)/\((dD r).2.2.1=false->HD (dD r).1):=by
 have hk:=sh h.1
 revert hk
 unfold dD;cases hf:Bi r.1 0 0 with
 |inr _=>exact λ_=>⟨amX _ _,λh=>by cases h⟩
 |inl v=>
  intro hk;obtain⟨w,rest,e1,w0,_,w2,e2,e3⟩:=aoc r.1 0 0 v h.1.2 (by decide) hf;have h1:r.2.1=false:=by
   cases hr:r.2.1 with
   |false=>rfl
   |true=>rw[h.2 hr]at hf;cases hf
  have ew:v.1=w:=by rw[e1,lk];omega
  have e9:(128:Int)^(9 - 0)=9223372036854775808:=rfl;have e8:(128:Int)^(8+1)=9223372036854775808:=rfl;have e10:(128:Int)^(10+1)=151115727451828646838272:=rfl;have er:gN 10 w=gN 8 w:=KU 10 8 w (by rw[e10];omega) (by rw[e8];omega);have en:gw v.1=(gN 8 w).1++ [(gN 8 w).2]:=by rw[ew];unfold gw;rw[er]
  refine⟨⟨⟨hk.2.2,λ(hx:r.2.1=true)=>by rw[h1]at hx;cases hx⟩,λ_=>⟨h1,?_⟩⟩,λ_=>⟨hk.1,hk.2.1⟩⟩;show r.1=gw v.1++r.1.drop v.2;rw[en,e3,aF]
  conv=>rhs;rw[e2]
  rw[List.append_cons,aO,kW (by rw[ai];rfl)];exact e2
theorem aCQ{l:List Int}(h:l.length=8)(hb:Bytes l):jr (Ou l)=l:=by
 match l,h with
 |[a,b,c,d,e,f,g,i],_=>
  have h0:=hb a (by simp);have h1:=hb b (by simp);have h2:=hb c (by simp);have h3:=hb d (by simp);have h4:=hb e (by simp);have h5:=hb f (by simp);have h6:=hb g (by simp);have h7:=hb i (by simp);unfold ahx at h0 h1 h2 h3 h4 h5 h6 h7;unfold jr Ou;simp only[bq,cO];congr 1
  ·omega
  congr 1
  ·omega
  congr 1
  ·omega
  congr 1
  ·omega
  congr 1
  ·omega
  congr 1
  ·omega
  congr 1
  ·omega
  congr 1;omega
theorem K5{r:gO}(h:uh r):Ov r (rU r).2 (jr (rU r).1):=by have e:=acX h 8;exact e.1.of λhk=>(aCQ (e.2 hk) (z6 h.1).2.1).symm
theorem ang{r:gO}(h:uh r):Ov r (Iq r).2 (Iq r).1:=by
 have e:=acX h 32;refine e.1.of λhk=> ?_
 unfold Iq;simp only[e.2 hk];rw[show bR 32 (ab 32 (0:Int))=[] from rfl,aZ]
theorem aE8{r:gO}(h:rv r):Sm (Iq r).1:=by
 have e:=z6 (n:=32) h;refine⟨?_,gv e.2.1 λx hx=> ?_⟩
 ·show((mP 32 r).1++bR (mP 32 r).1.length (ab 32 (0:Int))).length=32;rw[ai,dp,cg];have:=e.1;omega
 ·obtain rfl:=(nr.1 (List.mem_of_mem_drop hx)).2;exact⟨by decide,by decide⟩
theorem ahV{r:gO}(h:uh r):Ov r (HE r).2 (gw (HE r).1.length++(HE r).1)/\Bytes (HE r).1/\(HE r).1.length<=1000000000:=by
 have e:=si h;unfold HE;split
 ·rename_i hc;exact⟨⟨e.1.1,λhk=>by rw[hc]at hk;cases hk⟩,λx hx=>(by cases hx),aK _⟩
 ·rename_i hc;have hc:(dD r).2.2.1=false:=by simpa using hc
  have t:=acX e.1.1 (dD r).1.toNat;have tb:=z6 (n:=(dD r).1.toNat) e.1.1.1;have n0:=(e.2 hc).1;refine⟨(e.1.trans t.1).of λhk=> ?_,tb.2.1,?_⟩
  ·rw[t.2 hk,Int.toNat_of_nonneg n0]
  ·have hl:(mP (dD r).1.toNat (dD r).2).1.length<=(dD r).2.1.length:=by
    unfold mP;split
    ·exact aK _
    ·show((dD r).2.1.take _).length<=_;rw[bp];omega
   have:=e.1.1.1.1;omega
theorem aQe{r:gO}(h:uh r){m:Int}(h0:0<=(O8 m r).1):Ov r (O8 m r).2 (gw (O8 m r).1)/\(O8 m r).1<=m:=by
 have e:=si h;unfold O8 at h0 ⊢;by_cases hc:(dD r).1 > m
 ·simp only[if_pos hc]at h0;omega
 ·simp only[if_neg hc];exact⟨e.1,ak⟩
theorem awO{r:gO}(h:uh r)(m:Int):uh (O8 m r).2:=(si h).1.1
theorem awN{r:gO}(h:rv r){m:Int}(hm:0<=m): -1<=(O8 m r).1/\(O8 m r).1<=m:=by
 have:=(sh h).1;unfold O8;split
 ·exact⟨ak,by show(-1:Int)<=m;omega⟩
 ·rename_i hc;have hc:¬(dD r).1 > m:=hc;exact⟨by show -1<=(dD r).1;omega,by show(dD r).1<=m;omega⟩
theorem awj:∀(k:Nat) {r:gO},uh r->Ov r (Lj k r).2 ((Lj k r).1.flatMap asQ)/\(Lj k r).1.length=k/\∀o∈(Lj k r).1,Sm o.1
 | 0,r,h=>⟨Ov.refl h,rfl,λx hx=>by cases hx⟩
 |k+1,r,h=>by
  have e1:=ang h;have e2:=si e1.1;have ih:=awj k (r:=(aNR r).2) e2.1.1;refine⟨?_,by rw[Lj,aA,ih.2.1],λo ho=> ?_⟩
  ·have:=(e1.trans e2.1).trans ih.1;rw[Lj,dx];exact this
  ·rcases bY.1 ho with rfl | ho
   ·exact aE8 h.1
   ·exact ih.2.2 o ho
theorem aPI{r:gO}(h:uh r):uh (abo r).2:=(ahV (si h).1.1).1.1
theorem aom:∀(k:Nat) {r:gO} {x:List gm×gO},uh r->Hd k r=some x->Ov r x.2 (x.1.flatMap En)/\x.1.length=k/\∀o∈x.1,o.1<=9223372036854775807/\kS o.2.1=true/\aN3 o.2.1
 | 0,r,x,h,hx=>by cases hx;exact⟨Ov.refl h,rfl,λx hx=>by cases hx⟩
 |k+1,r,x,h,hx=>by
  rw[Hd]at hx;split at hx
  ·rename_i hr;split at hx
   ·rename_i y hy;cases hx;have e1:=si h;have e2:=ahV e1.1.1;have ih:=aom k (aPI h) hy;obtain⟨l,hl,aJy,he,hle⟩:=aHl hr;have hu:=awv e2.2.1 e2.2.2;have el:(abo r).1.2.1=l:=by show(Hi (HE (dD r).2).1).1=l;rw[he]
    refine⟨?_,by rw[aA,ih.2.1],λo ho=> ?_⟩
    ·have:=(e1.1.trans e2.1).trans ih.1;rw[dx];unfold En;rw[el,aJy];exact this
    ·rcases bY.1 ho with rfl | ho
     ·refine⟨(sh h.1).2.1,by rw[el];exact hl,?_⟩;rw[el,hle];exact⟨hu.1,by show(tO _).length<=_;omega⟩
     ·exact ih.2.2 o ho
   ·cases hx
  ·cases hx
theorem akm:∀(k:Nat) {r:gO},uh r->Ov r (Gx k r).2 ((Gx k r).1.flatMap aCj)/\(Gx k r).1.length=k/\∀s∈(Gx k r).1,aN4 s
 | 0,r,h=>⟨Ov.refl h,rfl,λx hx=>by cases hx⟩
 |k+1,r,h=>by
  have e1:=K5 h;have e2:=K5 e1.1;have ih:=akm k (r:=(aNW r).2) e2.1;refine⟨?_,by rw[Gx,aA,ih.2.1],λo ho=> ?_⟩
  ·have:=(e1.trans e2).trans ih.1;rw[Gx,dx];exact this
  ·rcases bY.1 ho with rfl | ho
   ·exact⟨(UH h.1).1,(UH e1.1.1).1⟩
   ·exact ih.2.2 o ho
theorem awS{r:gO}(h:uh r):uh (we r).2/\(we r).1.length<=12/\∀s∈(we r).1,aN4 s:=by have e1:=si h;have ih:=akm (O8 12 (dD r).2).1.toNat (awO e1.1.1 12);have:=awN e1.1.1.1 (m:=12) (by decide);exact⟨ih.1.1,by show(Gx _ _).1.length<=12;rw[ih.2.1];omega,ih.2.2⟩
theorem aM2{r:gO}{w:UR×gO}(h:uh r)(hw:auO r=some w):Ov r w.2 (DO w.1)/\Yp w.1/\w.1.2.1.length<=12:=by
 unfold auO at hw;split at hw
 ·cases hw
 ·rename_i hc;cases hw;have e1:=si h;have hc:0<=(O8 12 (dD r).2).1:=ak;have e2:=aQe e1.1.1 hc;have e3:=akm (O8 12 (dD r).2).1.toNat e2.1.1;have g:=awS h;have e4:=K5 g.1;have hl:((we r).1.length:Int)=(O8 12 (dD r).2).1:=by show((Gx _ _).1.length:Int)=_;rw[e3.2.1];omega
  have:=((e1.1.trans e2.1).trans e3.1).trans e4;refine⟨this.of λ_=> ?_,⟨g.2.2,(UH g.1.1).1⟩,g.2.1⟩;unfold DO;simp only[hl,aF];rfl
theorem aqe:∀(l:List bC) {r:gO} {x:List gK×gO},uh r->Hz l r=some x->Ov r x.2 (x.1.flatMap λy=>DO y.2.1)/\x.1.map (·.1)=l/\∀y∈x.1,Yp y.2.1/\y.2.1.2.1.length<=12
 |[],r,x,h,hx=>by cases hx;exact⟨Ov.refl h,rfl,λx hx=>by cases hx⟩
 |o::l,r,x,h,hx=>by
  rw[Hz]at hx;split at hx
  ·cases hx
  ·rename_i w hw;have e:=aM2 h hw;split at hx
   ·cases hx
   ·rename_i y hy;cases hx;have ih:=aqe l e.1.1 hy;refine⟨?_,by rw[bQ,ih.2.1],λz hz=> ?_⟩
    ·have:=e.1.trans ih.1;rw[dx];exact this
    ·rcases bY.1 hz with rfl | hz
     ·exact e.2
     ·exact ih.2.2 z hz
def aJE(o:bC):Az:=(o,(0,none,0,()),())
def aSZ(x:gK):Az:=(x.1,(x.2.1.1,some x.2.1.2.1,x.2.1.2.2),())
def aUZ(x:Az):gK:=(x.1,(x.2.1.1,x.2.1.2.1.getD [],x.2.1.2.2),())
theorem aOw(l:List Az):aQt (.slice rR) (.slice gh) l=l.map aUZ:=b8
theorem aQc(l:List gK):(l.map aSZ).map aUZ=l:=by rw[List.map_map];have:(aUZ∘aSZ)=id:=rfl;rw[this,List.map_id]
theorem aL2{t:Ty}{l:List t.den}{k:Nat}{y:t.den}(h:k < l.length):nth t (l.set k y) k=y:=by simp[nth,h]
theorem aL1{t:Ty}{a b:List t.den}{k:Nat}{y:t.den}(h:a.length=k):nth t (a++y::b) k=y:=by subst h;simp[nth]
theorem aMD{α:Type}{a b:List α}{k:Nat}{y z:α}(h:a.length=k):(a++y::b).set k z=a++z::b:=by subst h;simp
theorem aBo{α:Type}{l:List α}{k:Nat}{y:α}:(l.set k y).take k=l.take k:=by rw[List.take_set,List.set_eq_of_length_le (by rw[bp];omega)]
theorem ayp{α:Type}{l:List α}{k:Nat}{y:α}:(l.set k y).drop (k+1)=l.drop (k+1):=List.drop_set_of_lt ak
def aAJ:gO->Prop:=λr=>rv r
def awx:gO->(Bs×gO):=λr=>Iq r
def acd:Fs Tryz.prog aAJ bu awx:=eN 122 Tryz.f122 (λo0=>([.ptr (.bm 0) 0 [] 0],[.obj 0 false (.d tZ o0)])) (λx=>⟨.d tH x.1,[.obj 0 false (.d tZ x.2)],[]⟩) [none] [acq]
theorem aHu{R:Type}(o0)(k:K1 R):acd.A o0 k=al (Ju.call (32,o0)) λx1=>aJ (decide ((ag x1.1)<=32)) (k (acd.out ((x1.1++(bR (ag x1.1) (ab 32 0))),x1.2))) none:=b8
theorem aHv:acd.Ok:=by intro r h;have h:rv r:=h;have e:=(z6 (n:=32) h).1;rw[aHu,Uk (d:=(32,r)) ⟨by decide,h.1⟩];simp only[ah,bu,Yh];rw[show ae 32=32 from rfl,aM e];rfl
theorem aAK:acd.RS:=rE [.d tZ] acd
def aHw:=acd.eU aHv
def atv:gO->Prop:=λr=>rv r
def ab5:gO->(Bs×gO):=λr=>HE r
def Jo:Fs Tryz.prog atv bu ab5:=eN 124 Tryz.f124 (λo0=>([.ptr (.bm 0) 0 [] 0],[.obj 0 false (.d tZ o0)])) (λx=>⟨.d tB x.1,[.obj 0 false (.d tZ x.2)],[]⟩) [none] [Yf,acq] {res:=[some tB],NF:=[⟨0,[.arr],tZ⟩]}
theorem aAC{R:Type}(o0)(k:K1 R):Jo.A o0 k=al (DE.call o0) λx1=>aJ (x1.2.2.1) (k (Jo.out (([]:List Int),x1.2))) (al (Ju.call (x1.1,x1.2)) λx2=>k (Jo.out (x2.1,x2.2))):=b8
theorem aAD:Jo.Ok:=by
 intro r h;have h:rv r:=h;have e:=sh h;rw[aAC,pO (d:=r) h];simp only[ah,bu,vZ,bu,ab5,HE];cases hc:(dD r).2.2.1
 ·rw[ao,Uk (d:=((dD r).1,(dD r).2)) ⟨e.1,e.2.2.1⟩];rfl
 ·rfl
theorem atw:Jo.RS:=rE [.d tZ] Jo
def aAE:=Jo.eU aAD
def aBO:(Int×gO)->Prop:=λ(m,r)=>rv r
def Sc:(Int×gO)->(Int×gO):=λ(m,r)=>O8 m r
def MX:Fs Tryz.prog aBO bu Sc:=eN 120 Tryz.f120 (λ(most,o1)=>([.d ti most,.ptr (.bm 0) 0 [] 0],[.obj 0 false (.ptr (.bm 1) 0 [] 0),.obj 0 false (.d tZ o1)])) (λx=>⟨.d ti x.1,[.obj 0 false (.ptr (.bm 1) 0 [] 0),.obj 0 false (.d tZ x.2)],[]⟩) [some ti,none] [Yf]
theorem aIK{R:Type}(most o1)(k:K1 R):MX.A (most,o1) k=al (DE.call o1) λx1=>aJ ((qZ x1.1 most)) (k (MX.out ((-1),x1.2))) (k (MX.out (x1.1,x1.2))):=b8
theorem aIL:MX.Ok:=by
 rintro⟨m,r⟩ h;have h:rv r:=h;rw[aIK,pO (d:=r) h];simp only[ah,bu,vZ,bu,Sc,O8];by_cases hc:(dD r).1 > m
 ·rw[cP hc,if_pos hc];rfl
 ·rw[cr hc,if_neg hc];rfl
theorem UF:MX.RS:=rE [.d ti,.d tZ] MX
def aIM:=MX.eU aIL
abbrev OX:=Int×Int×Int×(Int×Unit)×Nat×(Int×Unit)×gO×(List Az)
abbrev ac9:=Nat×gO×(List Az)
def z7:OX->ac9->((Int×(Int×Unit)×(Int×Unit))×(Nat×gO×(List Az))):=λ(n,t20,t21,n2,aLT,n4,n16,n32) y=>((n,n2,n4),y)
abbrev BI:=Int×Int×Int×Int×(Int×Unit)×Nat×Nat×(Int×Unit)×gO×(List Az)×(List gm)
def pW:BI->AS:=λ(wJ,m,t37,t38,kQ,V6,Mk,Bg,aaR,V4,aNO)=>⟨([bF,bF,eT 2,bF,eT 4,eT 5,.fn 120 (.cons (eT 5) (.nil)),.d ti wJ,.d ti m]++aP 28 ([.d ti t37,.d ti t38]++aP 93 [])),[],([[],[],dK (.pr (.de) (.pr (.de) (.d (.pair ti .unit) kQ))),[],dK (.pr (om 32 V6) (.pr (om 58 Mk) (.d (.pair ti .unit) Bg))),dK (eT 16)]++bM 10 ([dK (.d tZ aaR)]++bM 15 ([dK (.vec 86 rR V4)]++bM 25 ([dK (.vec 79 gl aNO)]++bM 73 []))))⟩
def qS:(Int×Unit)->Exit×AS:=λx=>(.ret,⟨([bF,bF,eT 2,.d .bool false]++aP 128 []),[],([[],[],dK (.pr (.de) (.pr (.de) (.d (.pair ti .unit) x)))]++bM 129 [])⟩)
abbrev WO:=(Int×Int×(Int×Unit)×Nat×(Int×Unit)×(List Az))×(Nat×gO×(List gm))
def Aa:WO->Exit×AS:=λx=>(.exit 2,⟨([bF,bF,eT 2,bF,eT 4,eT 5,.fn 120 (.cons (eT 5) (.nil)),.d ti x.1.1,.d ti x.1.2.1]++aP 123 []),[],([[],[],dK (.pr (.de) (.pr (.de) (.d (.pair ti .unit) x.1.2.2.1))),[],dK (.pr (om 32 x.1.2.2.2.1) (.pr (om 58 x.2.1) (.d (.pair ti .unit) x.1.2.2.2.2.1))),dK (eT 16)]++bM 10 ([dK (.d tZ x.2.2.1)]++bM 15 ([dK (.vec 86 rR x.1.2.2.2.2.2)]++bM 25 ([dK (.vec 79 gl x.2.2.2)]++bM 73 []))))⟩)
abbrev OZ:=((Int×Unit))⊕(WO)
abbrev adb:=((Int×Unit))⊕((Nat×gO×(List gm)))
def GJ:OZ->Out (Exit×AS):=λx=> .br x.isLeft (.get x.getLeft? λa=> .ok (qS a)) (.get x.getRight? λb=> .ok (Aa b))
def lX:BI->adb->OZ:=λ(wJ,m,t37,t38,kQ,V6,Mk,Bg,aaR,V4,aNO) y=>match y with | .inl y=> .inl y | .inr z=> .inr (((wJ,m,kQ,V6,Bg,V4),z))
abbrev BJ:=Int×Int×Int×Int×(Int×Unit)×Nat×Nat×(Int×Unit)×gO×(List Az)×(List gm)
def pY:BJ->AS:=λ(aPz,av9,t66,t67,th,V7,aa2,Q3,aaS,fS,aa6)=>⟨([bF,bF,eT 2,bF,eT 4,eT 5,.fn 120 (.cons (eT 5) (.nil)),.d ti aPz,.d ti av9]++aP 57 ([.d ti t66,.d ti t67]++aP 64 [])),[],([[],[],dK (.pr (.de) (.pr (.de) (.d (.pair ti .unit) th))),[],dK (.pr (om 32 V7) (.pr (om 58 aa2) (.d (.pair ti .unit) Q3))),dK (eT 16)]++bM 10 ([dK (.d tZ aaS)]++bM 15 ([dK (.vec 86 rR fS)]++bM 25 ([dK (.vec 79 gl aa6)]++bM 73 []))))⟩
def qT:(Int×Unit)->Exit×AS:=λx=>(.ret,⟨([bF,bF,eT 2,.d .bool false]++aP 128 []),[],([[],[],dK (.pr (.de) (.pr (.de) (.d (.pair ti .unit) x)))]++bM 129 [])⟩)
abbrev WR:=Int×Int×(Int×Unit)×Nat×Nat×(Int×Unit)×gO×(List Az)×(List gm)
def Ad:WR->Exit×AS:=λx=>(.exit 4,⟨([bF,bF,eT 2,bF,eT 4,eT 5,bF,.d ti x.1,.d ti x.2.1]++aP 123 []),[],([[],[],dK (.pr (.de) (.pr (.de) (.d (.pair ti .unit) x.2.2.1))),[],dK (.pr (om 32 x.2.2.2.1) (.pr (om 58 x.2.2.2.2.1) (.d (.pair ti .unit) x.2.2.2.2.2.1))),dK (eT 16)]++bM 10 ([dK (.d tZ x.2.2.2.2.2.2.1)]++bM 15 ([dK (.vec 86 rR x.2.2.2.2.2.2.2.1)]++bM 25 ([dK (.vec 79 gl x.2.2.2.2.2.2.2.2)]++bM 73 []))))⟩)
abbrev O1:=((Int×Unit))⊕(WR)
abbrev adf:=((Int×Unit))⊕((Int×Int×(Int×Unit)×Nat×Nat×(Int×Unit)×gO×(List Az)×(List gm)))
def GK:O1->Out (Exit×AS):=λx=> .br x.isLeft (.get x.getLeft? λa=> .ok (qT a)) (.get x.getRight? λb=> .ok (Ad b))
def lY:BJ->adf->O1:=λ(aPz,av9,t66,t67,th,V7,aa2,Q3,aaS,fS,aa6) y=>match y with | .inl y=> .inl y | .inr z=> .inr (z)
abbrev O2:=Int×Int×Int×Int×Int×Int×(Int×Unit)×Nat×Nat×(Int×Unit)×gO×(List Az)×bC×Int×Nat×(Int×Unit)×(List Az)×(List gm)×(List Sg)
abbrev adg:=gO×(List Az)×(List Sg)
def Ae:O2->adg->((Int×Int×Int×Int×(Int×Unit)×Nat×Nat×(Int×Unit)×(List gm))×(gO×(List Az)×(List Sg))):=λ(aPA,aPs,acV,ES,t85,t86,Om,aa3,aa4,asG,agw,agy,agz,agA,aef,agB,aa1,aa7,n99) y=>((aPA,aPs,acV,ES,Om,aa3,aa4,asG,aa7),y)
def akF:OX->Prop:=λ(n,m,i,u,L,v,r,l)=>uh r/\m<=64/\∃k:Nat,i=k/\k<=64/\L=l.length/\l.length=k
def GI:OX->ac9:=λ(n,m,i,u,L,v,r,l)=>(L+(m - i).toNat,(Lj (m - i).toNat r).2,l++(Lj (m - i).toNat r).1.map aJE)
def z8:BI->Prop:=λ(n,m1,m,i,u,L,L2,v,r,l,os)=>uh r/\m<=64/\∃k:Nat,i=k/\k<=64/\L2=os.length/\os.length=k
def pV:BI->adb:=λ(n,m1,m,i,u,L,L2,v,r,l,os)=>match Hd (m - i).toNat r with | none=> .inl (0,()) | some x=> .inr (L2+x.1.length,x.2,os++x.1)
def akJ:O2->Prop:=λ(n,m1,mo,io,m,i,u,L,L2,v,r,la,op,br,Ls,sc,lb,os,sg)=>uh r/\m<=12/\∃k:Nat,i=k/\k<=12/\Ls=sg.length/\sg.length=k
def GL:O2->adg:=λ(n,m1,mo,io,m,i,u,L,L2,v,r,la,op,br,Ls,sc,lb,os,sg)=>((Gx (m - i).toNat r).2,la++(op,(br,some (sg++(Gx (m - i).toNat r).1),sc),())::lb,sg++(Gx (m - i).toNat r).1)
def Ac:BJ->Prop:=λ(n,m1,m,i,u,L,L2,v,r,l,os)=>uh r/\l.length<=64/\∃k:Nat,i=k/\k<=l.length/\m=l.length/\L=l.length/\∀x∈l.drop k,x=aJE x.1
def pX:BJ->adf:=λ(n,m1,m,i,u,L,L2,v,r,l,os)=>match Hz ((l.drop i.toNat).map (·.1)) r with | none=> .inl (0,()) | some x=> .inr (n,m1,u,L,L2,v,x.2,l.take i.toNat++x.1.map aSZ,os)
def aBw:Bs->Prop:=λb=>Bytes b/\b.length<=1000000000
def akE:Bs->(dw×Bool):=λb=>ab6 b
def vb:Ls akF z7 GI:=rp (λ(n,t20,t21,n2,aLT,n4,n16,n32)=>⟨([bF,bF,eT 2,bF,eT 4,eT 5,.fn 120 (.cons (eT 5) (.nil)),.d ti n]++aP 12 ([.d ti t20,.d ti t21]++aP 110 [])),[],([[],[],dK (.pr (.de) (.pr (.de) (.d (.pair ti .unit) n2))),[],dK (.pr (om 32 aLT) (.pr (.de) (.d (.pair ti .unit) n4))),dK (eT 16)]++bM 10 ([dK (.d tZ n16)]++bM 15 ([dK (.vec 86 rR n32)]++bM 99 [])))⟩) (λx=>(.exit 0,⟨([bF,bF,eT 2,bF,eT 4,eT 5,.fn 120 (.cons (eT 5) (.nil)),.d ti x.1.1]++aP 124 []),[],([[],[],dK (.pr (.de) (.pr (.de) (.d (.pair ti .unit) x.1.2.1))),[],dK (.pr (om 32 x.2.1) (.pr (.de) (.d (.pair ti .unit) x.1.2.2))),dK (eT 16)]++bM 10 ([dK (.d tZ x.2.2.1)]++bM 15 ([dK (.vec 86 rR x.2.2.2)]++bM 99 [])))⟩))
def ada:=dz.fv pW z8 lX pV GJ
def MQ:BI->Option OZ:=gM ada pW
def ade:=dz.fv pY Ac lY pX GK
def MS:BJ->Option O1:=gM ade pY
def vc:Ls akJ Ae GL:=rp (λ(aPA,aPs,acV,ES,t85,t86,Om,aa3,aa4,asG,agw,agy,agz,agA,aef,agB,aa1,aa7,n99)=>⟨([bF,bF,eT 2,bF,eT 4,eT 5,.fn 120 (.cons (eT 5) (.nil)),.d ti aPA,.d ti aPs]++aP 4 ([.ptr (.new 32 0) 0 [.snd,.fst,.snd,.fst] ((0+((ae ES)*36))+33)]++aP 52 ([.d ti acV,.d ti ES]++aP 17 ([.d ti t85,.d ti t86]++aP 45 [])))),[],([[],[],dK (.pr (.de) (.pr (.de) (.d (.pair ti .unit) Om))),[],dK (.pr (om 32 aa3) (.pr (om 58 aa4) (.d (.pair ti .unit) asG))),dK (eT 16)]++bM 10 ([dK (.d tZ agw)]++bM 15 ([dK (.bx 86 36 (.pr (.d (.arr (0+(ae ES)) rR) agy) (.pr (.pr (.d bg agz) (.pr (.pr (.d ti agA) (.pr (om 99 aef) (.d (.pair tu .unit) agB))) fC)) (.d (.arr (ag aa1) rR) aa1))))]++bM 25 ([dK (.vec 79 gl aa7)]++bM 40 ([dK (.vec 143 Av n99)]++bM 32 [])))))⟩) (λx=>(.exit 6,⟨([bF,bF,eT 2,bF,eT 4,eT 5,.fn 120 (.cons (eT 5) (.nil)),.d ti x.1.1,.d ti x.1.2.1]++aP 4 ([.ptr (.new 32 0) 0 [.idx (0+(ae x.1.2.2.2.1)),.snd,.fst] ((0+((ae x.1.2.2.2.1)*36))+33)]++aP 52 ([.d ti x.1.2.2.1,.d ti x.1.2.2.2.1]++aP 64 []))),[],([[],[],dK (.pr (.de) (.pr (.de) (.d (.pair ti .unit) x.1.2.2.2.2.1))),[],dK (.pr (om 32 x.1.2.2.2.2.2.1) (.pr (om 58 x.1.2.2.2.2.2.2.1) (.d (.pair ti .unit) x.1.2.2.2.2.2.2.2.1))),dK (eT 16)]++bM 10 ([dK (.d tZ x.2.1)]++bM 15 ([dK (.vec 86 rR x.2.2.1)]++bM 25 ([dK (.vec 79 gl x.1.2.2.2.2.2.2.2.2)]++bM 40 ([[.obj 0 true (.vec 143 Av x.2.2.2)]]++bM 32 [])))))⟩))
def kR:Fs Tryz.prog aBw bu akE:=eN 73 Tryz.f73 (λb=>([.d tB b],[])) (λx=>⟨.cons (.d ez x.1) (.cons (.d .bool x.2) (.nil)),[],[]⟩) [some tB] [ao8,aIM,aHw,Yf,aAE,aGe,awC,aMq,aHz,tV] {bJ:=[100031,100032],loops:=nY [(6,{aV:=[2,4,5,6,7,20,21],sites:=[2,4,5,16,32],owns:=[⟨4,[.fst],32,100053⟩]}),(11,{aV:=[2,4,5,6,7,8,37,38],sites:=[2,4,5,16,32,58],owns:=[⟨4,[.snd,.fst],58,22⟩]}),(21,{aV:=[2,4,5,6,7,8,66,67],sites:=[2,4,5,16,32,58]}),(29,{aV:=[2,4,5,6,7,8,13,66,67,85,86],sites:=[2,4,5,16,32,58,99],owns:=[⟨13,[.snd,.fst],99,82⟩],aVj:=[13]})],outs:=nX [(6,{aV:=[2,4,5,6,7],sites:=[2,4,5,16,32]},{aV:=[2,3]}),(11,{aV:=[2,4,5,6,7,8],sites:=[2,4,5,16,32,58]},{aV:=[2,3],sites:=[2]}),(21,{aV:=[2,4,5,7,8],sites:=[2,4,5,16,32,58]},{aV:=[2,3],sites:=[2]}),(29,{aV:=[2,4,5,6,7,8,13,66,67],sites:=[2,4,5,16,32,58,99],aV1:=[13]},{aV:=[2,3]})],fF:=nK [(6,vb.E),(11,ada),(21,ade),(29,vc.E)],res:=[some ez,none]}
def OY:= @eC Tryz.prog (jI kR.G) kR.an 0 Tryz.f73 1 _ pW
abbrev WN:=kP Tryz.prog (jI kR.G) kR.an 0 Tryz.f73 1 pW z8 lX pV GJ
def O0:= @eC Tryz.prog (jI kR.G) kR.an 0 Tryz.f73 2 _ pY
abbrev WQ:=kP Tryz.prog (jI kR.G) kR.an 0 Tryz.f73 2 pY Ac lY pX GK
theorem akG:vb.RS:=rL [.d ti,.d ti,.d ti,.d (.pair ti .unit),.n,.d (.pair ti .unit),.d tZ,.d (.slice rR)] vb
theorem MP{R:Type}(n t20 t21 n2 aLT n4 n16 n32)(kn:K2 R)(kx:K3 R):kR.R 0 vb (n,t20,t21,n2,aLT,n4,n16,n32) kn kx=aJ ((gr t21 t20)) (al (acd.call n16) λx7=>al (DE.call x7.2) λx8=>aJ (decide (aLT<=(ag n32))) (aJ (db (aLT+1) 80) (kn (vb.st (n,t20,(bI .i64 t21 1),n2,(aLT+1),n4,x8.2,((aR aLT n32)++ [((x7.1,(x8.1,())),((0,(none,(0,()))),()))])))) none) none) (vb.go kx ((n,n2,n4),(aLT,n16,n32))):=b8
theorem akH:jf MQ z8 lX pV:=mn (jx [.d ti,.d ti,.d ti,.d ti,.d (.pair ti .unit),.n,.n,.d (.pair ti .unit),.d tZ,.d (.slice rR),.d (.slice gl)] λ_=>b8)
theorem R7:nq @OY pW z8 lX pV GJ WN:=oa
theorem MR{R:Type}(wJ:Int)(m:Int)(t37:Int)(t38:Int)(kQ:(Int×Unit))(V6:Nat)(Mk:Nat)(Bg:(Int×Unit))(aaR:gO)(V4:(List Az))(aNO:(List gm))(kn:AS->Option R)(kx:Exit->AS->Option R):OY (wJ,m,t37,t38,kQ,V6,Mk,Bg,aaR,V4,aNO) kn kx=aJ ((gr t38 t37)) (al (DE.call aaR) λafd=>al (Jo.call afd.2) λaV3=>al (Bd.call aV3.1) λPb=>aJ ((!Pb.2)) (kx (qS ((0:Int),())).1 (qS ((0:Int),())).2) (aJ (decide (Mk<=(ag aNO))) (aJ (db (Mk+1) 32) (kn (pW (wJ,m,t37,(bI .i64 t38 (1:Int)),kQ,V6,(Mk+1),Bg,aV3.2,V4,((aR Mk aNO)++ [(afd.1,(Pb.1,()))])))) none) none)) (kx (Aa ((wJ,m,kQ,V6,Bg,V4),(Mk,aaR,aNO))).1 (Aa ((wJ,m,kQ,V6,Bg,V4),(Mk,aaR,aNO))).2):=b8
theorem akI:jf MS Ac lY pX:=mn (jx [.d ti,.d ti,.d ti,.d ti,.d (.pair ti .unit),.n,.n,.d (.pair ti .unit),.d tZ,.d (.slice rR),.d (.slice gl)] λ_=>b8)
theorem R8:nq @O0 pY Ac lY pX GK WQ:=oa
theorem MT{R:Type}(aPz:Int)(av9:Int)(t66:Int)(t67:Int)(th:(Int×Unit))(V7:Nat)(aa2:Nat)(Q3:(Int×Unit))(aaS:gO)(fS:(List Az))(aa6:(List gm))(kn:AS->Option R)(kx:Exit->AS->Option R):O0 (aPz,av9,t66,t67,th,V7,aa2,Q3,aaS,fS,aa6) kn kx=aJ ((gr t67 t66)) (aJ (ed t67 ((V7:Nat):Int)) (al (DE.call aaS) λafd=>aJ (decide ((0+(ae t67)) < (ag fS))) (aJ (decide ((((0+(ae t67))*36)+33)=(((0+((ae t67)*36))+33)+0))) (aJ (decide ((0+(ae t67)) < (ag fS))) (al (MX.call ((12:Int),afd.2)) λyr=>aJ ((gr yr.1 (0:Int))) (kx (qT ((0:Int),())).1 (qT ((0:Int),())).2) (aJ (decide ((0+(ae t67)) < (ag (fX fS (0+(ae t67)) ((nth rR fS (0+(ae t67))).1,((afd.1,(nth rR fS (0+(ae t67))).2.1.2),(nth rR fS (0+(ae t67))).2.2)))))) (aJ ((Option.isNone (nth rR (fX fS (0+(ae t67)) ((nth rR fS (0+(ae t67))).1,((afd.1,(nth rR fS (0+(ae t67))).2.1.2),(nth rR fS (0+(ae t67))).2.2))) (0+(ae t67))).2.1.2.1)) (al (vc.call (aPz,av9,t66,t67,yr.1,(0:Int),th,V7,aa2,Q3,yr.2,(aR (0+(ae t67)) (fX fS (0+(ae t67)) ((nth rR fS (0+(ae t67))).1,((afd.1,(nth rR fS (0+(ae t67))).2.1.2),(nth rR fS (0+(ae t67))).2.2)))),((nth rR (fX fS (0+(ae t67)) ((nth rR fS (0+(ae t67))).1,((afd.1,(nth rR fS (0+(ae t67))).2.1.2),(nth rR fS (0+(ae t67))).2.2))) (0+(ae t67))).1.1,((nth rR (fX fS (0+(ae t67)) ((nth rR fS (0+(ae t67))).1,((afd.1,(nth rR fS (0+(ae t67))).2.1.2),(nth rR fS (0+(ae t67))).2.2))) (0+(ae t67))).1.2.1,(nth rR (fX fS (0+(ae t67)) ((nth rR fS (0+(ae t67))).1,((afd.1,(nth rR fS (0+(ae t67))).2.1.2),(nth rR fS (0+(ae t67))).2.2))) (0+(ae t67))).1.2.2)),(nth rR (fX fS (0+(ae t67)) ((nth rR fS (0+(ae t67))).1,((afd.1,(nth rR fS (0+(ae t67))).2.1.2),(nth rR fS (0+(ae t67))).2.2))) (0+(ae t67))).2.1.1,0,((nth rR (fX fS (0+(ae t67)) ((nth rR fS (0+(ae t67))).1,((afd.1,(nth rR fS (0+(ae t67))).2.1.2),(nth rR fS (0+(ae t67))).2.2))) (0+(ae t67))).2.1.2.2.1,(nth rR (fX fS (0+(ae t67)) ((nth rR fS (0+(ae t67))).1,((afd.1,(nth rR fS (0+(ae t67))).2.1.2),(nth rR fS (0+(ae t67))).2.2))) (0+(ae t67))).2.1.2.2.2),(bR ((0+(ae t67))+1) (fX fS (0+(ae t67)) ((nth rR fS (0+(ae t67))).1,((afd.1,(nth rR fS (0+(ae t67))).2.1.2),(nth rR fS (0+(ae t67))).2.2)))),aa6,([]:List Sg))) λDR=>al (RH.call DR.2.1) λPb=>aJ (decide ((0+(ae DR.1.2.2.2.1)) < (ag DR.2.2.1))) (aJ (decide ((((0+(ae DR.1.2.2.2.1))*36)+35)=(((0+((ae DR.1.2.2.2.1)*36))+33)+2))) (aJ (decide ((0+(ae DR.1.2.2.2.1)) < (ag DR.2.2.1))) (kn (pY (DR.1.1,DR.1.2.1,DR.1.2.2.1,(bI .i64 DR.1.2.2.2.1 (1:Int)),DR.1.2.2.2.2.1,DR.1.2.2.2.2.2.1,DR.1.2.2.2.2.2.2.1,DR.1.2.2.2.2.2.2.2.1,Pb.2,(fX DR.2.2.1 (0+(ae DR.1.2.2.2.1)) ((nth rR DR.2.2.1 (0+(ae DR.1.2.2.2.1))).1,(((nth rR DR.2.2.1 (0+(ae DR.1.2.2.2.1))).2.1.1,((nth rR DR.2.2.1 (0+(ae DR.1.2.2.2.1))).2.1.2.1,(Pb.1,(nth rR DR.2.2.1 (0+(ae DR.1.2.2.2.1))).2.1.2.2.2))),(nth rR DR.2.2.1 (0+(ae DR.1.2.2.2.1))).2.2))),DR.1.2.2.2.2.2.2.2.2))) none) none) none) none) none)) none) none) none) none) (kx (Ad (aPz,av9,th,V7,aa2,Q3,aaS,fS,aa6)).1 (Ad (aPz,av9,th,V7,aa2,Q3,aaS,fS,aa6)).2):=b8
theorem akK:vc.RS:=rL [.d ti,.d ti,.d ti,.d ti,.d ti,.d ti,.d (.pair ti .unit),.n,.n,.d (.pair ti .unit),.d tZ,.d (.slice rR),.d bg,.d ti,.n,.d (.pair tu .unit),.d (.slice rR),.d (.slice gl),.d (.slice Av)] vc
theorem MU{R:Type}(aPA aPs acV ES t85 t86 Om aa3 aa4 asG agw agy agz agA aef agB aa1 aa7 n99)(kn:K2 R)(kx:K3 R):kR.R 3 vc (aPA,aPs,acV,ES,t85,t86,Om,aa3,aa4,asG,agw,agy,agz,agA,aef,agB,aa1,aa7,n99) kn kx=aJ ((gr t86 t85)) (aJ (decide ((((0+(ae ES))*36)+34)=(((0+((ae ES)*36))+33)+1))) (al (RH.call agw) λx7=>al (RH.call x7.2) λx8=>aJ (decide (aef<=(ag n99))) (aJ (db (aef+1) 16) (aJ (decide ((((0+(ae ES))*36)+34)=(((0+((ae ES)*36))+33)+1))) (kn (vc.st (aPA,aPs,acV,ES,t85,(bI .i64 t86 1),Om,aa3,aa4,asG,x8.2,agy,agz,agA,(aef+1),agB,aa1,aa7,((aR aef n99)++ [(x7.1,(x8.1,()))])))) none) none) none) none) (aJ (decide (0=0/\(0+aef)<=(ag n99))) (vc.go kx ((aPA,aPs,acV,ES,Om,aa3,aa4,asG,aa7),(agw,(agy++(agz,((agA,((some (cut n99 0 aef)),agB)),()))::aa1),n99))) none):=b8
theorem aIA{R:Type}(b)(k:K1 R):kR.A b k=al (Wv.call b) λx4=>al (MX.call (64,x4)) λx8=>al (vb.call (x8.1,x8.1,0,(0,()),0,(0,()),x8.2,([]:List Az))) λadG=>al (MX.call (64,adG.2.2.1)) λahw=>al (MQ (adG.1.1,ahw.1,ahw.1,0,adG.1.2.1,adG.2.1,0,adG.1.2.2,ahw.2,adG.2.2.2,([]:List gm))) λaN0=>aJ (aN0.isLeft) (al (aN0.getLeft?) λa83=>k (kR.out ((([]:List gK),(([]:List gm),a83)),false))) (al (aN0.getRight?) λb84=>al (DE.call b84.2.2.1) λaV5=>al (MS (b84.1.1,b84.1.2.1,((b84.1.2.2.2.1:Nat):Int),0,b84.1.2.2.1,b84.1.2.2.2.1,b84.2.1,(aV5.1,b84.1.2.2.2.2.1.2),aV5.2,b84.1.2.2.2.2.2,b84.2.2.2)) λafc=>aJ (afc.isLeft) (al (afc.getLeft?) λa125=>k (kR.out ((([]:List gK),(([]:List gm),a125)),false))) (al (afc.getRight?) λb126=>aJ ((gr b126.1 0)) (k (kR.out ((([]:List gK),(([]:List gm),(0,()))),false))) (aJ ((gr b126.2.1 0)) (k (kR.out ((([]:List gK),(([]:List gm),(0,()))),false))) (al (atG.call b126.2.2.2.2.2.2.1) λaM9=>aJ ((!aM9.2)) (k (kR.out ((([]:List gK),(([]:List gm),(0,()))),false))) (al (ace.call aM9.1) λoq=>aJ ((qZ oq.2 0)) (k (kR.out ((([]:List gK),(([]:List gm),(0,()))),false))) (aJ (decide (0=0/\(0+b126.2.2.2.1)<=(ag b126.2.2.2.2.2.2.2.1))) (aJ (decide (0=0/\(0+b126.2.2.2.2.1)<=(ag b126.2.2.2.2.2.2.2.2))) (al (iN.call ((aQt (.slice rR) (.slice gh) (cut b126.2.2.2.2.2.2.2.1 0 b126.2.2.2.1)),((cut b126.2.2.2.2.2.2.2.2 0 b126.2.2.2.2.1),b126.2.2.2.2.2.1))) λaqm=>aJ ((!aqm)) (k (kR.out ((([]:List gK),(([]:List gm),(0,()))),false))) (aJ (decide (0=0/\(0+b126.2.2.2.1)<=(ag b126.2.2.2.2.2.2.2.1))) (aJ (decide (0=0/\(0+b126.2.2.2.2.1)<=(ag b126.2.2.2.2.2.2.2.2))) (k (kR.out (((aQt (.slice rR) (.slice gh) (cut b126.2.2.2.2.2.2.2.1 0 b126.2.2.2.1)),((cut b126.2.2.2.2.2.2.2.2 0 b126.2.2.2.2.1),b126.2.2.2.2.2.1)),true))) none) none)) none) none)))))):=b8
theorem apZ:(kR.kM 0 vb):=by
 refine(kR.mf 0 vb) (λ(n,m,i,u,L,v,r,l)=>(m - i).toNat) ?_
 rintro⟨n,m,i,u,L,v,r,l⟩ ⟨hr,hm,k,rfl,hk,rfl,ald⟩;have hr:uh r:=hr;have hm:m<=64:=hm;have ald:l.length=k:=ald;by_cases h:(k:Int) < m
 ·left;have e1:(m - (k:Int)).toNat=(m - ((k+1:Nat):Int)).toNat+1:=ak;have h1:=ang hr;refine⟨(n,m,((k+1:Nat):Int),u,l.length+1,v,(aNR r).2,l++ [aJE (aNR r).1]),⟨(si h1.1).1.1,hm,k+1,rfl,ak,by rw[ai];rfl,by rw[ai];show l.length+1=_;omega⟩,by show(m - ((k+1:Nat):Int)).toNat < (m - (k:Int)).toNat;omega,?_,λkn kx=> ?_⟩
  ·simp only[z7,GI,e1,Lj,bQ,aF,c9];rw[show ∀a c:Nat,a+1+c=a+(c+1) from λa c=>ak]
  ·rw[MP,aU h,aAK (d:=r) hr.1];simp only[aj,ah,bu,awx];rw[pO (d:=(Iq r).2) h1.1.1];simp only[ah,bu,vZ];rw[aM (ax _),dr ak ak,N.mD ak,bK];rfl
 ·right;intro R kn kx;have e1:(m - (k:Int)).toNat=0:=ak;rw[MP,aQ h,ao];simp only[z7,GI,e1,Lj,iq,aZ,cq]
theorem ap0:WN:=by
 refine R7 (λ(n,m1,m,i,u,L,L2,v,r,l,os)=>(m - i).toNat) ?_
 rintro⟨n,m1,m,i,u,L,L2,v,r,l,os⟩ ⟨hr,hm,k,rfl,hk,rfl,ald⟩;have hr:uh r:=hr;have hm:m<=64:=hm;have ald:os.length=k:=ald;by_cases h:(k:Int) < m
 ·have e1:(m - (k:Int)).toNat=(m - ((k+1:Nat):Int)).toNat+1:=ak;have h1:=si hr;have h2:=ahV h1.1.1;have step:∀ {R:Type} (kn:AS->Option R) (kx:Exit->AS->Option R),OY (n,m1,m,(k:Int),u,L,os.length,v,r,l,os) kn kx=aJ (!(Hi (HE (dD r).2).1).2) (kx (qS (0,())).1 (qS (0,())).2) (kn (pW (n,m1,m,((k+1:Nat):Int),u,L,os.length+1,v,(abo r).2,l,os++ [(abo r).1]))):=by intro R kn kx;rw[MR,aU h,pO (d:=r) hr.1];simp only[aj,ah,bu,vZ];rw[atw (d:=(dD r).2) h1.1.1.1];simp only[ah,bu,ab5];rw[azq (d:=(HE (dD r).2).1) ⟨h2.2.1,h2.2.2⟩];simp only[ah,bu,ajo];rw[aM (ax _),dr ak ak,N.mD ak,bK];rfl
  cases hp:(Hi (HE (dD r).2).1).2
  ·right;refine⟨qS (0,()),?_,λkn kx=> ?_⟩
   ·simp only[lX,pV,e1,Hd,hp,bn,bt];rfl
   ·rw[step,hp];rfl
  ·left;refine⟨(n,m1,m,((k+1:Nat):Int),u,L,os.length+1,v,(abo r).2,l,os++ [(abo r).1]),⟨h2.1.1,hm,k+1,rfl,ak,by rw[ai];rfl,by rw[ai];show os.length+1=_;omega⟩,by show(m - ((k+1:Nat):Int)).toNat < (m - (k:Int)).toNat;omega,?_,λkn kx=> ?_⟩
   ·simp only[lX,pV,e1,Hd,hp,bG];cases Hd (m - ((k+1:Nat):Int)).toNat (abo r).2 with
    |none=>rfl
    |some x=>
     simp only[aA,aF,c9];rw[show ∀a c:Nat,a+1+c=a+(c+1) from λa c=>ak]
   ·rw[step,hp];rfl
 ·right;have e1:(m - (k:Int)).toNat=0:=ak;refine⟨Aa ((n,m1,u,L,v,l),(os.length,r,os)),?_,λkn kx=> ?_⟩
  ·simp only[lX,pV,e1,Hd,ba,cq,aZ];rfl
  ·rw[MR,aQ h,ao]
theorem ap2:(kR.kM 3 vc):=by
 refine(kR.mf 3 vc) (λ(n,m1,mo,io,m,i,u,L,L2,v,r,la,op,br,Ls,sc,lb,os,sg)=>(m - i).toNat) ?_
 rintro⟨n,m1,mo,io,m,i,u,L,L2,v,r,la,op,br,Ls,sc,lb,os,sg⟩ ⟨hr,hm,k,rfl,hk,rfl,ald⟩;have hr:uh r:=hr;have hm:m<=12:=hm;have ald:sg.length=k:=ald;by_cases h:(k:Int) < m
 ·left;have e1:(m - (k:Int)).toNat=(m - ((k+1:Nat):Int)).toNat+1:=ak;have h1:=K5 hr;have h2:=K5 h1.1;refine⟨(n,m1,mo,io,m,((k+1:Nat):Int),u,L,L2,v,(aNW r).2,la,op,br,sg.length+1,sc,lb,os,sg++ [(aNW r).1]),⟨h2.1,hm,k+1,rfl,ak,by rw[ai];rfl,by rw[ai];show sg.length+1=_;omega⟩,by show(m - ((k+1:Nat):Int)).toNat < (m - (k:Int)).toNat;omega,?_,λkn kx=> ?_⟩
  ·simp only[Ae,GL,e1,Gx,aF,c9]
  ·rw[MU,aU h,aM ak,Jv (d:=r) hr.1];simp only[aj,ah,bu,Ul];rw[Jv (d:=(rU r).2) h1.1.1];simp only[ah,bu,Ul];rw[aM (ax _),dr ak ak,N.mD ak,bK];rfl
 ·right;intro R kn kx;have e1:(m - (k:Int)).toNat=0:=ak;rw[MU,aQ h,ao];simp only[Ae,GL,e1,Gx,aZ,aO,ax,jl,cv,aj,eY]
theorem ap1:WQ:=by
 refine R8 (λ(n,m1,m,i,u,L,L2,v,r,l,os)=>l.length - i.toNat) ?_
 rintro⟨n,m1,m,i,u,L,L2,v,r,l,os⟩ ⟨hr,hl,k,rfl,hk,rfl,rfl,hg⟩;have hr:uh r:=hr;have hl:l.length<=64:=hl;have hk:k<=l.length:=hk;by_cases h:k < l.length
 ·have n1:nth rR l k=l[k]:=cd (t:=rR) h;have hd:l.drop k=l[k]::l.drop (k+1):=aq h;have dm:l[k]=aJE l[k].1:=hg _ (by rw[hd];exact aI);obtain⟨op,aRR⟩:∃op,l[k].1=op:=⟨_,rfl⟩;rw[aRR]at dm;have h1:=si hr;have h2:=awO h1.1.1 12;have h3:=awN h1.1.1.1 (m:=12) (by decide);have hw:=awS hr;have hu:=K5 hw.1;have SC:(l.take k).length=k:=by rw[bp];omega
  have step:∀ {R:Type} (kn:AS->Option R) (kx:Exit->AS->Option R),O0 (n,m1,(l.length:Int),(k:Int),u,l.length,L2,v,r,l,os) kn kx=aJ (gr (O8 12 (dD r).2).1 0) (kx (qT (0,())).1 (qT (0,())).2) (kn (pY (n,m1,(l.length:Int),((k+1:Nat):Int),u,l.length,L2,v,(rU (we r).2).2,l.take k++(op,((dD r).1,some (we r).1,(rU (we r).2).1,()),())::l.drop (k+1),os))):=by
   intro R kn kx;rw[MT,aU ak,bj ak ak,pO (d:=r) hr.1];have ns:∀y:Az,nth rR (l.set k y) k=y:=λy=>aL2 (t:=rR) h
   have nm:∀(y:Az) (b:List Az),nth rR (l.take k++y::b) k=y:=λy b=>aL1 (t:=rR) SC
   simp only[aj,ah,bu,vZ,aa,aO,cq,n1,dm,aM h,cv];rw[UF (d:=(12,(dD r).2)) h1.1.1.1];simp only[aj,ah,bu,Sc];refine bo (λz=>aJ _ _ z) ?_
   simp only[rX,aM h,aj,aJE,ns,aBo,ayp,Option.isNone_none];rw[akK (d:=(n,m1,(l.length:Int),(k:Int),(O8 12 (dD r).2).1,0,u,l.length,L2,v,(O8 12 (dD r).2).2,l.take k,op,(dD r).1,0,(0,()),l.drop (k+1),os,[])) ⟨h2,h3.2,0,rfl,by decide,rfl,rfl⟩];simp only[ah,Ae,GL,qe,aT];rw[show Gx (O8 12 (dD r).2).1.toNat (O8 12 (dD r).2).2=we r from rfl,Jv (d:=(we r).2) hw.1.1];simp only[ah,bu,Ul,aa,nm,aMD SC,aM (show k < (l.take k++(op,((dD r).1,some (we r).1,0,()),())::l.drop (k+1)).length by rw[ai,aA];omega),eP,Nat.reduceAdd,cv,aj];rw[N.mD ak]
  by_cases hp:(O8 12 (dD r).2).1 < 0
  ·right;refine⟨qT (0,()),?_,λkn kx=> ?_⟩
   ·simp only[lY,pX,aa,hd,bQ,Hz,auO,if_pos hp];rfl
   ·rw[step,aU hp,aj]
  ·left;have ar5:(l.take k++(op,((dD r).1,some (we r).1,(rU (we r).2).1,()),())::l.drop (k+1)).length=l.length:=by rw[ai,aA,dp];omega
   have aSM:(l.take k++(op,((dD r).1,some (we r).1,(rU (we r).2).1,()),())::l.drop (k+1)).drop (k+1)=l.drop (k+1):=by rw[List.append_cons,kW (by rw[ai];show(l.take k).length+1=_;omega)]
   have aUj:(l.take k++(op,((dD r).1,some (we r).1,(rU (we r).2).1,()),())::l.drop (k+1)).take (k+1)=l.take k++ [(op,((dD r).1,some (we r).1,(rU (we r).2).1,()),())]:=by rw[List.append_cons,kX (by rw[ai];show(l.take k).length+1=_;omega)]
   refine⟨(n,m1,(l.length:Int),((k+1:Nat):Int),u,l.length,L2,v,(rU (we r).2).2,l.take k++(op,((dD r).1,some (we r).1,(rU (we r).2).1,()),())::l.drop (k+1),os),⟨hu.1,by rw[ar5];exact hl,k+1,rfl,by rw[ar5];omega,by rw[ar5],by rw[ar5],by rw[aSM];exact λx hx=>hg x (by rw[hd];exact aG _ hx)⟩,by simp only[aa,ar5];omega,?_,λkn kx=> ?_⟩
   ·simp only[lY,pX,aa,aSM,aUj,hd,bQ,Hz,auO,if_neg hp,aRR];cases Hz ((l.drop (k+1)).map (·.1)) (rU (we r).2).2 with
    |none=>rfl
    |some x=>
     simp only[bQ,aF,c9];rfl
   ·rw[step,aQ hp,ao]
 ·right;obtain rfl:k=l.length:=ak;refine⟨Ad (n,m1,u,l.length,L2,v,r,l,os),?_,λkn kx=> ?_⟩
  ·simp only[lY,pX,aa,aL,iq,Hz,bK,aZ];rfl
  ·rw[MT,aQ ak,ao]
theorem aLQ(l:List bC):(l.map aJE).map (·.1)=l:=by rw[List.map_map];have:((λx:Az=>x.1)∘aJE)=id:=rfl;rw[this,List.map_id]
theorem aIB:kR.Ok:=by
 rintro b ⟨hb,hl⟩;have hb:Bytes b:=hb;have hl:b.length<=1000000000:=hl;have k0:=aMj hb hl;have k1:=awO k0 64;have u1:=awN k0.1 (m:=64) (by decide);rw[aIA,agX (d:=b) hl];simp only[ah,bu,akd,bu,akE,ab6];rw[UF (d:=(64,(b,false,()))) k0.1];simp only[ah,bu,Sc];generalize O8 64 (b,false,())=n at*;have o2:=awj n.1.toNat k1;rw[akG (d:=(n.1,n.1,0,(0,()),0,(0,()),n.2,[])) ⟨k1,u1.2,0,rfl,by decide,rfl,rfl⟩];simp only[ah,z7,GI,qe,aT,aO];generalize Lj n.1.toNat n.2=ops at*;have k3:=awO o2.1.1 64;have u3:=awN o2.1.1.1 (m:=64) (by decide);rw[UF (d:=(64,ops.2)) o2.1.1.1];simp only[ah,bu,Sc];generalize O8 64 ops.2=m at*;rw[akH (d:=(n.1,m.1,m.1,0,(0,()),n.1.toNat,0,(0,()),m.2,ops.1.map aJE,[])) ⟨k3,u3.2,0,rfl,by decide,rfl,rfl⟩];simp only[ah,lX,pV,qe,aT,aO];cases hx:Hd m.1.toNat m.2 with
 |none=>rfl
 |some x=>
  have o4:=aom _ k3 hx;have o5:=si o4.1.1;have ol:(ops.1.map aJE).length=n.1.toNat:=by rw[bV];exact o2.2.1
  simp only[dJ,da,ao,ah];rw[pO (d:=x.2) o4.1.1.1];simp only[ah,bu,vZ];rw[akI (d:=(n.1,m.1,(n.1.toNat:Int),0,(0,()),n.1.toNat,x.1.length,((dD x.2).1,()),(dD x.2).2,ops.1.map aJE,x.1)) ⟨o5.1.1,by rw[ol];omega,0,rfl,aK _,by rw[ol],by rw[ol],λz hz=>by
   rw[aD]at hz;obtain⟨o,_,rfl⟩:=cT.1 hz;rfl⟩]
  simp only[ah,lY,pX,aX,aD,dH,aT,aLQ,aGl];cases hy:Hz ops.1 (dD x.2).2 with
  |none=>rfl
  |some y=>
   have o6:=aqe _ o5.1.1 hy;have yl:y.1.length=n.1.toNat:=by rw[<-o2.2.1,<-o6.2.1,bV]
   have yl2:(y.1.map aSZ).length=n.1.toNat:=by rw[bV];exact yl
   simp only[dJ,da,ao,ah,aEC];by_cases c1:n.1 < 0
   ·rw[aU c1,aj,if_pos (lZ c1)];rfl
   rw[aQ c1,ao];by_cases c2:m.1 < 0
   ·rw[aU c2,aj,if_pos (fi (lZ c2))];rfl
   rw[aQ c2,ao,aHG (d:=y.2) trivial];simp only[ah,ao7,aHE,Bool.not_not];cases c3:y.2.2.1
   ·rw[ao,aAM (d:=y.2) trivial];simp only[ah,agT,awy];by_cases c4:0 < y.2.1.length
    ·rw[cP ak,aj,if_pos (fi (fi (fi (lZ c4))))];rfl
    ·rw[cr ak,ao,aM ⟨by trivial,ak⟩,aM ⟨by trivial,ak⟩,eY yl2,eY rfl,aOw,aQc];simp only[aj];rw[pZ (d:=(y.1,x.1,(dD x.2).1,())) ⟨λo ho=>(o4.2.2 o ho).2.2,by show y.1.length<=_;omega,by show x.1.length<=_;have:=o4.2.1;omega⟩];simp only[ah,bu,rT];cases c5:hJ (y.1,x.1,(dD x.2).1,())
     ·rw[if_pos (fi (fi (fi (fi (by trivial)))))];rfl
     ·rw[if_neg (by
       rintro(z | z | z | z | z)
       ·exact c1 z
       ·exact c2 z
       ·cases z
       ·exact c4 z
       ·cases z)]
      rfl
   ·rw[aj,if_pos (fi (fi (lZ (by trivial))))];rfl
theorem UE:kR.RS:=rE [.d tB] kR
def adh:=kR.eU aIB 4 ⟨.fv apZ,⟨.fv ap0,⟨.fv ap1,⟨.fv ap2,trivial⟩⟩⟩⟩
theorem apw{t:dw}(h:hJ t=true):ahA t:=by
 obtain⟨⟨_,a2,a3,_⟩,b1,b2⟩:=jM h;exact⟨⟨ak,λx hx=>by have:=A6 (mH _ _ b1 x hx);omega⟩,ak,λo ho=>by
  have:=TM (ky _ _ b2 o ho).2;exact⟨ak,λb hb=>by have:=this.2 b hb;omega⟩⟩
theorem E9{α:Type}{f:α->List Int}{l:List α}(h:∀x∈l,Bytes (f x)):Bytes (l.flatMap f):=λb hb=>by obtain⟨x,hx,hb⟩:=qh.1 hb;exact h x hx b hb
theorem IC{α:Type}{f:α->List Int}{n:Nat}:∀ {l:List α},(∀x∈l,(f x).length<=n)->(l.flatMap f).length<=n*l.length
 |[],_=>aK _
 |x::l,h=>by
  rw[dx,ai,aA,Nat.mul_add,gT];have h1:=h x aI;have h2:=IC (l:=l) λy hy=>h y (aG _ hy)
  omega
theorem Ax{t:dw}(hv:nU t):Bytes (auH t)/\(auH t).length<=1000000:=by
 cases jn:hJ t
 ·unfold auH;rw[jn];exact⟨λx hx=>(by cases hx),aK _⟩
 obtain⟨⟨a1,a2,a3,a4⟩,b1,b2⟩:=jM jn;have agb:∀x∈t.1,_:=λx hx=>A6 (mH _ _ b1 x hx)
 rw[aIO jn];have n0:∀ {n:Nat},n<=1000->HD (n:Int):=λh=>uS ak
 have e1:∀x∈t.1,Bytes (asQ x.1)/\(asQ x.1).length<=43:=λx hx=>by have hi:=agb x hx;have hr:=kH x.1.2.1;have hs:=(hv.2.1 x hx).1;exact⟨gv hs.2 (lh ⟨hi.1,ak⟩),by unfold asQ;rw[ai,hs.1];omega⟩
 have e2:∀o∈t.2.1,Bytes (En o)/\(En o).length<=1022:=λo ho=>by have hi:=(ky _ _ b2 o ho).1;have hr:=kH o.1;have ad3:=kH (N7 o.2.1).length;have hl:=KM o.2.1;exact⟨gv (lh ⟨hi.1,ak⟩) (gv (lh (n0 hl)) (azg _)),by unfold En;rw[ai,ai];omega⟩
 have e3:∀x∈t.1,Bytes (DO x.2.1)/\(DO x.2.1).length<=300:=λx hx=>by
  have hi:=agb x hx;have hr:=kH x.2.1.1;have ad3:=kH x.2.1.2.1.length;have hf:=IC (f:=aCj) (n:=16) (l:=x.2.1.2.1) λs _=>by unfold aCj;rw[ai,cn,cn];omega
  refine⟨gv (lh ⟨hi.2.2.1,ak⟩) (gv (lh (n0 ak)) (gv (E9 λs _=>gv (D3 _) (D3 _)) (D3 _))),?_⟩;unfold DO;simp only[ai,cn];omega
 have f1:=IC (f:=λx:gK=>asQ x.1) (n:=43) (l:=t.1) λx hx=>(e1 x hx).2
 have f2:=IC (f:=En) (n:=1022) (l:=t.2.1) λx hx=>(e2 x hx).2
 have f3:=IC (f:=λx:gK=>DO x.2.1) (n:=300) (l:=t.1) λx hx=>(e3 x hx).2
 have r1:=kH t.1.length;have r2:=kH t.2.1.length;have r3:=kH t.2.2.1;refine⟨gv (lh (n0 ak)) (gv (E9 λx hx=>(e1 x hx).1) (gv (lh (n0 ak)) (gv (E9 λx hx=>(e2 x hx).1) (gv (lh ⟨a4,hv.2.2⟩) (E9 λx hx=>(e3 x hx).1))))),?_⟩;unfold aS9;simp only[ai];omega
section
section
variable {β:Type} {kt:Ty}
theorem FL(hc:kt.comp=true)(o o':kt.den)(v:β):∀l:List (kt.den×β),bN kt o (eG kt o' v l)=if kt.beq o o'=true then some v else bN kt o l
 |[]=>by rw[azz,fx,qB]
 |p::l=>by
  rw[pF];by_cases h:kt.beq o' p.1=true
  ·rw[if_pos h,fx,fx];have e:=beq_eq kt _ _ hc h;by_cases h2:kt.beq o o'=true
   ·rw[if_pos h2,if_pos h2]
   ·rw[if_neg h2,if_neg h2,if_neg (by rw[<-e];exact h2)]
  ·rw[if_neg h,fx,fx,FL hc o o' v l];by_cases h3:kt.beq o p.1=true
   ·rw[if_pos h3,if_pos h3,if_neg];intro h4;apply h;rw[<-beq_eq kt _ _ hc h4];exact h3
   ·rw[if_neg h3,if_neg h3]
theorem aiW(hc:kt.comp=true)(o o':kt.den):∀ {l:List (kt.den×β)},(l.map (·.1)).Nodup->bN kt o (gY kt o' l)=if kt.beq o o'=true then none else bN kt o l
 |[],_=>by rw[azy,qB];split <;> rfl
 |p::l,hn=>by
  rw[bQ,cV]at hn;rw[vM];by_cases h:kt.beq o' p.1=true
  ·rw[if_pos h,fx];have e:=beq_eq kt _ _ hc h;by_cases h2:kt.beq o o'=true
   ·rw[if_pos h2];have e2:=beq_eq kt _ _ hc h2;cases hg:bN kt o l with
    |none=>rfl
    |some v=>exact absurd (cT.2 ⟨_,(jb hc hn.2).1 hg,rfl⟩) (by rw[e2,e];exact hn.1)
   ·rw[if_neg h2,if_neg (by rw[<-e];exact h2)]
  ·rw[if_neg h,fx,fx,aiW hc o o' hn.2];by_cases h3:kt.beq o p.1=true
   ·rw[if_pos h3,if_pos h3,if_neg];intro h4;apply h;rw[<-beq_eq kt _ _ hc h4];exact h3
   ·rw[if_neg h3,if_neg h3]
theorem get_none(hc:kt.comp=true){o:kt.den}{l:List (kt.den×β)}(hn:(l.map (·.1)).Nodup):bN kt o l=none↔o ∉ l.map (·.1):=by
 constructor
 ·intro h hm;obtain⟨p,hp,e⟩:=cT.1 hm;have e:p.1=o:=e;have:=(jb hc hn (x:=o) (v:=p.2)).2 (by rw[<-e];exact hp);rw[h]at this;cases this
 ·intro h;cases hg:bN kt o l with
  |none=>rfl
  |some v=>exact absurd (cT.2 ⟨_,(jb hc hn).1 hg,rfl⟩) h
theorem Ml{l:List (kt.den×β)}(hn:(l.map (·.1)).Nodup):l.Nodup:=by
 induction l with
 |nil=>exact fW
 |cons p l ih=>
  rw[bQ,cV]at hn;exact cV.2 ⟨λh=>hn.1 (cT.2 ⟨p,h,rfl⟩),ih hn.2⟩
theorem aov(hc:kt.comp=true){l l':List (kt.den×β)}(hn:(l.map (·.1)).Nodup)(hn':(l'.map (·.1)).Nodup)(h:∀o,bN kt o l=bN kt o l'):l.Perm l':=by rw[List.perm_ext_iff_of_nodup (Ml hn) (Ml hn')];rintro⟨o,v⟩;rw[<-jb hc hn,<-jb hc hn',h]
end
theorem sS(a b:bC):(Ty.beq bg a b=true)↔a=b:=⟨beq_eq bg a b rfl,λh=>by rw[h];exact beq_refl bg b rfl⟩
abbrev At:=List (bC×dP)
abbrev eD(a:At):List bC:=a.map (·.1)
theorem ayM(o o':bC)(v:dP)(a:At):bN bg o (eG bg o' v a)=if o=o' then some v else bN bg o a:=by
 rw[FL eV];by_cases h:o=o'
 ·rw[if_pos ((sS _ _).2 h),if_pos h]
 ·rw[if_neg (λe=>h ((sS _ _).1 e)),if_neg h]
theorem am9(o o':bC){a:At}(hn:(eD a).Nodup):bN bg o (gY bg o' a)=if o=o' then none else bN bg o a:=by
 rw[aiW eV _ _ hn];by_cases h:o=o'
 ·rw[if_pos ((sS _ _).2 h),if_pos h]
 ·rw[if_neg (λe=>h ((sS _ _).1 e)),if_neg h]
theorem NW{o:bC}{v:dP}{a:At}(hn:(eD a).Nodup):(eD (eG bg o v a)).Nodup:=IK eV hn
theorem px{o:bC}{a:At}(hn:(eD a).Nodup):(eD (gY bg o a)).Nodup:=Cv eV hn
theorem aNl{a a':At}(hn:(eD a).Nodup)(hn':(eD a').Nodup)(h:∀o,bN bg o a=bN bg o a'):a.Perm a':=aov eV hn hn' h
theorem aGV{a a':At}(hn:(eD a).Nodup)(h:a'.Perm a)(o:bC):bN bg o a'=bN bg o a:=aaM eV hn h
theorem aur{o:bC}{c:dP}{a:At}(hn:(eD a).Nodup)(hg:bN bg o a=some c):a.Perm ((o,c)::gY bg o a):=by
 refine aNl hn ?_ λx=> ?_
 ·show(o::eD (gY bg o a)).Nodup;refine cV.2 ⟨?_,px hn⟩;have:=(get_none eV (px (o:=o) hn)).1 (by rw[am9 o o hn,if_pos rfl]);exact this
 ·rw[fx,am9 x o hn];by_cases h:x=o
  ·subst h;rw[if_pos ((sS _ _).2 rfl),hg]
  ·rw[if_neg (λe=>h ((sS _ _).1 e)),if_neg h]
theorem Tf(o:bC)(l:List bC)(a:At):zd (o::l) a=zd l (gY bg o a):=rfl
theorem Fy:∀(l:List bC) {a:At},(eD a).Nodup->(eD (zd l a)).Nodup
 |[],_,h=>h
 |o::l,a,h=>by rw[Tf];exact Fy l (px h)
theorem ZX(x:bC):∀(l:List bC) {a:At},(eD a).Nodup->bN bg x (zd l a)=if x∈l then none else bN bg x a
 |[],a,_=>by rw[if_neg (by simp)];rfl
 |o::l,a,h=>by
  rw[Tf,ZX x l (px h),am9 x o h];by_cases h1:x∈l
  ·rw[if_pos h1,if_pos (aG _ h1)]
  ·rw[if_neg h1];by_cases h2:x=o
   ·rw[if_pos h2,if_pos (by rw[h2];exact aI ..)]
   ·rw[if_neg h2,if_neg (by simp[h1,h2])]
theorem Ao(h:Int)(o:bC)(l:List bC)(x:gm)(xs:List gm)(a:At):Na h (o::l) (x::xs) a=Na h l xs (eG bg o (x,(h,())) a):=rfl
theorem Yq(h:Int):∀(l:List bC) (xs:List gm) {a:At},(eD a).Nodup->(eD (Na h l xs a)).Nodup
 |[],[],_,hn=>hn
 |[],_::_,_,hn=>hn
 |_::_,[],_,hn=>hn
 |o::l,x::xs,a,hn=>by rw[Ao];exact Yq h l xs (NW hn)
theorem avJ(h:Int)(x:bC):∀(l:List bC) (xs:List gm) (a:At),x ∉ l->bN bg x (Na h l xs a)=bN bg x a
 |[],[],_,_=>rfl
 |[],_::_,_,_=>rfl
 |_::_,[],_,_=>rfl
 |o::l,y::xs,a,hx=>by rw[Ao,avJ h x l xs _ (λe=>hx (aG _ e)),ayM,if_neg (λe=>hx (by rw[e];exact aI ..))]
theorem am8(h:Int):∀(l:List bC) (xs:List gm) (a:At),l.Nodup->∀(k:Nat) (hk:k < l.length) (aqq:k < xs.length),bN bg l[k] (Na h l xs a)=some (xs[k],(h,()))
 |[],_,_,_,k,hk,_=>by simp at hk
 |_::_,[],_,_,k,_,hk=>by simp at hk
 |o::l,y::xs,a,hn,k,hk,aqq=>by
  rw[cV]at hn;rw[Ao];cases k with
  |zero=>
   show bN bg o _=some (y,(h,()));rw[avJ h o l xs _ hn.1,ayM,if_pos rfl]
  |succ k=>
   simp only[List.getElem_cons_succ];exact am8 h l xs _ hn.2 k (by simpa using hk) (by simpa using aqq)
def yo(a:At)(l:List bC):Int:=(l.map λo=>((bN bg o a).getD aJt).1.1).sum
theorem amN:∀(l:List bC) {a:At},(eD a).Nodup->l.Nodup->(∀o∈l,(bN bg o a).isSome=true)->vE (zd l a)=vE a - yo a l/\(zd l a).length+l.length=a.length
 |[],a,_,_,_=>by simp[zd,yo]
 |o::l,a,hn,hl,ht=>by
  rw[cV]at hl;obtain⟨c,hc⟩:=bO.1 (ht o (aI ..));have hg:∀x∈l,bN bg x (gY bg o a)=bN bg x a:=λx hx=>by rw[am9 x o hn,if_neg (λe=>hl.1 (by rw[<-e];exact hx))]
  obtain⟨h1,h2⟩:=amN l (px (o:=o) hn) hl.2 λx hx=>by rw[hg x hx];exact ht x (aG _ hx)
  have hp:=aur hn hc;have h3:=SL hp;have h4:=hp.length_eq;have h5:yo (gY bg o a) l=yo a l:=by unfold yo;congr 1;exact gD λx hx=>by rw[hg x hx]
  rw[qn]at h3;rw[aA]at h4;rw[Tf,h1,h5,aA];have h6:yo a (o::l)=c.1.1+yo a l:=by simp[yo,hc]
  rw[h6];exact⟨by have h3:vE a=c.1.1+vE (gY bg o a):=h3;omega,ak⟩
theorem tJ(x:gm)(xs:List gm):jc (x::xs)=x.1+jc xs:=by simp[jc]
theorem alm(h:Int):∀(l:List bC) (xs:List gm) {a:At},(eD a).Nodup->l.Nodup->l.length=xs.length->(∀o∈l,bN bg o a=none)->vE (Na h l xs a)=vE a+jc xs/\(Na h l xs a).length=a.length+l.length
 |[],[],a,_,_,_,_=>by simp[Na,jc]
 |[],_::_,_,_,_,he,_=>by simp at he
 |_::_,[],_,_,_,he,_=>by simp at he
 |o::l,x::xs,a,hn,hl,he,ht=>by
  rw[cV]at hl;have h0:=(get_none eV hn).1 (ht o (aI ..));have e:eG bg o (x,(h,())) a=a++ [(o,(x,(h,())))]:=Cw eV h0;obtain⟨h1,h2⟩:=alm h l xs (NW (o:=o) (v:=(x,(h,()))) hn) hl.2 (by simpa using he) λy hy=>by rw[ayM,if_neg (λe=>hl.1 (by rw[<-e];exact hy))];exact ht y (aG _ hy)
  rw[Ao,h1,h2,e,alr,tJ,ai];simp only[vE,bQ,iq,List.sum_cons,List.sum_nil,aA,ba];omega
theorem aah:∀(l:List gK) (m:List (bC×Bool)),Ei m l=true->(l.map (·.1)).Nodup/\∀x∈l,bN bg x.1 m≠some true
 |[],_,_=>⟨fW,λ_ h=>by cases h⟩
 |x::l,m,h=>by
  rw[Ei,au,au]at h;obtain⟨⟨h1,_⟩,h2⟩:=h;obtain⟨h3,h4⟩:=aah l _ h2;have hs:∀y∈l,bN bg y.1 (eG bg x.1 true m)≠some true:=h4;have gF:∀y∈l,y.1≠x.1:=λy hy e=>hs y hy (by rw[FL eV,if_pos ((sS _ _).2 e)])
  refine⟨?_,λy hy=> ?_⟩
  ·rw[bQ,cV];refine⟨λhm=> ?_,h3⟩;obtain⟨y,hy,e⟩:=cT.1 hm;exact gF y hy e
  ·rcases bY.1 hy with rfl | hy
   ·intro e;unfold Qv at h1;rw[e]at h1;cases h1
   ·have:=hs y hy;rw[FL eV,if_neg (λe=>gF y hy ((sS _ _).1 e))]at this;exact this
theorem RX(t:dw):(dM t).Nodup:=by
 unfold dM;split
 ·rename_i h;exact(aah _ _ (jM h).2.1).1
 ·exact fW
theorem aaE(t:dw):(gX t).Nodup:=by
 unfold gX;split
 ·unfold Hb;refine List.Pairwise.map _ (λa b gF e=> ?_) (List.nodup_range' (s:=0) (n:=t.2.1.length) (step:=1));have:(a:Int)=b:=bo (λo:bC=>o.2.1) e;exact gF ak
 ·exact fW
theorem aaf{h:Int}{id:List Int}{a:At}:∀(l:List gK) (f0 f:Int),xw h id a l f0= .inr f->(∀o∈l.map (·.1),(bN bg o a).isSome=true)/\f=f0+yo a (l.map (·.1))
 |[],f0,f,e=>by simp only[xw,Sum.inr.injEq]at e;subst e;simp[yo]
 |x::l,f0,f,e=>by
  simp only[xw]at e;cases hg:bN bg x.1 a with
  |none=>rw[hg]at e;cases e
  |some c=>
   rw[hg]at e;simp only at e;split at e
   ·cases e
   ·obtain⟨h1,h2⟩:=aaf l _ _ e;refine⟨λo ho=> ?_,?_⟩
    ·rw[bQ]at ho;rcases bY.1 ho with rfl | ho
     ·rw[hg];rfl
     ·exact h1 o ho
    ·rw[h2];simp only[yo,bQ,List.sum_cons,hg,dN];omega
structure vA(t:dw)(h:Int)(a:At)(oG:Int):Prop where
 ok:hJ t=true
 h1:1<=h
 h2:h<=1048576
 ins:∃f,xw h (iC t) a t.1 0= .inr f/\oG=f - jc t.2.1
 there:∀o∈dM t,(bN bg o a).isSome=true
 made:∀o∈gX t,bN bg o a=none
 aRa:oG=yo a (dM t) - jc t.2.1
 pos:0<=oG
theorem PU{t:dw}{h:Int}{a:At}(e:(eK t h a).2=0):vA t h a (eK t h a).1:=by
 obtain⟨jn,h1,h2,f,hi,hm,hp,hc⟩:=Kn e;obtain⟨i1,i2⟩:=aaf _ _ _ hi;have hs:dM t=t.1.map (·.1):=by unfold dM;rw[if_pos jn]
 rw[hc];refine⟨jn,h1,h2,⟨f,hi,rfl⟩,by rw[hs];exact i1,λo ho=> ?_,by rw[hs,i2];show 0+_ - _=_;omega,hp⟩;have:=js.1 hm o ho;unfold qu at this;cases hg:bN bg o a with
 |none=>rfl
 |some c=>rw[hg]at this;simp at this
theorem arl{t:dw}{h:Int}{a:At}(e:(eK t h a).2≠0):(eK t h a).1=0:=by
 unfold eK at e ⊢;split
 ·rename_i h0;rw[if_pos h0]at e;cases hi:xw h (iC t) a t.1 0 with
  |inl x=>rfl
  |inr f=>
   rw[hi]at e;simp only at e ⊢;split
   ·rfl
   ·rename_i h1;rw[if_neg h1]at e;split
    ·rfl
    ·rename_i h2;rw[if_neg h2]at e;exact absurd rfl e
 ·rfl
section
variable {t:dw} {h oG:Int} {a:At}
theorem vA.aSt(hc:vA t h a oG)(ha:(eD a).Nodup){o:bC}(ho:o∈dM t):bN bg o (fw t h a)=none:=by
 have hm:o ∉ gX t:=λe=>by have:=hc.there o ho;rw[hc.made o e]at this;cases this
 unfold fw;rw[avJ h o _ _ _ hm,ZX o _ ha,if_pos ho]
theorem vA.new(hc:vA t h a oG){k:Nat}(hk:k < (gX t).length)(aqq:k < t.2.1.length):bN bg (gX t)[k] (fw t h a)=some (t.2.1[k],(h,())):=by unfold fw;exact am8 h _ _ _ (aaE t) k hk aqq
theorem Pq(ha:(eD a).Nodup){o:bC}(h1:o ∉ dM t)(h2:o ∉ gX t):bN bg o (fw t h a)=bN bg o a:=by unfold fw;rw[avJ h o _ _ _ h2,ZX o _ ha,if_neg h1]
theorem ix(ha:(eD a).Nodup):(eD (fw t h a)).Nodup:=Yq h _ _ (Fy _ ha)
theorem vA.sum(hc:vA t h a oG)(ha:(eD a).Nodup):vE (fw t h a)=vE a - oG/\(fw t h a).length+t.1.length=a.length+t.2.1.length:=by
 obtain⟨d1,d2⟩:=amN (dM t) ha (RX t) hc.there;obtain⟨e1,e2⟩:=alm h (gX t) t.2.1 (Fy (dM t) ha) (aaE t) (vJ hc.ok) λo ho=>by
  rw[ZX o _ ha];split
  ·rfl
  ·exact hc.made o ho
 have hf:=hc.aRa;have hl:=aag hc.ok;have hm:=vJ hc.ok;unfold fw;rw[e1,e2,d1];exact⟨ak,ak⟩
theorem vA.C7(hc:vA t h a oG)(ha:alb a)(hv:nU t):alb (fw t h a):=by
 refine⟨ix ha.1,λp hp=> ?_⟩;have hg:=(jb eV (ix (t:=t) (h:=h) ha.1) (x:=p.1) (v:=p.2)).2 hp;by_cases h2:p.1∈gX t
 ·obtain⟨k,hk,e⟩:=List.getElem_of_mem h2;have aqq:k < t.2.1.length:=by rw[<-vJ hc.ok];exact hk
  rw[<-e,hc.new hk aqq]at hg;have hg:=(bf hg).symm;have ho:=ky _ _ (jM hc.ok).2.2 _ (aN aqq);have hu:=hv.1.1 _ (aN aqq);have h1:=hc.h1;have h3:=hc.h2;refine⟨?_,?_⟩
  ·rw[<-e];have hm:gX t=Hb (iC t) 0 t.2.1.length:=by unfold gX;rw[if_pos hc.ok]
   simp only[hm,Hb,List.getElem_map];have:=(GN (t:=t));exact⟨this.1,λx hx=>this.2 x hx⟩
  ·rw[hg];exact⟨ho.2,hu.1,ho.1.1,ho.1.2,by show 0<=h;omega,h3⟩
 ·by_cases h1:p.1∈dM t
  ·rw[hc.aSt ha.1 h1]at hg;cases hg
  ·rw[Pq ha.1 h1 h2]at hg;exact ha.2 p ((jb eV ha.1).1 hg)
end
end
theorem au6(k:Int):nV (gq k):=(aoB _ _).u
def mT:List Int:=[152,45,158,62,185,150,245,89,230,51,244,209,148,222,243,118,29,144,159,90,59,100,125,26,133,31,234,214,124,50,201,209]
theorem s3:mN 3 mT=(2066670005889522986,1913675330412042729,()):=by decide+kernel
theorem s5:mN 5 mT=(1601457595092860225,1871270319440231866,()):=by decide+kernel
theorem u0:nV 0:=⟨iD 0,by decide⟩
theorem asn{x:Int}{l:List Int}(h:nV x)(hl:GV l):GV (x::l):=λp hp=>by
 rcases bY.1 hp with rfl | hp
 ·exact h
 ·exact hl p hp
theorem ay9:GV []:=λp hp=>by cases hp
theorem aUi:NY 0=true:=rfl
theorem aKa(ks:List Int)(a d:Int)(h:ks.length<=12):vh (ks,a,d,0,())=(ks.all vu && (NY a && NY d)):=by have e:vh (ks,a,d,0,())=(decide (ks.length<=12) && (ks.all vu && (NY a && (NY d && true)))):=rfl;rw[e,aM h,bw,Bool.and_true]
def aGG(b:ot)(sg:List Sg)(s:Int)(m:List Int)(height age:Int):Int:=if height < b.2.1\/age < b.2.2.1 then 11 else if b.2.2.2.1≠0/\gq s≠b.2.2.2.1 then 23 else if sg.length≠b.1.length then 7 else if yp m b.1 sg then 0 else 7
theorem aL4{l:Lk}{i:Nat}{b:ot}(jn:kS l=true)(hi:i < l.1.length)(hb:l.1[i]=b)(sg:List Sg)(s:Int)(m:List Int)(h a:Int):yx l ((i:Int),sg,s,()) m h a=aGG b sg s m h a:=by
 have n1:nth (.pair (.slice (.int .u64)) (.pair (.int .i64) (.pair (.int .i64) (.pair (.int .u64) .unit)))) l.1 i=l.1[i]:=cd (t:=(.pair (.slice (.int .u64)) (.pair (.int .i64) (.pair (.int .i64) (.pair (.int .u64) .unit))))) hi;unfold yx;rw[if_neg (by
  intro hh;rcases hh with hh | hh | hh
  ·rw[jn]at hh;cases hh
  ·have hh:(i:Int) < 0:=hh;omega
  ·have hh:(i:Int)>=l.1.length:=hh;omega)]
 show(if h < (nth (.pair (.slice (.int .u64)) (.pair (.int .i64) (.pair (.int .i64) (.pair (.int .u64) .unit)))) l.1 i).2.1\/a < (nth (.pair (.slice (.int .u64)) (.pair (.int .i64) (.pair (.int .i64) (.pair (.int .u64) .unit)))) l.1 i).2.2.1 then 11 else if(nth (.pair (.slice (.int .u64)) (.pair (.int .i64) (.pair (.int .i64) (.pair (.int .u64) .unit)))) l.1 i).2.2.2.1≠0/\gq s≠(nth (.pair (.slice (.int .u64)) (.pair (.int .i64) (.pair (.int .i64) (.pair (.int .u64) .unit)))) l.1 i).2.2.2.1 then 23 else if sg.length≠(nth (.pair (.slice (.int .u64)) (.pair (.int .i64) (.pair (.int .i64) (.pair (.int .u64) .unit)))) l.1 i).1.length then 7 else if yp m (nth (.pair (.slice (.int .u64)) (.pair (.int .i64) (.pair (.int .i64) (.pair (.int .u64) .unit)))) l.1 i).1 sg then 0 else 7)=_;rw[n1,hb];rfl
theorem ady(m:List Int):∀ks:List Int,(∀k∈ks,0 < k/\k < 2305843009213688669)->yp m (ks.map gq) (ks.map λk=>mN k m)=true
 |[],_=>rfl
 |k::ks,h=>by have hk:=h k aI;show(AJ (gq k) m 1 (mN k m) && yp m (ks.map gq) (ks.map λk=>mN k m))=true;rw[aMI k m hk.1 hk.2,ady m ks λx hx=>h x (aG _ hx)];rfl
theorem ajF(ks:List Int)(hk:∀k∈ks,0 < k/\k < 2305843009213688669)(af dl sc s:Int)(m:List Int)(h a:Int)(hs:sc=0\/gq s=sc):
  aGG (ks.map gq,af,dl,sc,()) (ks.map λk=>mN k m) s m h a=if h < af\/a < dl then 11 else 0:=by
 have e:aGG (ks.map gq,af,dl,sc,()) (ks.map λk=>mN k m) s m h a=if h < af\/a < dl then 11 else if sc≠0/\gq s≠sc then 23 else if(ks.map λk=>mN k m).length≠(ks.map gq).length then 7 else if yp m (ks.map gq) (ks.map λk=>mN k m) then 0 else 7:=rfl
 rw[e,ady m ks hk,if_neg (c:=sc≠0/\gq s≠sc) (by rintro⟨h1,h2⟩;exact hs.elim h1 h2),if_neg (c:=(ks.map λk=>mN k m).length≠(ks.map gq).length) (by rw[bV,bV];exact λx=>x rfl)];rfl
theorem aSf{k:Int}(h:0 < k/\k < 2305843009213688669):∀x∈ [k],0 < x/\x < 2305843009213688669:=λx hx=>by rw[bk]at hx;subst hx;exact h
def z32:List Int:=ab 32 0
def aVf:Lk:=aN8 [gq 7]
def aV7:dw:=([((z32,((0:Int),())),(((0:Int),(([]:List Sg),((0:Int),()))),()))],([((90:Int),(aVf,()))],((0:Int),())))
def aVd:At:=[G7 0 ((100:Int),(aVf,()))]
theorem aUx:¬iC aV7=z32:=by decide+kernel
theorem b7:nV (gq 7):=au6 7
theorem n14(m:List Int)(hm:¬m=z32):bN bg (m,((0:Int),())) aVd=none:=by unfold aVd G7;rw[fx,if_neg,qB];intro e;have:=(sS _ _).1 e;exact hm (bo (λo:bC=>o.1) this)
theorem amO{o:bC}{c:dP}:zd [o] [(o,c)]=[]:=by show gY bg o [(o,c)]=[];rw[vM];exact if_pos ((sS _ _).2 rfl)
theorem ayJ{o:bC}{c:dP}{a:At}(hg:bN bg o a=some c):vp a [o]=[(o,(c,()))]:=by simp only[vp,hg,dN]
section
structure DU(m n:Nat)(a:At)(s:List bT):Prop where
 C7:alb a
 le:n<=s.length
 len:s.length<=m
 aIn:∀st∈s,ahB st
 sum:vE a<=1125899906842624
 aSJ:a.length<=256+64*m
theorem DU.mono{m m' n:Nat}{a:At}{s:List bT}(h:DU m n a s)(hm:m<=m'):DU m' n a s:=⟨h.C7,h.le,iw h.len hm,h.aIn,h.sum,by have:=h.aSJ;omega⟩
theorem als{a:At}(h:∀p∈a,0<=p.2.1.1):0<=vE a:=by
 induction a with
 |nil=>exact iD 0
 |cons p a ih=>
  rw[qn];have:=h p aI;have:=ih λq hq=>h q (aG _ hq)
  omega
theorem alb.pos{a:At}(h:alb a):0<=vE a:=als λp hp=>(h.2 p hp).2.2.2.1
theorem agC:∀(l:List gm) (sum:Int) (k:Nat) {a:At},0<=sum->sum<=1125899906842624->(∀o∈l,aqy o)->Xh sum k l=some a->
  a.length=l.length/\vE a=jc l/\sum+jc l<=1125899906842624/\(∀o∈l,0<=o.1)/\(∀p∈a,Lp p.1/\aQW p.2/\(k:Int)<=p.1.2.1)/\(eD a).Nodup
 |[],sum,k,a,h0,h1,_,e=>by obtain rfl:=bf e;exact⟨rfl,rfl,by show sum+0<=_;omega,λo ho=>(by cases ho),λp hp=>(by cases hp),fW⟩
 |o::l,sum,k,a,h0,h1,hg,e=>by
  rw[Xh]at e;cases ho:Ge sum o with
  |false=>rw[ho]at e;cases e
  |true=>
   rw[ho]at e;simp only at e;cases hr:Xh (sum+o.1) (k+1) l with
   |none=>rw[hr]at e;cases e
   |some r=>
    rw[hr]at e;obtain rfl:=bf e;have ho':=ho;unfold Ge at ho';simp only[au,aW]at ho';obtain⟨k1,k2,k3⟩:=ho';obtain⟨i1,i2,i3,i4,i5,i6⟩:=agC l (sum+o.1) (k+1) ak ak (λx hx=>hg x (aG _ hx)) hr;have hu:=hg o aI;refine⟨by rw[aA,aA,i1],?_,by rw[tJ];omega,λx hx=> ?_,λp hp=> ?_,?_⟩
    ·rw[qn,tJ,i2];rfl
    ·rcases bY.1 hx with rfl | hx
     ·exact k2
     ·exact i4 x hx
    ·rcases bY.1 hp with rfl | hp
     ·refine⟨⟨by show(ab 32 (0:Int)).length=32;rw[cg],λx hx=> ?_⟩,⟨k1,hu.1,k2,by show o.1<=_;omega,iD 0,by show(0:Int)<=_;decide⟩,by show(k:Int)<=k;omega⟩;have hx:x∈ab 32 (0:Int):=hx;obtain rfl:=(nr.1 hx).2;exact⟨by decide,by decide⟩
     ·have:=i5 p hp;exact⟨this.1,this.2.1,ak⟩
    ·show((G7 k o).1::eD r).Nodup;refine cV.2 ⟨λhm=> ?_,i6⟩;obtain⟨p,hp,he⟩:=cT.1 hm;have:=(i5 p hp).2.2;have he:p.1=(G7 k o).1:=he;rw[he]at this;have this:((k+1:Nat):Int)<=(k:Int):=this;omega
theorem azF{outs:List gm}{a:At}(hg:∀o∈outs,aqy o)(e:ajz outs=some a):DU 0 0 a []/\vE a=jc outs/\a.length=outs.length/\outs.length<=256/\(∀o∈outs,0<=o.1)/\jc outs<=1125899906842624:=by
 unfold ajz at e;by_cases hl:outs.length<=256
 ·rw[if_pos hl]at e;obtain⟨i1,i2,i3,i4,i5,i6⟩:=agC outs 0 0 (by decide) (by decide) hg e;exact⟨⟨⟨i6,λp hp=>⟨(i5 p hp).1,(i5 p hp).2.1⟩⟩,ax _,ax _,λst mG=>(by cases mG),ak,ak⟩,i2,i1,hl,i4,ak⟩
 ·rw[if_neg hl]at e;cases e
theorem af4:∀(l:List bC) (a:At),(vp a l).length=l.length
 |[],_=>rfl
 |o::l,a=>by rw[vp,aA,aA,af4 l]
theorem apL{t:dw}{h oG:Int}{a:At}(hc:vA t h a oG):ahB (stepOf t a):=by have h1:=(jM hc.ok).1;have h2:=vJ hc.ok;have h3:=aag hc.ok;unfold ahB stepOf;rw[af4];exact⟨ak,by show(gX t).length<=1000;omega⟩
section
variable {m n:Nat} {t:dw} {h:Int} {a:At} {s:List bT}
theorem DU.app(hg:DU m n a s)(hc:vA t h a (eK t h a).1)(hv:nU t):DU (m+1) (n+1) (fw t h a) (s.take n++ [stepOf t a]):=by
 have hl:=hg.le;have hm:=hg.len;have hs:=hc.sum hg.C7.1;have hp:=hc.pos;have h1:=(jM hc.ok).1;have e:(s.take n).length=n:=by rw[bp];omega
 refine⟨hc.C7 hg.C7 hv,by rw[ai,e];exact ax _,by rw[ai,e];show n+1<=_;omega,λst mG=> ?_,?_,?_⟩
 ·rcases bz.1 mG with mG | mG
  ·exact hg.aIn st (fj mG)
  ·rw[bk.1 mG];exact apL hc
 ·have:=hg.sum;omega
 ·have:=hg.aSJ;omega
theorem DU.apply(hg:DU m n a s)(hm:m<=1000)(hv:nU t):((eK t h a).2≠0/\AQ (t,h,n,a,s)=some (.inl ((eK t h a).2,n,a,s)))\/
  (vA t h a (eK t h a).1/\(eK t h a).2=0/\AQ (t,h,n,a,s)=some (.inr (0,n+1,fw t h a,s.take n++ [stepOf t a]))/\DU (m+1) (n+1) (fw t h a) (s.take n++ [stepOf t a])):=by
 have hr:=aye (d:=(t,h,n,a,s)) ⟨hv,hg.C7,hg.le,by have:=hg.len;show s.length<=_;omega⟩;by_cases he:(eK t h a).2=0
 ·right;refine⟨PU he,he,?_,hg.app (PU he) hv⟩;rw[hr];simp only[Ar,Ku,he,ne_eq,not_true_eq_false,bt]
 ·left;refine⟨he,?_⟩;rw[hr];simp only[Ar,Ku,ne_eq,he,not_false_eq_true,bG]
theorem DU.check(hg:DU m n a s)(hv:nU t):mY.call (t,h,n,a,s)=some ((eK t h a).1,(eK t h a).2,n,a,s):=afR (d:=(t,h,n,a,s)) ⟨hv,hg.C7⟩
def aTj(a:At):List bC:=OT (t:=bg) H7 (eD a)
theorem DU.copy(hg:DU m n a s)(hm:m<=1000):xY.call (n,a,s)=some (n,a,s,(s.take n).length,ja a,s.take n):=arK (d:=(n,a,s)) ⟨hg.le,by have:=hg.len;show s.length<=_;omega,hg.C7.1⟩
theorem DU.aSx(hg:DU m n a s)(hm:m<=1000):AV.call (n,a,s)=some (if n=0 then(false,n,a,s) else(true,n - 1,xP a (nth cD s (n - 1)),s)):=afT (d:=(n,a,s)) ⟨hg.le,by have:=hg.len;show s.length<=_;omega,hg.aIn⟩
theorem alb.perm{a':At}(h:alb a)(hp:a.Perm a'):alb a':=⟨(hp.map _).nodup_iff.1 h.1,λp hm=>h.2 p (hp.mem_iff.2 hm)⟩
theorem DU.canon(hg:DU m n a s):DU m n (ja a) (s.take n)/\(s.take n).length=n:=by
 have hp:=xo a;have e:(s.take n).length=n:=by rw[bp];have:=hg.le;omega
 exact⟨⟨hg.C7.perm hp.symm,ak,by have:=hg.le;have:=hg.len;omega,λst mG=>hg.aIn st (fj mG),by rw[SL hp];exact hg.sum,by rw[hp.length_eq];exact hg.aSJ⟩,e⟩
end
end
def aqp(v o:bC):Bool:=Ty.beq bg v o
def YJ(b:cZ)(x:gK):Bool:=b.2.2.2.2.1.any (aqp x.1)
def axa(b:cZ)(t:dw):Bool:=t.1.any (YJ b)
abbrev Bk:=(List bC)×bC×Int×Int
def pJ:Bk->AS:=λ(mq,aQM,t7,t8)=>⟨([.d (.slice bg) mq,bF,bF,.dO bg aQM,bF,bF,bF,.d ti t7,.d ti t8]++aP 10 []),[],(ab 19 [])⟩
def qC:Int->Exit×AS:=λx=>(.ret,⟨(aP 4 ([.d ti x]++aP 14 [])),[],(ab 19 [])⟩)
def zL:Unit->Exit×AS:=λx=>(.exit 0,⟨(aP 19 []),[],(ab 19 [])⟩)
abbrev Ox:=(Int)⊕(Unit)
abbrev abm:=(Int)⊕(Unit)
def Gd:Ox->Out (Exit×AS):=λx=> .br x.isLeft (.get x.getLeft? λa=> .ok (qC a)) (.get x.getRight? λb=> .ok (zL b))
def lO:Bk->abm->Ox:=λ(mq,aQM,t7,t8) y=>match y with | .inl y=> .inl y | .inr z=> .inr (z)
abbrev awi:=(List bC)×bC
def zK:Bk->Prop:=λ(l,v,n,i)=>l.length<=1000000000/\(True)/\n=l.length/\∃k:Nat,k<=l.length/\i=k
def pI:Bk->abm:=λ(l,v,n,i)=>Is (aqp v) (l.drop i.toNat) i
def azQ:awi->Prop:=λ(l,v)=>l.length<=1000000000/\(True)
def ajG:awi->Int:=λ(l,v)=>ans (aqp v) l
def abl:=dz.fv pJ zK lO pI Gd
def Mm:Bk->Option Ox:=gM abl pJ
def Hc:Fs Tryz.prog azQ bu ajG:=eN 118 Tryz.f118 (λ(sv,v)=>([.d (.slice bg) sv,.d bg v],[])) (λx=>⟨.d ti x,[],[]⟩) [some (.slice bg),some bg] [] {loops:=nY [(2,{aV:=[0,3,7,8]})],outs:=nX [(2,{},{aV:=[4]})],fF:=nK [(2,abl)]}
def Ow:= @eC Tryz.prog (jI Hc.G) Hc.an 0 Tryz.f118 0 _ pJ
abbrev Wa:=kP Tryz.prog (jI Hc.G) Hc.an 0 Tryz.f118 0 pJ zK lO pI Gd
theorem ajH:jf Mm zK lO pI:=mn (jx [.d (.slice bg),.d bg,.d ti,.d ti] λ_=>b8)
theorem Q6:nq @Ow pJ zK lO pI Gd Wa:=oa
theorem Mn{R:Type}(mq:(List bC))(aQM:bC)(t7:Int)(t8:Int)(kn:AS->Option R)(kx:Exit->AS->Option R):Ow (mq,aQM,t7,t8) kn kx=aJ ((gr t8 t7)) (aJ (ed t8 (((ag mq):Nat):Int)) (aJ ((Ty.beq bg aQM (nth bg mq (ae t8)))) (kx (qC t8).1 (qC t8).2) (kn (pJ (mq,aQM,t7,(bI .i64 t8 (1:Int)))))) none) (kx (zL ()).1 (zL ()).2):=b8
theorem aGH{R:Type}(sv v)(k:K1 R):Hc.A (sv,v) k=al (Mm (sv,v,(sv.length:Int),0)) λx1=>aJ (x1.isLeft) (al (x1.getLeft?) λa2=>k (Hc.out a2)) (al (x1.getRight?) λb3=>k (Hc.out (-1))):=b8
theorem aoi:Wa:=by
 refine Q6 (λ(l,v,n,i)=>l.length - i.toNat) ?_
 rintro⟨l,v,n,i⟩ ⟨hb,hv,rfl,k,hk,rfl⟩;have hb:l.length<=1000000000:=hb;have hk:k<=l.length:=hk;by_cases h:k < l.length
 ·have n1:nth bg l k=l[k]:=cd (t:=bg) h;have hd:Is (aqp v) (l.drop k) k=if aqp v l[k] then .inl (k:Int) else Is (aqp v) (l.drop (k+1)) ((k+1:Nat):Int):=by rw[aq h];rfl
  have step:∀ {R:Type} (kn:AS->Option R) (kx:Exit->AS->Option R),Ow (l,v,(l.length:Int),(k:Int)) kn kx=aJ (aqp v l[k]) (kx (qC (k:Int)).1 (qC (k:Int)).2) (kn (pJ (l,v,(l.length:Int),((k+1:Nat):Int)))):=by intro R kn kx;rw[Mn,aU ak,bj ak ak,aa,n1,N.mD ak];rfl
  cases hp:aqp v l[k]
  ·left;refine⟨(l,v,l.length,((k+1:Nat):Int)),⟨hb,hv,rfl,k+1,ak,rfl⟩,by simp only[aa];omega,?_,λkn kx=> ?_⟩
   ·simp only[lO,pI,aa,hd,hp,bn,bt]
   ·rw[step,hp,ao]
  ·right;refine⟨qC (k:Int),?_,λkn kx=> ?_⟩
   ·simp only[lO,pI,aa,hd,hp,bG];rfl
   ·rw[step,hp,aj]
 ·right;obtain rfl:k=l.length:=ak;refine⟨zL (),?_,λkn kx=> ?_⟩
  ·simp only[lO,pI,aa,aL];rfl
  ·rw[Mn,aQ ak,ao]
theorem aGI:Hc.Ok:=by rintro⟨l,v⟩ ⟨hb,hv⟩;rw[aGH,ajH (d:=(l,v,l.length,0)) ⟨hb,hv,rfl,0,ak,rfl⟩];simp only[ah,lO,pI,aX,aD,bu,ajG,ans];cases Is (aqp v) l 0 <;> rfl
theorem azR:Hc.RS:=rE [.d (.slice bg),.d bg] Hc
def aGJ:=Hc.eU aGI 1 ⟨.fv aoi,trivial⟩
abbrev awg:=(List bC)×bC
def azP:awg->Prop:=λ(l,_)=>l.length<=1000000000
def awh:awg->Bool:=λ(l,v)=>l.any (aqp v)
def V9:Fs Tryz.prog azP bu awh:=eN 71 Tryz.f71 (λ(sv,v)=>([.d (.slice bg) sv,.d bg v],[])) (λx=>⟨.d .bool x,[],[]⟩) [some (.slice bg),some bg] [aGJ]
theorem aGE{R:Type}(sv v)(k:K1 R):V9.A (sv,v) k=al (Hc.call (sv,v)) λx1=>k (V9.out (Cn x1 0)):=b8
theorem aGF:V9.Ok:=by rintro⟨l,v⟩ hb;rw[aGE,azR (d:=(l,v)) ⟨hb,trivial⟩];simp only[ah,bu,ajG,Z7];rfl
theorem agF:V9.RS:=rE [.d (.slice bg),.d bg] V9
def aoh:=V9.eU aGF
def aw8:(gK×cZ)->Prop:=λ(_,b)=>b.2.2.2.2.1.length<=1000
def aJV:(gK×cZ)->Bool:=λ(x,b)=>YJ b x
def YI:Fs Tryz.prog aw8 bu aJV:=eN 229 Tryz.f229 (λ(x,t1)=>([.d gh x,.dO dR t1],[])) (λx=>⟨.d .bool x,[],[]⟩) [some gh,none] [aoh]
theorem aCK{R:Type}(x t1)(k:K1 R):YI.A (x,t1) k=al (V9.call (t1.2.2.2.2.1,x.1)) λx1=>k (YI.out x1):=b8
theorem aCL:YI.Ok:=by rintro⟨x,b⟩ hb;have hb:b.2.2.2.2.1.length<=1000:=hb;rw[aCK,agF (d:=(b.2.2.2.2.1,x.1)) (by show b.2.2.2.2.1.length<=_;omega)];rfl
theorem aw9:YI.RS:=rE [.d gh,.d dR] YI
def aCM:=YI.eU aCL
abbrev A8:=(List gK)×cZ×Int×Int
def pA:A8->AS:=λ(mq,f,t7,t8)=>⟨([.d (.slice gh) mq,.fn 229 (.cons (.dO dR f) (.nil))]++aP 5 ([.d ti t7,.d ti t8]++aP 10 [])),[],(ab 19 [])⟩
def qt:Int->Exit×AS:=λx=>(.ret,⟨(aP 4 ([.d ti x]++aP 14 [])),[],(ab 19 [])⟩)
def zx:Unit->Exit×AS:=λx=>(.exit 0,⟨(aP 19 []),[],(ab 19 [])⟩)
abbrev N3:=(Int)⊕(Unit)
abbrev aad:=(Int)⊕(Unit)
def FP:N3->Out (Exit×AS):=λx=> .br x.isLeft (.get x.getLeft? λa=> .ok (qt a)) (.get x.getRight? λb=> .ok (zx b))
def lJ:A8->aad->N3:=λ(mq,f,t7,t8) y=>match y with | .inl y=> .inl y | .inr z=> .inr (z)
abbrev avV:=(List gK)×cZ
def zw:A8->Prop:=λ(l,v,n,i)=>l.length<=1000000000/\(v.2.2.2.2.1.length<=1000)/\n=l.length/\∃k:Nat,k<=l.length/\i=k
def pz:A8->aad:=λ(l,v,n,i)=>Is (YJ v) (l.drop i.toNat) i
def ay2:avV->Prop:=λ(l,v)=>l.length<=1000000000/\(v.2.2.2.2.1.length<=1000)
def ajb:avV->Int:=λ(l,v)=>ans (YJ v) l
def aac:=dz.fv pA zw lJ pz FP
def Mc:A8->Option N3:=gM aac pA
def Ha:Fs Tryz.prog ay2 bu ajb:=eN 243 Tryz.f243 (λ(sv,fc)=>([.d (.slice gh) sv,.fn 229 (.cons (.dO dR fc) (.nil))],[])) (λx=>⟨.d ti x,[],[]⟩) [some (.slice gh),none] [aCM] {loops:=nY [(2,{aV:=[0,1,7,8]})],outs:=nX [(2,{},{aV:=[4]})],fF:=nK [(2,aac)]}
def N0:= @eC Tryz.prog (jI Ha.G) Ha.an 0 Tryz.f243 0 _ pA
abbrev VI:=kP Tryz.prog (jI Ha.G) Ha.an 0 Tryz.f243 0 pA zw lJ pz FP
theorem ajc:jf Mc zw lJ pz:=mn (jx [.d (.slice gh),.d dR,.d ti,.d ti] λ_=>b8)
theorem QH:nq @N0 pA zw lJ pz FP VI:=oa
theorem Md{R:Type}(mq:(List gK))(f:cZ)(t7:Int)(t8:Int)(kn:AS->Option R)(kx:Exit->AS->Option R):N0 (mq,f,t7,t8) kn kx=aJ ((gr t8 t7)) (aJ (ed t8 (((ag mq):Nat):Int)) (al (YI.call ((nth gh mq (ae t8)),f)) λx1=>aJ (x1) (kx (qt t8).1 (qt t8).2) (kn (pA (mq,f,t7,(bI .i64 t8 (1:Int)))))) none) (kx (zx ()).1 (zx ()).2):=b8
theorem aFC{R:Type}(sv fc)(k:K1 R):Ha.A (sv,fc) k=al (Mc (sv,fc,(sv.length:Int),0)) λx2=>aJ (x2.isLeft) (al (x2.getLeft?) λa3=>k (Ha.out a3)) (al (x2.getRight?) λb4=>k (Ha.out (-1))):=b8
theorem anx:VI:=by
 refine QH (λ(l,v,n,i)=>l.length - i.toNat) ?_
 rintro⟨l,v,n,i⟩ ⟨hb,hv,rfl,k,hk,rfl⟩;have hb:l.length<=1000000000:=hb;have hk:k<=l.length:=hk;by_cases h:k < l.length
 ·have n1:nth gh l k=l[k]:=cd (t:=gh) h;have hd:Is (YJ v) (l.drop k) k=if YJ v l[k] then .inl (k:Int) else Is (YJ v) (l.drop (k+1)) ((k+1:Nat):Int):=by rw[aq h];rfl
  have step:∀ {R:Type} (kn:AS->Option R) (kx:Exit->AS->Option R),N0 (l,v,(l.length:Int),(k:Int)) kn kx=aJ (YJ v l[k]) (kx (qt (k:Int)).1 (qt (k:Int)).2) (kn (pA (l,v,(l.length:Int),((k+1:Nat):Int)))):=by intro R kn kx;rw[Md,aU ak,bj ak ak,aa,n1,aw9 (d:=(l[k],v)) hv,N.mD ak];rfl
  cases hp:YJ v l[k]
  ·left;refine⟨(l,v,l.length,((k+1:Nat):Int)),⟨hb,hv,rfl,k+1,ak,rfl⟩,by simp only[aa];omega,?_,λkn kx=> ?_⟩
   ·simp only[lJ,pz,aa,hd,hp,bn,bt]
   ·rw[step,hp,ao]
  ·right;refine⟨qt (k:Int),?_,λkn kx=> ?_⟩
   ·simp only[lJ,pz,aa,hd,hp,bG];rfl
   ·rw[step,hp,aj]
 ·right;obtain rfl:k=l.length:=ak;refine⟨zx (),?_,λkn kx=> ?_⟩
  ·simp only[lJ,pz,aa,aL];rfl
  ·rw[Md,aQ ak,ao]
theorem aFD:Ha.Ok:=by rintro⟨l,v⟩ ⟨hb,hv⟩;rw[aFC,ajc (d:=(l,v,l.length,0)) ⟨hb,hv,rfl,0,ak,rfl⟩];simp only[ah,lJ,pz,aX,aD,bu,ajb,ans];cases Is (YJ v) l 0 <;> rfl
theorem ay3:Ha.RS:=rE [.d (.slice gh),.d dR] Ha
def aFE:=Ha.eU aFD 1 ⟨.fv anx,trivial⟩
abbrev avT:=(List gK)×cZ
def ay0:avT->Prop:=λ(l,b)=>l.length<=1000000000/\b.2.2.2.2.1.length<=1000
def aLu:avT->Bool:=λ(l,b)=>l.any (YJ b)
def Z9:Fs Tryz.prog ay0 bu aLu:=eN 228 Tryz.f228 (λ(sv,fc)=>([.d (.slice gh) sv,.fn 229 (.cons (.dO dR fc) (.nil))],[])) (λx=>⟨.d .bool x,[],[]⟩) [some (.slice gh),none] [aFE]
theorem aFw{R:Type}(sv fc)(k:K1 R):Z9.A (sv,fc) k=al (Ha.call (sv,fc)) λx1=>k (Z9.out (Cn x1 0)):=b8
theorem aFx:Z9.Ok:=by rintro⟨l,v⟩ ⟨hb,hv⟩;rw[aFw,ay3 (d:=(l,v)) ⟨hb,hv⟩];simp only[ah,bu,ajb,Z7];rfl
theorem ay1:Z9.RS:=rE [.d (.slice gh),.d dR] Z9
def aFy:=Z9.eU aFx
def aqL:(dw×cZ)->Prop:=λ(t,b)=>nU t/\t.1.length<=1000000000/\b.2.2.2.2.1.length<=1000
def Pt:(dw×cZ)->Bool:=λ(t,b)=>axa b t
def Nc:Fs Tryz.prog aqL bu Pt:=eN 227 Tryz.f227 (λ(t,t1)=>([.d ez t,.dO dR t1],[])) (λx=>⟨.d .bool x,[],[]⟩) [some ez,none] [aFy]
theorem axb{R:Type}(t t1)(k:K1 R):Nc.A (t,t1) k=al (Z9.call (t.1,t1)) λx1=>k (Nc.out x1):=b8
theorem axc:Nc.Ok:=by rintro⟨t,b⟩ ⟨_,hl,hb⟩;rw[axb,ay1 (d:=(t.1,b)) ⟨hl,hb⟩];rfl
theorem aqM:Nc.RS:=rE [.d ez,.d dR] Nc
def axd:=Nc.eU axc
abbrev xn:=(List dw)×Int×cZ×Int×(List dw)×Int×Int×Nat×(List (bC×dP))×(List bT)×Nat×(List (bC×dP))×(List bT)
def nC:xn->AS:=λ(vj,dQ,endv,fees,t18,t19,t20,o0L,dS,eA,aGo,n17,an3)=>⟨([bF,.d (.slice ez) vj,.d ti dQ,.fn 227 (.cons (.dO dR endv) (.nil))]++aP 5 ([.d ti fees,bF,eT 17]++aP 6 ([.d (.slice ez) t18,.d ti t19,.d ti t20]++aP 32 []))),[.obj 0 false (.pr (.cj (.bm 1) 0) (.pr (.bA (.bm 2) 0 [] 0 0 o0L) fC)),.obj 0 false (.mp bg eO dS),.obj 0 false (.vec 256 cD eA)],(bM 17 ([[.obj 0 false (.pr (.cj (.new 17 1) 0) (.pr (.bA (.new 17 2) 0 [] 0 0 aGo) fC)),.obj 0 false (.mp bg eO n17),.obj 0 false (.vec 256 cD an3)]]++bM 35 []))⟩
abbrev PE:=(Nat×(List (bC×dP))×(List bT))×(Int×Int×Int)
def l7:PE->Exit×AS:=λx=>(.ret,⟨(aP 8 ([.d ti x.2.1,.d ti x.2.2.1,.d ti x.2.2.2]++aP 42 [])),[.obj 0 false (.pr (.cj (.bm 1) 0) (.pr (.bA (.bm 2) 0 [] 0 0 x.1.1) fC)),.obj 0 false (.mp bg eO x.1.2.1),.obj 0 false (.vec 256 cD x.1.2.2)],(ab 53 [])⟩)
abbrev PF:=((List dw)×Nat×(List (bC×dP))×(List bT))×(Int)
def wq:PF->Exit×AS:=λx=>(.exit 0,⟨([bF,.d (.slice ez) x.1.1]++aP 7 ([.d ti x.2]++aP 43 [])),[.obj 0 false (.pr (.cj (.bm 1) 0) (.pr (.bA (.bm 2) 0 [] 0 0 x.1.2.1) fC)),.obj 0 false (.mp bg eO x.1.2.2.1),.obj 0 false (.vec 256 cD x.1.2.2.2)],(ab 53 [])⟩)
abbrev HV:=(PE)⊕(PF)
abbrev U7:=((Int×Int×Int))⊕(Int)
def CZ:HV->Out (Exit×AS):=λx=> .br x.isLeft (.get x.getLeft? λa=> .ok (l7 a)) (.get x.getRight? λb=> .ok (wq b))
def jg:xn->U7->HV:=λ(vj,dQ,endv,fees,t18,t19,t20,o0L,dS,eA,aGo,n17,an3) y=>match y with | .inl y=> .inl ((o0L,dS,eA),y) | .inr z=> .inr (((vj,o0L,dS,eA),z))
abbrev alS:=(List dw)×Int×cZ×Nat×(List (bC×dP))×(List bT)
def BN(b:cZ)(h:Int):List dw->Int->Int->At->(Int×Int×Int)⊕Int
 |[],_,fees,_=> .inr fees
 |t::l,k,fees,a=>if axa b t then .inl (k,fees,14) else if(eK t h a).2≠0 then .inl (k,fees,(eK t h a).2) else BN b h l (k+1) (fees+(eK t h a).1) (fw t h a)
def aCv(l:List dw)(b:cZ):Prop:=l.length<=100/\(∀t∈l,nU t/\t.1.length<=1000000)/\b.2.2.2.2.1.length<=1000
def wo:xn->Prop:=λ(_,_,b,fees,l,n',i,_,_,_,n,a,s)=>aCv l b/\n'=(l.length:Int)/\∃k:Nat,k<=l.length/\i=k/\DU (500+k) n a s/\0<=fees/\fees+vE a<=1125899906842624
def lr:xn->U7:=λ(_,h,b,fees,l,_,i,_,_,_,_,a,_)=>BN b h (l.drop i.toNat) i fees a
def Si(b:cZ)(h:Int)(l:List dw)(a:At):Int×Int×Int:=match BN b h l 0 0 (ja a) with
 | .inl x=>x
 | .inr f=>((l.length:Int),f,0)
def aq5:alS->Prop:=λ(l,_,b,n,a,s)=>aCv l b/\DU 500 n a s
def alT:alS->(Int×Int×Int×Nat×(List (bC×dP))×(List bT)):=λ(l,h,b,n,a,s)=>((Si b h l a).1,(Si b h l a).2.1,(Si b h l a).2.2,n,a,s)
def U5:=dz.fv nC wo jg lr CZ
def HW:xn->Option HV:=gM U5 nC
def xU:Fs Tryz.prog aq5 bu alT:=eN 230 Tryz.f230 (λ(l,height,endc,o0baL,o1,o2)=>([.ptr (.bm 0) 0 [] 0,.d (.slice ez) l,.d ti height,.fn 227 (.cons (.dO dR endc) (.nil))],[.obj 0 false (.pr (.cj (.bm 1) 0) (.pr (.bA (.bm 2) 0 [] 0 0 o0baL) (.d .unit ()))),.obj 0 false (.mp bg eO o1),.obj 0 false (.vec 256 cD o2)])) (λx=>⟨.cons (.d ti x.1) (.cons (.d ti x.2.1) (.cons (.d ti x.2.2.1) (.nil))),[.obj 0 false (.pr (.cj (.bm 1) 0) (.pr (.bA (.bm 2) 0 [] 0 0 x.2.2.2.1) (.d .unit ()))),.obj 0 false (.mp bg eO x.2.2.2.2.1),.obj 0 false (.vec 256 cD x.2.2.2.2.2)],[]⟩) [none,some (.slice ez),some ti,none] [afS,axd,amF,amB] {loops:=nY [(3,{aV:=[1,2,3,9,11,18,19,20],sites:=[17],owns:=[⟨11,[.snd,.fst],17,88⟩]})],outs:=nX [(3,{aV:=[1,9]},{aV:=[8,9,10]})],fF:=nK [(3,U5)]}
def U6:= @eC Tryz.prog (jI xU.G) xU.an 0 Tryz.f230 0 _ nC
abbrev PD:=kP Tryz.prog (jI xU.G) xU.an 0 Tryz.f230 0 nC wo jg lr CZ
theorem adQ:jf HW wo jg lr:=mn (jx [.d (.slice ez),.d ti,.d dR,.d ti,.d (.slice ez),.d ti,.d ti,.n,.d (.slice (.pair bg eO)),.d (.slice cD),.n,.d (.slice (.pair bg eO)),.d (.slice cD)] λ_=>b8)
theorem Ng:nq @U6 nC wo jg lr CZ PD:=oa
theorem um{R:Type}(vj:(List dw))(dQ:Int)(endv:cZ)(fees:Int)(t18:(List dw))(t19:Int)(t20:Int)(o0L:Nat)(dS:(List (bC×dP)))(eA:(List bT))(aGo:Nat)(n17:(List (bC×dP)))(an3:(List bT))(kn:AS->Option R)(kx:Exit->AS->Option R):U6 (vj,dQ,endv,fees,t18,t19,t20,o0L,dS,eA,aGo,n17,an3) kn kx=aJ ((gr t20 t19)) (aJ (ed t20 (((ag t18):Nat):Int)) (al (Nc.call ((nth ez t18 (ae t20)),endv)) λx1=>aJ (x1) (kx (l7 ((o0L,dS,eA),(t20,fees,(14:Int)))).1 (l7 ((o0L,dS,eA),(t20,fees,(14:Int)))).2) (al (mY.call ((nth ez t18 (ae t20)),dQ,aGo,n17,an3)) λx2=>aJ ((A7 x2.2.1 (0:Int))) (kx (l7 ((o0L,dS,eA),(t20,fees,x2.2.1))).1 (l7 ((o0L,dS,eA),(t20,fees,x2.2.1))).2) (al (AQ ((nth ez t18 (ae t20)),dQ,x2.2.2.1,x2.2.2.2.1,x2.2.2.2.2)) λx3=>aJ (x3.isLeft) (al (x3.getLeft?) λaU6=>kn (nC (vj,dQ,endv,(bI .i64 fees x2.1),t18,t19,(bI .i64 t20 (1:Int)),o0L,dS,eA,aU6.2.1,aU6.2.2.1,aU6.2.2.2))) (al (x3.getRight?) λaU7=>kn (nC (vj,dQ,endv,(bI .i64 fees x2.1),t18,t19,(bI .i64 t20 (1:Int)),o0L,dS,eA,aU7.2.1,aU7.2.2.1,aU7.2.2.2)))))) none) (kx (wq ((vj,o0L,dS,eA),fees)).1 (wq ((vj,o0L,dS,eA),fees)).2):=b8
theorem axx{R:Type}(l height endc o0baL o1 o2)(k:K1 R):xU.A (l,height,endc,o0baL,o1,o2) k=al (xY.call (o0baL,o1,o2)) λx1=>al (HW (l,height,endc,0,l,(l.length:Int),0,x1.1,x1.2.1,x1.2.2.1,x1.2.2.2.1,x1.2.2.2.2.1,x1.2.2.2.2.2)) λx8=>aJ (x8.isLeft) (al (x8.getLeft?) λa9=>k (xU.out (a9.2.1,a9.2.2.1,a9.2.2.2,a9.1.1,a9.1.2.1,a9.1.2.2))) (al (x8.getRight?) λaw6=>k (xU.out ((aw6.1.1.length:Int),aw6.2,0,aw6.1.2.1,aw6.1.2.2.1,aw6.1.2.2.2))):=b8
theorem ahQ:PD:=by
 refine Ng (λ(_,_,_,_,l,_,i,_)=>l.length - i.toNat) ?_
 rintro⟨l0,h,b,fees,l,n',i,nS,a0,s0,n,a,s⟩ ⟨⟨h1,h2,h3⟩,rfl,k,hk,rfl,hg,f0,f1⟩;have h1:l.length<=100:=h1;have hk:k<=l.length:=hk;have f0:0<=fees:=f0;have f1:fees+vE a<=1125899906842624:=f1;have hg:DU (500+k) n a s:=hg;by_cases gQ:k < l.length
 ·have n1:nth ez l k=l[k]:=cd (t:=ez) gQ;have hd:l.drop k=l[k]::l.drop (k+1):=aq gQ;obtain⟨hv,hi⟩:=h2 _ (aN gQ);have aOR:=aqM (d:=(l[k],b)) ⟨hv,iw hi (by decide),h3⟩;by_cases hb:axa b l[k]=true
  ·right;refine⟨l7 ((nS,a0,s0),((k:Int),fees,14)),?_,λkn kx=> ?_⟩;rotate_left
   ·rw[um,aU ak,aj,bj ak ak,aj,aa,n1,aOR];simp only[ah,bu,Pt,hb,aj]
   ·simp only[jg,lr,aa,hd,BN,if_pos hb];rfl
  ·have hb':axa b l[k]=false:=by simpa using hb
   have hc:=hg.check (t:=l[k]) (h:=h) hv;rcases hg.apply (t:=l[k]) (h:=h) ak hv with⟨he,_⟩ | ⟨aWn,he,ha,hg'⟩
   ·right;refine⟨l7 ((nS,a0,s0),((k:Int),fees,(eK l[k] h a).2)),?_,λkn kx=> ?_⟩;rotate_left
    ·rw[um,aU ak,aj,bj ak ak,aj,aa,n1,aOR];simp only[ah,bu,Pt,hb',ao];rw[hc];simp only[ah];rw[fo he,aj]
    ·simp only[jg,lr,aa,hd,BN,if_neg hb,if_pos he];rfl
   ·left;have Ef:=(aWn.sum hg.C7.1).1;have aWu:0<=(eK l[k] h a).1:=by obtain⟨_,_,_,f,_,_,hp,aTE⟩:=Kn he;rw[aTE];exact hp
    have uI:=als λp hp=>(hg'.C7.2 p hp).2.2.2.1
    refine⟨(l0,h,b,fees+(eK l[k] h a).1,l,(l.length:Int),((k+1:Nat):Int),nS,a0,s0,n+1,fw l[k] h a,s.take n++ [stepOf l[k] a]),⟨⟨h1,h2,h3⟩,rfl,k+1,ak,rfl,hg',by show(0:Int)<=fees+(eK l[k] h a).1;omega,by show fees+(eK l[k] h a).1+vE (fw l[k] h a)<=_;omega⟩,by simp only[aa];omega,?_,λkn kx=> ?_⟩
    ·simp only[jg,lr,aa,hd,BN,if_neg hb,if_neg (λe=>e he:¬(eK l[k] h a).2≠0)];rfl
    ·rw[um,aU ak,aj,bj ak ak,aj,aa,n1,aOR];simp only[ah,bu,Pt,hb',ao];rw[hc];simp only[ah];rw[dB he,ao,ha];simp only[ah,dJ,ao,da];rw[fZ (x:=fees) ak ak,N.mD ak]
 ·right;obtain rfl:k=l.length:=ak;refine⟨wq ((l0,nS,a0,s0),fees),?_,λkn kx=> ?_⟩;rotate_left
  ·rw[um,aQ ak,ao]
  ·simp only[jg,lr,aa,aL,BN];rfl
theorem axy:xU.Ok:=by
 rintro⟨l,h,b,n,a,s⟩ ⟨hw,hg⟩;have hg:DU 500 n a s:=hg;obtain⟨hc,hl⟩:=hg.canon;have z1:((0:Int)).toNat=0:=rfl;rw[axx,hg.copy ak];simp only[ah];rw[hl,adQ (d:=(l,h,b,0,l,(l.length:Int),0,n,a,s,n,ja a,s.take n)) ⟨hw,rfl,0,aK _,rfl,hc,iD 0,by show(0:Int)+vE (ja a)<=_;have:=hc.sum;omega⟩];simp only[ah,jg,lr,z1,aD,bu,alT,Si];cases BN b h l 0 0 (ja a) with
 |inl x=>rfl
 |inr f=>rfl
theorem aq6:xU.RS:=rE [.d (.slice ez),.d ti,.d dR,.n,.d (.slice (.pair bg eO)),.d (.slice cD)] xU
def axz:=xU.eU axy 1 ⟨.fv ahQ,trivial⟩
abbrev alO:=cZ×Nat×(List (bC×dP))×(List bT)
def tK(b:cZ)(a:At):Int×Int:=if Il b.1 b.2.2.2.1 then(if 4000 < aQr b then(0,3) else(Si b b.1 b.2.2.1 a).2) else(0,1)
def W5(b:cZ):Prop:=auX b/\b.2.2.1.length<=100/\∀t∈b.2.2.1,t.1.length<=1000000
theorem W5.walk{b:cZ}(h:W5 b):aCv b.2.2.1 b:=⟨h.2.1,λt ht=>⟨h.1.1.2 t ht,h.2.2 t ht⟩,h.1.2.2.1⟩
def aq1:alO->Prop:=λ(b,n,a,s)=>W5 b/\DU 500 n a s
def alP:alO->(Int×Int×Nat×(List (bC×dP))×(List bT)):=λ(b,n,a,s)=>((tK b a).1,(tK b a).2,n,a,s)
def CX:Fs Tryz.prog aq1 bu alP:=eN 195 Tryz.f195 (λ(b,o0baL,o1,o2)=>([.ptr (.bm 0) 0 [] 0,.d dR b],[.obj 0 false (.pr (.cj (.bm 1) 0) (.pr (.bA (.bm 2) 0 [] 0 0 o0baL) (.d .unit ()))),.obj 0 false (.mp bg eO o1),.obj 0 false (.vec 256 cD o2)])) (λx=>⟨.cons (.d ti x.1) (.cons (.d ti x.2.1) (.nil)),[.obj 0 false (.pr (.cj (.bm 1) 0) (.pr (.bA (.bm 2) 0 [] 0 0 x.2.2.1) (.d .unit ()))),.obj 0 false (.mp bg eO x.2.2.2.1),.obj 0 false (.vec 256 cD x.2.2.2.2)],[]⟩) [none,some dR] [axq,aOk,axz]
theorem axr{R:Type}(b o0baL o1 o2)(k:K1 R):CX.A (b,o0baL,o1,o2) k=al (CW.call (b.1,b.2.2.2.1)) λx1=>aJ ((!x1)) (k (CX.out (0,1,o0baL,o1,o2))) (aJ ((qZ (b.2.2.1.length:Int) 200)) (k (CX.out (0,3,o0baL,o1,o2))) (al (aJu.call b) λx2=>aJ ((qZ x2 4000)) (k (CX.out (0,3,o0baL,o1,o2))) (al (xU.call (b.2.2.1,b.1,b,o0baL,o1,o2)) λx3=>k (CX.out (x3.2.1,x3.2.2.1,x3.2.2.2.1,x3.2.2.2.2.1,x3.2.2.2.2.2))))):=b8
theorem axs:CX.Ok:=by
 rintro⟨b,n,a,s⟩ ⟨hb,hg⟩;have hb:W5 b:=hb;have hl:b.2.2.1.length<=100:=hb.2.1;rw[axr,aqX (d:=(b.1,b.2.2.2.1)) trivial];simp only[ah,bu,YT,bu,alP,tK];cases hf:Il b.1 b.2.2.2.1 with
 |false=>rfl
 |true=>
  have aNt:=hf;simp only[Il,aW]at aNt;rw[cm,ao,cr ak,ao,aJ9 (d:=b) ⟨hb.1,aNt.2.2.1,by show b.2.2.2.1<=_;omega⟩];simp only[ah,bu,aC7,bG];by_cases hw:4000 < aQr b
  ·rw[cP ak,aj,if_pos hw]
  ·rw[cr ak,ao,if_neg hw,aq6 (d:=(b.2.2.1,b.1,b,n,a,s)) ⟨hb.walk,hg⟩];rfl
theorem aq2:CX.RS:=rE [.d dR,.n,.d (.slice (.pair bg eO)),.d (.slice cD)] CX
def axt:=CX.eU axs
abbrev avc:=cZ×Nat×(List (bC×dP))×(List bT)
def axm:avc->Prop:=λ(b,n,a,s)=>W5 b/\DU 500 n a s
def avd:avc->(Int×Nat×(List (bC×dP))×(List bT)):=λ(b,n,a,s)=>((tK b a).2,n,a,s)
def YS:Fs Tryz.prog axm bu avd:=eN 161 Tryz.f161 (λ(b,o0baL,o1,o2)=>([.ptr (.bm 0) 0 [] 0,.d dR b],[.obj 0 false (.pr (.cj (.bm 1) 0) (.pr (.bA (.bm 2) 0 [] 0 0 o0baL) (.d .unit ()))),.obj 0 false (.mp bg eO o1),.obj 0 false (.vec 256 cD o2)])) (λx=>⟨.d ti x.1,[.obj 0 false (.pr (.cj (.bm 1) 0) (.pr (.bA (.bm 2) 0 [] 0 0 x.2.1) (.d .unit ()))),.obj 0 false (.mp bg eO x.2.2.1),.obj 0 false (.vec 256 cD x.2.2.2)],[]⟩) [none,some dR] [axt]
theorem aCZ{R:Type}(b o0baL o1 o2)(k:K1 R):YS.A (b,o0baL,o1,o2) k=al (CX.call (b,o0baL,o1,o2)) λx1=>k (YS.out (x1.2.1,x1.2.2.1,x1.2.2.2.1,x1.2.2.2.2)):=b8
theorem aC0:YS.Ok:=by rintro⟨b,n,a,s⟩ h;rw[aCZ,aq2 (d:=(b,n,a,s)) h];rfl
theorem axn:YS.RS:=rE [.d dR,.n,.d (.slice (.pair bg eO)),.d (.slice cD)] YS
def aC1:=YS.eU aC0
abbrev AF:=cZ×Int×(List dw)×Int×Int×Nat×(List (bC×dP))×(List bT)
def oW:AF->AS:=λ(iR,err,t12,t13,t14,o0L,dS,eA)=>⟨([.ptr (.bm 0) 0 [] 0,bF,bF,.dO dR iR,bF,.d ti err]++aP 6 ([.d (.slice ez) t12,.d ti t13,.d ti t14]++aP 13 [])),[.obj 0 false (.pr (.cj (.bm 1) 0) (.pr (.bA (.bm 2) 1 [] 0 0 o0L) fC)),.obj 0 false (.mp bg eO dS),.obj 1 false (.vec 256 cD eA)],(ab 28 [])⟩
abbrev UZ:=(Int)×(Nat×(List (bC×dP))×(List bT))
def yH:UZ->Exit×AS:=λx=>(.ret,⟨(aP 4 ([.d ti x.1]++aP 23 [])),[.obj 0 false (.pr (.cj (.bm 1) 0) (.pr (.bA (.bm 2) 1 [] 0 0 x.2.1) fC)),.obj 0 false (.mp bg eO x.2.2.1),.obj 1 false (.vec 256 cD x.2.2.2)],(ab 28 [])⟩)
abbrev U0:=(Int)×(Nat×(List (bC×dP))×(List bT))
def yI:U0->Exit×AS:=λx=>(.exit 0,⟨(aP 5 ([.d ti x.1]++aP 22 [])),[.obj 0 false (.pr (.cj (.bm 1) 0) (.pr (.bA (.bm 2) 1 [] 0 0 x.2.1) fC)),.obj 0 false (.mp bg eO x.2.2.1),.obj 1 false (.vec 256 cD x.2.2.2)],(ab 28 [])⟩)
abbrev Nd:=(UZ)⊕(U0)
abbrev YR:=((Nat×(List (bC×dP))×(List bT)))⊕((Nat×(List (bC×dP))×(List bT)))
def E3:Nd->Out (Exit×AS):=λx=> .br x.isLeft (.get x.getLeft? λa=> .ok (yH a)) (.get x.getRight? λb=> .ok (yI b))
def jE:AF->YR->Nd:=λ(iR,err,t12,t13,t14,o0L,dS,eA) y=>match y with | .inl y=> .inl (err,y) | .inr z=> .inr ((err,z))
abbrev avb:=cZ×Nat×(List (bC×dP))×(List bT)
abbrev aCs:=Nat×At×List bT
def aly(h:Int)(S:aCs)(t:dw):aCs:=if(eK t h S.2.1).2≠0 then S else(S.1+1,fw t h S.2.1,S.2.2.take S.1++ [stepOf t S.2.1])
def axA(b:cZ)(S:aCs):aCs:=b.2.2.1.foldl (aly b.1) S
def yG:AF->Prop:=λ(_,_,l,m,i,n,a,s)=>(l.length<=100/\∀t∈l,nU t)/\m=(l.length:Int)/\∃k:Nat,k<=l.length/\i=k/\DU (400+k) n a s
def nA:AF->YR:=λ(b,e,l,_,i,n,a,s)=>if e≠0/\i < (l.length:Int) then .inl (n,a,s) else .inr ((l.drop i.toNat).foldl (aly b.1) (n,a,s))
def axk:avb->Prop:=λ(b,n,a,s)=>W5 b/\DU 400 n a s
def ahM:avb->(Int×Nat×(List (bC×dP))×(List bT)):=λ(b,n,a,s)=>((tK b a).2,if(tK b a).2≠0 then(n,a,s) else axA b (n,a,s))
def YP:=dz.fv oW yG jE nA E3
def Lt:AF->Option Nd:=gM YP oW
def GZ:Fs Tryz.prog axk bu ahM:=eN 102 Tryz.f102 (λ(b,o0baL,o1,o2)=>([.ptr (.bm 0) 0 [] 0,.d dR b],[.obj 0 false (.pr (.cj (.bm 1) 0) (.pr (.bA (.bm 2) 0 [] 0 0 o0baL) (.d .unit ()))),.obj 0 false (.mp bg eO o1),.obj 0 false (.vec 256 cD o2)])) (λx=>⟨.d ti x.1,[.obj 0 false (.pr (.cj (.bm 1) 0) (.pr (.bA (.bm 2) 1 [] 0 0 x.2.1) (.d .unit ()))),.obj 0 false (.mp bg eO x.2.2.1),.obj 1 false (.vec 256 cD x.2.2.2)],[]⟩) [none,some dR] [aC1,amB] {loops:=nY [(3,{aV:=[0,3,5,12,13,14],aq9:=[(2,1)]})],outs:=nX [(3,{aV:=[5],aq9:=[(2,1)]},{aV:=[4],aq9:=[(2,1)]})],fF:=nK [(3,YP)],aq9:=[(2,1)]}
def YQ:= @eC Tryz.prog (jI GZ.G) GZ.an 0 Tryz.f102 0 _ oW
abbrev UY:=kP Tryz.prog (jI GZ.G) GZ.an 0 Tryz.f102 0 oW yG jE nA E3
theorem ahN:jf Lt yG jE nA:=mn (jx [.d dR,.d ti,.d (.slice ez),.d ti,.d ti,.n,.d (.slice (.pair bg eO)),.d (.slice cD)] λ_=>b8)
theorem Py:nq @YQ oW yG jE nA E3 UY:=oa
theorem wm{R:Type}(iR:cZ)(err:Int)(t12:(List dw))(t13:Int)(t14:Int)(o0L:Nat)(dS:(List (bC×dP)))(eA:(List bT))(kn:AS->Option R)(kx:Exit->AS->Option R):YQ (iR,err,t12,t13,t14,o0L,dS,eA) kn kx=aJ ((gr t14 t13)) (aJ (ed t14 (((ag t12):Nat):Int)) (aJ ((A7 err (0:Int))) (kx (yH (err,(o0L,dS,eA))).1 (yH (err,(o0L,dS,eA))).2) (al (AQ ((nth ez t12 (ae t14)),iR.1,o0L,dS,eA)) λx1=>aJ (x1.isLeft) (al (x1.getLeft?) λaJo=>kn (oW (iR,err,t12,t13,(bI .i64 t14 (1:Int)),aJo.2.1,aJo.2.2.1,aJo.2.2.2))) (al (x1.getRight?) λaJp=>kn (oW (iR,err,t12,t13,(bI .i64 t14 (1:Int)),aJp.2.1,aJp.2.2.1,aJp.2.2.2))))) none) (kx (yI (err,(o0L,dS,eA))).1 (yI (err,(o0L,dS,eA))).2):=b8
theorem aCW{R:Type}(b o0baL o1 o2)(k:K1 R):GZ.A (b,o0baL,o1,o2) k=al (YS.call (b,o0baL,o1,o2)) λx1=>al (Lt (b,x1.1,b.2.2.1,(b.2.2.1.length:Int),0,x1.2.1,x1.2.2.1,x1.2.2.2)) λx3=>aJ (x3.isLeft) (al (x3.getLeft?) λa4=>k (GZ.out (a4.1,a4.2.1,a4.2.2.1,a4.2.2.2))) (al (x3.getRight?) λb5=>k (GZ.out (b5.1,b5.2.1,b5.2.2.1,b5.2.2.2))):=b8
theorem alJ:UY:=by
 refine Py (λ(_,_,l,_,i,_,_,_)=>l.length - i.toNat) ?_
 rintro⟨b,e,l,m,i,n,a,s⟩ ⟨⟨hl,hv⟩,rfl,k,hk,rfl,hg⟩;have hl:l.length<=100:=hl;have hk:k<=l.length:=hk;by_cases h:k < l.length
 ·have n1:nth ez l k=l[k]:=cd (t:=ez) h;have hd:l.drop k=l[k]::l.drop (k+1):=aq h;have aVL:=hv _ (aN h);generalize l[k]=t at n1 hd aVL;by_cases h0:e=0
  ·left;have ne:¬(e≠0/\(k:Int) < (l.length:Int)):=λx=>x.1 h0
   have ne2:¬(e≠0/\((k+1:Nat):Int) < (l.length:Int)):=λx=>x.1 h0
   rcases hg.apply (t:=t) (h:=b.1) ak aVL with⟨hc,ha⟩ | ⟨_,hc,ha,aWw⟩
   ·refine⟨(b,e,l,(l.length:Int),((k+1:Nat):Int),n,a,s),⟨⟨hl,hv⟩,rfl,k+1,h,rfl,hg.mono ak⟩,by simp only[aa];omega,?_,λkn kx=> ?_⟩
    ·simp only[jE,nA,if_neg ne,if_neg ne2,aa,hd,bq];rw[show aly b.1 (n,a,s) t=(n,a,s) from if_pos hc]
    ·rw[wm,aU ak,aj,bj ak ak,aj,dB h0,ao,aa,n1,ha];simp only[ah,oU,aj,mC];rw[N.mD ak]
   ·refine⟨(b,e,l,(l.length:Int),((k+1:Nat):Int),n+1,fw t b.1 a,s.take n++ [stepOf t a]),⟨⟨hl,hv⟩,rfl,k+1,h,rfl,aWw⟩,by simp only[aa];omega,?_,λkn kx=> ?_⟩
    ·simp only[jE,nA,if_neg ne,if_neg ne2,aa,hd,bq];rw[show aly b.1 (n,a,s) t=(n+1,fw t b.1 a,s.take n++ [stepOf t a]) from if_neg (λx=>x hc)]
    ·rw[wm,aU ak,aj,bj ak ak,aj,dB h0,ao,aa,n1,ha];simp only[ah,dJ,ao,da];rw[N.mD ak]
  ·right;refine⟨yH (e,(n,a,s)),?_,λkn kx=> ?_⟩
   ·have pe:e≠0/\(k:Int) < (l.length:Int):=⟨h0,ak⟩;simp only[jE,nA,if_pos pe];rfl
   ·rw[wm,aU ak,aj,bj ak ak,aj,fo h0,aj]
 ·right;obtain rfl:k=l.length:=ak;refine⟨yI (e,(n,a,s)),?_,λkn kx=> ?_⟩
  ·have ne:¬(e≠0/\(l.length:Int) < (l.length:Int)):=λx=>ak
   simp only[jE,nA,if_neg ne,aa,aL,cO];rfl
  ·rw[wm,aQ ak,ao]
theorem aCX:GZ.Ok:=by
 rintro⟨b,n,a,s⟩ ⟨hb,hg⟩;have hg:DU 400 n a s:=hg;rw[aCW,axn (d:=(b,n,a,s)) ⟨hb,hg.mono (by decide)⟩];simp only[ah,bu,avd,bu,ahM];rw[ahN (d:=(b,(tK b a).2,b.2.2.1,(b.2.2.1.length:Int),0,n,a,s)) ⟨⟨hb.2.1,hb.1.1.2⟩,rfl,0,aK _,rfl,hg⟩];simp only[ah,jE,nA,aX,aD];by_cases h0:(tK b a).2=0
 ·rw[if_neg (λx=>x.1 h0),if_neg (λx=>x h0)];rfl
 ·rw[if_pos h0];by_cases hl:(0:Int) < (b.2.2.1.length:Int)
  ·rw[if_pos ⟨h0,hl⟩];rfl
  ·rw[if_neg (λx=>hl x.2),bE (by omega:b.2.2.1.length=0)];rfl
theorem axl:GZ.RS:=rE [.d dR,.n,.d (.slice (.pair bg eO)),.d (.slice cD)] GZ
def aCY:=GZ.eU aCX 1 ⟨.fv alJ,trivial⟩
abbrev Nn:=Nat×Nat×(List (bC×dP))×(List bT)×(List cZ)
def Fb:Nn->Int->((Nat×Nat×(List (bC×dP))×(List bT)×(List cZ))×(Int)):=λ(o0baL,o1baL,o2,o3,o4) y=>((o0baL,o1baL,o2,o3,o4),y)
def ah3:Nn->Prop:=λ_=>True
def No:Nn->Int:=λ(n,_)=>(n:Int)
def pb:Fs Tryz.prog ah3 Fb No:=eN 43 Tryz.f43 (λ(o0baL,o1baL,o2,o3,o4)=>([.ptr (.bm 0) 0 [] 0],[.obj 0 false (.pr (.ptr (.bm 1) 0 [] 0) (.pr (.bA (.bm 4) 0 [] 0 0 o0baL) (.d .unit ()))),.obj 0 false (.pr (.cj (.bm 2) 0) (.pr (.bA (.bm 3) 0 [] 0 0 o1baL) (.d .unit ()))),.obj 0 false (.mp bg eO o2),.obj 0 false (.vec 256 cD o3),.obj 0 false (.vec 48 dR o4)])) (λx=>⟨.d ti x.2,[.obj 0 false (.pr (.ptr (.bm 1) 0 [] 0) (.pr (.bA (.bm 4) 0 [] 0 0 x.1.1) (.d .unit ()))),.obj 0 false (.pr (.cj (.bm 2) 0) (.pr (.bA (.bm 3) 0 [] 0 0 x.1.2.1) (.d .unit ()))),.obj 0 false (.mp bg eO x.1.2.2.1),.obj 0 false (.vec 256 cD x.1.2.2.2.1),.obj 0 false (.vec 48 dR x.1.2.2.2.2)],[]⟩) [none]
theorem amc{R:Type}(o0baL o1baL o2 o3 o4)(k:K1 R):pb.A (o0baL,o1baL,o2,o3,o4) k=k (pb.out ((o0baL,o1baL,o2,o3,o4),((o0baL:Nat):Int))):=b8
theorem amd:pb.Ok:=by rintro⟨n,_⟩ _;rw[amc];rfl
theorem Fc:pb.RS:=rE [.n,.n,.d (.slice (.pair bg eO)),.d (.slice cD),.d (.slice dR)] pb
def Cc:=pb.eU amd
abbrev ah5:=Nat×Nat×(List (bC×dP))×(List bT)×(List cZ)
def afH:ah5->Bs->((Nat×Nat×(List (bC×dP))×(List bT)×(List cZ))×(Bs)):=λ(o0baL,o1baL,o2,o3,o4) y=>((o0baL,o1baL,o2,o3,o4),y)
def rS(n:Nat)(bs:List cZ):Bs:=if n=0 then ab 32 0 else aqV (nth dR bs (n - 1))
def axX:ah5->Prop:=λ(n,_,_,_,bs)=>aqo n bs
def ah6:ah5->Bs:=λ(n,_,_,_,bs)=>rS n bs
def LH:Fs Tryz.prog axX afH ah6:=eN 45 Tryz.f45 (λ(o0baL,o1baL,o2,o3,o4)=>([.ptr (.bm 0) 0 [] 0],[.obj 0 false (.pr (.ptr (.bm 1) 0 [] 0) (.pr (.bA (.bm 4) 0 [] 0 0 o0baL) (.d .unit ()))),.obj 0 false (.pr (.cj (.bm 2) 0) (.pr (.bA (.bm 3) 0 [] 0 0 o1baL) (.d .unit ()))),.obj 0 false (.mp bg eO o2),.obj 0 false (.vec 256 cD o3),.obj 0 false (.vec 48 dR o4)])) (λx=>⟨.d tH x.2,[.obj 0 false (.pr (.ptr (.bm 1) 0 [] 0) (.pr (.bA (.bm 4) 0 [] 0 0 x.1.1) (.d .unit ()))),.obj 0 false (.pr (.cj (.bm 2) 0) (.pr (.bA (.bm 3) 0 [] 0 0 x.1.2.1) (.d .unit ()))),.obj 0 false (.mp bg eO x.1.2.2.1),.obj 0 false (.vec 256 cD x.1.2.2.2.1),.obj 0 false (.vec 48 dR x.1.2.2.2.2)],[]⟩) [none] [aJ7]
theorem aDE{R:Type}(o0baL o1baL o2 o3 o4)(k:K1 R):LH.A (o0baL,o1baL,o2,o3,o4) k=aJ ((qY ((o0baL:Nat):Int) 0)) (k (LH.out ((o0baL,o1baL,o2,o3,o4),(ab 32 0)))) (aJ (ed (cR .i64 ((o0baL:Nat):Int) 1) ((o0baL:Nat):Int)) (aJ (decide ((0+(ae (cR .i64 ((o0baL:Nat):Int) 1))) < (ag o4))) (aJ (decide ((((0+(ae (cR .i64 ((o0baL:Nat):Int) 1)))*36)+0)=(0+((ae (cR .i64 ((o0baL:Nat):Int) 1))*36)))) (al (SS.call (nth dR o4 (0+(ae (cR .i64 ((o0baL:Nat):Int) 1))))) λx1=>k (LH.out ((o0baL,o1baL,o2,o3,o4),x1))) none) none) none):=b8
theorem aDF:LH.Ok:=by
 rintro⟨n,m,a,s,bs⟩ ⟨h1,h2,h3⟩;have h1:n<=bs.length:=h1;have h2:n<=1000000:=h2;rw[aDE];cases n with
 |zero=>
  rw[du (show((0:Nat):Int)=0 from rfl),aj];rfl
 |succ k=>
  have e1:cR .i64 (((k+1:Nat):Nat):Int) (1:Int)=(k:Int):=by rw[eL ak ak];omega
  have hk:k < bs.length:=ak;rw[eS ak,ao,e1,bj ak ak,aj];simp only[aa,aO,cq,aM hk,aj,cv];have n1:nth dR bs k=bs[k]:=cd (t:=dR) hk;rw[n1,aC3 (d:=bs[k]) (h3 _ (aN hk))];simp only[ah,bu,aqY,ah6,rS,iX,n1,if_neg (Nat.succ_ne_zero k)];rfl
theorem afI:LH.RS:=rE [.n,.n,.d (.slice (.pair bg eO)),.d (.slice cD),.d (.slice dR)] LH
def amh:=LH.eU aDF
abbrev aru:=Nat×(List cZ)
abbrev aDJ:=Nat×(List cZ)
def Zd:aru->aDJ->(((List cZ))×(Nat×(List cZ))):=λ(sL,o0) y=>(o0,y)
def aDI:aru->Prop:=λ(n,l)=>n<=l.length/\n<=1000000
def arv:aru->aDJ:=λ(n,l)=>((l.take n).length,l.take n)
def ah8:Fs Tryz.prog aDI Zd arv:=eN 164 Tryz.f164 (λ(sL,o0)=>([.bA (.bm 0) 0 [] 0 0 sL],[.obj 0 false (.vec 48 dR o0)])) (λx=>⟨.bA (.new 0 0) 0 [] 0 0 x.2.1,[.obj 0 false (.vec 48 dR x.1)],[.obj 0 false (.vec 48 dR x.2.2)]⟩) [none] [] {bJ:=[5],owns:=[⟨2,[],5,41⟩]}
theorem aKm{R:Type}(sL o0)(k:K1 R):ah8.A (sL,o0) k=aJ (decide (0 < sL)) (aJ (decide (0=0/\(0+sL)<=(ag o0))) (aJ (db (0+(ag (cut o0 0 sL))) 96) (k (ah8.out (o0,((0+(ag (cut o0 0 sL))),((aR 0 (ab 0 (0,((ab 32 0),(([]:List dw),(0,(([]:List bC),())))))))++(cut o0 0 sL)))))) none) none) (nd (k (ah8.out (o0,(0,([]:List cZ))))) (aJ (decide (0=0/\(0+sL)<=(ag o0))) (aJ (db (0+(ag (cut o0 0 sL))) 96) (k (ah8.out (o0,((0+(ag (cut o0 0 sL))),((aR 0 (ab 0 (0,((ab 32 0),(([]:List dw),(0,(([]:List bC),())))))))++(cut o0 0 sL)))))) none) none)):=b8
theorem aKn:ah8.Ok:=by
 rintro⟨n,l⟩ ⟨h1,h2⟩;have h1:n<=l.length:=h1;have h2:n<=1000000:=h2;have ec:cut l 0 n=l.take n:=by simp[cut]
 have ht:(l.take n).length<=1000000:=by rw[bp];omega
 have hr:db (l.take n).length 96=true:=dr ak ak;rw[aKm];simp only[aO,ec,hr,aj,dH,aT,mQ,aM h1,Zd,arv];by_cases h:0 < n
 ·simp only[aM h,aj]
 ·have:n=0:=ak;subst this;simp only[dH,ba,aK,cv,aj,zH,aS (ik 0),ao]
theorem aDK:ah8.RS:=rE [.n,.d (.slice dR)] ah8
def aKo:=ah8.eU aKn
abbrev Y5:=Nat×Nat×(List (bC×dP))×(List bT)×(List cZ)
abbrev amb:=Nat×(List (bC×dP))×(List bT)×(List cZ)×Nat×Nat×(List (bC×dP))×(List bT)×(List cZ)
def Y6:Y5->amb->((Nat)×(Nat×(List (bC×dP))×(List bT)×(List cZ)×Nat×Nat×(List (bC×dP))×(List bT)×(List cZ))):=λ(o0baL,o1baL,o2,o3,o4) y=>(o0baL,y)
def arj:Y5->Prop:=λ(nb,n,a,s,bs)=>DU 500 n a s/\aqo nb bs
def ama:Y5->amb:=λ(nb,n,a,s,bs)=>(n,a,s,bs,nb,n,ja a,s.take n,bs.take nb)
def Nl:Fs Tryz.prog arj Y6 ama:=eN 103 Tryz.f103 (λ(o0baL,o1baL,o2,o3,o4)=>([.ptr (.bm 0) 0 [] 0],[.obj 0 false (.pr (.ptr (.bm 1) 0 [] 0) (.pr (.bA (.bm 4) 0 [] 0 0 o0baL) (.d .unit ()))),.obj 0 false (.pr (.cj (.bm 2) 0) (.pr (.bA (.bm 3) 0 [] 0 0 o1baL) (.d .unit ()))),.obj 0 false (.mp bg eO o2),.obj 0 false (.vec 256 cD o3),.obj 0 false (.vec 48 dR o4)])) (λx=>⟨.ptr (.new 0 0) 0 [] 0,[.obj 0 false (.pr (.ptr (.bm 1) 0 [] 0) (.pr (.bA (.bm 4) 0 [] 0 0 x.1) (.d .unit ()))),.obj 0 false (.pr (.cj (.bm 2) 0) (.pr (.bA (.bm 3) 0 [] 0 0 x.2.1) (.d .unit ()))),.obj 0 false (.mp bg eO x.2.2.1),.obj 0 false (.vec 256 cD x.2.2.2.1),.obj 0 false (.vec 48 dR x.2.2.2.2.1)],[.obj 0 false (.pr (.ptr (.new 0 1) 0 [] 0) (.pr (.bA (.new 0 4) 0 [] 0 0 x.2.2.2.2.2.1) (.d .unit ()))),.obj 0 false (.pr (.cj (.new 0 2) 0) (.pr (.bA (.new 0 3) 0 [] 0 0 x.2.2.2.2.2.2.1) (.d .unit ()))),.obj 0 false (.mp bg eO x.2.2.2.2.2.2.2.1),.obj 0 false (.vec 256 cD x.2.2.2.2.2.2.2.2.1),.obj 0 false (.vec 48 dR x.2.2.2.2.2.2.2.2.2)]⟩) [none] [afS,aKo] {bJ:=[14]}
theorem axU{R:Type}(o0baL o1baL o2 o3 o4)(k:K1 R):Nl.A (o0baL,o1baL,o2,o3,o4) k=al (xY.call (o1baL,o2,o3)) λx1=>al (ah8.call (o0baL,o4)) λx2=>k (Nl.out (o0baL,(x1.1,x1.2.1,x1.2.2.1,x2.1,x2.2.1,x1.2.2.2.1,x1.2.2.2.2.1,x1.2.2.2.2.2,x2.2.2))):=b8
theorem axV:Nl.Ok:=by
 rintro⟨nb,n,a,s,bs⟩ ⟨hg,hc⟩;have hg:DU 500 n a s:=hg;obtain⟨h1,h2,_⟩:=hc;have h1:nb<=bs.length:=h1;rw[axU,hg.copy ak,hg.canon.2];simp only[ah];have e:(bs.take nb).length=nb:=by rw[bp];omega
 rw[aDK (d:=(nb,bs)) ⟨h1,h2⟩];simp only[ah,Zd,arv,e];rfl
theorem ark:Nl.RS:=rE [.n,.n,.d (.slice (.pair bg eO)),.d (.slice cD),.d (.slice dR)] Nl
def axW:=Nl.eU axV
def aDO:(List bC)->Prop:=λl=>l.length<=1000000
def arx:(List bC)->(List bC):=λl=>l
def aib:Fs Tryz.prog aDO bu arx:=eN 146 Tryz.f146 (λsv=>([.d (.slice bg) sv],[])) (λx=>⟨.d (.slice bg) x,[],[]⟩) [some (.slice bg)] [] {bJ:=[5],res:=[some (.slice bg)]}
theorem aKu{R:Type}(sv)(k:K1 R):aib.A sv k=aJ (decide (0 < (ag sv))) (aJ (db (0+(ag sv)) 40) (aJ (decide (0=0/\(0+(0+(ag sv)))<=(ag ((aR 0 (ab 0 ((ab 32 0),(0,()))))++sv)))) (k (aib.out (cut ((aR 0 (ab 0 ((ab 32 0),(0,()))))++sv) 0 (0+(ag sv))))) none) none) (nd (k (aib.out ([]:List bC))) (aJ (db (0+(ag sv)) 40) (aJ (decide (0=0/\(0+(0+(ag sv)))<=(ag ((aR 0 (ab 0 ((ab 32 0),(0,()))))++sv)))) (k (aib.out (cut ((aR 0 (ab 0 ((ab 32 0),(0,()))))++sv) 0 (0+(ag sv))))) none) none)):=b8
theorem aKv:aib.Ok:=by
 intro l hl;have hl:l.length<=1000000:=hl;have hr:db l.length 40=true:=dr ak ak;rw[aKu];simp only[aO,hr,aj,dH,aT,ax,jl,cv,eY,bu,arx];by_cases h:0 < l.length
 ·simp only[aM h,aj]
 ·have:l=[]:=bE ak;subst this;simp only[ba,zH,aS (ik 0),ao]
theorem aDP:aib.RS:=rE [.d (.slice bg)] aib
def aKw:=aib.eU aKv
abbrev Nk:=Nat×(List dw)×Int×Int×cZ×Int×Bs×Int×(List dw)
abbrev Y1:=Nat×(List dw)
def yR:Nk->Y1->((cZ×Int×Bs×Int)×(Nat×(List dw))):=λ(txsL,t9,t10,t11,n1,n2,kQ,th,n24) y=>((n1,n2,kQ,th),y)
def aqw(t:dw):dw:=(ab6 (auH t)).1
def aon(b:cZ):cZ:=(b.1,(b.2.1,(b.2.2.1.map aqw,(b.2.2.2.1,(b.2.2.2.2.1,())))))
theorem OP{t:dw}(hv:nU t)(jn:hJ t=true):aqw t=t:=by unfold aqw;rw[aty hv jn]
theorem ajK{b:cZ}(hv:auX b)(jn:∀t∈b.2.2.1,hJ t=true):aon b=b:=by unfold aon;rw[show b.2.2.1.map aqw=b.2.2.1 from(gD λt ht=>OP (hv.1.2 t ht) (jn t ht)).trans (List.map_id _)]
def ahX:Nk->Prop:=λ(L,l,n,i,b1,b2,b3,b4,row)=>(l).length<=1000000/\∃k:Nat,k<=(l).length/\i=k/\n=(l).length/\L=(row).length/\(row).length<=1000000+k/\(∀t∈l,nU t)
def Fa:Nk->Y1:=λ(L,l,n,i,b1,b2,b3,b4,row)=>(L+(bR (ae i) l).length,row++(bR (ae i) l).map aqw)
def axP:cZ->Prop:=λb=>auX b
def ahW:cZ->cZ:=λb=>aon b
def uo:Ls ahX yR Fa:=rp (λ(txsL,t9,t10,t11,n1,n2,kQ,th,n24)=>⟨([bF,eT 1,eT 2,om 24 txsL]++aP 5 ([.d (.slice ez) t9,.d ti t10,.d ti t11]++aP 21 [])),[],([[],dK (.d dR n1),dK (.pr (.d ti n2) (.pr (.d tH kQ) (.pr (.de) (.pr (.d ti th) (.pr (.de) fC)))))]++bM 21 ([dK (.vec 55 ez n24)]++bM 8 []))⟩) (λx=>(.exit 0,⟨([bF,eT 1,eT 2,om 24 x.2.1]++aP 29 []),[],([[],dK (.d dR x.1.1),dK (.pr (.d ti x.1.2.1) (.pr (.d tH x.1.2.2.1) (.pr (.de) (.pr (.d ti x.1.2.2.2) (.pr (.de) fC)))))]++bM 21 ([dK (.vec 55 ez x.2.2)]++bM 8 []))⟩))
def H2:Fs Tryz.prog axP bu ahW:=eN 95 Tryz.f95 (λb=>([.d dR b],[])) (λx=>⟨.d dR x,[],[]⟩) [some dR] [UB,adh,aKw] {bJ:=[1],loops:=nY [(3,{aV:=[1,2,3,9,10,11],sites:=[1,2,24],owns:=[⟨3,[],24,34⟩]})],outs:=nX [(3,{aV:=[1,2,3],sites:=[1,2,24]},{aV:=[2]})],fF:=nK [(3,uo.E)],res:=[some dR]}
theorem ahY:uo.RS:=rL [.n,.d (.slice ez),.d ti,.d ti,.d dR,.d ti,.d tB,.d ti,.d (.slice ez)] uo
theorem LA{R:Type}(txsL t9 t10 t11 n1 n2 kQ th n24)(kn:K2 R)(kx:K3 R):H2.R 0 uo (txsL,t9,t10,t11,n1,n2,kQ,th,n24) kn kx=aJ ((gr t11 t10)) (aJ (ed t11 (t9.length:Int)) (al (rn.call (nth ez t9 (ae t11))) λx1=>al (kR.call x1) λx2=>aJ (decide (txsL<=(ag n24))) (aJ (db (txsL+1) 56) (kn (uo.st ((txsL+1),t9,t10,(bI .i64 t11 1),n1,n2,kQ,th,((aR txsL n24)++ [x2.1])))) none) none) none) (uo.go kx ((n1,n2,kQ,th),(txsL,n24))):=b8
theorem aDo{R:Type}(b)(k:K1 R):H2.A b k=al (uo.call (0,b.2.2.1,(b.2.2.1.length:Int),0,b,0,(ab 32 0),0,([]:List dw))) λx5=>al (aib.call x5.1.1.2.2.2.2.1) λx6=>aJ (decide (0=0/\(0+x5.2.1)<=(ag x5.2.2))) (k (H2.out (x5.1.1.1,(x5.1.1.2.1,((cut x5.2.2 0 x5.2.1),(x5.1.1.2.2.2.1,(x6,x5.1.1.2.2.2.2.2))))))) none:=b8
theorem al5:(H2.kM 0 uo):=by
 refine(H2.mf 0 uo) (λ(L,l,n,i,b1,b2,b3,b4,row)=>(l).length - ae i) ?_
 rintro⟨L,l,n,i,b1,b2,b3,b4,row⟩ ⟨hlen,k,hk,rfl,rfl,rfl,s9,hx⟩;have hlen:(l).length<=1000000:=hlen;have hk:k<=(l).length:=hk;have s9:(row).length<=1000000+k:=s9;have hx:∀t∈l,nU t:=hx;by_cases h:k < (l).length
 ·left;have n1:nth ez l k=l[k]:=cd (t:=ez) h;have hd:bR k l=l[k]::bR (k+1) l:=aq h;refine⟨((row).length+1,l,((l).length:Int),((k+1:Nat):Int),b1,b2,b3,b4,row++ [aqw l[k]]),⟨hlen,k+1,ak,rfl,rfl,by rw[ai];rfl,by rw[ai];show(row).length+1<=_;omega,hx⟩,by simp only[aa];omega,?_,λkn kx=> ?_⟩
  ·simp only[yR,Fa,aa,hd,bQ,aA,aF,c9];rw[show ∀a c:Nat,a+1+c=a+(c+1) from λa c=>ak]
  ·rw[LA,aU ak,bj (show(0:Int)<=(k:Int) by omega) ak,aa,n1];simp only[aj];have hv:=hx _ (aN h);rw[OV (d:=l[k]) hv];simp only[ah,bu,JN];rw[UE (d:=auH l[k]) ⟨(Ax hv).1,by show(auH l[k]).length<=_;have:=(Ax hv).2;omega⟩];simp only[ah,bu,akE];rw[aM (ax _),dr ak ak,N.mD ak,bK];rfl
 ·right;obtain rfl:k=(l).length:=ak;intro R kn kx;rw[LA,aQ ak,ao];simp only[yR,Fa,aa,aL,iq,aZ,ba,cq]
theorem aDp:H2.Ok:=by rintro b ⟨⟨h1,h2⟩,h3,h4,h5⟩;have z1:((0:Int)).toNat=0:=rfl;rw[aDo,ahY (d:=(0,b.2.2.1,(b.2.2.1.length:Int),0,b,0,ab 32 0,0,[])) ⟨by show b.2.2.1.length<=_;omega,0,aK _,rfl,rfl,rfl,by show(0:Nat)<=_;omega,h2⟩];simp only[ah,yR,Fa,z1,aD,aO,aT];rw[aDP (d:=b.2.2.2.2.1) (by show b.2.2.2.2.1.length<=_;omega)];simp only[ah,bu,arx];rw[aM (by rw[bV];exact⟨trivial,ax _⟩),aj,eY (bV ..)];rfl
theorem afy:H2.RS:=rE [.d dR] H2
def al6:=H2.eU aDp 1 ⟨.fv al5,trivial⟩
abbrev j6:Ty:=(.pair .bool (.pair ez (.pair tH (.pair ti (.pair .bool .unit)))))
abbrev ia:=(Bool×(dw×(Bs×(Int×(Bool×Unit)))))
abbrev Aw:Ty:=(.pair ti (.pair (.slice ez) (.pair ti (.pair bg .unit))))
abbrev Ki:=(Int×((List dw)×(Int×(bC×Unit))))
abbrev MN:Ty:=(.pair ti (.pair bg (.pair ez (.pair ti .unit))))
abbrev An:=(Int×(bC×(dw×(Int×Unit))))
abbrev Wm:=List (bC×ia)
def qa:ia:=(false,((([]:List gK),(([]:List gm),((0:Int),()))),((ab 32 (0:Int)),((0:Int),(false,())))))
def nJ(o:bC)(m:Wm):ia:=(bN bg o m).getD qa
def aJc:Unit->Prop:=λ_=>True
def aJb:Unit->((List (bC×ia))):=λ_=> []
def UN:Fs Tryz.prog aJc bu aJb:=eN 11 Tryz.f11 (λ_=>([],[])) (λx=>⟨.ptr (.new 0 0) 0 [] 0,[],[.obj 0 false (.pr (.cj (.new 0 1) 0) (.d .unit ())),.obj 0 false (.mp bg j6 x)]⟩) [] [] {bJ:=[3]}
theorem aM5{R:Type}(d)(k:K1 R):UN.A d k=k (UN.out ([]:List (bC×ia))):=b8
theorem aM6:UN.Ok:=by rintro d _;rw[aM5];rfl
theorem aqh:UN.RS:=rE [] UN
def awU:=UN.eU aM6
def aBV:dw->Prop:=λt=>nU t
def akW:dw->dw:=λt=>aqw t
def M0:Fs Tryz.prog aBV bu akW:=eN 57 Tryz.f57 (λt=>([.d ez t],[])) (λx=>⟨.d ez x,[],[]⟩) [some ez] [UB,adh]
theorem aI4{R:Type}(t)(k:K1 R):M0.A t k=al (rn.call t) λx1=>al (kR.call x1) λx2=>k (M0.out x2.1):=b8
theorem aI5:M0.Ok:=by intro t hv;have hv:nU t:=hv;rw[aI4,OV (d:=t) hv];simp only[ah,bu,JN];rw[UE (d:=auH t) ⟨(Ax hv).1,by show(auH t).length<=_;have:=(Ax hv).2;omega⟩];rfl
theorem UK:M0.RS:=rE [.d ez] M0
def adC:=M0.eU aI5
abbrev awY:=bC×(List (bC×ia))
def aB5:awY->Prop:=λ_=>True
def ak7:awY->((List (bC×ia))):=λ(o,m)=>if(bN bg o m).isSome then m else eG bg o qa m
def CV:Fs Tryz.prog aB5 bu ak7:=eN 30 Tryz.f30 (λ(o,o1)=>([.ptr (.bm 0) 0 [] 0,.d bg o],[.obj 0 false (.pr (.cj (.bm 1) 0) (.d .unit ())),.obj 0 false (.mp bg j6 o1)])) (λx=>⟨.nil,[.obj 0 false (.pr (.cj (.bm 1) 0) (.d .unit ())),.obj 0 false (.mp bg j6 x)],[]⟩) [none,some bg]
theorem aJk{R:Type}(o o1)(k:K1 R):CV.A (o,o1) k=aJ ((!(bN bg o o1).isSome)) (k (CV.out (eG bg o (false,((([]:List gK),(([]:List gm),(0,()))),((ab 32 0),(0,(false,()))))) o1))) (k (CV.out o1)):=b8
theorem aJl:CV.Ok:=by rintro⟨o,m⟩ _;rw[aJk];simp only[bu,ak7];cases(bN bg o m).isSome <;> rfl
theorem EV:CV.RS:=rE [.d bg,.d (.slice (.pair bg j6))] CV
def adF:=CV.eU aJl
abbrev awQ:=bC×(List (bC×ia))
def aBR:awQ->Prop:=λ_=>True
def awR:awQ->((List (bC×ia))):=λ(o,m)=>gY bg o m
def Sj:Fs Tryz.prog aBR bu awR:=eN 36 Tryz.f36 (λ(o,o1)=>([.ptr (.bm 0) 0 [] 0,.d bg o],[.obj 0 false (.pr (.cj (.bm 1) 0) (.d .unit ())),.obj 0 false (.mp bg j6 o1)])) (λx=>⟨.nil,[.obj 0 false (.pr (.cj (.bm 1) 0) (.d .unit ())),.obj 0 false (.mp bg j6 x)],[]⟩) [none,some bg]
theorem aIY{R:Type}(o o1)(k:K1 R):Sj.A (o,o1) k=k (Sj.out (gY bg o o1)):=b8
theorem aIZ:Sj.Ok:=by rintro⟨o,m⟩ _;rw[aIY];rfl
theorem ahr:Sj.RS:=rE [.d bg,.d (.slice (.pair bg j6))] Sj
def aqd:=Sj.eU aIZ
abbrev ak4:=bC×(List (bC×ia))
abbrev awW:=dw×Int×Bool
def K7:ak4->awW->(((List (bC×ia)))×(dw×Int×Bool)):=λ(o,o1) y=>(o1,y)
def aB3:ak4->Prop:=λ(o,m)=>nU (nJ o m).2.1
def Sz:ak4->awW:=λ(o,m)=>if(nJ o m).1 then(aqw (nJ o m).2.1,(nJ o m).2.2.2.1,true) else(qa.2.1,0,false)
def CU:Fs Tryz.prog aB3 K7 Sz:=eN 21 Tryz.f21 (λ(o,o1)=>([.ptr (.bm 0) 0 [] 0,.d bg o],[.obj 0 false (.pr (.cj (.bm 1) 0) (.d .unit ())),.obj 0 false (.mp bg j6 o1)])) (λx=>⟨.cons (.d ez x.2.1) (.cons (.d ti x.2.2.1) (.cons (.d .bool x.2.2.2) (.nil))),[.obj 0 false (.pr (.cj (.bm 1) 0) (.d .unit ())),.obj 0 false (.mp bg j6 x.1)],[]⟩) [none,some bg] [adC] {res:=[some ez,none,none]}
theorem aJf{R:Type}(o o1)(k:K1 R):CU.A (o,o1) k=aJ ((!((bN bg o o1).getD (false,((([]:List gK),(([]:List gm),(0,()))),((ab 32 0),(0,(false,())))))).1)) (k (CU.out (o1,((([]:List gK),(([]:List gm),(0,()))),0,false)))) (al (M0.call ((bN bg o o1).getD (false,((([]:List gK),(([]:List gm),(0,()))),((ab 32 0),(0,(false,())))))).2.1) λx1=>k (CU.out (o1,(x1,((bN bg o o1).getD (false,((([]:List gK),(([]:List gm),(0,()))),((ab 32 0),(0,(false,())))))).2.2.2.1,true)))):=b8
theorem aJg:CU.Ok:=by
 rintro⟨o,m⟩ hv;have hv:nU (nJ o m).2.1:=hv;rw[aJf];simp only[K7,Sz];have e:(bN bg o m).getD qa=nJ o m:=rfl;cases h:(nJ o m).1 with
 |false=>
  rw[show((bN bg o m).getD (false,((([]:List gK),(([]:List gm),(0,()))),((ab 32 0),(0,(false,())))))).1=false from h];rfl
 |true=>
  rw[show((bN bg o m).getD (false,((([]:List gK),(([]:List gm),(0,()))),((ab 32 0),(0,(false,())))))).1=true from h,cm,ao];rw[show M0.call ((bN bg o m).getD (false,((([]:List gK),(([]:List gm),(0,()))),((ab 32 0),(0,(false,())))))).2.1=some (aqw (nJ o m).2.1) from UK (d:=(nJ o m).2.1) hv];rfl
theorem UO:CU.RS:=rE [.d bg,.d (.slice (.pair bg j6))] CU
def aqk:=CU.eU aJg
abbrev adB:=bC×(List (bC×ia))
def auL:adB->Bool->(((List (bC×ia)))×(Bool)):=λ(o,o1) y=>(o1,y)
def auK:adB->Prop:=λ_=>True
def aI0:adB->Bool:=λ(o,m)=>(nJ o m).2.2.2.2.1
def BO:Fs Tryz.prog auK auL aI0:=eN 28 Tryz.f28 (λ(o,o1)=>([.ptr (.bm 0) 0 [] 0,.d bg o],[.obj 0 false (.pr (.cj (.bm 1) 0) (.d .unit ())),.obj 0 false (.mp bg j6 o1)])) (λx=>⟨.d .bool x.2,[.obj 0 false (.pr (.cj (.bm 1) 0) (.d .unit ())),.obj 0 false (.mp bg j6 x.1)],[]⟩) [none,some bg]
theorem aBS{R:Type}(o o1)(k:K1 R):BO.A (o,o1) k=k (BO.out (o1,((bN bg o o1).getD (false,((([]:List gK),(([]:List gm),(0,()))),((ab 32 0),(0,(false,())))))).2.2.2.2.1)):=b8
theorem aBT:BO.Ok:=by rintro⟨o,m⟩ _;rw[aBS];rfl
theorem auM:BO.RS:=rE [.d bg,.d (.slice (.pair bg j6))] BO
def aBU:=BO.eU aBT
abbrev PJ:=(List gm)
def Y8:PJ->SA:=λouts=>([.d (.slice gl) outs],[])
abbrev avn:=(Unit)⊕((List (bC×dP))×(List bT)×(List cZ))
abbrev ah4:=(Unit)⊕((List (bC×dP))×(List bT)×(List cZ))
def Kp:ah4->fK:=λx=>match x with | .inl x=>⟨.ri,[],[]⟩ | .inr x=>⟨eT 0,[],[.obj 0 false (.pr (.ptr (.new 0 1) 0 [] 0) (.pr (.bA (.new 0 4) 0 [] 0 0 0) fC)),.obj 0 false (.pr (.cj (.new 0 2) 0) (.pr (.bA (.new 0 3) 0 [] 0 0 0) fC)),.obj 0 false (.mp bg eO x.1),.obj 0 false (.vec 256 cD x.2.1),.obj 0 false (.vec 48 dR x.2.2)]⟩
def D4:PJ->avn->ah4:=λouts y=>match y with | .inl y=> .inl y | .inr y=> .inr y
def S6:PJ->Prop:=λouts=>∀o∈outs,aqy o
def Ko:PJ->avn:=λouts=>match ajz outs with | none=> .inl () | some r=> .inr (r,[],[])
def aKk:oR:=jI (P:=Tryz.prog) [aEp]
def aDB:xi:= {bJ:=[10],owns:=[⟨2,[.snd,.fst],0,41⟩]}
def avl:= @HM Tryz.prog aKk aDB 0 Tryz.f9 _ Y8
abbrev aDA:=ahy @avl S6 D4 Ko Kp
theorem aDC{R:Type}(outs:(List gm))(k:fK->Option R):avl outs k=al (ZC outs) λx1=>aJ (x1.isLeft) (al (x1.getLeft?) λaJo=>k (Kp (.inl ()))) (al (x1.getRight?) λaJp=>k (Kp (.inr (aJp.1,aJp.2,([]:List cZ))))):=b8
theorem aDD:aDA:=by
 intro outs h;rw[aDC,ayi (d:=outs) h];simp only[ah,Qa,Ko];cases ajz outs with
 |none=>rfl
 |some r=>rfl
def avm:=Entry.aee [some (.slice gl)] Y8 S6 D4 Ko Kp
def Fe:PJ->Option ah4:=Lz avm Y8
theorem afC:jf Fe S6 D4 Ko:=acr (Xd [.d (.slice gl)] λ_=>b8)
def ame:SG Tryz.prog:=⟨9,mr,avm,.of (.aNX (.fn 0 b8 aDD trivial)) (by rfl)⟩
abbrev ari:=Int×Nat×Nat×(List (bC×dP))×(List bT)×(List cZ)
def al9:ari->(cZ×Bool)->((Nat×Nat×(List (bC×dP))×(List bT)×(List cZ))×(cZ×Bool)):=λ(height,o0baL,o1baL,o2,o3,o4) y=>((o0baL,o1baL,o2,o3,o4),y)
def aQo(h:Int)(nb:Nat)(bs:List cZ):cZ×Bool:=if 1<=h/\h<=nb then(aon (nth dR bs (h.toNat - 1)),true) else(dR.zero,false)
def aDy:ari->Prop:=λ(_,nb,_,_,_,bs)=>aqo nb bs
def Y4:ari->(cZ×Bool):=λ(h,nb,_,_,_,bs)=>((aQo h nb bs).1,(aQo h nb bs).2)
def ah2:Fs Tryz.prog aDy al9 Y4:=eN 46 Tryz.f46 (λ(height,o0baL,o1baL,o2,o3,o4)=>([.ptr (.bm 0) 0 [] 0,.d ti height],[.obj 0 false (.pr (.ptr (.bm 1) 0 [] 0) (.pr (.bA (.bm 4) 0 [] 0 0 o0baL) (.d .unit ()))),.obj 0 false (.pr (.cj (.bm 2) 0) (.pr (.bA (.bm 3) 0 [] 0 0 o1baL) (.d .unit ()))),.obj 0 false (.mp bg eO o2),.obj 0 false (.vec 256 cD o3),.obj 0 false (.vec 48 dR o4)])) (λx=>⟨.cons (.d dR x.2.1) (.cons (.d .bool x.2.2) (.nil)),[.obj 0 false (.pr (.ptr (.bm 1) 0 [] 0) (.pr (.bA (.bm 4) 0 [] 0 0 x.1.1) (.d .unit ()))),.obj 0 false (.pr (.cj (.bm 2) 0) (.pr (.bA (.bm 3) 0 [] 0 0 x.1.2.1) (.d .unit ()))),.obj 0 false (.mp bg eO x.1.2.2.1),.obj 0 false (.vec 256 cD x.1.2.2.2.1),.obj 0 false (.vec 48 dR x.1.2.2.2.2)],[]⟩) [none,some ti] [al6] {res:=[some dR,none]}
theorem aKh{R:Type}(height o0baL o1baL o2 o3 o4)(k:K1 R):ah2.A (height,o0baL,o1baL,o2,o3,o4) k=aJ ((gr height 1)) (k (ah2.out ((o0baL,o1baL,o2,o3,o4),((0,((ab 32 0),(([]:List dw),(0,(([]:List bC),()))))),false)))) (aJ ((qZ height ((o0baL:Nat):Int))) (k (ah2.out ((o0baL,o1baL,o2,o3,o4),((0,((ab 32 0),(([]:List dw),(0,(([]:List bC),()))))),false)))) (aJ (ed (cR .i64 height 1) ((o0baL:Nat):Int)) (aJ (decide ((0+(ae (cR .i64 height 1))) < (ag o4))) (aJ (decide ((((0+(ae (cR .i64 height 1)))*36)+0)=(0+((ae (cR .i64 height 1))*36)))) (al (H2.call (nth dR o4 (0+(ae (cR .i64 height 1))))) λx1=>k (ah2.out ((o0baL,o1baL,o2,o3,o4),(x1,true)))) none) none) none)):=b8
theorem aKi:ah2.Ok:=by
 rintro⟨h,nb,n,a,s,bs⟩ ⟨h1,h2,h3⟩;have h1:nb<=bs.length:=h1;have h2:nb<=1000000:=h2;rw[aKh];by_cases a1:1<=h
 ·rw[aQ ak,ao];by_cases a2:h<=nb
  ·obtain⟨k,rfl⟩:∃k:Nat,h=(k:Int)+1:=⟨(h - 1).toNat,ak⟩;have hk:k < bs.length:=ak;have e1:cR .i64 ((k:Int)+1) (1:Int)=(k:Int):=by rw[eL ak ak];omega
   have e2:((k:Int)+1).toNat - 1=k:=ak;rw[cr ak,ao,e1,bj ak ak,aj];simp only[aa,aO,cq,aM hk,aj,cv];have n1:nth dR bs k=bs[k]:=cd (t:=dR) hk;rw[n1,afy (d:=bs[k]) (h3 _ (aN hk))];simp only[ah,bu,ahW,Y4,aQo,if_pos (And.intro a1 a2),e2,n1];rfl
  ·rw[cP ak,aj];simp only[Y4,aQo,if_neg (λe:1<=h/\h<=(nb:Int)=>a2 e.2)];rfl
 ·rw[aU ak,aj];simp only[Y4,aQo,if_neg (λe:1<=h/\h<=(nb:Int)=>a1 e.1)];rfl
theorem aDz:ah2.RS:=rE [.d ti,.n,.n,.d (.slice (.pair bg eO)),.d (.slice cD),.d (.slice dR)] ah2
def aKj:=ah2.eU aKi
abbrev avk:=cZ×Nat×Nat×(List (bC×dP))×(List bT)×(List cZ)
def mm(b:cZ)(nb:Nat)(S:aCs)(bs:List cZ):Int×Nat×Nat×At×List bT×List cZ:=if b.2.1=rS nb bs/\b.1=(nb:Int)+1 then if(tK b S.2.1).2=0 then(0,nb+1,(axA b S).1,(axA b S).2.1,(axA b S).2.2,bs.take nb++ [aon b]) else((tK b S.2.1).2,nb,S.1,S.2.1,S.2.2,bs) else(1,nb,S.1,S.2.1,S.2.2,bs)
def S5:avk->Prop:=λ(b,nb,n,a,s,bs)=>W5 b/\DU 400 n a s/\aqo nb bs
def ah0:avk->(Int×Nat×Nat×(List (bC×dP))×(List bT)×(List cZ)):=λ(b,nb,n,a,s,bs)=>mm b nb (n,a,s) bs
def G2:Fs Tryz.prog S5 bu ah0:=eN 55 Tryz.f55 (λ(b,o0baL,o1baL,o2,o3,o4)=>([.ptr (.bm 0) 0 [] 0,.d dR b],[.obj 0 false (.pr (.ptr (.bm 1) 0 [] 0) (.pr (.bA (.bm 4) 0 [] 0 0 o0baL) (.d .unit ()))),.obj 0 false (.pr (.cj (.bm 2) 0) (.pr (.bA (.bm 3) 0 [] 0 0 o1baL) (.d .unit ()))),.obj 0 false (.mp bg eO o2),.obj 0 false (.vec 256 cD o3),.obj 0 false (.vec 48 dR o4)])) (λx=>⟨.d ti x.1,[.obj 0 false (.pr (.ptr (.bm 1) 0 [] 0) (.pr (.bA (.bm 4) 1 [] 0 0 x.2.1) (.d .unit ()))),.obj 0 false (.pr (.cj (.bm 2) 0) (.pr (.bA (.bm 3) 1 [] 0 0 x.2.2.1) (.d .unit ()))),.obj 0 false (.mp bg eO x.2.2.2.1),.obj 1 false (.vec 256 cD x.2.2.2.2.1),.obj 1 false (.vec 48 dR x.2.2.2.2.2)],[]⟩) [none,some dR] [amh,Cc,aCY,al6] {aq9:=[(3,1),(4,1)]}
theorem aDu{R:Type}(b o0baL o1baL o2 o3 o4)(k:K1 R):G2.A (b,o0baL,o1baL,o2,o3,o4) k=al (LH.call (o0baL,o1baL,o2,o3,o4)) λx1=>aJ ((!(Ty.beq tH b.2.1 x1.2))) (k (G2.out (1,x1.1.1,x1.1.2.1,x1.1.2.2.1,x1.1.2.2.2.1,x1.1.2.2.2.2))) (al (pb.call (x1.1.1,x1.1.2.1,x1.1.2.2.1,x1.1.2.2.2.1,x1.1.2.2.2.2)) λx2=>aJ ((A7 b.1 (bI .i64 x2.2 1))) (k (G2.out (1,x2.1.1,x2.1.2.1,x2.1.2.2.1,x2.1.2.2.2.1,x2.1.2.2.2.2))) (al (GZ.call (b,x2.1.2.1,x2.1.2.2.1,x2.1.2.2.2.1)) λx3=>aJ ((A7 x3.1 0)) (k (G2.out (x3.1,x2.1.1,x3.2.1,x3.2.2.1,x3.2.2.2,x2.1.2.2.2.2))) (al (H2.call b) λx4=>aJ (decide (x2.1.1<=(ag x2.1.2.2.2.2))) (aJ (db (x2.1.1+1) 96) (k (G2.out (0,(x2.1.1+1),x3.2.1,x3.2.2.1,x3.2.2.2,((aR x2.1.1 x2.1.2.2.2.2)++ [x4])))) none) none))):=b8
theorem aDv:G2.Ok:=by
 rintro⟨b,nb,n,a,s,bs⟩ ⟨hb,hg,hc⟩;have hb:W5 b:=hb;obtain⟨h1,h2,_⟩:=id hc;have h1:nb<=bs.length:=h1;have h2:nb<=1000000:=h2;rw[aDu,afI (d:=(nb,n,a,s,bs)) hc];simp only[ah,afH,ah6,aQ8,bu,ah0,mm];by_cases ht:b.2.1=rS nb bs
 ·rw[fY ht,cm,ao,Fc (d:=(nb,n,a,s,bs)) trivial];simp only[ah,Fb,No];rw[fZ ak ak];by_cases hh:b.1=(nb:Int)+1
  ·rw[dB hh,ao,axl (d:=(b,n,a,s)) ⟨hb,hg⟩];simp only[ah,bu,ahM,if_pos (And.intro ht hh)];by_cases he:(tK b a).2=0
   ·rw[dB he,ao,afy (d:=b) hb.1];simp only[ah,bu,ahW];rw[aM h1,aj,dr ak ak,aj,if_pos he,if_neg (λe=>e he)]
   ·rw[fo he,aj,if_neg he,if_pos he]
  ·rw[fo hh,aj,if_neg (λe=>hh e.2)]
 ·rw[jw ht,fb,aj,if_neg (λe=>ht e.1)]
theorem afA:G2.RS:=rE [.d dR,.n,.n,.d (.slice (.pair bg eO)),.d (.slice cD),.d (.slice dR)] G2
def al7:=G2.eU aDv
end Go.Ab
end
