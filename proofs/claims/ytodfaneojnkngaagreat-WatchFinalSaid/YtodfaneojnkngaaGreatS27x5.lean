/-
  Made short by a program of mine (wip/tools/mini.py).
-/
import Derived.Test.YtodfaneojnkngaaGreatS27x4
import Derived.Shelf.SlSortCmp.NoneTotal
import Derived.Test.YtodfaneojnkngaaGreatProg
set_option linter.unusedVariables false
set_option linter.unusedSimpArgs false
set_option maxRecDepth 100000
set_option synthInstance.maxSize 5000
open Int renaming toNat->ae
open List renaming length->ag,replicate->ab,take->aQ,drop->bR,set->fT
open BitVec renaming ofInt->bf
open Or renaming inl->lV,inr->ff
open UInt8 renaming ofNat->fi
noncomputable section
namespace Go.Ab
open Go.Sort (grow)
structure aP8(P:Program)(t:Ty)(g:FuncId)(Q:t.den->Prop)(cf:t.den->t.den->Int):Prop where
 bV:∃en,qZ P g en/\∀x y,Q x->Q y->∃X,en.run [.d t x,.d t y] []=some X/\en.out [.d t x,.d t y] [] X=⟨.d (.int .i64) (cf x y),[],[]⟩
 enters:∀args w,(callFunc g args).run P w= .ok (.enter g args) w
 irrefl:∀x,Q x->¬cf x x < 0
 trans:∀x y z,Q x->Q y->Q z->cf x y < 0->cf y z < 0->cf x z < 0
 ntrans:∀x y z,Q x->Q y->Q z->¬cf x y < 0->¬cf y z < 0->¬cf x z < 0
theorem aKX{w w':World}(aNq:w'.os=w.os)(aUa:w'.tape=w.tape)(aiO:w'.output=w.output/\w.drawn<=w'.drawn)(tT:w.heap.size<=w'.heap.size)(hb:∀b:Nat,b < w.heap.size->w'.heap[b]? =w.heap[b]?):
  ∃q os,w'=grow (w.drewN q) os:=by
 obtain⟨h1,t1,d1,o1,p1⟩:=w;obtain⟨h2,t2,d2,o2,p2⟩:=w';simp only at*;obtain⟨aiO,hd⟩:=aiO;subst aNq aUa aiO;obtain⟨q,rfl⟩:∃q,d2=d1+q:=⟨d2 - d1,ak⟩;refine⟨q,h2.extract h1.size h2.size,?_⟩;have hh:h2=h1++h2.extract h1.size h2.size:=by
  apply sJ;intro i;rw[kH];by_cases hi:i < h1.size
  ·rw[if_pos hi,hb i hi]
  ·rw[if_neg hi,Array.getElem?_extract];by_cases h3:i < h2.size
   ·rw[if_pos ak];congr 1;omega
   ·rw[if_neg ak,Array.getElem?_eq_none ak]
 show({heap:=h2,tape:=_,drawn:=_,os:=_,output:=_}:World)= {heap:=h1++h2.extract h1.size h2.size,tape:=_,drawn:=_,os:=_,output:=_};rw[<-hh];rfl
section
variable {P:Program} {t:Ty} {g:FuncId} {Q:t.den->Prop} {cf:t.den->t.den->Int}
theorem aP8.aQ4(h:aP8 P t g Q cf)(ha:t.agg=true){W:World}{cx cy:List Value}{x y:t.den}(hx:de ((fI []).env W (λ_=> .free) (λ_=>none)) t cx x)
  (hy:de ((fI []).env W (λ_=> .free) (λ_=>none)) t cy y) (qx:Q x) (qy:Q y):
  Calls P g #[.agg cx.toArray,.agg cy.toArray] W λe w'=>e= .returned (.int .i64 (cf x y))/\∃q os,w'=grow (W.drewN q) os:=by
 obtain⟨en,hd,iO⟩:=h.bV;obtain⟨X,hX1,hX2⟩:=iO x y qx qy;have one:∀ {c:List Value} {z:t.den},de ((fI []).env W (λ_=> .free) (λ_=>none)) t c z->VS ((fI []).env W (λ_=> .free) (λ_=>none)) (.d t z) (.agg c.toArray):=λhz=>
  ⟨_,by simpa only[V]using hz,by show fO t.agg _ _;rw[ha];rfl⟩
 have ho:iV ((fI []).env W (λ_=> .free) (λ_=>none)):=λid ver fr c h=>by
  exfalso;cases id with
  |bm k=>simp[AS.env,AS.bV,fI]at h
  |new i j=>simp[AS.env,AS.bV,fI]at h
 rcases hd W (λ_=> .free) (λ_=>none) [.d t x,.d t y] [] [.agg cx.toArray,.agg cy.toArray] X ⟨one hx,one hy,trivial⟩ ho hX1 with⟨_,hc⟩ | ⟨v,w',hc,_⟩
 ·refine hc.mono λe w' he=> ?_
  obtain⟨v,rfl,g',β',hv,_,ht,_⟩:=he;rw[hX2]at hv;obtain⟨cs,k1,k2⟩:=hv;have k1:cs=[.int .i64 (cf x y)]:=k1;subst k1;have k2: [Value.int .i64 (cf x y)]=[v]:=k2;have hv:v= .int .i64 (cf x y):=by simpa using k2.symm
  exact⟨by rw[hv],aKX ht.os ht.tape ht.output ht.size λb hb=>(ht.SE b hb).2⟩
 ·rw[h.enters]at hc;cases hc
def aCc(cf:t.den->t.den->Int)(l l':List t.den):Prop:=l'.Perm l/\l'.Pairwise λx y=>¬cf y x < 0
open Classical in
def OD(cf:t.den->t.den->Int)(l:List t.den):List t.den:=if h:∃l',aCc cf l l' then h.choose else l
theorem akh(h:aP8 P t g Q cf){l:List t.den}(hQ:∀x∈l,Q x):aCc cf l (OD cf l):=by
 have hx:∃l',aCc cf l l':=by
  let le: {x // Q x}-> {x // Q x}->Bool:=λx y=> !decide (cf y.1 x.1 < 0)
  refine⟨((l.attachWith Q hQ).mergeSort le).map (·.1),?_,?_⟩
  ·have h1:=(List.mergeSort_perm (l.attachWith Q hQ) le).map (·.1);rwa[List.attachWith_map_subtype_val]at h1
  ·have h2:=List.pairwise_mergeSort (le:=le) (λa b c h1 h2=>by
    simp only[le,cC,gQ]at*;exact h.ntrans _ _ _ c.2 b.2 a.2 h2 h1) (λa b=>by
    simp only[le,fW,cC,gQ];by_cases h1:cf b.1 a.1 < 0
    ·exact .inr λh2=>h.irrefl _ a.2 (h.trans _ _ _ a.2 b.2 a.2 h2 h1)
    ·exact .inl h1) (l.attachWith Q hQ)
   rw[List.pairwise_map];exact h2.imp λ {a b} h3=>by simpa[le]using h3
 unfold OD;rw[ze hx];exact hx.choose_spec
theorem Gt(h:aP8 P t g Q cf){l l':List t.den}(hQ:∀x∈l,Q x)(hT:∀x∈l,∀y∈l,¬cf x y < 0->¬cf y x < 0->x=y)(hs:aCc cf l l'):l'=OD cf l:=by have h2:=akh h hQ;exact List.Perm.eq_of_pairwise (λa b ha hb h3 h4=>hT a (hs.1.mem_iff.1 ha) b (h2.1.mem_iff.1 hb) h4 h3) hs.2 h2.2 (hs.1.trans h2.1.symm)
def RK(g:FuncId)(e:TypeId)(t:Ty):Nat×List t.den->List aB×List dE:=λd=>([.bz (.bm 0) 0 [] 0 0 d.1,.fn g .nil],[.obj 0 false (.vec e t d.2)])
def acA(Q:t.den->Prop)(cf:t.den->t.den->Int):Nat×List t.den->Prop:=λd=>d.1=d.2.length/\d.2.length < 4611686018427387904/\(∀x∈d.2,Q x)/\∀x∈d.2,∀y∈d.2,¬cf x y < 0->¬cf y x < 0->x=y
def aPU(e:TypeId)(t:Ty):Nat×List t.den->fG:=λx=>⟨.nil,[.obj 0 false (.vec e t x.2)],[]⟩
def aMF(g:FuncId)(e:TypeId)(t:Ty)(Q:t.den->Prop)(cf:t.den->t.den->Int):Entry:=Entry.of [none,none] (RK g e t) (acA Q cf) (λd=>(d.1,OD cf d.2)) (aPU e t)
theorem aMK{g:FuncId}{e:TypeId}{t:Ty}(d d':Nat×List t.den)(h:RK g e t d=RK g e t d'):d=d':=by obtain⟨n,l⟩:=d;obtain⟨n',l'⟩:=d';simp only[RK,cE,df,aB.bz.injEq,dE.obj.injEq,mM,iM]at h;obtain⟨rfl,h2⟩:=h;rw[aMS h2]
def akg(g:FuncId)(e:TypeId)(t:Ty)(Q:t.den->Prop)(cf:t.den->t.den->Int):Nat×List t.den->Option (Nat×List t.den):=λd=>(aMF g e t Q cf).run (RK g e t d).1 (RK g e t d).2
theorem awl{g:FuncId}{e:TypeId}{t:Ty}{Q:t.den->Prop}{cf:t.den->t.den->Int}{d:Nat×List t.den}(h:acA Q cf d):akg g e t Q cf d=some (d.1,OD cf d.2):=Entry.vK aMK h
theorem PA{R:List Value->t.den->Prop}:∀ {cs:List Value} {l:List t.den},bC R cs l->(∀x∈l,Q x)->∃ps:List {p:List Value×t.den // R p.1 p.2/\Q p.2},ps.map (·.1.2)=l/\(ps.map (·.1.1)).flatten=cs
 |cs,[],h,_=>⟨[],rfl,by have h:cs=[]:=h;rw[h];rfl⟩
 |cs,x::l,⟨c,cs',h1,h2,h3⟩,hq=>by
  obtain⟨ps,h4,h5⟩:=PA h3 λy hy=>hq y (aI _ hy)
  exact⟨⟨(c,x),h2,hq x (aL ..)⟩::ps,by simp[h4],by simp[h5,h1]⟩
theorem QW{R R':List Value->t.den->Prop}(hR:∀c x,R c x->R' c x):∀ps:List {p:List Value×t.den // R p.1 p.2/\Q p.2},bC R' (ps.map (·.1.1)).flatten (ps.map (·.1.2))
 |[]=>rfl
 |p::ps=>⟨p.1.1,(ps.map (·.1.1)).flatten,by simp,hR _ _ p.2.1,QW hR ps⟩
theorem amP{α:Type} [Inhabited α] (enc:α->List Value) {k:Nat} (hk:∀x,(enc x).length=k):∀(ps:List α) (j:Nat),j < ps.length*k->((ps.map enc).flatten)[j]? =(enc (ps.toArray[j / k]!))[j%k]?
 |[],j,h=>by simp at h
 |p::ps,j,h=>by
  have k0:0 < k:=by
   rcases iU k with h0 | h0
   ·subst h0;simp at h
   ·exact h0
  simp only[bP,jr];by_cases hj:j < k
  ·rw[fm (by rw[hk];exact hj),Nat.div_eq_of_lt hj,j6 hj];rfl
  ·have e1:j / k=(j - k) / k+1:=by rw[Nat.div_eq_sub_div k0 ak]
   have e2:j%k=(j - k)%k:=by rw[Nat.mod_eq_sub_mod ak]
   rw[List.getElem?_append_right (by rw[hk];omega),hk,amP enc hk ps (j - k) (by simp only[aA,eD,iy]at h;omega),e1,e2];congr 2;simp
theorem NL{α:Type} [Inhabited α] (enc:α->List Value) {k:Nat} (hk:∀x,(enc x).length=k) (d:Array α):(Go.Sort.flatK enc k d).toList=(d.toList.map enc).flatten:=by
 have hl:((d.toList.map enc).flatten).length=d.size*k:=by
  rw[List.length_flatten,List.map_map];have:(d.toList.map (ag∘enc))=ab d.size k:=by rw[List.eq_replicate_iff];exact⟨by simp,λx hx=>by obtain⟨y,_,rfl⟩:=cS.1 hx;exact hk y⟩
  rw[this,List.sum_replicate_nat]
 apply lg;intro j;by_cases hj:j < d.size*k
 ·rw[amP enc hk d.toList j (by simpa using hj)];have h2:(Go.Sort.flatK enc k d).toList[j]? =some ((Go.Sort.flatK enc k d)[j]!):=by rw[iL,lD _ j (by rw[Go.Sort.size_flatK];exact hj)];simp[hj]
  rw[h2,Go.Sort.get_flatK _ _ _ _ hj];have aRu:0 < k:=by
   rcases iU k with h0 | h0
   ·subst h0;simp at hj
   ·exact h0
  have hm:j%k < k:=Nat.mod_lt _ aRu;simp only[Array.toArray_toList];rw[bT (by rw[hk];exact hm),lD _ _ (by rw[hk];exact hm)]
 ·rw[dG (by simpa using hj),dG (by rw[hl];omega)]
theorem aGP{F cur:Array Value}(h:F.size<=cur.size):(Go.Sort.putCells id 0 F cur).toList=F.toList++cur.toList.drop F.size:=by
 apply lg;intro j;simp only[Go.Sort.putCells,iL,Array.getElem?_mapIdx,aJ,mM,aN,Nat.sub_zero,id];by_cases hj:j < F.size
 ·rw[fm (by simpa using hj),iL,fk hj,fk ak,dV,if_pos hj,lD F j hj]
 ·rw[List.getElem?_append_right (by simpa using hj),fR,iL,cJ,show F.size+(j - F.size)=j by omega];cases cur[j]? with
  |none=>rfl
  |some y=>rw[dV,if_neg hj]
end
section
open Go.Proofs Go.Shelf Go.Lib Go.Sort
variable {P:Program} {ρ:Go.Shelf.Ren} {t:Ty} {g:FuncId} {Q:t.den->Prop} {cf:t.den->t.den->Int}
theorem acD{α:Type} [Inhabited α] (enc:α->List Value) (k:Nat) (w:World) (SE m:Nat) (dk:Array α) (os:Array Obj) {b:Nat} (hb:b < w.heap.size) (gC:b≠SE):(sortWorldK enc k w SE 0 m dk os).heap[b]? =w.heap[b]? :=by
 show((w.heap.modify SE _)++os)[b]? =_
 rw[kH,if_pos (by simpa using hb),gD,if_neg (λe=>gC e.symm)]
theorem aMN{α:Type} [Inhabited α] (enc:α->List Value) (k:Nat) (w:World) (SE m:Nat) (dk:Array α) (os:Array Obj) {cur:Array Value} {e:TypeId} {fr:Nat×Nat} (hb:w.heap[SE]? =some (.cells cur e fr)):
  (sortWorldK enc k w SE 0 m dk os).heap[SE]? =some (.cells (putCells id 0 (flatK enc k dk) cur) e fr):=by
 have gJ:SE < w.heap.size:=(bO.1 hb).1;show((w.heap.modify SE _)++os)[SE]? =_
 rw[kH,if_pos (by simpa using gJ),gD,if_pos rfl,hb];rfl
set_option maxHeartbeats 1000000 in
theorem aH8(L:SlLaysF0.n6 P ρ){e:TypeId}(ha:t.agg=true)(aE:∀w,(isAgg (ρ.t 24)).run P w= .ok true w)(zE:∀w,(Go.sizeOf (ρ.t 24)).run P w= .ok t.size w)(hc:aP8 P t g Q cf):
  qZ P (ρ.f 6) (aMF g e t Q cf):=by
 intro w γ β args bZ jd x hv ho hx;obtain⟨d0,aSx,aiQ⟩:∃d,RK g e t d=(args,bZ)/\acA Q cf d:=by
  by_cases hh:∃d,RK g e t d=(args,bZ)/\acA Q cf d
  ·exact hh
  ·exfalso;have hn:(aMF g e t Q cf).run args bZ=none:=Cg hh;rw[hn]at hx;cases hx
 have hr:=awl (g:=g) (e:=e) aiQ;unfold akg at hr;rw[aSx]at hr;obtain rfl:x=(d0.1,OD cf d0.2):=bk (hx.symm.trans hr);obtain⟨n,l⟩:=d0;simp only[RK,cE]at aSx;obtain⟨rfl,rfl⟩:=aSx;obtain⟨hn,tT,hQ,hT⟩:=aiQ;have hn:n=l.length:=hn;subst hn
 match jd,hv with
 |[y1,y2],⟨aO4,Vq,_⟩=>
 obtain⟨vs,rfl,Vr⟩:=ZI Vq;have Vr:vs=[]:=by simpa only[VC]using Vr
 subst Vr;have h1:=aO4.single rfl rfl;simp only[V]at h1;obtain⟨a,cap,h1,Qi,qX,_,fx⟩:=h1;have h1:y1= .slice a l.length cap:=by simpa using h1
 subst h1;have cO:(fI [dE.obj 0 false (.vec e t l)]).bV (.bm 0)=some (.obj 0 false (.vec e t l)):=rfl;obtain⟨hz,hO⟩:aQO ((fI [dE.obj 0 false (.vec e t l)]).env w γ β) (.bm 0) false e t l:=ho (.bm 0) 0 false _ cO;have fx:=fx ⟨false,_,cO⟩;refine .inl ⟨L.f6.enters rfl _ _,?_⟩;have aWA:∀v:Value,v= .tuple #[]->VS ((fG.st ⟨.nil,[.obj 0 false (.vec e t (OD cf l))],[]⟩).env w γ β) .nil v:=λv hv=>by rw[hv];exact rfl
 have hS:=akh hc hQ;by_cases hl:l=[]
 ·subst hl;have hs:OD cf ([]:List t.den)=[]:=bD hS.1.length_eq;refine(AnyF.slices_SortFunc_none L a cap _ w).mono λe' w' he=> ?_
  obtain⟨rfl,rfl⟩:=he;refine⟨_,rfl,?_⟩;show tX _ (⟨.nil,[.obj 0 false (.vec e t (OD cf []))],[]⟩:fG) _ _;rw[hs];exact tX.same rfl ho
 ·have uF:0 < l.length:=List.length_pos_iff.2 hl
  change (match β (.bm 0) with | none=>l=[] | some pl=>∃cur k,w.heap[pl.b]? =some (.cells cur e (0,0))/\cur.size=pl.cap*t.size/\l.length<=pl.cap/\pl.cap<=maxLen/\γ pl.b= .own (.id (.bm 0)) k/\
   k<=l.length*t.size/\(false=false->k=0)/\bC (de ((fI [dE.obj 0 false (.vec e t l)]).env w γ β) t) (cur.toList.take (l.length*t.size)) l) at hO
  change (match β (.bm 0) with | some pl=>(0 < l.length\/True->a=some ⟨pl.b,0,none⟩)/\(True->True->cap=pl.cap) | none=>a=none/\l.length=0/\cap=0) at fx;cases hβ:β (.bm 0) with
  |none=>rw[hβ]at hO;exact absurd hO hl
  |some pl=>
  rw[hβ]at hO fx;obtain⟨cur,k0,q1,q2,q3,q4,q5,_,q7,q8⟩:=hO;obtain rfl:=q7 rfl;obtain rfl:=fx.1 (.inl uF);have hblk:pl.b < w.heap.size:=(bO.1 q1).1;obtain⟨R,hR⟩:∃R:List Value->t.den->Prop,R=de ((fI [dE.obj 0 false (.vec e t l)]).env w γ β) t:=⟨_,rfl⟩;have hRm:∀c x,R c x->de ((fI [dE.obj 0 false (.vec e t l)]).env w γ β) t c x:=by rw[hR];exact λ_ _ h=>h
  rw[<-hR]at q8;obtain⟨ps,p1,p2⟩:=PA (Q:=Q) q8 hQ;have aRH:ps.length=l.length:=by rw[<-p1,bU]
  let α:= {p:List Value×t.den // R p.1 p.2/\Q p.2}
  have:0 < ps.length:=ak
  letI:Inhabited α:=⟨ps[0]⟩
  let enc:α->List Value:=λp=>p.1.1
  let cf':α->α->Int:=λp q=>cf p.1.2 q.1.2
  have hk:∀x,(enc x).length=t.size:=λx=>(hRm _ _ x.2.1).size
  have hO:SWO (ltOf cf'):=⟨λx=>by simpa[ltOf,cf']using hc.irrefl _ x.2.2,λx y z h1 h2=>by
   simp only[ltOf,aW,cf']at*;exact hc.trans _ _ _ x.2.2 y.2.2 z.2.2 h1 h2,λx y z h1 h2=>by
   simp only[ltOf,gQ,cf']at*;exact hc.ntrans _ _ _ x.2.2 y.2.2 z.2.2 h1 h2⟩
  have Eh:∀j,j < l.length*t.size->cur[j]? =((ps.map enc).flatten)[j]? :=λj hj=>by have:(ps.map enc).flatten=cur.toList.take (l.length*t.size):=p2;rw[this,di,if_pos hj,iL]
  have hH:HoldsK enc t.size w pl.b 0 ps.toArray:=λj hj=>by
   rw[size_flatK]at hj;have hj:j < ps.length*t.size:=by simpa using hj
   have h2:=Eh j (by rw[<-aRH];exact hj);have h3:((flatK enc t.size ps.toArray).toList)[j]? =((ps.map enc).flatten)[j]? :=by rw[NL enc hk]
   rw[iL,fk (by rw[size_flatK];simpa using hj)]at h3;refine⟨?_,?_⟩
   ·show(match w.heap[pl.b]? with | some (.cells c _ _)=>if(none:Option _).isSome then none else c[0+j]? | _=>none)=_;rw[q1];simp only[Option.isSome_none,bn,bq,aN];rw[h2,<-h3,lD _ j (by rw[size_flatK];simpa using hj)];rfl
   ·show(match w.heap[pl.b]? with | some (.cells _ _ (lo,hi))=>decide (lo<=0+j) && decide (0+j < hi) | _=>false)=false;rw[q1];simp
  have FQ:∀(m:Nat) (dk:Array α) (os:Array Obj),uc ((fI [dE.obj 0 false (.vec e t l)]).env w γ β) ((fI []).env (sortWorldK enc t.size w pl.b 0 m dk os) (λ_=> .free) (λ_=>none)):=λm dk os=>by
   refine⟨λb off v hh=>⟨?_,trivial⟩,λb ob hf mf=>⟨rfl,?_⟩⟩
   ·obtain⟨h1,h2⟩:=hh;have hb:b < w.heap.size:=World.block_lt_of_cell? _ _ h1;have gC:b≠pl.b:=λe=>by have h2:vh γ b off:=h2;unfold vh at h2;rw[e,q5]at h2;exact Nat.not_lt_zero _ h2
    have h1:w.cell? ⟨b,off,none⟩=some v:=h1;show(sortWorldK enc t.size w pl.b 0 m dk os).cell? ⟨b,off,none⟩=some v;simpa only[World.cell?,acD enc t.size w pl.b m dk os hb gC]using h1
   ·have mf:w.heap[b]? =some ob:=mf
    have hb:b < w.heap.size:=(bO.1 mf).1;have gC:b≠pl.b:=λe=>by have hf:γ b= .free:=hf;rw[e,q5]at hf;cases hf
    exact(acD enc t.size w pl.b m dk os hb gC).trans mf
  have aTu:CmpLays P g #[] enc t.size cf' pl.b 0 ps.toArray.size w:=λm os dk _ p q=>
   hc.aQ4 ha ((hRm _ _ p.2.1).mono (FQ m dk os)) ((hRm _ _ q.2.1).mono (FQ m dk os)) p.2.2 q.2.2
  have aRj:=AnyQ.slices_SortFunc L t.size aE zE enc hk (λp=>(hRm _ _ p.2.1).one) cf' hO g #[] pl.b 0 cap ps.toArray w hc.enters aTu hH hblk (by simpa[aRH]using tT);rw[show ps.toArray.size=l.length by simpa using aRH]at aRj;refine aRj.mono λe' w' he=> ?_
  obtain⟨rfl,d',m,os,hp,hs,rfl⟩:=he;refine⟨_,rfl,?_⟩;obtain⟨s1,_,s2⟩:=hp;have hd:d'.size=l.length:=by rw[s1];simpa using aRH
  have am3:d'.toList.Perm ps:=by
   have e1:(d'.extract 0 l.length)=d':=by rw[<-hd];simp
   have e2:(ps.toArray.extract 0 l.length)=ps.toArray:=by rw[<-aRH];simp
   rw[e1,e2]at s2;exact s2
  have hl':aCc cf l (d'.toList.map (·.1.2)):=by refine⟨by rw[<-p1];exact am3.map _,?_⟩;rw[List.pairwise_map,List.pairwise_iff_getElem];intro i j hi hj aSE;have:=hs i j (aJ _) aSE (by rw[<-hd];simpa using hj);rw[lD d' i (by simpa using hi),lD d' j (by simpa using hj)]at this;simpa[ltOf,cf']using this
  have heq:=Gt hc hQ hT hl';show tX _ (⟨.nil,[.obj 0 false (.vec e t (OD cf l))],[]⟩:fG) _ _;rw[<-heq];have lE:=aMN enc t.size w pl.b m d' os q1;have hFs:(flatK enc t.size d').size<=cur.size:=by rw[size_flatK,hd,q2];exact cQ _ q3
  have K7:∀b,b < w.heap.size->b≠pl.b->(sortWorldK enc t.size w pl.b 0 m d' os).heap[b]? =w.heap[b]? :=λb hb gC=>acD enc t.size w pl.b m d' os hb gC
  have aE6:w.heap.size<=(sortWorldK enc t.size w pl.b 0 m d' os).heap.size:=size_sortWorldK_c enc t.size w pl.b 0 m d' os;have hw:(sortWorldK enc t.size w pl.b 0 m d' os).os=w.os/\(sortWorldK enc t.size w pl.b 0 m d' os).tape=w.tape/\((sortWorldK enc t.size w pl.b 0 m d' os).output=w.output/\w.drawn<=(sortWorldK enc t.size w pl.b 0 m d' os).drawn):=⟨rfl,rfl,rfl,j5 _ _⟩;generalize sortWorldK enc t.size w pl.b 0 m d' os=w' at lE K7 aE6 hw;have ht:Trans w w' γ γ:=by
   refine⟨hw.1,hw.2.1,hw.2.2,aE6,λb hb=> ?_⟩;by_cases aTp:b=pl.b
   ·subst aTp;rw[q5];exact⟨.inr ⟨_,0,rfl,ax _⟩,λ_ _ hh=>ak⟩
   ·rw[K7 b hb aTp];cases WY:γ b with
    |free=>exact⟨rfl,rfl⟩
    |own o' k=>cases o' with
     |eh=>exact⟨rfl,rfl⟩
     |id i'=>exact⟨.inr ⟨i',k,rfl,ax _⟩,λoff v _ hv=>by simpa only[World.cell?,K7 b hb aTp]using hv⟩
  have hle:cK ((fI [dE.obj 0 false (.vec e t l)]).env w γ β) ((fG.st ⟨.nil,[.obj 0 false (.vec e t (d'.toList.map (·.1.2)))],[]⟩).env w' γ β):=by
   have e0:∀id,(∃c,(fI [dE.obj 0 false (.vec e t l)]).bV id=some (.obj 0 false c)/\id= .bm 0)\/((fI [dE.obj 0 false (.vec e t l)]).bV id=none/\(fG.st ⟨.nil,[.obj 0 false (.vec e t (d'.toList.map (·.1.2)))],[]⟩).bV id=none):=λid=>by
    cases id with
    |bm k=>cases k with
     |zero=>exact .inl ⟨_,rfl,rfl⟩
     |succ k=>exact .inr ⟨rfl,rfl⟩
    |new i j=>refine .inr ⟨?_,?_⟩ <;> cases i <;> rfl
   refine⟨Trans.mem (E:=(fI [dE.obj 0 false (.vec e t l)]).env w γ β) (E':=(fG.st ⟨.nil,[.obj 0 false (.vec e t (d'.toList.map (·.1.2)))],[]⟩).env w' γ β) ht,λid ver hb=> ?_,λid ver hb aWc=> ?_⟩
   ·rcases e0 id with⟨c,_,rfl⟩ | ⟨h1,_⟩
    ·refine⟨by show(some _:Option dE)≠none;simp,λv fr c h=> ?_⟩;have h:some (dE.obj 0 false (.vec e t (d'.toList.map (·.1.2))))=some (.obj v fr c):=h;simp only[az,dE.obj.injEq]at h;have:=hb.2 0 false _ rfl;omega
    ·exact absurd h1 hb.1
   ·rcases e0 id with⟨c,_,rfl⟩ | ⟨h1,_⟩
    ·obtain⟨fr,c,h⟩:=aWc;have h:some (dE.obj 0 false (.vec e t (d'.toList.map (·.1.2))))=some (.obj ver fr c):=h;simp only[az,dE.obj.injEq]at h;obtain⟨rfl,rfl,_⟩:=h;exact⟨⟨false,_,rfl⟩,rfl⟩
    ·exact absurd h1 hb.1
  refine⟨γ,β,rfl,λid ver fr c h=> ?_,ht,hle⟩;have cX:id= .bm 0/\ver=0/\fr=false/\c= .vec e t (d'.toList.map (·.1.2)):=by
   cases id with
   |bm k=>cases k with
    |zero=>
     have h:some (dE.obj 0 false (.vec e t (d'.toList.map (·.1.2))))=some (.obj ver fr c):=h;simp only[az,dE.obj.injEq]at h;obtain⟨rfl,rfl,rfl⟩:=h;exact⟨rfl,rfl,rfl,rfl⟩
    |succ k=>cases h
   |new i j=>cases i <;> cases h
  obtain⟨rfl,rfl,rfl,rfl⟩:=cX;refine⟨hz,?_⟩;show(match β (.bm 0) with | none=>(d'.toList.map (·.1.2))=[] | some pl=>_);rw[hβ];have hlen:(d'.toList.map (λp:α=>p.1.2)).length=l.length:=by simpa using hd
  refine⟨_,0,lE,?_,by rw[hlen];exact q3,q4,q5,aJ _,λ_=>rfl,?_⟩
  ·rw[<-q2];simp[putCells]
  ·have e3:(putCells id 0 (flatK enc t.size d') cur).toList.take ((d'.toList.map (λp:α=>p.1.2)).length*t.size)=(d'.toList.map enc).flatten:=by
    rw[aGP hFs,NL enc hk,hlen];have e4:((d'.toList.map enc).flatten).length=l.length*t.size:=by rw[<-NL enc hk,cJ,size_flatK,hd]
    rw[<-e4,List.take_left]
   rw[e3];exact QW (Q:=Q) (λc x h=>(hRm c x h).mono hle.mem) d'.toList
end
end Go.Ab
namespace Go.Ab
open Go.Proofs
abbrev D3:=Bs×Bs×Int×Int
def sN:D3->AS:=λ(Bz,kF,t12,t13)=>⟨([.d tB Bz,.d tB kF]++aP 10 ([.d ti t12,.d ti t13]++aP 12 [])),[],(ab 26 [])⟩
def tm:Unit->Exit×AS:=λx=>(.ret,⟨(aP 4 ([.d .bool false]++aP 21 [])),[],(ab 26 [])⟩)
def B7:Unit->Exit×AS:=λx=>(.exit 0,⟨(aP 26 []),[],(ab 26 [])⟩)
abbrev Sy:=(Unit)⊕(Unit)
abbrev afi:=(Unit)⊕(Unit)
def HL:Sy->Out (Exit×AS):=λx=> .br x.isLeft (.get x.getLeft? λa=> .ok (tm a)) (.get x.getRight? λb=> .ok (B7 b))
def mU:D3->afi->Sy:=λ(Bz,kF,t12,t13) y=>match y with | .inl y=> .inl y | .inr z=> .inr (z)
def B6:D3->Prop:=λ(a,b,m,i)=>a.length<=1000000000/\a.length=b.length/\m=a.length/\∃k:Nat,k<=a.length/\i=k
def tl:D3->afi:=λ(a,b,m,i)=>if a.drop i.toNat=b.drop i.toNat then .inr () else .inl ()
def aCC:(Bs×Bs)->Prop:=λ(a,b)=>a.length<=1000000000
def aqw:(Bs×Bs)->Bool:=λ(a,b)=>decide (a=b)
def afh:=dy.fp sN B6 mU tl HL
def Pd:D3->Option Sy:=gB afh sN
def Sw:Fs Tryz.prog aCC bt aqw:=eN 179 Tryz.f179 (λ(s1,s2)=>([.d tB s1,.d tB s2],[])) (λx=>⟨.d .bool x,[],[]⟩) [some tB,some tB] [] {loops:=nX [(4,{aV:=[0,1,12,13]})],outs:=nV [(4,{},{aV:=[4]})],fC:=na [(4,afh)]}
def Sx:= @ee Tryz.prog (jy Sw.G) Sw.an 0 Tryz.f179 0 _ sN
abbrev YE:=kj Tryz.prog (jy Sw.G) Sw.an 0 Tryz.f179 0 sN B6 mU tl HL
theorem alq:iW Pd B6 mU tl:=l6 (jk [.d tB,.d tB,.d ti,.d ti] λ_=>bY)
theorem Sz:mP @Sx sN B6 mU tl HL YE:=nD
theorem Pe{R:Type}(Bz:Bs)(kF:Bs)(t12:Int)(t13:Int)(kn:AS->Option R)(kx:Exit->AS->Option R):Sx (Bz,kF,t12,t13) kn kx=aH ((gq t13 t12)) (aH (eo t13 (((ag Bz):Nat):Int)) (aH (eo t13 (((ag kF):Nat):Int)) (aH ((BY (nth tb Bz (ae t13)) (nth tb kF (ae t13)))) (kx (tm ()).1 (tm ()).2) (kn (sN (Bz,kF,t12,(bI .i64 t13 (1:Int)))))) none) none) (kx (B7 ()).1 (B7 ()).2):=bY
theorem aJS{R:Type}(s1 s2)(k:K1 R):Sw.A (s1,s2) k=aH ((BY (s1.length:Int) (s2.length:Int))) (k (Sw.out false)) (al (Pd (s1,s2,(s1.length:Int),0)) λx1=>aH (x1.isLeft) (al (x1.getLeft?) λa2=>k (Sw.out false)) (al (x1.getRight?) λb3=>k (Sw.out true))):=bY
theorem aqx:YE:=by
 refine Sz (λ(a,b,m,i)=>a.length - i.toNat) ?_
 rintro⟨a,b,m,i⟩ ⟨hl,K5,rfl,k,hk,rfl⟩;have hl:a.length<=1000000000:=hl;have K5:a.length=b.length:=K5;have hk:k<=a.length:=hk;by_cases h:k < a.length
 ·have h2:k < b.length:=ak;have n1:nth (.int .u8) a k=a[k]:=cg (t:=(.int .u8)) h;have n2:nth (.int .u8) b k=b[k]:=cg (t:=(.int .u8)) h2;have hd:(a.drop k=b.drop k)=(a[k]=b[k]/\a.drop (k+1)=b.drop (k+1)):=by rw[aq h,aq h2,df]
  have step:∀ {R:Type} (kn:AS->Option R) (kx:Exit->AS->Option R),Sx (a,b,(a.length:Int),(k:Int)) kn kx=if a[k]=b[k] then kn (sN (a,b,(a.length:Int),((k+1:Nat):Int))) else kx (tm ()).1 (tm ()).2:=by
   intro R kn kx;rw[Pe,aU ak,bg ak ak,bg ak ak,aa,n1,n2,N.mO ak];simp only[aj];by_cases hx:a[k]=b[k]
   ·rw[dB hx,if_pos hx];rfl
   ·rw[fj hx,if_neg hx];rfl
  by_cases hx:a[k]=b[k]
  ·left;refine⟨(a,b,(a.length:Int),((k+1:Nat):Int)),⟨hl,K5,rfl,k+1,ak,rfl⟩,by simp only[aa];omega,?_,λkn kx=> ?_⟩
   ·simp only[mU,tl,aa,hd,hx,mM]
   ·rw[step,if_pos hx]
  ·right;refine⟨tm (),?_,λkn kx=> ?_⟩
   ·simp only[mU,tl,aa,hd,hx,false_and,bq];rfl
   ·rw[step,if_neg hx]
 ·right;obtain rfl:k=a.length:=ak;refine⟨B7 (),?_,λkn kx=> ?_⟩
  ·simp only[mU,tl,aa,aK];rw[K5,aK,if_pos rfl];rfl
  ·rw[Pe,aR ak,ao]
theorem aJT:Sw.Ok:=by
 rintro⟨a,b⟩ hl;have hl:a.length<=1000000000:=hl;rw[aJS];simp only[bt,aqw];by_cases h:a.length=b.length
 ·rw[dB ak,ao,alq (d:=(a,b,(a.length:Int),0)) ⟨hl,h,rfl,0,aJ _,rfl⟩];simp only[ah,mU,tl,aX,aD];by_cases hx:a=b
  ·rw[if_pos hx,aM hx];rfl
  ·rw[if_neg hx,aS hx];rfl
 ·rw[fj ak,aS (λx=>h (by rw[x]))];rfl
theorem aCD:Sw.RS:=rE [.d tB,.d tB] Sw
def aJU:=Sw.eS aJT 1 ⟨.fp aqx,trivial⟩
abbrev II:=Bs×Bs×Int×Int
def vP:II->AS:=λ(Bz,kF,t12,t13)=>⟨([.d tU Bz,.d tU kF]++aP 10 ([.d ti t12,.d ti t13]++aP 12 [])),[],(ab 26 [])⟩
def vO:Unit->Exit×AS:=λx=>(.ret,⟨(aP 4 ([.d .bool false]++aP 21 [])),[],(ab 26 [])⟩)
def Gb:Unit->Exit×AS:=λx=>(.exit 0,⟨(aP 26 []),[],(ab 26 [])⟩)
abbrev abk:=(Unit)⊕(Unit)
abbrev aob:=(Unit)⊕(Unit)
def Oi:abk->Out (Exit×AS):=λx=> .br x.isLeft (.get x.getLeft? λa=> .ok (vO a)) (.get x.getRight? λb=> .ok (Gb b))
def pP:II->aob->abk:=λ(Bz,kF,t12,t13) y=>match y with | .inl y=> .inl y | .inr z=> .inr (z)
def Ga:II->Prop:=λ(a,b,m,i)=>a.length<=1000000000/\a.length=b.length/\m=a.length/\∃k:Nat,k<=a.length/\i=k
def xD:II->aob:=λ(a,b,m,i)=>if a.drop i.toNat=b.drop i.toNat then .inr () else .inl ()
def aL6:(Bs×Bs)->Prop:=λ(a,b)=>a.length<=1000000000
def aGI:(Bs×Bs)->Bool:=λ(a,b)=>decide (a=b)
def aoa:=dy.fp vP Ga pP xD Oi
def V1:II->Option abk:=gB aoa vP
def peq:Fs Tryz.prog aL6 bt aGI:=eN 78 Tryz.f78 (λ(s1,s2)=>([.d tU s1,.d tU s2],[])) (λx=>⟨.d .bool x,[],[]⟩) [some tU,some tU] [] {loops:=nX [(4,{aV:=[0,1,12,13]})],outs:=nV [(4,{},{aV:=[4]})],fC:=na [(4,aoa)]}
def abj:= @ee Tryz.prog (jy peq.G) peq.an 0 Tryz.f78 0 _ vP
abbrev agt:=kj Tryz.prog (jy peq.G) peq.an 0 Tryz.f78 0 vP Ga pP xD Oi
theorem asJ:iW V1 Ga pP xD:=l6 (jk [.d tU,.d tU,.d ti,.d ti] λ_=>bY)
theorem W7:mP @abj vP Ga pP xD Oi agt:=nD
theorem V2{R:Type}(Bz:Bs)(kF:Bs)(t12:Int)(t13:Int)(kn:AS->Option R)(kx:Exit->AS->Option R):abj (Bz,kF,t12,t13) kn kx=aH ((gq t13 t12)) (aH (eo t13 (((ag Bz):Nat):Int)) (aH (eo t13 (((ag kF):Nat):Int)) (aH ((BY (nth tu Bz (ae t13)) (nth tu kF (ae t13)))) (kx (vO ()).1 (vO ()).2) (kn (vP (Bz,kF,t12,(bI .i64 t13 (1:Int)))))) none) none) (kx (Gb ()).1 (Gb ()).2):=bY
theorem aPA{R:Type}(s1 s2)(k:K1 R):peq.A (s1,s2) k=aH ((BY (s1.length:Int) (s2.length:Int))) (k (peq.out false)) (al (V1 (s1,s2,(s1.length:Int),0)) λx1=>aH (x1.isLeft) (al (x1.getLeft?) λa2=>k (peq.out false)) (al (x1.getRight?) λb3=>k (peq.out true))):=bY
theorem azE:agt:=by
 refine W7 (λ(a,b,m,i)=>a.length - i.toNat) ?_
 rintro⟨a,b,m,i⟩ ⟨hl,K5,rfl,k,hk,rfl⟩;have hl:a.length<=1000000000:=hl;have K5:a.length=b.length:=K5;have hk:k<=a.length:=hk;by_cases h:k < a.length
 ·have h2:k < b.length:=ak;have n1:nth (.int .u64) a k=a[k]:=cg (t:=(.int .u64)) h;have n2:nth (.int .u64) b k=b[k]:=cg (t:=(.int .u64)) h2;have hd:(a.drop k=b.drop k)=(a[k]=b[k]/\a.drop (k+1)=b.drop (k+1)):=by rw[aq h,aq h2,df]
  have step:∀ {R:Type} (kn:AS->Option R) (kx:Exit->AS->Option R),abj (a,b,(a.length:Int),(k:Int)) kn kx=if a[k]=b[k] then kn (vP (a,b,(a.length:Int),((k+1:Nat):Int))) else kx (vO ()).1 (vO ()).2:=by
   intro R kn kx;rw[V2,aU ak,bg ak ak,bg ak ak,aa,n1,n2,N.mO ak];simp only[aj];by_cases hx:a[k]=b[k]
   ·rw[dB hx,if_pos hx];rfl
   ·rw[fj hx,if_neg hx];rfl
  by_cases hx:a[k]=b[k]
  ·left;refine⟨(a,b,(a.length:Int),((k+1:Nat):Int)),⟨hl,K5,rfl,k+1,ak,rfl⟩,by simp only[aa];omega,?_,λkn kx=> ?_⟩
   ·simp only[pP,xD,aa,hd,hx,mM]
   ·rw[step,if_pos hx]
  ·right;refine⟨vO (),?_,λkn kx=> ?_⟩
   ·simp only[pP,xD,aa,hd,hx,false_and,bq];rfl
   ·rw[step,if_neg hx]
 ·right;obtain rfl:k=a.length:=ak;refine⟨Gb (),?_,λkn kx=> ?_⟩
  ·simp only[pP,xD,aa,aK];rw[K5,aK,if_pos rfl];rfl
  ·rw[V2,aR ak,ao]
theorem aPB:peq.Ok:=by
 rintro⟨a,b⟩ hl;have hl:a.length<=1000000000:=hl;rw[aPA];simp only[bt,aGI];by_cases h:a.length=b.length
 ·rw[dB ak,ao,asJ (d:=(a,b,(a.length:Int),0)) ⟨hl,h,rfl,0,aJ _,rfl⟩];simp only[ah,pP,xD,aX,aD];by_cases hx:a=b
  ·rw[if_pos hx,aM hx];rfl
  ·rw[if_neg hx,aS hx];rfl
 ·rw[fj ak,aS (λx=>h (by rw[x]))];rfl
theorem aL7:peq.RS:=rE [.d tU,.d tU] peq
def aPC:=peq.eS aPB 1 ⟨.fp azE,trivial⟩
theorem QF{α:Type}{f:α->α->Bool}(hf:∀x,f x x=true):∀l:List α,mm f l l=true
 |[]=>rfl
 |x::l=>by rw[It,hf,QF hf l];rfl
theorem Pf:∀(t:Ty) (x:t.den),t.comp=true->t.beq x x=true
 | .int _,x,_=>by simp[Ty.beq]
 | .bool,x,_=>by simp[Ty.beq]
 | .str,x,_=>by simp[Ty.beq]
 | .unit,_,_=>rfl
 | .pair a b,x,h=>by simp only[Ty.comp,au]at h;simp only[Ty.beq,Pf a x.1 h.1,Pf b x.2 h.2,wc]
 | .arr _ t,l,h=>QF (λx=>Pf t x h) l
 | .slice _,_,h=>by cases h
 | .gY _,_,h=>by cases h
theorem auR(t:Ty)(hc:t.comp=true)(x y:t.den) [Decidable (x=y)]:t.beq x y=decide (x=y):=by
 by_cases h:x=y
 ·subst h;rw[aM rfl,Pf t x hc]
 ·rw[aS h];cases hb:t.beq x y
  ·rfl
  ·exact absurd (beq_eq t x y hc hb) h
theorem aN5(x y:Sg):Ty.beq Av x y=decide (x=y):= @auR Av rfl x y (inferInstanceAs (Decidable (x=y)))
theorem aN4(x y:bF):Ty.beq bl x y=decide (x=y):= @auR bl rfl x y (inferInstanceAs (Decidable (x=y)))
abbrev EU:=(List Sg)×(List Sg)×Int×Int
def tf:EU->AS:=λ(Bz,kF,t12,t13)=>⟨([.d (.slice Av) Bz,.d (.slice Av) kF]++aP 10 ([.d ti t12,.d ti t13]++aP 12 [])),[],(ab 26 [])⟩
def tP:Unit->Exit×AS:=λx=>(.ret,⟨(aP 4 ([.d .bool false]++aP 21 [])),[],(ab 26 [])⟩)
def CN:Unit->Exit×AS:=λx=>(.exit 0,⟨(aP 26 []),[],(ab 26 [])⟩)
abbrev Ue:=(Unit)⊕(Unit)
abbrev agU:=(Unit)⊕(Unit)
def Js:Ue->Out (Exit×AS):=λx=> .br x.isLeft (.get x.getLeft? λa=> .ok (tP a)) (.get x.getRight? λb=> .ok (CN b))
def ni:EU->agU->Ue:=λ(Bz,kF,t12,t13) y=>match y with | .inl y=> .inl y | .inr z=> .inr (z)
abbrev aHP:=(List Sg)×(List Sg)
def CM:EU->Prop:=λ(a,b,m,i)=>a.length<=1000000000/\a.length=b.length/\m=a.length/\∃k:Nat,k<=a.length/\i=k
def tO:EU->agU:=λ(a,b,m,i)=>if a.drop i.toNat=b.drop i.toNat then .inr () else .inl ()
def aHQ:aHP->Prop:=λ(a,b)=>a.length<=1000000000
def atK:aHP->Bool:=λ(a,b)=>decide (a=b)
def agT:=dy.fp tf CM ni tO Js
def RB:EU->Option Ue:=gB agT tf
def Uc:Fs Tryz.prog aHQ bt atK:=eN 76 Tryz.f76 (λ(s1,s2)=>([.d (.slice Av) s1,.d (.slice Av) s2],[])) (λx=>⟨.d .bool x,[],[]⟩) [some (.slice Av),some (.slice Av)] [] {loops:=nX [(4,{aV:=[0,1,12,13]})],outs:=nV [(4,{},{aV:=[4]})],fC:=na [(4,agT)]}
def Ud:= @ee Tryz.prog (jy Uc.G) Uc.an 0 Tryz.f76 0 _ tf
abbrev aco:=kj Tryz.prog (jy Uc.G) Uc.an 0 Tryz.f76 0 tf CM ni tO Js
theorem apb:iW RB CM ni tO:=l6 (jk [.d (.slice Av),.d (.slice Av),.d ti,.d ti] λ_=>bY)
theorem Uf:mP @Ud tf CM ni tO Js aco:=nD
theorem RC{R:Type}(Bz:(List Sg))(kF:(List Sg))(t12:Int)(t13:Int)(kn:AS->Option R)(kx:Exit->AS->Option R):Ud (Bz,kF,t12,t13) kn kx=aH ((gq t13 t12)) (aH (eo t13 (((ag Bz):Nat):Int)) (aH (eo t13 (((ag kF):Nat):Int)) (aH ((!(Ty.beq Av (nth Av Bz (ae t13)) (nth Av kF (ae t13))))) (kx (tP ()).1 (tP ()).2) (kn (tf (Bz,kF,t12,(bI .i64 t13 (1:Int)))))) none) none) (kx (CN ()).1 (CN ()).2):=bY
theorem aMx{R:Type}(s1 s2)(k:K1 R):Uc.A (s1,s2) k=aH ((BY (s1.length:Int) (s2.length:Int))) (k (Uc.out false)) (al (RB (s1,s2,(s1.length:Int),0)) λx1=>aH (x1.isLeft) (al (x1.getLeft?) λa2=>k (Uc.out false)) (al (x1.getRight?) λb3=>k (Uc.out true))):=bY
theorem atL:aco:=by
 refine Uf (λ(a,b,m,i)=>a.length - i.toNat) ?_
 rintro⟨a,b,m,i⟩ ⟨hl,K5,rfl,k,hk,rfl⟩;have hl:a.length<=1000000000:=hl;have K5:a.length=b.length:=K5;have hk:k<=a.length:=hk;by_cases h:k < a.length
 ·have h2:k < b.length:=ak;have n1:nth Av a k=a[k]:=cg (t:=Av) h;have n2:nth Av b k=b[k]:=cg (t:=Av) h2;have hd:(a.drop k=b.drop k)=(a[k]=b[k]/\a.drop (k+1)=b.drop (k+1)):=by rw[aq h,aq h2,df]
  have step:∀ {R:Type} (kn:AS->Option R) (kx:Exit->AS->Option R),Ud (a,b,(a.length:Int),(k:Int)) kn kx=if a[k]=b[k] then kn (tf (a,b,(a.length:Int),((k+1:Nat):Int))) else kx (tP ()).1 (tP ()).2:=by
   intro R kn kx;rw[RC,aU ak,bg ak ak,bg ak ak,aa,n1,n2,N.mO ak];simp only[aj];rw[aN5];by_cases hx:a[k]=b[k]
   ·rw[aM hx,if_pos hx];rfl
   ·rw[aS hx,if_neg hx];rfl
  by_cases hx:a[k]=b[k]
  ·left;refine⟨(a,b,(a.length:Int),((k+1:Nat):Int)),⟨hl,K5,rfl,k+1,ak,rfl⟩,by simp only[aa];omega,?_,λkn kx=> ?_⟩
   ·simp only[ni,tO,aa,hd,hx,mM]
   ·rw[step,if_pos hx]
  ·right;refine⟨tP (),?_,λkn kx=> ?_⟩
   ·simp only[ni,tO,aa,hd,hx,false_and,bq];rfl
   ·rw[step,if_neg hx]
 ·right;obtain rfl:k=a.length:=ak;refine⟨CN (),?_,λkn kx=> ?_⟩
  ·simp only[ni,tO,aa,aK];rw[K5,aK,if_pos rfl];rfl
  ·rw[RC,aR ak,ao]
theorem aMy:Uc.Ok:=by
 rintro⟨a,b⟩ hl;have hl:a.length<=1000000000:=hl;rw[aMx];simp only[bt,atK];by_cases h:a.length=b.length
 ·rw[dB ak,ao,apb (d:=(a,b,(a.length:Int),0)) ⟨hl,h,rfl,0,aJ _,rfl⟩];simp only[ah,ni,tO,aX,aD];by_cases hx:a=b
  ·rw[if_pos hx,aM hx];rfl
  ·rw[if_neg hx,aS hx];rfl
 ·rw[fj ak,aS (λx=>h (by rw[x]))];rfl
theorem aHR:Uc.RS:=rE [.d (.slice Av),.d (.slice Av)] Uc
def aMz:=Uc.eS aMy 1 ⟨.fp atL,trivial⟩
def aug:(gG×gG)->Prop:=λ(x,y)=>x.2.1.2.1.length<=1000000000
def ac5:(gG×gG)->Bool:=λ(x,y)=>decide (x=y)
def DR:Fs Tryz.prog aug bt ac5:=eN 75 Tryz.f75 (λ(x,yv)=>([.d fY x,.d fY yv],[])) (λx=>⟨.d .bool x,[],[]⟩) [some fY,some fY] [aMz]
theorem aBf{R:Type}(x yv)(k:K1 R):DR.A (x,yv) k=aH ((Ty.beq bl x.1 yv.1)) (aH ((qY x.2.1.1 yv.2.1.1)) (aH ((qY x.2.1.2.2.1 yv.2.1.2.2.1)) (al (Uc.call (x.2.1.2.1,yv.2.1.2.1)) λx1=>k (DR.out x1)) (k (DR.out false))) (k (DR.out false))) (k (DR.out false)):=bY
theorem aBg:DR.Ok:=by
 rintro⟨⟨f1,⟨b1,s1,c1,u1⟩,v1⟩,⟨f2,⟨b2,s2,c2,u2⟩,v2⟩⟩ h;have h:s1.length<=1000000000:=h;rw[aBf,aHR (d:=(s1,s2)) h,aN4];simp only[ah,bt,atK,bt,ac5];by_cases e1:f1=f2
 ·by_cases e2:b1=b2
  ·by_cases e3:c1=c2
   ·by_cases e4:s1=s2
    ·rw[aM e1,du e2,du e3,aM e4,aM (by rw[e1,e2,e3,e4])];rfl
    ·rw[aM e1,du e2,du e3,aS e4,aS (by rintro⟨⟩;exact e4 rfl)];rfl
   ·rw[aM e1,du e2,eH e3,aS (p:=(f1,(b1,s1,c1,u1),v1)=(f2,(b2,s2,c2,u2),v2)) (by rintro⟨⟩;exact e3 rfl)];rfl
  ·rw[aM e1,eH e2,aS (p:=(f1,(b1,s1,c1,u1),v1)=(f2,(b2,s2,c2,u2),v2)) (by rintro⟨⟩;exact e2 rfl)];rfl
 ·rw[aS e1,aS (p:=(f1,(b1,s1,c1,u1),v1)=(f2,(b2,s2,c2,u2),v2)) (by rintro⟨⟩;exact e1 rfl)];rfl
theorem auh:DR.RS:=rE [.d fY,.d fY] DR
def aBh:=DR.eS aBg
def aui:(oq×oq)->Prop:=λ(x,z)=>x.1.length<=1000000000
def ac6:(oq×oq)->Bool:=λ(x,z)=>decide (x=z)
def DS:Fs Tryz.prog aui bt ac6:=eN 77 Tryz.f77 (λ(x,yv)=>([.d ke x,.d ke yv],[])) (λx=>⟨.d .bool x,[],[]⟩) [some ke,some ke] [aPC]
theorem aBi{R:Type}(x yv)(k:K1 R):DS.A (x,yv) k=aH ((qY x.2.1 yv.2.1)) (aH ((qY x.2.2.1 yv.2.2.1)) (aH ((qY x.2.2.2.1 yv.2.2.2.1)) (al (peq.call (x.1,yv.1)) λx1=>k (DS.out x1)) (k (DS.out false))) (k (DS.out false))) (k (DS.out false)):=bY
theorem aBj:DS.Ok:=by
 rintro⟨⟨k1,a1,d1,s1,u1⟩,⟨k2,a2,d2,s2,u2⟩⟩ h;have h:k1.length<=1000000000:=h;rw[aBi,aL7 (d:=(k1,k2)) h];simp only[ah,bt,aGI,bt,ac6];by_cases e1:k1=k2
 ·by_cases e2:a1=a2
  ·by_cases e3:d1=d2
   ·by_cases e4:s1=s2
    ·rw[aM e1,du e2,du e3,du e4,aM (by rw[e1,e2,e3,e4])];rfl
    ·rw[du e2,du e3,eH e4,aS (p:=(k1,a1,d1,s1,u1)=(k2,a2,d2,s2,u2)) (by rintro⟨⟩;exact e4 rfl)];rfl
   ·rw[du e2,eH e3,aS (p:=(k1,a1,d1,s1,u1)=(k2,a2,d2,s2,u2)) (by rintro⟨⟩;exact e3 rfl)];rfl
  ·rw[eH e2,aS (p:=(k1,a1,d1,s1,u1)=(k2,a2,d2,s2,u2)) (by rintro⟨⟩;exact e2 rfl)];rfl
 ·rw[aS e1,aS (p:=(k1,a1,d1,s1,u1)=(k2,a2,d2,s2,u2)) (by rintro⟨⟩;exact e1 rfl)];cases qY a1 a2 <;> cases qY d1 d2 <;> cases qY s1 s2 <;> rfl
theorem auj:DS.RS:=rE [.d ke,.d ke] DS
def aBk:=DS.eS aBj
abbrev AH:=(List oq)×(List oq)×Int×Int
def pc:AH->AS:=λ(kF,t15,t16,t17)=>⟨([bE,.d (.slice ke) kF,.fn 77 (.nil)]++aP 12 ([.d (.slice ke) t15,.d ti t16,.d ti t17]++aP 14 [])),[],(ab 32 [])⟩
def qs:Unit->Exit×AS:=λx=>(.ret,⟨(aP 6 ([.d .bool false]++aP 25 [])),[],(ab 32 [])⟩)
def yR:Unit->Exit×AS:=λx=>(.exit 0,⟨(aP 32 []),[],(ab 32 [])⟩)
abbrev Na:=(Unit)⊕(Unit)
abbrev YR:=(Unit)⊕(Unit)
def Fc:Na->Out (Exit×AS):=λx=> .br x.isLeft (.get x.getLeft? λa=> .ok (qs a)) (.get x.getRight? λb=> .ok (yR b))
def ln:AH->YR->Na:=λ(kF,t15,t16,t17) y=>match y with | .inl y=> .inl y | .inr z=> .inr (z)
abbrev auZ:=(List oq)×(List oq)
def yQ:AH->Prop:=λ(b,a,m,i)=>(a.length<=1000000000/\∀x∈a,x.1.length<=1000000000)/\a.length=b.length/\m=a.length/\∃k:Nat,k<=a.length/\i=k
def pb:AH->YR:=λ(b,a,m,i)=>if a.drop i.toNat=b.drop i.toNat then .inr () else .inl ()
def axp:auZ->Prop:=λ(a,b)=>a.length<=1000000000/\∀x∈a,x.1.length<=1000000000
def ahF:auZ->Bool:=λ(a,b)=>decide (a=b)
def YQ:=dy.fp pc yQ ln pb Fc
def Lm:AH->Option Na:=gB YQ pc
def D5:Fs Tryz.prog axp bt ahF:=eN 80 Tryz.f80 (λ(s1,s2)=>([.d (.slice ke) s1,.d (.slice ke) s2,.fn 77 (.nil)],[])) (λx=>⟨.d .bool x,[],[]⟩) [some (.slice ke),some (.slice ke),none] [aBk] {loops:=nX [(4,{aV:=[1,2,15,16,17]})],outs:=nV [(4,{},{aV:=[6]})],fC:=na [(4,YQ)]}
def M9:= @ee Tryz.prog (jy D5.G) D5.an 0 Tryz.f80 0 _ pc
abbrev US:=kj Tryz.prog (jy D5.G) D5.an 0 Tryz.f80 0 pc yQ ln pb Fc
theorem ahG:iW Lm yQ ln pb:=l6 (jk [.d (.slice ke),.d (.slice ke),.d ti,.d ti] λ_=>bY)
theorem Pr:mP @M9 pc yQ ln pb Fc US:=nD
theorem Ln{R:Type}(kF:(List oq))(t15:(List oq))(t16:Int)(t17:Int)(kn:AS->Option R)(kx:Exit->AS->Option R):M9 (kF,t15,t16,t17) kn kx=aH ((gq t17 t16)) (aH (eo t17 (((ag t15):Nat):Int)) (aH (eo t17 (((ag kF):Nat):Int)) (al (DS.call ((nth ke t15 (ae t17)),(nth ke kF (ae t17)))) λx1=>aH ((!x1)) (kx (qs ()).1 (qs ()).2) (kn (pc (kF,t15,t16,(bI .i64 t17 (1:Int)))))) none) none) (kx (yR ()).1 (yR ()).2):=bY
theorem aCY{R:Type}(s1 s2)(k:K1 R):D5.A (s1,s2) k=aH ((BY (s1.length:Int) (s2.length:Int))) (k (D5.out false)) (al (Lm (s2,s1,(s1.length:Int),0)) λx2=>aH (x2.isLeft) (al (x2.getLeft?) λa3=>k (D5.out false)) (al (x2.getRight?) λb4=>k (D5.out true))):=bY
theorem alH:US:=by
 refine Pr (λ(b,a,m,i)=>a.length - i.toNat) ?_
 rintro⟨b,a,m,i⟩ ⟨⟨hl,he⟩,K5,rfl,k,hk,rfl⟩;have hl:a.length<=1000000000:=hl;have K5:a.length=b.length:=K5;have hk:k<=a.length:=hk;by_cases h:k < a.length
 ·have h2:k < b.length:=ak;have n1:nth ke a k=a[k]:=cg (t:=ke) h;have n2:nth ke b k=b[k]:=cg (t:=ke) h2;have hd:(a.drop k=b.drop k)=(a[k]=b[k]/\a.drop (k+1)=b.drop (k+1)):=by rw[aq h,aq h2,df]
  have step:∀ {R:Type} (kn:AS->Option R) (kx:Exit->AS->Option R),M9 (b,a,(a.length:Int),(k:Int)) kn kx=if a[k]=b[k] then kn (pc (b,a,(a.length:Int),((k+1:Nat):Int))) else kx (qs ()).1 (qs ()).2:=by
   intro R kn kx;rw[Ln,aU ak,bg ak ak,bg ak ak,aa,n1,n2,N.mO ak,auj (d:=(a[k],b[k])) (he _ (aO h))];simp only[aj,ah,bt,ac6];by_cases hx:a[k]=b[k]
   ·rw[aM hx,if_pos hx];rfl
   ·rw[aS hx,if_neg hx];rfl
  by_cases hx:a[k]=b[k]
  ·left;refine⟨(b,a,(a.length:Int),((k+1:Nat):Int)),⟨⟨hl,he⟩,K5,rfl,k+1,ak,rfl⟩,by simp only[aa];omega,?_,λkn kx=> ?_⟩
   ·simp only[ln,pb,aa,hd,hx,mM]
   ·rw[step,if_pos hx]
  ·right;refine⟨qs (),?_,λkn kx=> ?_⟩
   ·simp only[ln,pb,aa,hd,hx,false_and,bq];rfl
   ·rw[step,if_neg hx]
 ·right;obtain rfl:k=a.length:=ak;refine⟨yR (),?_,λkn kx=> ?_⟩
  ·simp only[ln,pb,aa,aK];rw[K5,aK,if_pos rfl];rfl
  ·rw[Ln,aR ak,ao]
theorem aCZ:D5.Ok:=by
 rintro⟨a,b⟩ hl;have aVr:a.length<=1000000000:=hl.1;rw[aCY];simp only[bt,ahF];by_cases h:a.length=b.length
 ·rw[dB ak,ao,ahG (d:=(b,a,(a.length:Int),0)) ⟨hl,h,rfl,0,aJ _,rfl⟩];simp only[ah,ln,pb,aX,aD];by_cases hx:a=b
  ·rw[if_pos hx,aM hx];rfl
  ·rw[if_neg hx,aS hx];rfl
 ·rw[fj ak,aS (λx=>h (by rw[x]))];rfl
theorem axq:D5.RS:=rE [.d (.slice ke),.d (.slice ke)] D5
def aC0:=D5.eS aCZ 1 ⟨.fp alH,trivial⟩
def auk:(gf×gf)->Prop:=λ(x,y)=>x.2.1.1.length<=1000000000/\∀b∈x.2.1.1,b.1.length<=1000000000
def ac7:(gf×gf)->Bool:=λ(x,y)=>decide (x=y)
def JX:Fs Tryz.prog auk bt ac7:=eN 79 Tryz.f79 (λ(x,yv)=>([.d gb x,.d gb yv,.ptr (.bm 0) 0 [] 0],[.obj 0 false (.fn 77 (.nil))])) (λx=>⟨.d .bool x,[.obj 0 false (.fn 77 (.nil))],[]⟩) [some gb,some gb,none] [aC0]
theorem aBl{R:Type}(x yv)(k:K1 R):JX.A (x,yv) k=aH ((qY x.1 yv.1)) (al (D5.call (x.2.1.1,yv.2.1.1)) λx1=>k (JX.out x1)) (k (JX.out false)):=bY
theorem aBm:JX.Ok:=by
 rintro⟨⟨n1,⟨b1,w1⟩,u1⟩,⟨n2,⟨b2,w2⟩,u2⟩⟩ h;rw[aBl,axq (d:=(b1,b2)) h];simp only[ah,bt,ahF,bt,ac7];by_cases e1:n1=n2
 ·by_cases e2:b1=b2
  ·rw[du e1,aM e2,aM (by rw[e1,e2])];rfl
  ·rw[du e1,aS e2,aS (by rintro⟨⟩;exact e2 rfl)];rfl
 ·rw[eH e1,aS (p:=(n1,(b1,w1),u1)=(n2,(b2,w2),u2)) (by rintro⟨⟩;exact e1 rfl)];rfl
theorem aul:JX.RS:=rE [.d gb,.d gb] JX
def aBn:=JX.eS aBm
abbrev El:=(List gG)×(List gG)×Int×Int
def sY:El->AS:=λ(kF,t15,t16,t17)=>⟨([bE,.d (.slice fY) kF,.fn 75 (.nil)]++aP 12 ([.d (.slice fY) t15,.d ti t16,.d ti t17]++aP 14 [])),[],(ab 32 [])⟩
def tw:Unit->Exit×AS:=λx=>(.ret,⟨(aP 6 ([.d .bool false]++aP 25 [])),[],(ab 32 [])⟩)
def Co:Unit->Exit×AS:=λx=>(.exit 0,⟨(aP 32 []),[],(ab 32 [])⟩)
abbrev Tl:=(Unit)⊕(Unit)
abbrev af3:=(Unit)⊕(Unit)
def Ik:Tl->Out (Exit×AS):=λx=> .br x.isLeft (.get x.getLeft? λa=> .ok (tw a)) (.get x.getRight? λb=> .ok (Co b))
def mZ:El->af3->Tl:=λ(kF,t15,t16,t17) y=>match y with | .inl y=> .inl y | .inr z=> .inr (z)
abbrev aFm:=(List gG)×(List gG)
def Cn:El->Prop:=λ(b,a,m,i)=>(a.length<=1000000000/\∀x∈a,x.2.1.2.1.length<=1000000000)/\a.length=b.length/\m=a.length/\∃k:Nat,k<=a.length/\i=k
def tv:El->af3:=λ(b,a,m,i)=>if a.drop i.toNat=b.drop i.toNat then .inr () else .inl ()
def aFn:aFm->Prop:=λ(a,b)=>a.length<=1000000000/\∀x∈a,x.2.1.2.1.length<=1000000000
def arW:aFm->Bool:=λ(a,b)=>decide (a=b)
def af2:=dy.fp sY Cn mZ tv Ik
def Qs:El->Option Tl:=gB af2 sY
def Tj:Fs Tryz.prog aFn bt arW:=eN 81 Tryz.f81 (λ(s1,s2)=>([.d (.slice fY) s1,.d (.slice fY) s2,.fn 75 (.nil)],[])) (λx=>⟨.d .bool x,[],[]⟩) [some (.slice fY),some (.slice fY),none] [aBh] {loops:=nX [(4,{aV:=[1,2,15,16,17]})],outs:=nV [(4,{},{aV:=[6]})],fC:=na [(4,af2)]}
def Tk:= @ee Tryz.prog (jy Tj.G) Tj.an 0 Tryz.f81 0 _ sY
abbrev Z2:=kj Tryz.prog (jy Tj.G) Tj.an 0 Tryz.f81 0 sY Cn mZ tv Ik
theorem anh:iW Qs Cn mZ tv:=l6 (jk [.d (.slice fY),.d (.slice fY),.d ti,.d ti] λ_=>bY)
theorem Tm:mP @Tk sY Cn mZ tv Ik Z2:=nD
theorem Qt{R:Type}(kF:(List gG))(t15:(List gG))(t16:Int)(t17:Int)(kn:AS->Option R)(kx:Exit->AS->Option R):Tk (kF,t15,t16,t17) kn kx=aH ((gq t17 t16)) (aH (eo t17 (((ag t15):Nat):Int)) (aH (eo t17 (((ag kF):Nat):Int)) (al (DR.call ((nth fY t15 (ae t17)),(nth fY kF (ae t17)))) λx1=>aH ((!x1)) (kx (tw ()).1 (tw ()).2) (kn (sY (kF,t15,t16,(bI .i64 t17 (1:Int)))))) none) none) (kx (Co ()).1 (Co ()).2):=bY
theorem aLo{R:Type}(s1 s2)(k:K1 R):Tj.A (s1,s2) k=aH ((BY (s1.length:Int) (s2.length:Int))) (k (Tj.out false)) (al (Qs (s2,s1,(s1.length:Int),0)) λx2=>aH (x2.isLeft) (al (x2.getLeft?) λa3=>k (Tj.out false)) (al (x2.getRight?) λb4=>k (Tj.out true))):=bY
theorem arX:Z2:=by
 refine Tm (λ(b,a,m,i)=>a.length - i.toNat) ?_
 rintro⟨b,a,m,i⟩ ⟨⟨hl,he⟩,K5,rfl,k,hk,rfl⟩;have hl:a.length<=1000000000:=hl;have K5:a.length=b.length:=K5;have hk:k<=a.length:=hk;by_cases h:k < a.length
 ·have h2:k < b.length:=ak;have n1:nth fY a k=a[k]:=cg (t:=fY) h;have n2:nth fY b k=b[k]:=cg (t:=fY) h2;have hd:(a.drop k=b.drop k)=(a[k]=b[k]/\a.drop (k+1)=b.drop (k+1)):=by rw[aq h,aq h2,df]
  have step:∀ {R:Type} (kn:AS->Option R) (kx:Exit->AS->Option R),Tk (b,a,(a.length:Int),(k:Int)) kn kx=if a[k]=b[k] then kn (sY (b,a,(a.length:Int),((k+1:Nat):Int))) else kx (tw ()).1 (tw ()).2:=by
   intro R kn kx;rw[Qt,aU ak,bg ak ak,bg ak ak,aa,n1,n2,N.mO ak,auh (d:=(a[k],b[k])) (he _ (aO h))];simp only[aj,ah,bt,ac5];by_cases hx:a[k]=b[k]
   ·rw[aM hx,if_pos hx];rfl
   ·rw[aS hx,if_neg hx];rfl
  by_cases hx:a[k]=b[k]
  ·left;refine⟨(b,a,(a.length:Int),((k+1:Nat):Int)),⟨⟨hl,he⟩,K5,rfl,k+1,ak,rfl⟩,by simp only[aa];omega,?_,λkn kx=> ?_⟩
   ·simp only[mZ,tv,aa,hd,hx,mM]
   ·rw[step,if_pos hx]
  ·right;refine⟨tw (),?_,λkn kx=> ?_⟩
   ·simp only[mZ,tv,aa,hd,hx,false_and,bq];rfl
   ·rw[step,if_neg hx]
 ·right;obtain rfl:k=a.length:=ak;refine⟨Co (),?_,λkn kx=> ?_⟩
  ·simp only[mZ,tv,aa,aK];rw[K5,aK,if_pos rfl];rfl
  ·rw[Qt,aR ak,ao]
theorem aLp:Tj.Ok:=by
 rintro⟨a,b⟩ hl;have aVr:a.length<=1000000000:=hl.1;rw[aLo];simp only[bt,arW];by_cases h:a.length=b.length
 ·rw[dB ak,ao,anh (d:=(b,a,(a.length:Int),0)) ⟨hl,h,rfl,0,aJ _,rfl⟩];simp only[ah,mZ,tv,aX,aD];by_cases hx:a=b
  ·rw[if_pos hx,aM hx];rfl
  ·rw[if_neg hx,aS hx];rfl
 ·rw[fj ak,aS (λx=>h (by rw[x]))];rfl
theorem aFo:Tj.RS:=rE [.d (.slice fY),.d (.slice fY)] Tj
def aLq:=Tj.eS aLp 1 ⟨.fp arX,trivial⟩
abbrev Bl:=(List gf)×(List gf)×Int×Int
def pO:Bl->AS:=λ(kF,t15,t16,t17)=>⟨([bE,.d (.slice gb) kF,.fn 79 (.cons (.ptr (.bm 0) 0 [] 0) (.nil))]++aP 12 ([.d (.slice gb) t15,.d ti t16,.d ti t17]++aP 14 [])),dK (.fn 77 (.nil)),(ab 32 [])⟩
def qF:Unit->Exit×AS:=λx=>(.ret,⟨(aP 6 ([.d .bool false]++aP 25 [])),dK (.fn 77 (.nil)),(ab 32 [])⟩)
def zO:Unit->Exit×AS:=λx=>(.exit 0,⟨(aP 32 []),dK (.fn 77 (.nil)),(ab 32 [])⟩)
abbrev Of:=(Unit)⊕(Unit)
abbrev abf:=(Unit)⊕(Unit)
def F8:Of->Out (Exit×AS):=λx=> .br x.isLeft (.get x.getLeft? λa=> .ok (qF a)) (.get x.getRight? λb=> .ok (zO b))
def lK:Bl->abf->Of:=λ(kF,t15,t16,t17) y=>match y with | .inl y=> .inl y | .inr z=> .inr (z)
abbrev av1:=(List gf)×(List gf)
def zN:Bl->Prop:=λ(b,a,m,i)=>(a.length<=1000000000/\∀x∈a,x.2.1.1.length<=1000000000/\∀b∈x.2.1.1,b.1.length<=1000000000)/\a.length=b.length/\m=a.length/\∃k:Nat,k<=a.length/\i=k
def pN:Bl->abf:=λ(b,a,m,i)=>if a.drop i.toNat=b.drop i.toNat then .inr () else .inl ()
def azz:av1->Prop:=λ(a,b)=>a.length<=1000000000/\∀x∈a,x.2.1.1.length<=1000000000/\∀b∈x.2.1.1,b.1.length<=1000000000
def ajv:av1->Bool:=λ(a,b)=>decide (a=b)
def abe:=dy.fp pO zN lK pN F8
def Mf:Bl->Option Of:=gB abe pO
def Et:Fs Tryz.prog azz bt ajv:=eN 82 Tryz.f82 (λ(s1,s2)=>([.d (.slice gb) s1,.d (.slice gb) s2,.fn 79 (.cons (.ptr (.bm 0) 0 [] 0) (.nil))],[.obj 0 false (.fn 77 (.nil))])) (λx=>⟨.d .bool x,[.obj 0 false (.fn 77 (.nil))],[]⟩) [some (.slice gb),some (.slice gb),none] [aBn] {loops:=nX [(4,{aV:=[1,2,15,16,17]})],outs:=nV [(4,{},{aV:=[6]})],fC:=na [(4,abe)]}
def Oe:= @ee Tryz.prog (jy Et.G) Et.an 0 Tryz.f82 0 _ pO
abbrev VY:=kj Tryz.prog (jy Et.G) Et.an 0 Tryz.f82 0 pO zN lK pN F8
theorem ajw:iW Mf zN lK pN:=l6 (jk [.d (.slice gb),.d (.slice gb),.d ti,.d ti] λ_=>bY)
theorem QU:mP @Oe pO zN lK pN F8 VY:=nD
theorem Mg{R:Type}(kF:(List gf))(t15:(List gf))(t16:Int)(t17:Int)(kn:AS->Option R)(kx:Exit->AS->Option R):Oe (kF,t15,t16,t17) kn kx=aH ((gq t17 t16)) (aH (eo t17 (((ag t15):Nat):Int)) (aH (eo t17 (((ag kF):Nat):Int)) (al (JX.call ((nth gb t15 (ae t17)),(nth gb kF (ae t17)))) λx1=>aH ((!x1)) (kx (qF ()).1 (qF ()).2) (kn (pO (kF,t15,t16,(bI .i64 t17 (1:Int)))))) none) none) (kx (zO ()).1 (zO ()).2):=bY
theorem aGz{R:Type}(s1 s2)(k:K1 R):Et.A (s1,s2) k=aH ((BY (s1.length:Int) (s2.length:Int))) (k (Et.out false)) (al (Mf (s2,s1,(s1.length:Int),0)) λx2=>aH (x2.isLeft) (al (x2.getLeft?) λa3=>k (Et.out false)) (al (x2.getRight?) λb4=>k (Et.out true))):=bY
theorem an2:VY:=by
 refine QU (λ(b,a,m,i)=>a.length - i.toNat) ?_
 rintro⟨b,a,m,i⟩ ⟨⟨hl,he⟩,K5,rfl,k,hk,rfl⟩;have hl:a.length<=1000000000:=hl;have K5:a.length=b.length:=K5;have hk:k<=a.length:=hk;by_cases h:k < a.length
 ·have h2:k < b.length:=ak;have n1:nth gb a k=a[k]:=cg (t:=gb) h;have n2:nth gb b k=b[k]:=cg (t:=gb) h2;have hd:(a.drop k=b.drop k)=(a[k]=b[k]/\a.drop (k+1)=b.drop (k+1)):=by rw[aq h,aq h2,df]
  have step:∀ {R:Type} (kn:AS->Option R) (kx:Exit->AS->Option R),Oe (b,a,(a.length:Int),(k:Int)) kn kx=if a[k]=b[k] then kn (pO (b,a,(a.length:Int),((k+1:Nat):Int))) else kx (qF ()).1 (qF ()).2:=by
   intro R kn kx;rw[Mg,aU ak,bg ak ak,bg ak ak,aa,n1,n2,N.mO ak,aul (d:=(a[k],b[k])) (he _ (aO h))];simp only[aj,ah,bt,ac7];by_cases hx:a[k]=b[k]
   ·rw[aM hx,if_pos hx];rfl
   ·rw[aS hx,if_neg hx];rfl
  by_cases hx:a[k]=b[k]
  ·left;refine⟨(b,a,(a.length:Int),((k+1:Nat):Int)),⟨⟨hl,he⟩,K5,rfl,k+1,ak,rfl⟩,by simp only[aa];omega,?_,λkn kx=> ?_⟩
   ·simp only[lK,pN,aa,hd,hx,mM]
   ·rw[step,if_pos hx]
  ·right;refine⟨qF (),?_,λkn kx=> ?_⟩
   ·simp only[lK,pN,aa,hd,hx,false_and,bq];rfl
   ·rw[step,if_neg hx]
 ·right;obtain rfl:k=a.length:=ak;refine⟨zO (),?_,λkn kx=> ?_⟩
  ·simp only[lK,pN,aa,aK];rw[K5,aK,if_pos rfl];rfl
  ·rw[Mg,aR ak,ao]
theorem aGA:Et.Ok:=by
 rintro⟨a,b⟩ hl;have aVr:a.length<=1000000000:=hl.1;rw[aGz];simp only[bt,ajv];by_cases h:a.length=b.length
 ·rw[dB ak,ao,ajw (d:=(b,a,(a.length:Int),0)) ⟨hl,h,rfl,0,aJ _,rfl⟩];simp only[ah,lK,pN,aX,aD];by_cases hx:a=b
  ·rw[if_pos hx,aM hx];rfl
  ·rw[if_neg hx,aS hx];rfl
 ·rw[fj ak,aS (λx=>h (by rw[x]))];rfl
theorem azA:Et.RS:=rE [.d (.slice gb),.d (.slice gb)] Et
def aGB:=Et.eS aGA 1 ⟨.fp an2,trivial⟩
def aBo:(dv×dv)->Prop:=λ(a,b)=>aqd a
def awn:(dv×dv)->Bool:=λ(a,b)=>decide (a=b)
def MM:Fs Tryz.prog aBo bt awn:=eN 34 Tryz.f34 (λ(a,b)=>([.d eA a,.d eA b],[])) (λx=>⟨.d .bool x,[],[]⟩) [some eA,some eA] [aLq,aGB]
theorem aIr{R:Type}(a b)(k:K1 R):MM.A (a,b) k=aH ((qY a.2.2.1 b.2.2.1)) (al (Tj.call (a.1,b.1)) λx1=>aH (x1) (al (Et.call (a.2.1,b.2.1)) λx2=>k (MM.out x2)) (k (MM.out false))) (k (MM.out false)):=bY
theorem aIs:MM.Ok:=by
 rintro⟨⟨i1,o1,n1,u1⟩,⟨i2,o2,n2,u2⟩⟩ h;have h:aqd (i1,o1,n1,u1):=h;rw[aIr,aFo (d:=(i1,i2)) h.1,azA (d:=(o1,o2)) h.2];simp only[ah,bt,arW,bt,ajv,bt,awn];by_cases e1:n1=n2
 ·by_cases e2:i1=i2
  ·by_cases e3:o1=o2
   ·rw[du e1,aM e2,aM e3,aM (by rw[e1,e2,e3])];rfl
   ·rw[du e1,aM e2,aS e3,aS (by rintro⟨⟩;exact e3 rfl)];rfl
  ·rw[du e1,aS e2,aS (p:=(i1,o1,n1,u1)=(i2,o2,n2,u2)) (by rintro⟨⟩;exact e2 rfl)];rfl
 ·rw[eH e1,aS (p:=(i1,o1,n1,u1)=(i2,o2,n2,u2)) (by rintro⟨⟩;exact e1 rfl)];rfl
theorem aBp:MM.RS:=rE [.d eA,.d eA] MM
def aIt:=MM.eS aIs
def z6(x:gG):Bool:=decide (x.2.1.2.1.length<=14)
def zZ(b:oq):Bool:=decide (b.1.length<=14)
def uZ(o:gf):Bool:=decide (o.2.1.1.length<=6) && o.2.1.1.all zZ
def akd(t:dv):Bool:=decide (t.1.length<=66/\t.2.1.length<=66) && (t.1.all z6 && t.2.1.all uZ)
abbrev rI:=dv×Int
def kB:rI->AS:=λ(oQ,i)=>⟨([bE,.dD eA oQ,bE,.d ti i]++aP 69 []),[],(ab 73 [])⟩
def kX:Unit->Exit×AS:=λx=>(.ret,⟨([bE,bE,.d .bool false]++aP 70 []),[],(ab 73 [])⟩)
def sz:dv->Exit×AS:=λx=>(.exit 0,⟨([bE,.dD eA x]++aP 71 []),[],(ab 73 [])⟩)
abbrev DB:=(Unit)⊕(dv)
abbrev Mq:=(Unit)⊕(Unit)
def yh:DB->Out (Exit×AS):=λx=> .br x.isLeft (.get x.getLeft? λa=> .ok (kX a)) (.get x.getRight? λb=> .ok (sz b))
def iE:rI->Mq->DB:=λ(oQ,i) y=>match y with | .inl y=> .inl y | .inr z=> .inr (oQ)
abbrev rJ:=dv×Int
def kC:rJ->AS:=λ(vi,fL)=>⟨([bE,.dD eA vi,bE,bE,.d ti fL]++aP 68 []),[],(ab 73 [])⟩
def iG:Unit->Exit×AS:=λx=>(.ret,⟨([bE,bE,.d .bool false]++aP 70 []),[],(ab 73 [])⟩)
def sB:Unit->Exit×AS:=λx=>(.exit 2,⟨(aP 73 []),[],(ab 73 [])⟩)
abbrev DD:=(Unit)⊕(Unit)
abbrev Ms:=(Unit)⊕(Unit)
def yi:DD->Out (Exit×AS):=λx=> .br x.isLeft (.get x.getLeft? λa=> .ok (iG a)) (.get x.getRight? λb=> .ok (sB b))
def iF:rJ->Ms->DD:=λ(vi,fL) y=>match y with | .inl y=> .inl y | .inr z=> .inr (z)
abbrev rK:=dv×Int×Int
def kD:rK->AS:=λ(Xy,W0,kv)=>⟨([bE,.dD eA Xy,bE,bE,.d ti W0,.d ti kv]++aP 67 []),[],(ab 73 [])⟩
def kY:Unit->Exit×AS:=λx=>(.ret,⟨([bE,bE,.d .bool false]++aP 70 []),[],(ab 73 [])⟩)
def sD:(dv×Int)->Exit×AS:=λx=>(.exit 4,⟨([bE,.dD eA x.1,bE,bE,.d ti x.2]++aP 68 []),[],(ab 73 [])⟩)
abbrev DF:=(Unit)⊕((dv×Int))
abbrev Mu:=(Unit)⊕(Unit)
def yj:DF->Out (Exit×AS):=λx=> .br x.isLeft (.get x.getLeft? λa=> .ok (kY a)) (.get x.getRight? λb=> .ok (sD b))
def iH:rK->Mu->DF:=λ(Xy,W0,kv) y=>match y with | .inl y=> .inl y | .inr z=> .inr ((Xy,W0))
def sy:rI->Prop:=λ(t,i)=>t.1.length<=1000000000/\∃k:Nat,k<=t.1.length/\i=k
def jR:rI->Mq:=λ(t,i)=>if(bR (ae i) t.1).all z6 then .inr () else .inl ()
def sC:rK->Prop:=λ(t,j,i)=>(nth gb t.2.1 (ae j)).2.1.1.length<=1000000000/\∃k:Nat,k<=(nth gb t.2.1 (ae j)).2.1.1.length/\i=k/\(0<=j/\j < (t.2.1.length:Int))
def jT:rK->Mu:=λ(t,j,i)=>if(bR (ae i) (nth gb t.2.1 (ae j)).2.1.1).all zZ then .inr () else .inl ()
def sA:rJ->Prop:=λ(t,i)=>t.2.1.length<=1000000000/\∃k:Nat,k<=t.2.1.length/\i=k
def jS:rJ->Ms:=λ(t,i)=>if(bR (ae i) t.2.1).all uZ then .inr () else .inl ()
def ajQ:dv->Prop:=λ_=>True
def Ow:dv->Bool:=λt=>akd t
def Mp:=dy.fp kB sy iE jR yh
def EH:rI->Option DB:=gB Mp kB
def Mr:=dy.fp kC sA iF jS yi
def EJ:rJ->Option DD:=gB Mr kC
def Mt:=dy.fp kD sC iH jT yj
def EL:rK->Option DF:=gB Mt kD
def fV:Fs Tryz.prog ajQ bt Ow:=eN 42 Tryz.f42 (λt=>([.d eA t],[])) (λx=>⟨.d .bool x,[],[]⟩) [some eA] [] {loops:=nX [(4,{aV:=[1,3]}),(9,{aV:=[1,4]}),(14,{aV:=[1,4,5]})],outs:=nV [(4,{aV:=[1]},{aV:=[2]}),(9,{},{aV:=[2]}),(14,{aV:=[1,4]},{aV:=[2]})],fC:=na [(4,Mp),(9,Mr),(14,Mt)]}
def DA:= @ee Tryz.prog (jy fV.G) fV.an 0 Tryz.f42 0 _ kB
abbrev I1:=kj Tryz.prog (jy fV.G) fV.an 0 Tryz.f42 0 kB sy iE jR yh
def DC:= @ee Tryz.prog (jy fV.G) fV.an 0 Tryz.f42 1 _ kC
abbrev I3:=kj Tryz.prog (jy fV.G) fV.an 0 Tryz.f42 1 kC sA iF jS yi
def DE:= @ee Tryz.prog (jy fV.G) fV.an 0 Tryz.f42 2 _ kD
abbrev I5:=kj Tryz.prog (jy fV.G) fV.an 0 Tryz.f42 2 kD sC iH jT yj
theorem Xl:iW EH sy iE jR:=l6 (jk [.d eA,.d ti] λ_=>bY)
theorem I2:mP @DA kB sy iE jR yh I1:=nD
theorem EI{R:Type}(oQ:dv)(i:Int)(kn:AS->Option R)(kx:Exit->AS->Option R):DA (oQ,i) kn kx=aH ((gq i (((ag oQ.1):Nat):Int))) (aH (eo i (((ag oQ.1):Nat):Int)) (aH ((rz (((ag (nth fY oQ.1 (ae i)).2.1.2.1):Nat):Int) (14:Int))) (kx (kX ()).1 (kX ()).2) (kn (kB (oQ,(bI .i64 i (1:Int)))))) none) (kx (sz oQ).1 (sz oQ).2):=bY
theorem Xm:iW EJ sA iF jS:=l6 (jk [.d eA,.d ti] λ_=>bY)
theorem I4:mP @DC kC sA iF jS yi I3:=nD
theorem EK{R:Type}(vi:dv)(fL:Int)(kn:AS->Option R)(kx:Exit->AS->Option R):DC (vi,fL) kn kx=aH ((gq fL (((ag vi.2.1):Nat):Int))) (aH (eo fL (((ag vi.2.1):Nat):Int)) (aH ((rz (((ag (nth gb vi.2.1 (ae fL)).2.1.1):Nat):Int) (6:Int))) (kx (iG ()).1 (iG ()).2) (al (EL (vi,fL,(0:Int))) λx1=>aH (x1.isLeft) (al (x1.getLeft?) λa2=>kx (iG ()).1 (iG ()).2) (al (x1.getRight?) λb3=>kn (kC (b3.1,(bI .i64 b3.2 (1:Int))))))) none) (kx (sB ()).1 (sB ()).2):=bY
theorem Xn:iW EL sC iH jT:=l6 (jk [.d eA,.d ti,.d ti] λ_=>bY)
theorem I6:mP @DE kD sC iH jT yj I5:=nD
theorem EM{R:Type}(Xy:dv)(W0:Int)(kv:Int)(kn:AS->Option R)(kx:Exit->AS->Option R):DE (Xy,W0,kv) kn kx=aH (eo W0 (((ag Xy.2.1):Nat):Int)) (aH ((gq kv (((ag (nth gb Xy.2.1 (ae W0)).2.1.1):Nat):Int))) (aH (eo W0 (((ag Xy.2.1):Nat):Int)) (aH (eo kv (((ag (nth gb Xy.2.1 (ae W0)).2.1.1):Nat):Int)) (aH ((rz (((ag (nth ke (nth gb Xy.2.1 (ae W0)).2.1.1 (ae kv)).1):Nat):Int) (14:Int))) (kx (kY ()).1 (kY ()).2) (kn (kD (Xy,W0,(bI .i64 kv (1:Int)))))) none) none) (kx (sD (Xy,W0)).1 (sD (Xy,W0)).2)) none:=bY
theorem aov{R:Type}(t)(k:K1 R):fV.A t k=aH ((rz (t.1.length:Int) 66)) (k (fV.out false)) (aH ((rz (t.2.1.length:Int) 66)) (k (fV.out false)) (al (EH (t,0)) λx1=>aH (x1.isLeft) (al (x1.getLeft?) λa2=>k (fV.out false)) (al (x1.getRight?) λb3=>al (EJ (b3,0)) λx7=>aH (x7.isLeft) (al (x7.getLeft?) λa8=>k (fV.out false)) (al (x7.getRight?) λb9=>k (fV.out true))))):=bY
theorem abB:I1:=by
 refine I2 (λ(t,i)=>t.1.length - ae i) ?_
 rintro⟨t,i⟩ ⟨hlen,k,hk,rfl⟩;have hlen:t.1.length<=1000000000:=hlen;have hk:k<=t.1.length:=hk;by_cases h:k < t.1.length
 ·have n1:nth fY t.1 k=t.1[k]:=cg (t:=fY) h;have hd:(bR k t.1).all z6=(z6 t.1[k] && (bR (k+1) t.1).all z6):=by rw[aq h,fb]
  have step:∀ {R:Type} (kn:AS->Option R) (kx:Exit->AS->Option R),DA (t,(k:Int)) kn kx=aH (z6 t.1[k]) (kn (kB (t,((k+1:Nat):Int)))) (kx (kX ()).1 (kX ()).2):=by
   intro R kn kx;rw[EI,aU ak,bg (show(0:Int)<=(k:Int) by omega) ak,aa,n1];simp only[aj];rw[N.mO ak];unfold z6;by_cases hs:t.1[k].2.1.2.1.length<=14
   ·rw[cn ak,aM hs];rfl
   ·rw[cR ak,aS hs];rfl
  cases hp:z6 t.1[k]
  ·right;refine⟨kX (),?_,λkn kx=> ?_⟩
   ·simp only[iE,jR,aa,hd,hp,cM,bn,bq];rfl
   ·rw[step,hp,ao]
  ·left;refine⟨(t,((k+1:Nat):Int)),⟨hlen,k+1,ak,rfl⟩,by simp only[aa];omega,?_,λkn kx=> ?_⟩
   ·simp only[iE,jR,aa,hd,hp,bu]
   ·rw[step,hp,aj]
 ·right;obtain rfl:k=t.1.length:=ak;refine⟨sz t,?_,λkn kx=> ?_⟩
  ·simp only[iE,jR,aa,aK];rfl
  ·rw[EI,aR ak,ao]
theorem abD:I5:=by
 refine I6 (λ(t,j,i)=>(nth gb t.2.1 (ae j)).2.1.1.length - ae i) ?_
 rintro⟨t,j,i⟩ ⟨hlen,k,hk,rfl,hj⟩;have hlen:(nth gb t.2.1 (ae j)).2.1.1.length<=1000000000:=hlen;have hk:k<=(nth gb t.2.1 (ae j)).2.1.1.length:=hk;have hj:0<=j/\j < (t.2.1.length:Int):=hj;by_cases h:k < (nth gb t.2.1 (ae j)).2.1.1.length
 ·have n1:nth ke (nth gb t.2.1 (ae j)).2.1.1 k=(nth gb t.2.1 (ae j)).2.1.1[k]:=cg (t:=ke) h;have hd:(bR k (nth gb t.2.1 (ae j)).2.1.1).all zZ=(zZ (nth gb t.2.1 (ae j)).2.1.1[k] && (bR (k+1) (nth gb t.2.1 (ae j)).2.1.1).all zZ):=by rw[aq h,fb]
  have step:∀ {R:Type} (kn:AS->Option R) (kx:Exit->AS->Option R),DE (t,j,(k:Int)) kn kx=aH (zZ (nth gb t.2.1 (ae j)).2.1.1[k]) (kn (kD (t,j,((k+1:Nat):Int)))) (kx (kY ()).1 (kY ()).2):=by
   intro R kn kx;rw[EM,bg hj.1 hj.2,aj,aU ak,bg (show(0:Int)<=(k:Int) by omega) ak,aa,n1];simp only[aj];rw[N.mO ak];unfold zZ;by_cases hs:(nth gb t.2.1 (ae j)).2.1.1[k].1.length<=14
   ·rw[cn ak,aM hs];rfl
   ·rw[cR ak,aS hs];rfl
  cases hp:zZ (nth gb t.2.1 (ae j)).2.1.1[k]
  ·right;refine⟨kY (),?_,λkn kx=> ?_⟩
   ·simp only[iH,jT,aa,hd,hp,cM,bn,bq];rfl
   ·rw[step,hp,ao]
  ·left;refine⟨(t,j,((k+1:Nat):Int)),⟨hlen,k+1,ak,rfl,hj⟩,by simp only[aa];omega,?_,λkn kx=> ?_⟩
   ·simp only[iH,jT,aa,hd,hp,bu]
   ·rw[step,hp,aj]
 ·right;obtain rfl:k=(nth gb t.2.1 (ae j)).2.1.1.length:=ak;refine⟨sD (t,j),?_,λkn kx=> ?_⟩
  ·simp only[iH,jT,aa,aK];rfl
  ·rw[EM,bg hj.1 hj.2,aj,aR ak,ao]
theorem abC:I3:=by
 refine I4 (λ(t,i)=>t.2.1.length - ae i) ?_
 rintro⟨t,i⟩ ⟨hlen,k,hk,rfl⟩;have hlen:t.2.1.length<=1000000000:=hlen;have hk:k<=t.2.1.length:=hk;by_cases h:k < t.2.1.length
 ·have n1:nth gb t.2.1 k=t.2.1[k]:=cg (t:=gb) h;have hd:(bR k t.2.1).all uZ=(uZ t.2.1[k] && (bR (k+1) t.2.1).all uZ):=by rw[aq h,fb]
  have step:∀ {R:Type} (kn:AS->Option R) (kx:Exit->AS->Option R),DC (t,(k:Int)) kn kx=aH (uZ t.2.1[k]) (kn (kC (t,((k+1:Nat):Int)))) (kx (iG ()).1 (iG ()).2):=by
   intro R kn kx;rw[EK,aU ak,bg (show(0:Int)<=(k:Int) by omega) ak,aa,n1];simp only[aj];unfold uZ;by_cases hs:t.2.1[k].2.1.1.length<=6
   ·rw[cn ak,aM hs,ao,Xn (d:=(t,(k:Int),0)) ⟨by rw[aa,n1];show t.2.1[k].2.1.1.length<=_;omega,0,aJ _,rfl,by show(0:Int)<=(k:Int);omega,by show(k:Int) < (t.2.1.length:Int);omega⟩];simp only[ah,iH,jT,aa,n1,aX,aD,bu];cases t.2.1[k].2.1.1.all zZ
    ·rfl
    ·simp only[bG,dJ,c9,ao,ah,aj];rw[N.mO ak]
   ·rw[cR ak,aS hs];rfl
  cases hp:uZ t.2.1[k]
  ·right;refine⟨iG (),?_,λkn kx=> ?_⟩
   ·simp only[iF,jS,aa,hd,hp,cM,bn,bq];rfl
   ·rw[step,hp,ao]
  ·left;refine⟨(t,((k+1:Nat):Int)),⟨hlen,k+1,ak,rfl⟩,by simp only[aa];omega,?_,λkn kx=> ?_⟩
   ·simp only[iF,jS,aa,hd,hp,bu]
   ·rw[step,hp,aj]
 ·right;obtain rfl:k=t.2.1.length:=ak;refine⟨sB (),?_,λkn kx=> ?_⟩
  ·simp only[iF,jS,aa,aK];rfl
  ·rw[EK,aR ak,ao]
theorem aow:fV.Ok:=by
 intro t _;rw[aov];simp only[bt,Ow,akd];by_cases h1:t.1.length<=66
 ·by_cases h2:t.2.1.length<=66
  ·rw[cn ak,cn ak,ao,ao,aM ⟨h1,h2⟩,Xl (d:=(t,0)) ⟨by show t.1.length<=_;omega,0,aJ _,rfl⟩];simp only[ah,iE,jR,aX,aD,bu];cases t.1.all z6
   ·rfl
   ·simp only[bG,dJ,c9,ao,ah,bu];rw[Xm (d:=(t,0)) ⟨by show t.2.1.length<=_;omega,0,aJ _,rfl⟩];simp only[ah,iF,jS,aX,aD];cases t.2.1.all uZ <;> rfl
  ·rw[cn ak,cR ak,aS (λx=>h2 x.2)];rfl
 ·rw[cR ak,aS (λx=>h1 x.1)];rfl
theorem ajR:fV.RS:=rE [.d eA] fV
def aox:=fV.eS aow 3 ⟨.fp abB,⟨.fp abC,⟨.fp abD,trivial⟩⟩⟩
def HX(a b:bF):Int:=aQy [adN a.1 b.1,ara a.2.1 b.2.1]
def aC6:(bF×bF)->Prop:=λ(a,b)=>a.1.length=32/\b.1.length=32
def aC5:(bF×bF)->Int:=λ(a,b)=>HX a b
def aqS:Fs Tryz.prog aC6 bt aC5:=eN 62 Tryz.f62 (λ(a,b)=>([.d bl a,.d bl b],[])) (λx=>⟨.d ti x,[],[]⟩) [some bl,some bl] [aJR,aLg,aOl]
theorem aJ5{R:Type}(a b)(k:K1 R):aqS.A (a,b) k=al (aqs.call ((cut a.1 0 32),(cut b.1 0 32))) λx1=>al (W1.call (a.2.1,b.2.1)) λx2=>al (aBW.call [x1,x2]) λx3=>k (aqS.out x3):=bY
theorem aJ6:aqS.Ok:=by rintro⟨a,b⟩ ⟨ha,hb⟩;have ha:a.1.length=32:=ha;have hb:b.1.length=32:=hb;have c1:cut a.1 0 32=a.1:=eV ha;have c2:cut b.1 0 32=b.1:=eV hb;rw[aJ5,c1,c2,aCA (d:=(a.1,b.1)) trivial];simp only[ah,bt,aCy];rw[aFf (d:=(a.2.1,b.2.1)) trivial];simp only[ah,bt,arU];rw[aKx (d:=[adN a.1 b.1,ara a.2.1 b.2.1]) (by show 2<=_;decide)];simp only[ah,bt,aDR,bt,aC5,HX]
theorem aC7:aqS.RS:=rE [.d bl,.d bl] aqS
def aJ7:=aqS.eS aJ6
def lx:List Int->List Int->Int
 |x::xs,y::ys=>if x≠y then(if x < y then -1 else 1) else lx xs ys
 |_,_=>0
theorem avO:∀a,lx a a=0
 |[]=>rfl
 |x::a=>by simp[lx,avO a]
theorem aNB:∀ {a b:List Int},a.length=b.length->lx a b=0->a=b
 |[],[],_,_=>rfl
 |[],_::_,h,_=>by simp at h
 |_::_,[],h,_=>by simp at h
 |x::a,y::b,h,h2=>by
  simp only[lx]at h2;split at h2
  ·split at h2 <;> omega
  ·rename_i e;have e:x=y:=ak;rw[e,aNB (by simpa using h) h2]
theorem aas:∀a b:List Int,lx b a= - lx a b
 |[],[]=>rfl
 |[],_::_=>rfl
 |_::_,[]=>rfl
 |x::a,y::b=>by
  simp only[lx];by_cases h:x=y
  ·rw[if_neg ak,if_neg ak,aas a b]
  ·rw[if_pos ak,if_pos h];by_cases h2:x < y
   ·rw[if_neg ak,if_pos h2];rfl
   ·rw[if_pos ak,if_neg h2]
theorem aat:∀ {a b c:List Int},a.length=b.length->b.length=c.length->lx a b<=0->lx b c<=0->lx a c<=0/\(lx a c=0->lx a b=0/\lx b c=0)
 |[],[],[],_,_,_,_=>by simp[lx]
 |x::a,y::b,z::c,h1,h2,h3,h4=>by
  have ih:=aat (a:=a) (b:=b) (c:=c) (by simpa using h1) (by simpa using h2);simp only[lx]at h3 h4 ⊢;by_cases e1:x=y
  ·by_cases e2:y=z
   ·rw[if_neg ak]at h3 h4;rw[if_neg ak,if_neg ak,if_neg ak];exact ih h3 h4
   ·rw[if_neg ak]at h3;rw[if_pos e2]at h4;rw[if_pos ak];by_cases e3:y < z
    ·rw[if_pos ak];exact⟨ak,λh=>ak⟩
    ·rw[if_neg e3]at h4;omega
  ·rw[if_pos e1]at h3;by_cases e3:x < y
   ·by_cases e2:y=z
    ·rw[if_pos ak,if_pos ak];exact⟨ak,λh=>ak⟩
    ·rw[if_pos e2]at h4;by_cases e4:y < z
     ·rw[if_pos ak,if_pos ak];exact⟨ak,λh=>ak⟩
     ·rw[if_neg e4]at h4;omega
   ·rw[if_neg e3]at h3;omega
 |[],_::_,_,h,_,_,_=>by simp at h
 |_::_,[],_,h,_,_,_=>by simp at h
 |_,[],_::_,_,h,_,_=>by simp at h
 |_,_::_,[],_,h,_,_=>by simp at h
def aST(a b:Int):Int:=if a=0 then b else a
theorem ajh{p:Int}{a b:List Int}:lx (p::a) (p::b)=lx a b:=by simp[lx]
theorem TA{p q:Int}{a b:List Int}(h:¬p=q):lx (p::a) (q::b)=if p < q then -1 else 1:=by simp[lx,h]
theorem avN:∀ {a b:List Int} (x y:Int),a.length=b.length->lx (a++ [x]) (b++ [y])=aST (lx a b) (ara x y)
 |[],[],x,y,_=>by
  show lx [x] [y]=aST 0 (ara x y);simp only[aST,bG];unfold ara;by_cases h:x=y
  ·subst h;rw[ajh,if_neg ak,if_neg ak];rfl
  ·rw[TA h];by_cases h2:x < y
   ·rw[if_pos h2,if_pos h2]
   ·rw[if_neg h2,if_neg h2,if_pos ak]
 |[],_::_,_,_,h=>by simp at h
 |_::_,[],_,_,h=>by simp at h
 |p::a,q::b,x,y,h=>by
  show lx (p::(a++ [x])) (q::(b++ [y]))=_;by_cases h2:p=q
  ·subst h2;rw[ajh,ajh];exact avN x y (by simpa using h)
  ·rw[TA h2,TA h2];by_cases h3:p < q
   ·rw[if_pos h3];rfl
   ·rw[if_neg h3];rfl
def aDK:List UInt8->List UInt8->Int
 |x::xs,y::ys=>if x !=y then(if x < y then -1 else 1) else aDK xs ys
 |_,_=>0
theorem al3:∀(xs ys:List UInt8),xs.length=ys.length->(match(List.range xs.length).find? λi=>xs[i]! !=ys[i]! with | some i=>if xs[i]! < ys[i]! then(-1:Int) else 1 | none=>0)=aDK xs ys
 |[],[],_=>rfl
 |[],_::_,h=>by simp at h
 |_::_,[],h=>by simp at h
 |x::xs,y::ys,h=>by
  have ih:=al3 xs ys (by simpa using h);rw[aA,List.range_succ_eq_map,List.find?_cons];simp only[List.getElem!_cons_zero,aDK];cases hb:(x !=y) with
  |true=>simp
  |false=>
   simp only[bn,bq];rw[List.find?_map,<-ih];have e:((λi=>(x::xs)[i]! !=(y::ys)[i]!)∘Nat.succ)=λi=>xs[i]! !=ys[i]! :=by funext i;simp
   rw[e];cases(List.range xs.length).find? λi=>xs[i]! !=ys[i]! <;> simp
theorem au8:∀ {a b:List Int},(∀x∈a,0<=x/\x < 256)->(∀x∈b,0<=x/\x < 256)->aDK (a.map λn=>fi n.toNat) (b.map λn=>fi n.toNat)=lx a b
 |[],_,_,_=>by cases ‹List Int› <;> rfl
 |_::_,[],_,_=>rfl
 |x::a,y::b,ha,hb=>by
  have hx:=ha x (aL ..);have hy:=hb y (aL ..);have ih:=au8 (a:=a) (b:=b) (λz hz=>ha z (aI _ hz)) (λz hz=>hb z (aI _ hz));simp only[bP,aDK,lx,ih];have e1:(fi x.toNat).toNat=x.toNat:=by simp[UInt8.toNat_ofNat];omega
  have e2:(fi y.toNat).toNat=y.toNat:=by simp[UInt8.toNat_ofNat];omega
  by_cases h:x=y
  ·subst h;simp
  ·have gC:(fi x.toNat !=fi y.toNat)=true:=by rw[bne_iff_ne];intro e;have:=bo UInt8.toNat e;rw[e1,e2]at this;omega
   rw[gC,if_pos rfl,if_pos h];have gJ:fi x.toNat < fi y.toNat↔x < y:=by rw[UInt8.lt_iff_toNat_lt,e1,e2];omega
   by_cases h2:x < y
   ·rw[if_pos (gJ.2 h2),if_pos h2]
   ·rw[if_neg (λe=>h2 (gJ.1 e)),if_neg h2]
theorem aKp{a b:List Int}(hl:a.length=b.length)(ha:∀x∈a,0<=x/\x < 256)(hb:∀x∈b,0<=x/\x < 256):adN a b=lx a b:=by
 rw[<-au8 ha hb,<-al3 _ _ (by simpa using hl)];unfold adN Extern.BytealgCompare.cmp;have s1:∀l:List Int,(fv l).size=l.length:=λl=>by simp[fv,ByteArray.size]
 have g1:∀(l:List Int) (i:Nat),(fv l)[i]! =(l.map λn=>fi n.toNat)[i]! :=λl i=>by
  by_cases h:i < (fv l).size
  ·rw[lD _ i h];have h2:i < (l.map λn=>fi n.toNat).length:=by simpa[fv,ByteArray.size]using h
   rw[lD _ i h2];rfl
  ·rw[getElem!_neg _ i h];have h2:¬i < (l.map λn=>fi n.toNat).length:=by simpa[fv,ByteArray.size]using h
   rw[getElem!_neg _ i h2]
 simp only[s1,g1,hl,Nat.min_self,bU];cases(List.range b.length).find? λi=>(a.map λn=>fi n.toNat)[i]! !=(b.map λn=>fi n.toNat)[i]! <;> simp
def Le(o:bF):Prop:=o.1.length=32/\∀x∈o.1,0<=x/\x < 256
def Bi(o:bF):List Int:=o.1++ [o.2.1]
theorem rC{o:bF}(h:Le o):(Bi o).length=33:=by simp[Bi,h.1]
theorem aGq{a b:bF}(ha:Le a)(hb:Le b)(h:Bi a=Bi b):a=b:=by obtain⟨a1,a2,_⟩:=a;obtain⟨b1,b2,_⟩:=b;have h:a1++ [a2]=b1++ [b2]:=h;have:=List.append_inj' h rfl;rw[this.1,show a2=b2 by simpa using this.2]
theorem wk{a b:bF}(ha:Le a)(hb:Le b):HX a b=lx (Bi a) (Bi b):=by
 unfold Bi HX;rw[avN _ _ (ha.1.trans hb.1.symm),aKp (ha.1.trans hb.1.symm) ha.2 hb.2];simp only[aQy,aST];by_cases h:lx a.1 b.1=0
 ·rw[if_pos h,if_neg (λe=>e h)];split
  ·rfl
  ·omega
 ·rw[if_neg h,if_pos h]
theorem Eb:aP8 Tryz.prog bl 62 Le HX:= {
 bV:=⟨aqS.E,aJ7.h.1 (by rfl),λx y hx hy=>⟨_,aC7 (d:=(x,y)) ⟨hx.1,hy.1⟩,rfl⟩⟩
 enters:=enters_of Tryz.func62 bY rfl
 irrefl:=λx hx=>by rw[wk hx hx,avO];decide
 trans:=λx y z hx hy hz h1 h2=>by
  rw[wk hx hy]at h1;rw[wk hy hz]at h2;rw[wk hx hz];have:=aat (by rw[rC hx,rC hy]) (by rw[rC hy,rC hz]) (by omega:lx (Bi x) (Bi y)<=0) (by omega:lx (Bi y) (Bi z)<=0);have h3:=this.1;by_cases h4:lx (Bi x) (Bi z)=0
  ·have:=(this.2 h4).1;omega
  ·omega
 ntrans:=λx y z hx hy hz h1 h2=>by
  rw[wk hx hy]at h1;rw[wk hy hz]at h2;rw[wk hx hz];have e1:=aas (Bi x) (Bi y);have e2:=aas (Bi y) (Bi z);have e3:=aas (Bi x) (Bi z);have:=(aat (by rw[rC hz,rC hy]) (by rw[rC hy,rC hx]) (by omega:lx (Bi z) (Bi y)<=0) (by omega:lx (Bi y) (Bi x)<=0)).1;omega}
theorem Fm{x y:bF}(hx:Le x)(hy:Le y)(h1:¬HX x y < 0)(h2:¬HX y x < 0):x=y:=by rw[wk hx hy]at h1;rw[wk hy hx,aas]at h2;exact aGq hx hy (aNB (by rw[rC hx,rC hy]) ak)
end Go.Ab
namespace Go.Proofs
open Go.Shelf
def Tryz.atU:Go.Shelf.Ren:=⟨λ | 6=>106 | 15=>168 | 14=>167 | 28=>207 | 29=>208 | 20=>199 | 21=>200 | 22=>201 | 23=>202 | 24=>203 | 25=>204 | 26=>205 | 27=>206 | 46=>232 | 47=>233 | 48=>234 | 49=>235 | 50=>236 | 57=>245 | n=>n,λ | 22=>46 | 24=>38 | 25=>129 | 3=>3 | 39=>229 | 0=>0 | 53=>231 | 55=>74 | 4=>4 | 46=>262 | 45=>261 | 50=>182 | 5=>5 | 9=>9 | 66=>288 | 70=>291 | 76=>298 | 77=>299 | n=>n,λ | n=>n⟩
theorem Tryz.aPP:Go.Proofs.SlLaysF0.n6 Tryz.prog Tryz.atU:= {
 mixed:=by kernel_rfl
 f6:=⟨Tryz.f106.name,by decide,Tryz.func106.trans (congrArg some (by kernel_rfl))⟩
 f14:=⟨Tryz.f167.name,by decide,Tryz.func167.trans (congrArg some (by kernel_rfl))⟩
 f15:=Tryz.func168.trans (congrArg some (by kernel_rfl))
 f20:=⟨Tryz.f199.name,by decide,Tryz.func199.trans (congrArg some (by kernel_rfl))⟩
 f21:=⟨Tryz.f200.name,by decide,Tryz.func200.trans (congrArg some (by kernel_rfl))⟩
 f22:=⟨Tryz.f201.name,by decide,Tryz.func201.trans (congrArg some (by kernel_rfl))⟩
 f23:=⟨Tryz.f202.name,by decide,Tryz.func202.trans (congrArg some (by kernel_rfl))⟩
 f24:=⟨Tryz.f203.name,by decide,Tryz.func203.trans (congrArg some (by kernel_rfl))⟩
 f25:=⟨Tryz.f204.name,by decide,Tryz.func204.trans (congrArg some (by kernel_rfl))⟩
 f26:=⟨Tryz.f205.name,by decide,Tryz.func205.trans (congrArg some (by kernel_rfl))⟩
 f27:=⟨Tryz.f206.name,by decide,Tryz.func206.trans (congrArg some (by kernel_rfl))⟩
 f28:=Tryz.func207.trans (congrArg some (by kernel_rfl))
 f29:=Tryz.func208.trans (congrArg some (by kernel_rfl))
 f46:=⟨Tryz.f232.name,by decide,Tryz.func232.trans (congrArg some (by kernel_rfl))⟩
 f47:=Tryz.func233.trans (congrArg some (by kernel_rfl))
 f48:=Tryz.func234.trans (congrArg some (by kernel_rfl))
 f49:=⟨Tryz.f235.name,by decide,Tryz.func235.trans (congrArg some (by kernel_rfl))⟩
 f50:=⟨Tryz.f236.name,by decide,Tryz.func236.trans (congrArg some (by kernel_rfl))⟩
 f57:=⟨Tryz.f245.name,by decide,Tryz.func245.trans (congrArg some (by kernel_rfl))⟩
 t0:=Tryz.underlying0
 a0:=Tryz.isAgg0
 z0:=Tryz.sizeOf0
 v0:=Tryz.zeroValue0
 t3:=Tryz.underlying3
 a3:=Tryz.isAgg3
 z3:=Tryz.sizeOf3
 v3:=Tryz.zeroValue3
 t4:=Tryz.underlying4
 a4:=Tryz.isAgg4
 z4:=Tryz.sizeOf4
 v4:=Tryz.zeroValue4
 t5:=Tryz.underlying5
 a5:=Tryz.isAgg5
 z5:=Tryz.sizeOf5
 v5:=Tryz.zeroValue5
 t9:=Tryz.underlying9
 a9:=Tryz.isAgg9
 z9:=Tryz.sizeOf9
 v9:=Tryz.zeroValue9
 t22:=Tryz.underlying46
 a22:=Tryz.isAgg46
 z22:=Tryz.sizeOf46
 v22:=Tryz.zeroValue46
 t25:=Tryz.underlying129
 a25:=Tryz.isAgg129
 z25:=Tryz.sizeOf129
 v25:=Tryz.zeroValue129
 t39:=Tryz.underlying229
 a39:=Tryz.isAgg229
 z39:=Tryz.sizeOf229
 v39:=Tryz.zeroValue229
 t45:=Tryz.underlying261
 a45:=Tryz.isAgg261
 z45:=Tryz.sizeOf261
 v45:=Tryz.zeroValue261
 t46:=Tryz.underlying262
 a46:=Tryz.isAgg262
 z46:=Tryz.sizeOf262
 v46:=Tryz.zeroValue262
 t50:=Tryz.underlying182
 a50:=Tryz.isAgg182
 z50:=Tryz.sizeOf182
 v50:=Tryz.zeroValue182
 t53:=Tryz.underlying231
 a53:=Tryz.isAgg231
 z53:=Tryz.sizeOf231
 v53:=Tryz.zeroValue231
 t55:=Tryz.underlying74
 a55:=Tryz.isAgg74
 z55:=Tryz.sizeOf74
 v55:=Tryz.zeroValue74
 t66:=Tryz.underlying288
 a66:=Tryz.isAgg288
 z66:=Tryz.sizeOf288
 v66:=Tryz.zeroValue288
 t70:=Tryz.underlying291
 a70:=Tryz.isAgg291
 z70:=Tryz.sizeOf291
 v70:=Tryz.zeroValue291
 t76:=Tryz.underlying298
 a76:=Tryz.isAgg298
 z76:=Tryz.sizeOf298
 v76:=Tryz.zeroValue298
 t77:=Tryz.underlying299
 a77:=Tryz.isAgg299
 z77:=Tryz.sizeOf299
 v77:=Tryz.zeroValue299}
end Go.Proofs
namespace Go.Ab
open Go.Proofs
def aPT:Entry:=aMF 62 38 bl Le HX
def Uj:Nat×List bF->Option (Nat×List bF):=akg 62 38 bl Le HX
theorem aH3{d:Nat×List bF}(h:acA (t:=bl) Le HX d):Uj d=some (d.1,OD (t:=bl) HX d.2):=awl h
def aMG:SG Tryz.prog:=⟨106,ml,aPT,.of (aH8 Tryz.aPP (by rfl) (λw=>Tryz.isAgg38 w) (λw=>Tryz.sizeOf38 w) Eb) (by rfl)⟩
theorem xB{β:Type}{kt:Ty}(hc:kt.comp=true){x:kt.den}{v:β}:∀ {l:List (kt.den×β)},x ∉ l.map (·.1)->eF kt x v l=l++ [(x,v)]
 |[],_=>rfl
 |p::l,h=>by
  rw[pI];have h1:¬kt.beq x p.1=true:=λe=>h (by rw[beq_eq kt _ _ hc e];simp)
  rw[if_neg h1,xB hc λe=>h (by simp[e])];rfl
theorem eM:bl.comp=true:=rfl
def vB(l:List (bF×dQ)):Int:=(l.map λp=>p.2.1.1).sum
theorem qo(p:bF×dQ)(l:List (bF×dQ)):vB (p::l)=p.2.1.1+vB l:=by simp[vB]
theorem ala(l l':List (bF×dQ)):vB (l++l')=vB l+vB l':=by simp[vB]
theorem Ss{l l':List (bF×dQ)}(h:l.Perm l'):vB l=vB l':=by
 induction h with
 |nil=>rfl
 |cons x _ ih=>rw[qo,qo,ih]
 |swap x y l=>rw[qo,qo,qo,qo];omega
 |trans _ _ h1 h2=>rw[h1,h2]
theorem ZC{α:Type}{l:List α}{j:Nat}(h:j < l.length):l.Perm (l[j]::l.eraseIdx j):=by
 induction l generalizing j with
 |nil=>simp at h
 |cons x l ih=>
  cases j with
  |zero=>exact ia _
  |succ j=>
   have h:j < l.length:=by simpa using h
   simp only[List.getElem_cons_succ,List.eraseIdx_cons_succ];exact((ih h).cons x).trans (List.Perm.swap _ _ _)
theorem ajo{kt vt:Ty}{l:List (kt.den×vt.den)}{j:Nat}(h:j < l.length):zJ kt vt l j=l[j]:=by simp[zJ,aG,bT h]
abbrev ah0:=Nat×(List bW)
abbrev au7:=Nat×(List bW)
def SP:ah0->au7->(((List bW))×(Nat×(List bW))):=λ(sL,o0) y=>(o0,y)
def axK:ah0->Prop:=λ(n,l)=>n<=l.length/\l.length<=1000000
def ah1:ah0->au7:=λ(n,l)=>((l.take n).length,l.take n)
def PD:Fs Tryz.prog axK SP ah1:=eN 198 Tryz.f198 (λ(sL,o0)=>([.bz (.bm 0) 0 [] 0 0 sL],[.obj 0 false (.vec 256 cD o0)])) (λx=>⟨.bz (.new 0 0) 0 [] 0 0 x.2.1,[.obj 0 false (.vec 256 cD x.1)],[.obj 0 false (.vec 256 cD x.2.2)]⟩) [none] [] {bJ:=[5],owns:=[⟨2,[],5,158⟩]}
theorem aDH{R:Type}(sL o0)(k:K1 R):PD.A (sL,o0) k=aH (decide (0 < sL)) (aH (decide (0=0/\(0+sL)<=(ag o0))) (aH (da (0+(ag (cut o0 0 sL))) 48) (k (PD.out (o0,((0+(ag (cut o0 0 sL))),((aQ 0 (ab 0 (([]:List XA),(([]:List bF),()))))++(cut o0 0 sL)))))) none) none) (nd (k (PD.out (o0,(0,([]:List bW))))) (aH (decide (0=0/\(0+sL)<=(ag o0))) (aH (da (0+(ag (cut o0 0 sL))) 48) (k (PD.out (o0,((0+(ag (cut o0 0 sL))),((aQ 0 (ab 0 (([]:List XA),(([]:List bF),()))))++(cut o0 0 sL)))))) none) none)):=bY
theorem aDI:PD.Ok:=by
 rintro⟨n,l⟩ ⟨h1,h2⟩;have h1:n<=l.length:=h1;have h2:l.length<=1000000:=h2;have ec:cut l 0 n=l.take n:=by simp[cut]
 have ht:(l.take n).length<=1000000:=by rw[bp];omega
 have hr:da (l.take n).length 48=true:=dr ak ak;rw[aDH];simp only[aN,ec,hr,aj,dH,aT,mM,aM h1,SP,ah1];by_cases h:0 < n
 ·simp only[aM h,aj]
 ·have:n=0:=ak;subst this;simp only[dH,aZ,aJ,cr,aj,zI,aS (hJ 0),ao]
theorem axL:PD.RS:=rE [.n,.d (.slice cD)] PD
def aDJ:=PD.aSW ag0 aDI
abbrev H4:=Nat×(List (bF×dQ))×(List bW)×(List (bF×dQ))×(List bW)×Nat×(List (bF×dQ))
abbrev U9:=(List (bF×dQ))
def wo:H4->U9->((Nat×(List (bF×dQ))×(List bW)×(List bW)×Nat)×((List (bF×dQ)))):=λ(o0L,dS,ez,n6,n11,Hw,n18) y=>((o0L,dS,ez,n11,Hw),y)
abbrev amq:=Nat×(List (bF×dQ))×(List bW)
def adO:H4->Prop:=λ(_,_,_,m,_,_,rest)=>((m++rest).map (·.1)).Nodup
def Cf:H4->U9:=λ(_,_,_,m,_,_,rest)=>iX (m++rest)
def arn:amq->Prop:=λ(n,a,s)=>n<=s.length/\s.length<=1000000/\(a.map (·.1)).Nodup
def amr:amq->(Nat×(List (bF×dQ))×(List bW)×Nat×(List (bF×dQ))×(List bW)):=λ(n,a,s)=>(n,a,s,(s.take n).length,iX a,s.take n)
def qt:Ls adO wo Cf:=rW (λ(o0L,dS,ez,n6,n11,Hw,n18)=>⟨([bE,bE,bE,eT 13]++aP 14 ([eT 18]++aP 12 [])),[.obj 0 false (.pr (.ct (.bm 1) 0) (.pr (.bz (.bm 2) 0 [] 0 0 o0L) fP)),.obj 0 true (.mp bl eQ dS),.obj 0 false (.vec 256 cD ez)],(bM 6 ([dK (.mp bl eQ n6)]++bM 4 ([dK (.vec 256 cD n11),[],dK (.pr (.ct (.new 6 0) 0) (.pr (oh 11 Hw) fP))]++bM 4 ([dK (.tx (.bm 1) 1 bl eQ n18 none)]++bM 12 []))))⟩) (λx=>(.exit 0,⟨([bE,bE,bE,eT 13]++aP 27 []),[.obj 0 false (.pr (.ct (.bm 1) 0) (.pr (.bz (.bm 2) 0 [] 0 0 x.1.1) fP)),.obj 0 false (.mp bl eQ x.1.2.1),.obj 0 false (.vec 256 cD x.1.2.2.1)],(bM 6 ([dK (.mp bl eQ x.2)]++bM 4 ([dK (.vec 256 cD x.1.2.2.2.1),[],dK (.pr (.ct (.new 6 0) 0) (.pr (oh 11 x.1.2.2.2.2) fP))]++bM 17 [])))⟩))
def xX:Fs Tryz.prog arn bt amr:=eN 163 Tryz.f163 (λ(o0baL,o1,o2)=>([.ptr (.bm 0) 0 [] 0],[.obj 0 false (.pr (.ct (.bm 1) 0) (.pr (.bz (.bm 2) 0 [] 0 0 o0baL) (.d .unit ()))),.obj 0 false (.mp bl eQ o1),.obj 0 false (.vec 256 cD o2)])) (λx=>⟨.ptr (.new 0 0) 0 [] 0,[.obj 0 false (.pr (.ct (.bm 1) 0) (.pr (.bz (.bm 2) 0 [] 0 0 x.1) (.d .unit ()))),.obj 0 false (.mp bl eQ x.2.1),.obj 0 false (.vec 256 cD x.2.2.1)],[.obj 0 false (.pr (.ct (.new 0 1) 0) (.pr (.bz (.new 0 2) 0 [] 0 0 x.2.2.2.1) (.d .unit ()))),.obj 0 false (.mp bl eQ x.2.2.2.2.1),.obj 0 false (.vec 256 cD x.2.2.2.2.2)]⟩) [none] [aDJ] {bJ:=[13],loops:=nX [(3,{aV:=[3,18],sites:=[6,11,13,18],aSO:=[18]})],outs:=nV [(3,{aV:=[3],sites:=[6,11,13],aOh:=[(.new 6 0)]},{aV:=[2]})],fC:=na [(3,qt.E)]}
theorem adP:qt.RS:=rL [.n,.d (.slice (.pair bl eQ)),.d (.slice cD),.d (.slice (.pair bl eQ)),.d (.slice cD),.n,.d (.slice (.pair bl eQ))] qt
theorem H5{R:Type}(o0L dS ez n6 n11 Hw n18)(kn:K2 R)(kx:K3 R):xX.R 0 qt (o0L,dS,ez,n6,n11,Hw,n18) kn kx=aH (decide (0 < (ag n18))) (aEe (ag n18) λj1=>kn (qt.st (o0L,dS,ez,(eF bl (zJ bl eQ n18 j1).1 (zJ bl eQ n18 j1).2 n6),n11,Hw,(List.eraseIdx n18 j1)))) (qt.go kx ((o0L,dS,ez,n11,Hw),(iX n6))):=bY
theorem axW{R:Type}(o0baL o1 o2)(k:K1 R):xX.A (o0baL,o1,o2) k=al (PD.call (o0baL,o2)) λx1=>al (qt.call (o0baL,o1,x1.1,([]:List (bF×dQ)),x1.2.2,x1.2.1,o1)) λx3=>k (xX.out (x3.1.1,x3.1.2.1,x3.1.2.2.1,x3.1.2.2.2.2,x3.2,x3.1.2.2.2.1)):=bY
theorem aid:(xX.kN 0 qt):=by
 refine(xX.aUE 0 qt) (λ(_,_,_,_,_,_,rest)=>rest.length) ?_
 rintro⟨n,a,s,m,u,k0,rest⟩ hn;have hn:((m++rest).map (·.1)).Nodup:=hn;by_cases h:0 < rest.length
 ·left;have e1:∀j,j < rest.length->eF bl (zJ bl eQ rest j).1 (zJ bl eQ rest j).2 m=m++ [zJ bl eQ rest j]:=λj hj=>by rw[xB eM];intro hm;rw[rV,List.nodup_append]at hn;exact hn.2.2 _ hm _ (cS.2 ⟨_,aO hj,by rw[ajo hj]⟩) rfl
  have e2:∀j,j < rest.length->(m++ [zJ bl eQ rest j]++rest.eraseIdx j).Perm (m++rest):=λj hj=>by rw[aF,ajo hj];exact List.Perm.append_left _ (ZC hj).symm
  refine⟨rest.length,λj=>(n,a,s,eF bl (zJ bl eQ rest j).1 (zJ bl eQ rest j).2 m,u,k0,rest.eraseIdx j),h,λj hj=>⟨?_,?_,?_⟩,λkn kx=> ?_⟩
  ·show((eF bl (zJ bl eQ rest j).1 (zJ bl eQ rest j).2 m++rest.eraseIdx j).map (·.1)).Nodup;rw[e1 j hj];exact(((e2 j hj).map _).nodup_iff).2 hn
  ·show(rest.eraseIdx j).length < rest.length;rw[List.length_eraseIdx,if_pos hj];omega
  ·simp only[wo,Cf,e1 j hj];rw[axt (e2 j hj)]
  ·rw[H5,aM h,aj]
 ·right;obtain rfl:rest=[]:=bD ak;intro T kn kx;rw[H5,aS h,ao];simp only[wo,Cf,ba]
theorem axX:xX.Ok:=by rintro⟨n,a,s⟩ ⟨h1,h2,h3⟩;have h1:n<=s.length:=h1;have h2:s.length<=1000000:=h2;rw[axW,axL (d:=(n,s)) ⟨h1,h2⟩];simp only[ah,SP,ah1];rw[adP (d:=(n,a,s,[],s.take n,(s.take n).length,a)) h3];simp only[ah,wo,Cf,bt,amr,aT]
theorem aro:xX.RS:=rE [.n,.d (.slice (.pair bl eQ)),.d (.slice cD)] xX
def afG:=xX.eS axX 1 ⟨.fp aid,trivial⟩
abbrev SS:=gf×Nat×Nat×Int×Int×Int×(List oq)
abbrev afD:=(List oq)×(List oq)
def amc:SS->afD->((gf×Int)×((List oq)×(List oq))):=λ(asz,lL,Ul,t11,t12,n2,n9) y=>((asz,n2),y)
def aS1(l:Lk):Prop:=l.1.length<=1000/\∀b∈l.1,b.1.length<=1000000
def amb:SS->Prop:=λ(_,n,m,t,i,_,l)=>(l.length<=1000/\∀b∈l,b.1.length<=1000000)/\∃k:Nat,k<=l.length/\i=k/\n=l.length/\m=l.length/\t=l.length
def axP:SS->afD:=λ(_,_,_,_,_,_,l)=>(l,l)
def aDS:gf->Prop:=λo=>aS1 o.2.1
def ari:gf->gf:=λo=>o
def wm:Ls amb amc axP:=rW (λ(asz,lL,Ul,t11,t12,n2,n9)=>⟨([bE,.dD gb asz,eT 2,oh 9 lL]++aP 6 ([oh 9 Ul,.d ti t11,.d ti t12]++aP 17 [])),[],([[],[],dK (.pr (.d ti n2) (.pr (.pr (.dd) fP) fP))]++bM 6 ([dK (.vec 98 ke n9)]++bM 20 []))⟩) (λx=>(.exit 0,⟨([bE,.dD gb x.1.1,eT 2,.d (.slice ke) x.2.1]++aP 26 []),[],([[],[],dK (.pr (.d ti x.1.2) (.pr (.pr (.dd) fP) fP))]++bM 6 ([[.obj 0 true (.vec 98 ke x.2.2)]]++bM 20 []))⟩))
def WW:Fs Tryz.prog aDS bt ari:=eN 92 Tryz.f92 (λo=>([.d gb o],[])) (λx=>⟨.d gb x,[],[]⟩) [some gb] [au6,TG] {loops:=nX [(3,{aV:=[1,2,3,10,11,12],sites:=[2,9]})],outs:=nV [(3,{aV:=[1,2,3],sites:=[2,9],data:=[(3,(.slice ke))]},{aV:=[2]})],fC:=na [(3,wm.E)],res:=[some gb]}
theorem amd:wm.RS:=rL [.d gb,.n,.n,.d ti,.d ti,.d ti,.d (.slice ke)] wm
theorem PF{R:Type}(asz lL Ul t11 t12 n2 n9)(kn:K2 R)(kx:K3 R):WW.R 0 wm (asz,lL,Ul,t11,t12,n2,n9) kn kx=aH ((gq t12 t11)) (aH (eo t12 ((Ul:Nat):Int)) (aH (decide ((0+(ae t12)) < (ag n9))) (aH (decide ((((0+(ae t12))*4)+0)=(0+((ae t12)*4)))) (al (Bn.call (nth ke n9 (0+(ae t12))).1) λx1=>aH (eo t12 ((lL:Nat):Int)) (aH (decide ((0+(ae t12)) < (ag n9))) (aH (decide ((((0+(ae t12))*4)+0)=((0+((ae t12)*4))+0))) (aH (decide ((0+(ae t12)) < (ag n9))) (kn (wm.st (asz,lL,Ul,t11,(bI .i64 t12 1),n2,(fT n9 (0+(ae t12)) (x1,(nth ke n9 (0+(ae t12))).2))))) none) none) none) none) none) none) none) (aH (decide (0=0/\(0+lL)<=(ag n9))) (wm.go kx ((asz,n2),((cut n9 0 lL),n9))) none):=bY
theorem aKy{R:Type}(o)(k:K1 R):WW.A o k=al (adM.call o.2.1.1) λx1=>al (wm.call (o,x1.1,x1.1,((x1.1:Nat):Int),0,0,x1.2)) λx3=>k (WW.out (x3.1.1.1,((x3.2.1,()),()))):=bY
theorem arj:(WW.kN 0 wm):=by
 refine(WW.mh 0 wm) (λ(_,_,_,_,i,_,l)=>l.length - i.toNat) ?_
 rintro⟨o,n,m,t,i,u,l⟩ ⟨⟨hlen,hx⟩,k,hk,rfl,rfl,rfl,rfl⟩;have hlen:l.length<=1000:=hlen;have hk:k<=l.length:=hk;by_cases h:k < l.length
 ·left;have n1:nth ke l k=l[k]:=cg (t:=ke) h;have hs:l.set k l[k]=l:=gE h;have e:=hx _ (aO h);refine⟨(o,l.length,l.length,(l.length:Int),((k+1:Nat):Int),u,l),⟨⟨hlen,hx⟩,k+1,ak,rfl,rfl,rfl,rfl⟩,by simp only[aa];omega,rfl,λkn kx=> ?_⟩;rw[PF,aU ak,bg ak ak];simp only[aa,aN,cm,aj,aM h,cr,n1];rw[Oh (d:=l[k].1) e];simp only[ah,bt,QZ];rw[N.mO ak];exact bo (λz=>kn (wm.st (_,_,_,_,_,_,z))) hs
 ·right;obtain rfl:k=l.length:=ak;intro R kn kx;rw[PF,aR ak,ao,aM ak,aj,eV rfl];rfl
theorem aKz:WW.Ok:=by rintro⟨a,⟨l,u⟩,v⟩ ⟨h1,h2⟩;have h1:l.length<=1000:=h1;rw[aKy,al2 (d:=l) (by show l.length<=_;omega)];simp only[ah,bt,ahV];rw[amd (d:=((a,(l,u),v),l.length,l.length,(l.length:Int),0,0,l)) ⟨⟨h1,h2⟩,0,aJ _,rfl,rfl,rfl,rfl⟩];rfl
theorem ame:WW.RS:=rE [.d gb] WW
def au9:=WW.eS aKz 1 ⟨.fp arj,trivial⟩
abbrev AU:=Int×(List gf)×Int×Int×(List (bF×dQ))
def po:AU->AS:=λ(sum,t13,t14,t15,n10)=>⟨([bE,bE,bE,eT 12,.d ti sum]++aP 8 ([.d (.slice gb) t13,.d ti t14,.d ti t15]++aP 35 [])),[],(bM 10 ([dK (.mp bl eQ n10),[],dK (.pr (.ct (.new 10 0) 0) (.pr (.dd) fP))]++bM 38 []))⟩
def fK:Unit->Exit×AS:=λx=>(.ret,⟨([bE,bE,.re]++aP 48 []),[],(ab 51 [])⟩)
abbrev Vb:=(List (bF×dQ))
def y9:Vb->Exit×AS:=λx=>(.exit 0,⟨([bE,bE,bE,eT 12]++aP 47 []),[],(bM 10 ([dK (.mp bl eQ x),[],dK (.pr (.ct (.new 10 0) 0) (.pr (.dd) fP))]++bM 38 []))⟩)
abbrev Nt:=(Unit)⊕(Vb)
abbrev Zr:=(Unit)⊕(((List (bF×dQ))))
def Fy:Nt->Out (Exit×AS):=λx=> .br x.isLeft (.get x.getLeft? λa=> .ok (fK a)) (.get x.getRight? λb=> .ok (y9 b))
def lv:AU->Zr->Nt:=λ(sum,t13,t14,t15,n10) y=>match y with | .inl y=> .inl y | .inr z=> .inr (z)
abbrev PS:=(List gf)
def Zu:PS->SA:=λouts=>([.d (.slice gb) outs],[])
abbrev avh:=(Unit)⊕((List (bF×dQ))×(List bW))
abbrev aih:=(Unit)⊕((List (bF×dQ))×(List bW))
def Ee:aih->fG:=λx=>match x with | .inl x=>⟨.re,[],[]⟩ | .inr x=>⟨eT 0,[],[.obj 0 false (.pr (.ct (.new 0 1) 0) (.pr (.bz (.new 0 2) 0 [] 0 0 0) fP)),.obj 0 false (.mp bl eQ x.1),.obj 0 false (.vec 256 cD x.2)]⟩
def Kp:PS->avh->aih:=λouts y=>match y with | .inl y=> .inl y | .inr y=> .inr y
def GZ(k:Nat)(o:gf):bF×dQ:=((ab 32 (0:Int),((k:Int),())),(o,((0:Int),())))
def F7(sum:Int)(o:gf):Bool:=kP o.2.1 && decide (0<=o.1/\o.1<=1125899906842624 - sum)
def W6(sum:Int)(k:Nat):List gf->Option (List (bF×dQ))
 |[]=>some []
 |o::l=>match F7 sum o with | true=>(W6 (sum+o.1) (k+1) l).map (GZ k o:: ·) | false=>none
def ajm(outs:List gf):Option (List (bF×dQ)):=if outs.length<=256 then W6 0 0 outs else none
def aqc(o:gf):Prop:=adD o.2.1/\o.2.1.1.length<=9223372036854775807/\o.1<=9223372036854775807
def y8:AU->Prop:=λ(sum,outs,n,i,a)=>(∀o∈outs,aqc o)/\outs.length<=256/\0<=sum/\sum<=1125899906842624/\∃k:Nat,k<=outs.length/\i=k/\n=outs.length/\∀p∈a,p.1.2.1 < (k:Int)
def pn:AU->Zr:=λ(sum,outs,_,i,a)=>match W6 sum i.toNat (outs.drop i.toNat) with | none=> .inl () | some r=> .inr (a++r)
def SV:PS->Prop:=λouts=>∀o∈outs,aqc o
def PT:PS->avh:=λouts=>match ajm outs with | none=> .inl () | some r=> .inr (r,[])
def aie:oT:=jy (P:=Tryz.prog) [Ep,au9]
def Zq:=dy.fp po y8 lv pn Fy
def LH:AU->Option Nt:=gB Zq po
def Zs:xi:= {bJ:=[12],loops:=nX [(5,{aV:=[3,4,13,14,15],sites:=[10,12]})],outs:=nV [(5,{aV:=[3],sites:=[10,12]},{aV:=[2]})],fC:=na [(5,Zq)],owns:=[⟨2,[.snd,.fst],0,158⟩]}
def avf:= @HD Tryz.prog aie Zs 0 Tryz.f40 _ Zu
abbrev aD7:=ahl @avf SV Kp PT Ee
def Ns:= @ee Tryz.prog aie Zs 0 Tryz.f40 0 _ po
abbrev Va:=kj Tryz.prog aie Zs 0 Tryz.f40 0 po y8 lv pn Fy
theorem aif:iW LH y8 lv pn:=l6 (jk [.d ti,.d (.slice gb),.d ti,.d ti,.d (.slice (.pair bl eQ))] λ_=>bY)
theorem PU:mP @Ns po y8 lv pn Fy Va:=nD
theorem LI{R:Type}(sum:Int)(t13:(List gf))(t14:Int)(t15:Int)(n10:(List (bF×dQ)))(kn:AS->Option R)(kx:Exit->AS->Option R):Ns (sum,t13,t14,t15,n10) kn kx=aH ((gq t15 t14)) (aH (eo t15 (((ag t13):Nat):Int)) (al (pH.call (nth gb t13 (ae t15)).2.1) λx1=>aH ((!x1)) (kx (fK ()).1 (fK ()).2) (aH ((gq (nth gb t13 (ae t15)).1 (0:Int))) (kx (fK ()).1 (fK ()).2) (aH ((rz (nth gb t13 (ae t15)).1 (cP .i64 (1125899906842624:Int) sum))) (kx (fK ()).1 (fK ()).2) (al (WW.call (nth gb t13 (ae t15))) λx2=>kn (po ((bI .i64 sum (nth gb t13 (ae t15)).1),t13,t14,(bI .i64 t15 (1:Int)),(eF bl ((ab 32 (0:Int)),(t15,())) (x2,((0:Int),())) n10))))))) none) (kx (y9 n10).1 (y9 n10).2):=bY
theorem aD8{R:Type}(outs:(List gf))(k:fG->Option R):avf outs k=aH ((rz (((ag outs):Nat):Int) (256:Int))) (k (Ee (.inl ()))) (al (LH ((0:Int),outs,(((ag outs):Nat):Int),(0:Int),([]:List (bF×dQ)))) λx3=>aH (x3.isLeft) (al (x3.getLeft?) λa4=>k (Ee (.inl ()))) (al (x3.getRight?) λb5=>k (Ee (.inr (b5,([]:List bW)))))):=bY
theorem ams:Va:=by
 refine PU (λ(_,outs,_,i,_)=>outs.length - i.toNat) ?_
 rintro⟨sum,outs,n,i,a⟩ ⟨hg,hl,h0,h1,k,hk,rfl,rfl,hf⟩;have h0:0<=sum:=h0;have h1:sum<=1125899906842624:=h1;have hl:outs.length<=256:=hl;have hk:k<=outs.length:=hk;by_cases h:k < outs.length
 ·obtain⟨g1,g2,g3⟩:=hg _ (aO h);have n1:nth gb outs k=outs[k]:=cg (t:=gb) h;have hd:outs.drop k=outs[k]::outs.drop (k+1):=aq h
  have hs:∀ {R:Type} (kn:AS->Option R) (kx:Exit->AS->Option R),Ns (sum,outs,(outs.length:Int),(k:Int),a) kn kx=
    aH (!(kP outs[k].2.1)) (kx (fK ()).1 (fK ()).2) (aH (gq outs[k].1 0) (kx (fK ()).1 (fK ()).2) (aH (rz outs[k].1 (1125899906842624 - sum)) (kx (fK ()).1 (fK ()).2)
     (al (WW.call outs[k]) λx2=>kn (po ((bI .i64 sum outs[k].1),outs,(outs.length:Int),(bI .i64 (k:Int) (1:Int)),(eF bl ((ab 32 (0:Int)),((k:Int),())) (x2,((0:Int),())) a)))))):=λkn kx=>by
   rw[LI,aU ak,aj,bg ak ak,aj,aa,n1,Be (d:=outs[k].2.1) ⟨g1,g2⟩,eL ak ak];rfl
  by_cases jj:F7 sum outs[k]=true
  ·left;have hok':=jj;unfold F7 at hok';simp only[au,aW]at hok';obtain⟨k1,k2,k3⟩:=hok';have akW:=Tv k1;refine⟨(sum+outs[k].1,outs,(outs.length:Int),((k+1:Nat):Int),a++ [GZ k outs[k]]),⟨hg,hl,by show 0<=sum+outs[k].1;omega,by show sum+outs[k].1<=_;omega,k+1,ak,rfl,rfl,λp hp=> ?_⟩,by simp only[aa];omega,?_,λkn kx=> ?_⟩
   ·rcases bB.1 hp with hp | hp
    ·have:=hf p hp;omega
    ·rw[bh.1 hp];show(k:Int) < _;omega
   ·simp only[lv,pn,aa,hd,W6,jj];cases W6 (sum+outs[k].1) (k+1) (outs.drop (k+1)) with
    |none=>rfl
    |some r=>simp only[dV,aF,cZ]
   ·rw[hs,k1,cz,ao,aR ak,ao,cn ak,ao,ame (d:=outs[k]) ⟨ak,λb hb=>by have:=akW.2 b hb;omega⟩];simp only[ah,bt,ari];rw[fU ak ak,N.mO ak,xB eM]
    ·rfl
    ·intro hm;obtain⟨p,hp,he⟩:=cS.1 hm;have:=hf p hp;have he:p.1=_:=he;rw[he]at this;have this:(k:Int) < k:=this;omega
  ·right;have aK8:F7 sum outs[k]=false:=by simpa using jj
   refine⟨fK (),?_,λkn kx=> ?_⟩;rotate_left
   ·rw[hs];unfold F7 at aK8;cases k1:kP outs[k].2.1 with
    |false=>rw[eZ,aj]
    |true=>
     rw[k1]at aK8;simp only[bu,gQ]at aK8;rw[cz,ao];by_cases k2:outs[k].1 < 0
     ·rw[aU k2,aj]
     ·rw[aR k2,ao,cR ak,aj]
   ·simp only[lv,pn,aa,hd,W6,aK8];rfl
 ·right;obtain rfl:k=outs.length:=ak;refine⟨y9 a,?_,λkn kx=> ?_⟩;rotate_left
  ·rw[LI,aR ak,ao]
  ·simp only[lv,pn,aa,aK,W6,ba];rfl
theorem aD9:aD7:=by
 intro outs hg;rw[aD8];simp only[Kp,PT,ajm];by_cases h:outs.length<=256
 ·rw[cn ak,ao,aif (d:=(0,outs,(outs.length:Int),0,[])) ⟨hg,h,by decide,by decide,0,aJ _,rfl,rfl,λp hp=>by cases hp⟩,if_pos h];simp only[ah,lv,pn,aX,aD];cases W6 0 0 outs with
  |none=>rfl
  |some r=>rfl
 ·rw[cR ak,aj,if_neg h]
def avg:=Entry.ad6 [some (.slice gb)] Zu SV Kp PT Ee
def Zt:PS->Option aih:=Lp avg Zu
theorem axY:iW Zt SV Kp PT:=acf (W2 [.d (.slice gb)] λ_=>bY)
def aEa:SG Tryz.prog:=⟨40,ml,avg,.of (.aNO (.fn 1 bY aD9 (And.intro (.fp ams bY) trivial))) (by rfl)⟩
def aQK(c:dQ):Prop:=kP c.1.2.1=true/\adD c.1.2.1/\0<=c.1.1/\c.1.1<=1125899906842624/\0<=c.2.1/\c.2.1<=1048576
def akU(a:List (bF×dQ)):Prop:=(a.map (·.1)).Nodup/\∀p∈a,Le p.1/\aQK p.2
theorem akU.get{a:List (bF×dQ)}(h:akU a){o:bF}{c:dQ}(hg:bQ bl o a=some c):aQK c:=(h.2 _ ((j8 eM h.1).1 hg)).2
def aJj:dQ:=((0,(([],()),())),(0,()))
theorem aQK.own{c:dQ}(h:aQK c):aS1 c.1.2.1:=by have:=Tv h.1;exact⟨ak,λb hb=>by have:=this.2 b hb;omega⟩
abbrev AR:=Int×dv×Int×(List gG)×Int×Int×Nat×(List (bF×dQ))×(List bW)×Bs
def pj:AR->AS:=λ(dP,oQ,oH,t35,t36,t37,o0L,dS,ez,n8)=>⟨([.ptr (.bm 0) 0 [] 0,bE,.d ti dP,bE,.dD eA oQ,bE,bE,bE,eT 8,.d ti oH]++aP 25 ([.d (.slice fY) t35,.d ti t36,.d ti t37]++aP 69 [])),[.obj 0 false (.pr (.ct (.bm 1) 0) (.pr (.bz (.bm 2) 0 [] 0 0 o0L) fP)),.obj 0 false (.mp bl eQ dS),.obj 0 false (.vec 256 cD ez)],(bM 8 ([dK (.d tH n8)]++bM 98 []))⟩
abbrev U4:=(Nat×(List (bF×dQ))×(List bW))×(Int)
def jE:U4->Exit×AS:=λx=>(.ret,⟨(aP 6 ([.d ti (0:Int),.d ti x.2]++aP 99 [])),[.obj 0 false (.pr (.ct (.bm 1) 0) (.pr (.bz (.bm 2) 0 [] 0 0 x.1.1) fP)),.obj 0 false (.mp bl eQ x.1.2.1),.obj 0 false (.vec 256 cD x.1.2.2)],(ab 107 [])⟩)
abbrev U5:=(dv×Nat×(List (bF×dQ))×(List bW))×(Int)
def yZ:U5->Exit×AS:=λx=>(.exit 0,⟨([.ptr (.bm 0) 0 [] 0,bE,bE,bE,.dD eA x.1.1]++aP 4 ([.d ti x.2]++aP 97 [])),[.obj 0 false (.pr (.ct (.bm 1) 0) (.pr (.bz (.bm 2) 0 [] 0 0 x.1.2.1) fP)),.obj 0 false (.mp bl eQ x.1.2.2.1),.obj 0 false (.vec 256 cD x.1.2.2.2)],(ab 107 [])⟩)
abbrev Np:=(U4)⊕(U5)
abbrev Zm:=(Int)⊕(Int)
def Fv:Np->Out (Exit×AS):=λx=> .br x.isLeft (.get x.getLeft? λa=> .ok (jE a)) (.get x.getRight? λb=> .ok (yZ b))
def jD:AR->Zm->Np:=λ(dP,oQ,oH,t35,t36,t37,o0L,dS,ez,n8) y=>match y with | .inl y=> .inl ((o0L,dS,ez),y) | .inr z=> .inr (((oQ,o0L,dS,ez),z))
abbrev AT:=dv×Int×(List bF)×Int×Int×Nat×(List (bF×dQ))×(List bW)
def tr:AT->AS:=λ(vi,Vd,t75,t76,t77,gZ,vJ,j9)=>⟨([.ptr (.bm 0) 0 [] 0,bE,bE,bE,.dD eA vi]++aP 4 ([.d ti Vd]++aP 65 ([.d (.slice bl) t75,.d ti t76,.d ti t77]++aP 29 []))),[.obj 0 false (.pr (.ct (.bm 1) 0) (.pr (.bz (.bm 2) 0 [] 0 0 gZ) fP)),.obj 0 false (.mp bl eQ vJ),.obj 0 false (.vec 256 cD j9)],(ab 107 [])⟩
abbrev U7:=Nat×(List (bF×dQ))×(List bW)
def y5:U7->Exit×AS:=λx=>(.ret,⟨(aP 6 ([.d ti (0:Int),.d ti (4:Int)]++aP 99 [])),[.obj 0 false (.pr (.ct (.bm 1) 0) (.pr (.bz (.bm 2) 0 [] 0 0 x.1) fP)),.obj 0 false (.mp bl eQ x.2.1),.obj 0 false (.vec 256 cD x.2.2)],(ab 107 [])⟩)
abbrev U8:=dv×Int×Nat×(List (bF×dQ))×(List bW)
def y6:U8->Exit×AS:=λx=>(.exit 2,⟨(aP 4 ([.dD eA x.1]++aP 4 ([.d ti x.2.1]++aP 97 []))),[.obj 0 false (.pr (.ct (.bm 1) 0) (.pr (.bz (.bm 2) 0 [] 0 0 x.2.2.1) fP)),.obj 0 false (.mp bl eQ x.2.2.2.1),.obj 0 false (.vec 256 cD x.2.2.2.2)],(ab 107 [])⟩)
abbrev Nq:=(U7)⊕(U8)
abbrev Zp:=(Unit)⊕(Unit)
def Fw:Nq->Out (Exit×AS):=λx=> .br x.isLeft (.get x.getLeft? λa=> .ok (y5 a)) (.get x.getRight? λb=> .ok (y6 b))
def lu:AT->Zp->Nq:=λ(vi,Vd,t75,t76,t77,gZ,vJ,j9) y=>match y with | .inl y=> .inl (gZ,vJ,j9) | .inr z=> .inr ((vi,Vd,gZ,vJ,j9))
abbrev Nr:=Int×(List gf)×Int×Int×Nat×(List (bF×dQ))×(List bW)
def y7:Nr->Int->((Nat×(List (bF×dQ))×(List bW))×(Int)):=λ(afM,t93,t94,t95,aa5,asv,asw) y=>((aa5,asv,asw),y)
abbrev ave:=dv×Int×Nat×(List (bF×dQ))×(List bW)
def xx(h:Int)(id:List Int)(a:List (bF×dQ)):List gG->Int->Int⊕Int
 |[],oH=> .inr oH
 |x::l,oH=>match bQ bl x.1 a with
  |none=> .inl 5
  |some c=>if yy c.1.2.1 x.2.1 id h (h - c.2.1)≠0 then .inl (yy c.1.2.1 x.2.1 id h (h - c.2.1)) else xx h id a l (oH+c.1.1)
def qw(a:List (bF×dQ))(o:bF):Bool:=(bQ bl o a).isSome
def iY(l:List gf):Int:=(l.map (·.1)).sum
def eK(t:dv)(h:Int)(a:List (bF×dQ)):Int×Int:=
 if gV t=true/\1<=h/\h<=1048576 then
  match xx h (mj t) a t.1 0 with
  | .inl e=>(0,e)
  | .inr oH=>if(gS t).any (qw a)=true then(0,4) else if oH - iY t.2.1 < 0 then(0,8) else(oH - iY t.2.1,0)
 else(0,1)
def yY:AR->Prop:=λ(h,_,oH,l,n,i,_,a,_,id)=>(0<=h/\h<=1048576)/\Sm id/\l.length<=64/\(∀x∈l,aU2 x)/\akU a/\∃k:Nat,k<=l.length/\i=k/\n=l.length/\0<=oH/\oH<=(k:Int)*1125899906842624
def nI:AR->Zm:=λ(h,_,oH,l,_,i,_,a,_,id)=>xx h id a (l.drop i.toNat) oH
def y4:AT->Prop:=λ(_,_,l,n,i,_,_,_)=>l.length<=1000/\∃k:Nat,k<=l.length/\i=k/\n=l.length
def pk:AT->Zp:=λ(_,_,l,_,i,_,a,_)=>if(l.drop i.toNat).any (qw a)=true then .inl () else .inr ()
def aib:Nr->Prop:=λ(oH,l,n,i,_,_,_)=>l.length<=64/\(∀o∈l,0<=o.1/\o.1<=1125899906842624)/\∃k:Nat,k<=l.length/\i=k/\n=l.length/\ -((k:Int)*1125899906842624)<=oH/\oH<=1000000000000000000
def Fx:Nr->Int:=λ(oH,l,_,i,_,_,_)=>oH - iY (l.drop i.toNat)
def axV:ave->Prop:=λ(t,_,_,a,_)=>nT t/\akU a
def ah8:ave->(Int×Int×Nat×(List (bF×dQ))×(List bW)):=λ(t,h,n,a,s)=>((eK t h a).1,(eK t h a).2,n,a,s)
def Zl:=dy.fp pj yY jD nI Fv
def LD:AR->Option Np:=gB Zl pj
def Zn:=dy.fp tr y4 lu pk Fw
def LF:AT->Option Nq:=gB Zn tr
def uz:Ls aib y7 Fx:=rW (λ(afM,t93,t94,t95,aa5,asv,asw)=>⟨(aP 9 ([.d ti afM]++aP 83 ([.d (.slice gb) t93,.d ti t94,.d ti t95]++aP 11 []))),[.obj 0 false (.pr (.ct (.bm 1) 0) (.pr (.bz (.bm 2) 0 [] 0 0 aa5) fP)),.obj 0 false (.mp bl eQ asv),.obj 0 false (.vec 256 cD asw)],(ab 107 [])⟩) (λx=>(.exit 4,⟨(aP 9 ([.d ti x.2]++aP 97 [])),[.obj 0 false (.pr (.ct (.bm 1) 0) (.pr (.bz (.bm 2) 0 [] 0 0 x.1.1) fP)),.obj 0 false (.mp bl eQ x.1.2.1),.obj 0 false (.vec 256 cD x.1.2.2)],(ab 107 [])⟩))
def mX:Fs Tryz.prog axV bt ah8:=eN 196 Tryz.f196 (λ(t,height,o0baL,o1,o2)=>([.ptr (.bm 0) 0 [] 0,.d eA t,.d ti height],[.obj 0 false (.pr (.ct (.bm 1) 0) (.pr (.bz (.bm 2) 0 [] 0 0 o0baL) (.d .unit ()))),.obj 0 false (.mp bl eQ o1),.obj 0 false (.vec 256 cD o2)])) (λx=>⟨.cons (.d ti x.1) (.cons (.d ti x.2.1) (.nil)),[.obj 0 false (.pr (.ct (.bm 1) 0) (.pr (.bz (.bm 2) 0 [] 0 0 x.2.2.1) (.d .unit ()))),.obj 0 false (.mp bl eQ x.2.2.2.1),.obj 0 false (.vec 256 cD x.2.2.2.2)],[]⟩) [none,some eA,some ti] [tR,Uo,aFY,apA] {loops:=nX [(5,{aV:=[0,2,4,8,9,35,36,37],sites:=[8]}),(16,{aV:=[0,4,9,75,76,77]}),(23,{aV:=[9,93,94,95]})],outs:=nV [(5,{aV:=[0,4,9]},{aV:=[6,7]}),(16,{aV:=[4,9]},{aV:=[6,7]}),(23,{aV:=[9]},{aV:=[6,7]})],fC:=na [(5,Zl),(16,Zn),(23,uz.E)]}
def No:= @ee Tryz.prog (jy mX.G) mX.an 0 Tryz.f196 0 _ pj
abbrev U3:=kj Tryz.prog (jy mX.G) mX.an 0 Tryz.f196 0 pj yY jD nI Fv
def Zo:= @ee Tryz.prog (jy mX.G) mX.an 0 Tryz.f196 1 _ tr
abbrev U6:=kj Tryz.prog (jy mX.G) mX.an 0 Tryz.f196 1 tr y4 lu pk Fw
theorem ah9:iW LD yY jD nI:=l6 (jk [.d ti,.d eA,.d ti,.d (.slice fY),.d ti,.d ti,.n,.d (.slice (.pair bl eQ)),.d (.slice cD),.d tB] λ_=>bY)
theorem PQ:mP @No pj yY jD nI Fv U3:=nD
theorem C1{R:Type}(dP:Int)(oQ:dv)(oH:Int)(t35:(List gG))(t36:Int)(t37:Int)(o0L:Nat)(dS:(List (bF×dQ)))(ez:(List bW))(n8:Bs)(kn:AS->Option R)(kx:Exit->AS->Option R):No (dP,oQ,oH,t35,t36,t37,o0L,dS,ez,n8) kn kx=aH ((gq t37 t36)) (aH (eo t37 (((ag t35):Nat):Int)) (aH ((!(bQ bl (nth fY t35 (ae t37)).1 dS).isSome)) (kx (jE ((o0L,dS,ez),(5:Int))).1 (jE ((o0L,dS,ez),(5:Int))).2) (al (nc.call (((bQ bl (nth fY t35 (ae t37)).1 dS).getD (((0:Int),((([]:List oq),()),())),((0:Int),()))).1.2.1,(nth fY t35 (ae t37)).2.1,n8,dP,(cP .i64 dP ((bQ bl (nth fY t35 (ae t37)).1 dS).getD (((0:Int),((([]:List oq),()),())),((0:Int),()))).2.1))) λx1=>aH ((BY x1 (0:Int))) (kx (jE ((o0L,dS,ez),x1)).1 (jE ((o0L,dS,ez),x1)).2) (kn (pj (dP,oQ,(bI .i64 oH ((bQ bl (nth fY t35 (ae t37)).1 dS).getD (((0:Int),((([]:List oq),()),())),((0:Int),()))).1.1),t35,t36,(bI .i64 t37 (1:Int)),o0L,dS,ez,n8))))) none) (kx (yZ ((oQ,o0L,dS,ez),oH)).1 (yZ ((oQ,o0L,dS,ez),oH)).2):=bY
theorem aia:iW LF y4 lu pk:=l6 (jk [.d eA,.d ti,.d (.slice bl),.d ti,.d ti,.n,.d (.slice (.pair bl eQ)),.d (.slice cD)] λ_=>bY)
theorem PR:mP @Zo tr y4 lu pk Fw U6:=nD
theorem C2{R:Type}(vi:dv)(Vd:Int)(t75:(List bF))(t76:Int)(t77:Int)(gZ:Nat)(vJ:(List (bF×dQ)))(j9:(List bW))(kn:AS->Option R)(kx:Exit->AS->Option R):Zo (vi,Vd,t75,t76,t77,gZ,vJ,j9) kn kx=aH ((gq t77 t76)) (aH (eo t77 (((ag t75):Nat):Int)) (aH ((bQ bl (nth bl t75 (ae t77)) vJ).isSome) (kx (y5 (gZ,vJ,j9)).1 (y5 (gZ,vJ,j9)).2) (kn (tr (vi,Vd,t75,t76,(bI .i64 t77 (1:Int)),gZ,vJ,j9)))) none) (kx (y6 (vi,Vd,gZ,vJ,j9)).1 (y6 (vi,Vd,gZ,vJ,j9)).2):=bY
theorem aic:uz.RS:=rL [.d ti,.d (.slice gb),.d ti,.d ti,.n,.d (.slice (.pair bl eQ)),.d (.slice cD)] uz
theorem LG{R:Type}(afM t93 t94 t95 aa5 asv asw)(kn:K2 R)(kx:K3 R):mX.R 2 uz (afM,t93,t94,t95,aa5,asv,asw) kn kx=aH ((gq t95 t94)) (aH (eo t95 (t93.length:Int)) (kn (uz.st ((cP .i64 afM (nth gb t93 (ae t95)).1),t93,t94,(bI .i64 t95 1),aa5,asv,asw))) none) (uz.go kx ((aa5,asv,asw),afM)):=bY
theorem aD5{R:Type}(t height o0baL o1 o2)(k:K1 R):mX.A (t,height,o0baL,o1,o2) k=al (iI.call t) λx1=>aH ((!x1)) (k (mX.out (0,1,o0baL,o1,o2))) (aH ((gq height 1)) (k (mX.out (0,1,o0baL,o1,o2))) (aH ((rz height 1048576)) (k (mX.out (0,1,o0baL,o1,o2))) (al (tid.call t) λx2=>al (LD (height,t,0,t.1,(t.1.length:Int),0,o0baL,o1,o2,x2)) λx4=>aH (x4.isLeft) (al (x4.getLeft?) λa5=>k (mX.out (0,a5.2,a5.1.1,a5.1.2.1,a5.1.2.2))) (al (x4.getRight?) λb6=>al (Hm.call b6.1.1) λx7=>al (LF (b6.1.1,b6.2,x7,(x7.length:Int),0,b6.1.2.1,b6.1.2.2.1,b6.1.2.2.2)) λx8=>aH (x8.isLeft) (al (x8.getLeft?) λa9=>k (mX.out (0,4,a9.1,a9.2.1,a9.2.2))) (al (x8.getRight?) λawM=>al (uz.call (awM.2.1,awM.1.2.1,(awM.1.2.1.length:Int),0,awM.2.2.1,awM.2.2.2.1,awM.2.2.2.2)) λawG=>aH ((gq awG.2 0)) (k (mX.out (0,8,awG.1.1,awG.1.2.1,awG.1.2.2))) (k (mX.out (awG.2,0,awG.1.1,awG.1.2.1,awG.1.2.2)))))))):=bY
theorem amm:U3:=by
 refine PQ (λ(_,_,_,l,_,i,_,_,_,_)=>l.length - i.toNat) ?_
 rintro⟨h,t,oH,l,n,i,o,a,s,id⟩ ⟨⟨aTz,aTA⟩,cX,hl,hu,ha,k,hk,rfl,rfl,aRo,aNk⟩;have aTz:0<=h:=aTz;have aTA:h<=1048576:=aTA;have hl:l.length<=64:=hl;have aRo:0<=oH:=aRo;have aNk:oH<=(k:Int)*1125899906842624:=aNk;have hk:k<=l.length:=hk;by_cases gJ:k < l.length
 ·have hx:=hu _ (aO gJ);have n1:nth fY l k=l[k]:=cg (t:=fY) gJ;have hd:l.drop k=l[k]::l.drop (k+1):=aq gJ;cases hg:bQ bl l[k].1 a with
  |none=>
   right;refine⟨jE ((o,a,s),5),?_,λkn kx=> ?_⟩;rotate_left
   ·rw[C1,aU ak,aj,bg ak ak,aj,aa,n1,hg];simp only[Option.isSome_none,eZ,aj]
   ·simp only[jD,nI,aa,hd,xx,hg];rfl
  |some c=>
   have hc:=ha.get hg;obtain⟨c1,c2,c3,c4,c5,c6⟩:=hc
   have mB:∀ {R:Type} (kn:AS->Option R) (kx:Exit->AS->Option R),No (h,t,oH,l,(l.length:Int),(k:Int),o,a,s,id) kn kx=
     aH (BY (yy c.1.2.1 l[k].2.1 id h (h - c.2.1)) 0) (kx (jE ((o,a,s),yy c.1.2.1 l[k].2.1 id h (h - c.2.1))).1 (jE ((o,a,s),yy c.1.2.1 l[k].2.1 id h (h - c.2.1))).2)
      (kn (pj (h,t,oH+c.1.1,l,(l.length:Int),((k+1:Nat):Int),o,a,s,id))):=λkn kx=>by
    rw[C1,aU ak,aj,bg ak ak,aj,aa,n1,hg];simp only[Option.isSome_some,cz,ao,dO];rw[eL ak ak,ay5 (d:=(c.1.2.1,l[k].2.1,id,h,h - c.2.1)) ⟨c2,by have:=Tv c1;omega,hx.2.1,cX⟩];simp only[ah,bt,ai9];rw[fU ak ak,N.mO ak]
   by_cases he:yy c.1.2.1 l[k].2.1 id h (h - c.2.1)=0
   ·left;refine⟨(h,t,oH+c.1.1,l,(l.length:Int),((k+1:Nat):Int),o,a,s,id),⟨⟨aTz,aTA⟩,cX,hl,hu,ha,k+1,ak,rfl,rfl,by show 0<=oH+c.1.1;omega,by show oH+c.1.1<=_;omega⟩,by simp only[aa];omega,?_,λkn kx=> ?_⟩
    ·simp only[jD,nI,aa,hd,xx,hg,he,ne_eq,not_true_eq_false,bq]
    ·rw[mB,dB he,ao]
   ·right;refine⟨jE ((o,a,s),yy c.1.2.1 l[k].2.1 id h (h - c.2.1)),?_,λkn kx=> ?_⟩;rotate_left
    ·rw[mB,fj he,aj]
    ·simp only[jD,nI,aa,hd,xx,hg];rw[if_pos he];rfl
 ·right;obtain rfl:k=l.length:=ak;refine⟨yZ ((t,o,a,s),oH),?_,λkn kx=> ?_⟩;rotate_left
  ·rw[C1,aR ak,ao]
  ·simp only[jD,nI,aa,aK,xx];rfl
theorem amn:U6:=by
 refine PR (λ(_,_,l,_,i,_,_,_)=>l.length - i.toNat) ?_
 rintro⟨t,oH,l,n,i,o,a,s⟩ ⟨hl,k,hk,rfl,rfl⟩;have hl:l.length<=1000:=hl;have hk:k<=l.length:=hk;by_cases gJ:k < l.length
 ·have n1:nth bl l k=l[k]:=cg (t:=bl) gJ;have hd:l.drop k=l[k]::l.drop (k+1):=aq gJ;cases hg:(bQ bl l[k] a).isSome with
  |true=>
   right;refine⟨y5 (o,a,s),?_,λkn kx=> ?_⟩;rotate_left
   ·rw[C2,aU ak,aj,bg ak ak,aj,aa,n1,hg,aj]
   ·simp only[lu,pk,aa,hd,rp,qw,hg,Bool.true_or,bG];rfl
  |false=>
   left;refine⟨(t,oH,l,(l.length:Int),((k+1:Nat):Int),o,a,s),⟨hl,k+1,ak,rfl,rfl⟩,by simp only[aa];omega,?_,λkn kx=> ?_⟩
   ·simp only[lu,pk,aa,hd,rp,qw,hg,we]
   ·rw[C2,aU ak,aj,bg ak ak,aj,aa,n1,hg,ao,N.mO ak]
 ·right;obtain rfl:k=l.length:=ak;refine⟨y6 (t,oH,o,a,s),?_,λkn kx=> ?_⟩;rotate_left
  ·rw[C2,aR ak,ao]
  ·simp only[lu,pk,aa,aK,List.any_nil,bn,bq];rfl
theorem amo:(mX.kN 2 uz):=by
 refine(mX.mh 2 uz) (λ(_,l,_,i,_,_,_)=>l.length - i.toNat) ?_
 rintro⟨oH,l,n,i,o,a,s⟩ ⟨hl,ho,k,hk,rfl,rfl,aRo,aNk⟩;have hl:l.length<=64:=hl;have hk:k<=l.length:=hk;have aRo: -((k:Int)*1125899906842624)<=oH:=aRo;have aNk:oH<=1000000000000000000:=aNk;by_cases gJ:k < l.length
 ·left;have n1:nth gb l k=l[k]:=cg (t:=gb) gJ;have hd:l.drop k=l[k]::l.drop (k+1):=aq gJ;have hx:=ho _ (aO gJ);refine⟨(oH - l[k].1,l,(l.length:Int),((k+1:Nat):Int),o,a,s),⟨hl,ho,k+1,ak,rfl,rfl,by show _<=oH - l[k].1;omega,by show oH - l[k].1<=_;omega⟩,by simp only[aa];omega,?_,λkn kx=> ?_⟩
  ·simp only[y7,Fx,aa,hd,iY,bP,List.sum_cons];rw[Int.sub_sub]
  ·rw[LG,aU ak,aj,bg ak ak,aj,aa,n1,eL ak ak,N.mO ak]
 ·right;obtain rfl:k=l.length:=ak;intro R kn kx;rw[LG,aR ak,ao];simp only[y7,Fx,aa,aK,iY,ig,List.sum_nil,qg]
theorem vG{t:dv}(h:gV t=true):(gS t).length=t.2.1.length:=by unfold gS;rw[if_pos h];simp[G2]
theorem Z5{h:Int}{id:List Int}{a:List (bF×dQ)}(ha:akU a):∀(l:List gG) (oH f:Int),xx h id a l oH= .inr f->oH<=f/\f<=oH+(l.length:Int)*1125899906842624
 |[],oH,f,e=>by simp only[xx,Sum.inr.injEq]at e;subst e;simp
 |x::l,oH,f,e=>by
  simp only[xx]at e;cases hg:bQ bl x.1 a with
  |none=>rw[hg]at e;cases e
  |some c=>
   rw[hg]at e;simp only at e;split at e
   ·cases e
   ·have hc:=ha.get hg;have:=Z5 ha l _ _ e;obtain⟨_,_,c3,c4,_⟩:=hc;rw[aA];omega
theorem aD6:mX.Ok:=by
 rintro⟨t,h,n,a,s⟩ ⟨hv,ha⟩;have hv:nT t:=hv;have ha:akU a:=ha;rw[aD5,qb (d:=t) hv.1];simp only[ah,bt,rR,bt,ah8,eK];by_cases jj:gV t=true
 ·rw[jj,cz,ao];obtain⟨⟨_,a2,a3,_⟩,b1,b2⟩:=jI jj;by_cases h1:1<=h
  ·rw[aR ak,ao];by_cases h2:h<=1048576
   ·rw[cn ak,ao,if_pos ⟨rfl,h1,h2⟩,Gy (d:=t) hv];simp only[ah,bt,RR];rw[ah9 (d:=(h,t,0,t.1,(t.1.length:Int),0,n,a,s,mj t)) ⟨⟨by show 0<=h;omega,h2⟩,GG,a2,hv.2.1,ha,0,aJ _,rfl,rfl,by decide,by decide⟩];simp only[ah,jD,nI,aX,aD];cases hi:xx h (mj t) a t.1 0 with
    |inl e=>
     simp only[oX,aj,my,ah]
    |inr oH=>
     have hb:=Z5 ha _ _ _ hi;simp only[dJ,ao,c9,ah];rw[ag6 (d:=t) hv];simp only[ah,bt,X9];rw[aia (d:=(t,oH,gS t,((gS t).length:Int),0,n,a,s)) ⟨by rw[vG jj];omega,0,aJ _,rfl,rfl⟩];simp only[ah,lu,pk,aX,aD];by_cases hm:(gS t).any (qw a)=true
     ·rw[if_pos hm];simp only[oX,aj,my,ah,bG,hm]
     ·rw[if_neg hm];simp only[dJ,ao,c9,ah];rw[aic (d:=(oH,t.2.1,(t.2.1.length:Int),0,n,a,s)) ⟨a3,λo ho=>(kq _ _ b2 o ho).1,0,aJ _,rfl,rfl,by show -((0:Int)*_)<=oH;omega,by show oH<=_;omega⟩];simp only[ah,y7,Fx,aX,aD];rw[if_neg hm];by_cases hf:oH - iY t.2.1 < 0
      ·rw[aU hf,aj,if_pos hf]
      ·rw[aR hf,ao,if_neg hf]
   ·rw[cR ak,aj,if_neg (λe=>h2 e.2.2)]
  ·rw[aU ak,aj,if_neg (λe=>h1 e.2.1)]
 ·have hok':gV t=false:=by simpa using jj
  rw[hok',eZ,aj,if_neg (λe=>by cases e.1)]
theorem afF:mX.RS:=rE [.d eA,.d ti,.n,.d (.slice (.pair bl eQ)),.d (.slice cD)] mX
def amp:=mX.eS aD6 3 ⟨.fp amm,⟨.fp amn,⟨.fp amo,trivial⟩⟩⟩
def zd(l:List bF)(a:List (bF×dQ)):List (bF×dQ):=l.foldl (λm o=>gT bl o m) a
def abn(l:List XA)(a:List (bF×dQ)):List (bF×dQ):=l.foldl (λm e=>eF bl e.1 e.2.1 m) a
def xQ(a:List (bF×dQ))(st:bW):List (bF×dQ):=abn st.1 (zd st.2.1 a)
abbrev Nu:=Int×(List bF)×Int×Int×Nat×(List (bF×dQ))×(List bW)
abbrev Zv:=(List (bF×dQ))
def za:Nu->Zv->((Int×Nat×(List bW))×((List (bF×dQ)))):=λ(n,t23,t24,t25,o0L,dS,ez) y=>((n,o0L,ez),y)
abbrev Nv:=Int×(List XA)×Int×Int×Nat×(List (bF×dQ))×(List bW)
abbrev Zw:=(List (bF×dQ))
def zb:Nv->Zw->((Int×Nat×(List bW))×((List (bF×dQ)))):=λ(wG,t42,t43,t44,gZ,vJ,j9) y=>((wG,gZ,j9),y)
abbrev avi:=Nat×(List (bF×dQ))×(List bW)
def aii:Nu->Prop:=λ(_,l,n,i,_,_,_)=>l.length<=1000/\∃k:Nat,k<=l.length/\i=k/\n=l.length
def Fz:Nu->Zv:=λ(_,l,_,i,_,a,_)=>zd (l.drop i.toNat) a
def aik:Nv->Prop:=λ(_,l,n,i,_,_,_)=>l.length<=1000/\∃k:Nat,k<=l.length/\i=k/\n=l.length
def FA:Nv->Zw:=λ(_,l,_,i,_,a,_)=>abn (l.drop i.toNat) a
def ahn(st:bW):Prop:=st.1.length<=1000/\st.2.1.length<=1000
def axZ:avi->Prop:=λ(n,_,s)=>n<=s.length/\s.length<=1000000/\∀st∈s,ahn st
def XF:avi->(Bool×Nat×(List (bF×dQ))×(List bW)):=λ(n,a,s)=>if n=0 then(false,n,a,s) else(true,n - 1,xQ a (nth cD s (n - 1)),s)
def uA:Ls aii za Fz:=rW (λ(n,t23,t24,t25,o0L,dS,ez)=>⟨([.ptr (.bm 0) 0 [] 0,bE,bE,.d ti n]++aP 19 ([.d (.slice bl) t23,.d ti t24,.d ti t25]++aP 40 [])),[.obj 0 false (.pr (.ct (.bm 1) 0) (.pr (.bz (.bm 2) 0 [] 0 0 o0L) fP)),.obj 0 false (.mp bl eQ dS),.obj 0 false (.vec 256 cD ez)],(ab 66 [])⟩) (λx=>(.exit 0,⟨([.ptr (.bm 0) 0 [] 0,bE,bE,.d ti x.1.1]++aP 62 []),[.obj 0 false (.pr (.ct (.bm 1) 0) (.pr (.bz (.bm 2) 0 [] 0 0 x.1.2.1) fP)),.obj 0 false (.mp bl eQ x.2),.obj 0 false (.vec 256 cD x.1.2.2)],(ab 66 [])⟩))
def uB:Ls aik zb FA:=rW (λ(wG,t42,t43,t44,gZ,vJ,j9)=>⟨([.ptr (.bm 0) 0 [] 0,bE,bE,.d ti wG]++aP 38 ([.d (.slice aA0) t42,.d ti t43,.d ti t44]++aP 21 [])),[.obj 0 false (.pr (.ct (.bm 1) 0) (.pr (.bz (.bm 2) 0 [] 0 0 gZ) fP)),.obj 0 false (.mp bl eQ vJ),.obj 0 false (.vec 256 cD j9)],(ab 66 [])⟩) (λx=>(.exit 2,⟨([.ptr (.bm 0) 0 [] 0,bE,bE,.d ti x.1.1]++aP 62 []),[.obj 0 false (.pr (.ct (.bm 1) 0) (.pr (.bz (.bm 2) 0 [] 0 0 x.1.2.1) fP)),.obj 0 false (.mp bl eQ x.2),.obj 0 false (.vec 256 cD x.1.2.2)],(ab 66 [])⟩))
def AV:Fs Tryz.prog axZ bt XF:=eN 165 Tryz.f165 (λ(o0baL,o1,o2)=>([.ptr (.bm 0) 0 [] 0],[.obj 0 false (.pr (.ct (.bm 1) 0) (.pr (.bz (.bm 2) 0 [] 0 0 o0baL) (.d .unit ()))),.obj 0 false (.mp bl eQ o1),.obj 0 false (.vec 256 cD o2)])) (λx=>⟨.d .bool x.1,[.obj 0 false (.pr (.ct (.bm 1) 0) (.pr (.bz (.bm 2) 0 [] 0 0 x.2.1) (.d .unit ()))),.obj 0 false (.mp bl eQ x.2.2.1),.obj 0 false (.vec 256 cD x.2.2.2)],[]⟩) [none] [] {loops:=nX [(5,{aV:=[0,3,23,24,25]}),(10,{aV:=[0,3,42,43,44]})],outs:=nV [(5,{aV:=[0,3]},{aV:=[2]}),(10,{aV:=[0,3]},{aV:=[2]})],fC:=na [(5,uA.E),(10,uB.E)]}
theorem aij:uA.RS:=rL [.d ti,.d (.slice bl),.d ti,.d ti,.n,.d (.slice (.pair bl eQ)),.d (.slice cD)] uA
theorem LJ{R:Type}(n t23 t24 t25 o0L dS ez)(kn:K2 R)(kx:K3 R):AV.R 0 uA (n,t23,t24,t25,o0L,dS,ez) kn kx=aH ((gq t25 t24)) (aH (eo t25 (t23.length:Int)) (kn (uA.st (n,t23,t24,(bI .i64 t25 1),o0L,(gT bl (nth bl t23 (ae t25)) dS),ez))) none) (uA.go kx ((n,o0L,ez),dS)):=bY
theorem ail:uB.RS:=rL [.d ti,.d (.slice aA0),.d ti,.d ti,.n,.d (.slice (.pair bl eQ)),.d (.slice cD)] uB
theorem LK{R:Type}(wG t42 t43 t44 gZ vJ j9)(kn:K2 R)(kx:K3 R):AV.R 1 uB (wG,t42,t43,t44,gZ,vJ,j9) kn kx=aH ((gq t44 t43)) (aH (eo t44 (t42.length:Int)) (kn (uB.st (wG,t42,t43,(bI .i64 t44 1),gZ,(eF bl (nth aA0 t42 (ae t44)).1 (nth aA0 t42 (ae t44)).2.1 vJ),j9))) none) (uB.go kx ((wG,gZ,j9),vJ)):=bY
theorem aEb{R:Type}(o0baL o1 o2)(k:K1 R):AV.A (o0baL,o1,o2) k=aH ((gq (cP .i64 ((o0baL:Nat):Int) 1) 0)) (k (AV.out (false,o0baL,o1,o2))) (aH (eo (cP .i64 ((o0baL:Nat):Int) 1) ((o0baL:Nat):Int)) (aH (decide ((0+(ae (cP .i64 ((o0baL:Nat):Int) 1))) < (ag o2))) (aH (decide ((((0+(ae (cP .i64 ((o0baL:Nat):Int) 1)))*2)+1)=((0+((ae (cP .i64 ((o0baL:Nat):Int) 1))*2))+1))) (al (uA.call ((cP .i64 ((o0baL:Nat):Int) 1),(nth cD o2 (0+(ae (cP .i64 ((o0baL:Nat):Int) 1)))).2.1,(((ag (nth cD o2 (0+(ae (cP .i64 ((o0baL:Nat):Int) 1)))).2.1):Nat):Int),0,o0baL,o1,o2)) λx1=>aH (eo x1.1.1 ((x1.1.2.1:Nat):Int)) (aH (decide ((0+(ae x1.1.1)) < (ag x1.1.2.2))) (aH (decide ((((0+(ae x1.1.1))*2)+0)=((0+((ae x1.1.1)*2))+0))) (al (uB.call (x1.1.1,(nth cD x1.1.2.2 (0+(ae x1.1.1))).1,(((ag (nth cD x1.1.2.2 (0+(ae x1.1.1))).1):Nat):Int),0,x1.1.2.1,x1.2,x1.1.2.2)) λx2=>aH (inc x2.1.1 ((x2.1.2.1:Nat):Int)) (k (AV.out (true,((ae x2.1.1) - 0),x2.2,x2.1.2.2))) none) none) none) none) none) none) none):=bY
theorem amt:(AV.kN 0 uA):=by
 refine(AV.mh 0 uA) (λ(_,l,_,i,_,_,_)=>l.length - i.toNat) ?_
 rintro⟨u,l,n,i,o,a,s⟩ ⟨hl,k,hk,rfl,rfl⟩;have hl:l.length<=1000:=hl;have hk:k<=l.length:=hk;by_cases gJ:k < l.length
 ·left;have n1:nth bl l k=l[k]:=cg (t:=bl) gJ;have hd:l.drop k=l[k]::l.drop (k+1):=aq gJ;refine⟨(u,l,(l.length:Int),((k+1:Nat):Int),o,zd [l[k]] a,s),⟨hl,k+1,ak,rfl,rfl⟩,by simp only[aa];omega,?_,λkn kx=> ?_⟩
  ·simp only[za,Fz,aa,hd,zd,bA,cY]
  ·rw[LJ,aU ak,aj,bg ak ak,aj,aa,n1,N.mO ak];rfl
 ·right;obtain rfl:k=l.length:=ak;intro R kn kx;rw[LJ,aR ak,ao];simp only[za,Fz,aa,aK,zd,cY]
theorem amu:(AV.kN 1 uB):=by
 refine(AV.mh 1 uB) (λ(_,l,_,i,_,_,_)=>l.length - i.toNat) ?_
 rintro⟨u,l,n,i,o,a,s⟩ ⟨hl,k,hk,rfl,rfl⟩;have hl:l.length<=1000:=hl;have hk:k<=l.length:=hk;by_cases gJ:k < l.length
 ·left;have n1:nth aA0 l k=l[k]:=cg (t:=aA0) gJ;have hd:l.drop k=l[k]::l.drop (k+1):=aq gJ;refine⟨(u,l,(l.length:Int),((k+1:Nat):Int),o,abn [l[k]] a,s),⟨hl,k+1,ak,rfl,rfl⟩,by simp only[aa];omega,?_,λkn kx=> ?_⟩
  ·simp only[zb,FA,aa,hd,abn,bA,cY]
  ·rw[LK,aU ak,aj,bg ak ak,aj,aa,n1,N.mO ak];rfl
 ·right;obtain rfl:k=l.length:=ak;intro R kn kx;rw[LK,aR ak,ao];simp only[zb,FA,aa,aK,abn,cY]
theorem aEc:AV.Ok:=by
 rintro⟨n,a,s⟩ ⟨h1,h2,h3⟩;have h1:n<=s.length:=h1;have h2:s.length<=1000000:=h2;have h3:∀st∈s,ahn st:=h3;rw[aEb];simp only[bt,XF];cases n with
 |zero=>
  rw[aU (by decide),aj];rfl
 |succ m=>
  have e1:cP .i64 (((m+1:Nat):Nat):Int) (1:Int)=(m:Int):=by rw[eL ak ak];omega
  have hm:m < s.length:=ak;have n1:nth cD s m=s[m]:=cg (t:=cD) hm;have hs:=h3 _ (aO hm);rw[e1,aR ak,ao,bg ak ak,aj];simp only[aa,aN,cm,aM hm,aj,cr,n1];rw[aij (d:=((m:Int),s[m].2.1,(s[m].2.1.length:Int),0,m+1,a,s)) ⟨hs.2,0,aJ _,rfl,rfl⟩];simp only[ah,za,Fz,aX,aD];rw[bg ak ak,aj];simp only[aa,aN,cm,aM hm,aj,cr,n1];rw[ail (d:=((m:Int),s[m].1,(s[m].1.length:Int),0,m+1,zd s[m].2.1 a,s)) ⟨hs.1,0,aJ _,rfl,rfl⟩];simp only[ah,zb,FA,aX,aD];rw[uI ak ak,aj,if_neg ak];simp only[aa,Nat.sub_zero,iT,n1,xQ]
theorem afH:AV.RS:=rE [.n,.d (.slice (.pair bl eQ)),.d (.slice cD)] AV
def aEd:=AV.eS aEc 2 ⟨.fp amt,⟨.fp amu,trivial⟩⟩
abbrev AO:=Int×dv×(List bF)×Int×Int×Nat×(List (bF×dQ))×(List bW)×Nat×((List bF)×Unit)×(List XA)
def tp:AO->AS:=λ(dP,oQ,t28,t29,t30,o0L,dS,ez,aJt,n9,n45)=>⟨([.ptr (.bm 0) 0 [] 0,bE,.d ti dP,bE,.dD eA oQ]++aP 4 ([eT 9]++aP 18 ([.d (.slice bl) t28,.d ti t29,.d ti t30]++aP 54 []))),[.obj 0 false (.pr (.ct (.bm 1) 0) (.pr (.bz (.bm 2) 0 [] 0 0 o0L) fP)),.obj 0 false (.mp bl eQ dS),.obj 0 false (.vec 256 cD ez)],(bM 9 ([dK (.pr (oh 45 aJt) (.d (.pair (.slice bl) .unit) n9))]++bM 35 ([dK (.vec 258 aA0 n45)]++bM 39 [])))⟩
abbrev Cd:=(Int×dv×Nat×(List bW)×((List bF)×Unit))×((List (bF×dQ))×Nat×(List XA))
def yV:Cd->Exit×AS:=λx=>(.exit 0,⟨([.ptr (.bm 0) 0 [] 0,bE,.d ti x.1.1,bE,.dD eA x.1.2.1]++aP 4 ([eT 9]++aP 75 [])),[.obj 0 false (.pr (.ct (.bm 1) 0) (.pr (.bz (.bm 2) 0 [] 0 0 x.1.2.2.1) fP)),.obj 0 false (.mp bl eQ x.2.1),.obj 0 false (.vec 256 cD x.1.2.2.2.1)],(bM 9 ([dK (.pr (oh 45 x.2.2.1) (.d (.pair (.slice bl) .unit) x.1.2.2.2.2))]++bM 35 ([dK (.vec 258 aA0 x.2.2.2)]++bM 39 [])))⟩)
def PM:Cd->Out (Exit×AS):=λx=> .ok (yV x)
def nG:AO->((List (bF×dQ))×Nat×(List XA))->Cd:=λ(dP,oQ,t28,t29,t30,o0L,dS,ez,aJt,n9,n45) y=>((dP,oQ,o0L,ez,n9),y)
abbrev AP:=Int×dv×(List bF)×Int×Int×Nat×(List (bF×dQ))×(List bW)×Nat×((List bF)×Unit)×(List XA)
def tq:AP->AS:=λ(Ei,vi,t54,t55,t56,gZ,vJ,j9,VV,QQ,VR)=>⟨([.ptr (.bm 0) 0 [] 0,bE,.d ti Ei,bE,.dD eA vi]++aP 4 ([eT 9]++aP 44 ([.d (.slice bl) t54,.d ti t55,.d ti t56]++aP 28 []))),[.obj 0 false (.pr (.ct (.bm 1) 0) (.pr (.bz (.bm 2) 0 [] 0 0 gZ) fP)),.obj 0 false (.mp bl eQ vJ),.obj 0 false (.vec 256 cD j9)],(bM 9 ([dK (.pr (oh 45 VV) (.d (.pair (.slice bl) .unit) QQ))]++bM 35 ([dK (.vec 258 aA0 VR)]++bM 39 [])))⟩
abbrev Ce:=(Nat×(List bW)×Nat×((List bF)×Unit)×(List XA))×((List (bF×dQ)))
def yX:Ce->Exit×AS:=λx=>(.exit 2,⟨([.ptr (.bm 0) 0 [] 0]++aP 8 ([eT 9]++aP 75 [])),[.obj 0 false (.pr (.ct (.bm 1) 0) (.pr (.bz (.bm 2) 0 [] 0 0 x.1.1) fP)),.obj 0 false (.mp bl eQ x.2),.obj 0 false (.vec 256 cD x.1.2.1)],(bM 9 ([dK (.pr (oh 45 x.1.2.2.1) (.d (.pair (.slice bl) .unit) x.1.2.2.2.1))]++bM 35 ([dK (.vec 258 aA0 x.1.2.2.2.2)]++bM 39 [])))⟩)
def PO:Ce->Out (Exit×AS):=λx=> .ok (yX x)
def nH:AP->((List (bF×dQ)))->Ce:=λ(Ei,vi,t54,t55,t56,gZ,vJ,j9,VV,QQ,VR) y=>((gZ,j9,VV,QQ,VR),y)
abbrev PJ:=dv×Int×Nat×(List (bF×dQ))×(List bW)
def Zk:PJ->SA:=λ(t,height,o0baL,o1,o2)=>([.ptr (.bm 0) 0 [] 0,.d eA t,.d ti height],[.obj 0 false (.pr (.ct (.bm 1) 0) (.pr (.bz (.bm 2) 0 [] 0 0 o0baL) fP)),.obj 0 false (.mp bl eQ o1),.obj 0 false (.vec 256 cD o2)])
abbrev avd:=(Int×Nat×(List (bF×dQ))×(List bW))⊕(Int×Nat×(List (bF×dQ))×(List bW))
abbrev ah7:=(Int×Nat×(List (bF×dQ))×(List bW))⊕(Int×Nat×(List (bF×dQ))×(List bW))
def Ko:ah7->fG:=λx=>match x with | .inl x=>⟨.d ti x.1,[.obj 0 false (.pr (.ct (.bm 1) 0) (.pr (.bz (.bm 2) 0 [] 0 0 x.2.1) fP)),.obj 0 false (.mp bl eQ x.2.2.1),.obj 0 false (.vec 256 cD x.2.2.2)],[]⟩ | .inr x=>⟨.d ti x.1,[.obj 0 false (.pr (.ct (.bm 1) 0) (.pr (.bz (.bm 2) 1 [] 0 0 x.2.1) fP)),.obj 0 false (.mp bl eQ x.2.2.1),.obj 1 false (.vec 256 cD x.2.2.2)],[]⟩
def Ar:PJ->avd->ah7:=λ(t,height,o0baL,o1,o2) y=>match y with | .inl y=> .inl y | .inr y=> .inr y
def vm(a:List (bF×dQ)):List bF->List XA
 |[]=> []
 |o::l=>(o,((bQ bl o a).getD aJj,()))::vm (gT bl o a) l
def M1(h:Int):List bF->List gf->List (bF×dQ)->List (bF×dQ)
 |o::l,x::xs,a=>M1 h l xs (eF bl o (x,(h,())) a)
 |_,_,a=>a
def stepOf(t:dv)(a:List (bF×dQ)):bW:=(vm a (dN t),(gS t,()))
def fq(t:dv)(h:Int)(a:List (bF×dQ)):List (bF×dQ):=M1 h (gS t) t.2.1 (zd (dN t) a)
def yU:AO->Prop:=λ(_,_,l,n,i,_,_,_,gL,_,g)=>l.length<=1000/\∃k:Nat,k<=l.length/\i=k/\n=l.length/\gL=g.length/\g.length=k
def sQ:AO->((List (bF×dQ))×Nat×(List XA)):=λ(_,_,l,_,i,_,a,_,gL,_,g)=>(zd (l.drop i.toNat) a,gL+(l.drop i.toNat).length,g++vm a (l.drop i.toNat))
def yW:AP->Prop:=λ(_,t,l,n,i,_,_,_,_,_,_)=>l.length<=1000/\l.length=t.2.1.length/\(∀o∈t.2.1,aS1 o.2.1)/\∃k:Nat,k<=l.length/\i=k/\n=l.length
def sR:AP->((List (bF×dQ))):=λ(h,t,l,_,i,_,a,_,_,_,_)=>M1 h (l.drop i.toNat) (t.2.1.drop i.toNat) a
def SU:PJ->Prop:=λ(t,_,n,a,s)=>nT t/\akU a/\n<=s.length/\s.length<=1000000
def Kn:PJ->avd:=λ(t,h,n,a,s)=>if(eK t h a).2≠0 then .inl ((eK t h a).2,n,a,s) else .inr (0,n+1,fq t h a,s.take n++ [stepOf t a])
def PK:oT:=jy (P:=Tryz.prog) [amp,apA,ada,au9]
def Zg:=dy.fp tp yU nG sQ PM
def Lz:AO->Option Cd:=gB Zg tp
def Zi:=dy.fp tq yW nH sR PO
def LB:AP->Option Ce:=gB Zi tq
def H3:xi:= {loops:=nX [(6,{aV:=[0,2,4,9,28,29,30],sites:=[9,45],owns:=[⟨9,[.fst],45,254⟩]}),(12,{aV:=[0,2,4,9,54,55,56],sites:=[9,45]})],outs:=nV [(6,{aV:=[0,2,4,9],sites:=[9,45]},{aV:=[6]}),(12,{aV:=[0,9],sites:=[9,45]},{aV:=[6]})],fC:=na [(6,Zg),(12,Zi)]}
def avb:= @HD Tryz.prog PK H3 0 Tryz.f162 _ Zk
abbrev aD2:=ahl @avb SU Ar Kn Ko
def Zh:= @ee Tryz.prog PK H3 0 Tryz.f162 0 _ tp
abbrev U1:=kj Tryz.prog PK H3 0 Tryz.f162 0 tp yU nG sQ PM
def Zj:= @ee Tryz.prog PK H3 0 Tryz.f162 1 _ tq
abbrev U2:=kj Tryz.prog PK H3 0 Tryz.f162 1 tq yW nH sR PO
theorem ah5:iW Lz yU nG sQ:=l6 (jk [.d ti,.d eA,.d (.slice bl),.d ti,.d ti,.n,.d (.slice (.pair bl eQ)),.d (.slice cD),.n,.d (.pair (.slice bl) .unit),.d (.slice aA0)] λ_=>bY)
theorem PL:aB7 @Zh tp yU nG sQ yV U1:=aOf
theorem LA{R:Type}(dP:Int)(oQ:dv)(t28:(List bF))(t29:Int)(t30:Int)(o0L:Nat)(dS:(List (bF×dQ)))(ez:(List bW))(aJt:Nat)(n9:((List bF)×Unit))(n45:(List XA))(kn:AS->Option R)(kx:Exit->AS->Option R):Zh (dP,oQ,t28,t29,t30,o0L,dS,ez,aJt,n9,n45) kn kx=aH ((gq t30 t29)) (aH (eo t30 (((ag t28):Nat):Int)) (aH (decide (aJt<=(ag n45))) (aH (da (aJt+1) 80) (kn (tp (dP,oQ,t28,t29,(bI .i64 t30 (1:Int)),o0L,(gT bl (nth bl t28 (ae t30)) dS),ez,(aJt+1),n9,((aQ aJt n45)++ [((nth bl t28 (ae t30)),(((bQ bl (nth bl t28 (ae t30)) dS).getD (((0:Int),((([]:List oq),()),())),((0:Int),()))),()))])))) none) none) none) (kx (yV ((dP,oQ,o0L,ez,n9),(dS,aJt,n45))).1 (yV ((dP,oQ,o0L,ez,n9),(dS,aJt,n45))).2):=bY
theorem ah6:iW LB yW nH sR:=l6 (jk [.d ti,.d eA,.d (.slice bl),.d ti,.d ti,.n,.d (.slice (.pair bl eQ)),.d (.slice cD),.n,.d (.pair (.slice bl) .unit),.d (.slice aA0)] λ_=>bY)
theorem PN:aB7 @Zj tq yW nH sR yX U2:=aOf
theorem LC{R:Type}(Ei:Int)(vi:dv)(t54:(List bF))(t55:Int)(t56:Int)(gZ:Nat)(vJ:(List (bF×dQ)))(j9:(List bW))(VV:Nat)(QQ:((List bF)×Unit))(VR:(List XA))(kn:AS->Option R)(kx:Exit->AS->Option R):Zj (Ei,vi,t54,t55,t56,gZ,vJ,j9,VV,QQ,VR) kn kx=aH ((gq t56 t55)) (aH (eo t56 (((ag t54):Nat):Int)) (aH (eo t56 (((ag vi.2.1):Nat):Int)) (al (WW.call (nth gb vi.2.1 (ae t56))) λx1=>kn (tq (Ei,vi,t54,t55,(bI .i64 t56 (1:Int)),gZ,(eF bl (nth bl t54 (ae t56)) (x1,(Ei,())) vJ),j9,VV,QQ,VR))) none) none) (kx (yX ((gZ,j9,VV,QQ,VR),vJ)).1 (yX ((gZ,j9,VV,QQ,VR),vJ)).2):=bY
theorem aD3{R:Type}(t:dv)(height:Int)(o0baL:Nat)(o1:(List (bF×dQ)))(o2:(List bW))(k:fG->Option R):avb (t,height,o0baL,o1,o2) k=al (mX.call (t,height,o0baL,o1,o2)) λx1=>aH ((BY x1.2.1 (0:Int))) (k (Ko (.inl (x1.2.1,x1.2.2.1,x1.2.2.2.1,x1.2.2.2.2)))) (al (Hm.call t) λx2=>al (sI.call t) λx3=>al (Lz (height,t,x3,(((ag x3):Nat):Int),(0:Int),x1.2.2.1,x1.2.2.2.1,x1.2.2.2.2,0,(x2,()),([]:List XA))) λx4=>al (LB (x4.1.1,x4.1.2.1,x4.1.2.2.2.2.1,(((ag x4.1.2.2.2.2.1):Nat):Int),(0:Int),x4.1.2.2.1,x4.2.1,x4.1.2.2.2.1,x4.2.2.1,x4.1.2.2.2.2,x4.2.2.2)) λx6=>aH (decide (0=0/\(0+x6.1.2.2.1)<=(ag x6.1.2.2.2.2))) (aH (decide (x6.1.1<=(ag x6.1.2.1))) (aH (da (x6.1.1+1) 48) (k (Ko (.inr ((0:Int),(x6.1.1+1),x6.2,((aQ x6.1.1 x6.1.2.1)++ [((cut x6.1.2.2.2.2 0 x6.1.2.2.1),x6.1.2.2.2.1)]))))) none) none) none):=bY
theorem amj:U1:=by
 refine PL (λ(_,_,l,_,i,_,_,_,_,_,_)=>l.length - i.toNat) ?_
 rintro⟨h,t,l,n,i,o,a,s,gL,u,g⟩ ⟨hl,k,hk,rfl,rfl,rfl,hg⟩;have hl:l.length<=1000:=hl;have hk:k<=l.length:=hk;have hg:g.length=k:=hg;by_cases gJ:k < l.length
 ·left;have n1:nth bl l k=l[k]:=cg (t:=bl) gJ;have hd:l.drop k=l[k]::l.drop (k+1):=aq gJ;refine⟨(h,t,l,(l.length:Int),((k+1:Nat):Int),o,gT bl l[k] a,s,g.length+1,u,g++ [(l[k],((bQ bl l[k] a).getD aJj,()))]),⟨hl,k+1,ak,rfl,rfl,by simp,by simp[hg]⟩,by simp only[aa];omega,?_,λkn kx=> ?_⟩
  ·simp only[nG,sQ,aa,hd,zd,bA,vm,aF,cZ,aA];rw[show g.length+1+(l.drop (k+1)).length=g.length+((l.drop (k+1)).length+1) by omega]
  ·rw[LA,aU ak,aj,bg ak ak,aj,aM (ax _),aj,dr ak ak,aj,aa,n1,N.mO ak,bK];rfl
 ·right;obtain rfl:k=l.length:=ak;intro R kn kx;rw[LA,aR ak,ao];simp only[nG,sQ,aa,aK,zd,cY,vm,ba,aZ,cm]
theorem amk:U2:=by
 refine PN (λ(_,_,l,_,i,_,_,_,_,_,_)=>l.length - i.toNat) ?_
 rintro⟨h,t,l,n,i,o,a,s,gL,u,g⟩ ⟨hl,he,hb,k,hk,rfl,rfl⟩;have hl:l.length<=1000:=hl;have he:l.length=t.2.1.length:=he;have hk:k<=l.length:=hk;by_cases gJ:k < l.length
 ·left;have aOW:k < t.2.1.length:=ak;have n1:nth bl l k=l[k]:=cg (t:=bl) gJ;have n2:nth gb t.2.1 k=t.2.1[k]:=cg (t:=gb) aOW;have hd:l.drop k=l[k]::l.drop (k+1):=aq gJ;have aSy:t.2.1.drop k=t.2.1[k]::t.2.1.drop (k+1):=aq aOW;refine⟨(h,t,l,(l.length:Int),((k+1:Nat):Int),o,eF bl l[k] (t.2.1[k],(h,())) a,s,gL,u,g),⟨hl,he,hb,k+1,ak,rfl,rfl⟩,by simp only[aa];omega,?_,λkn kx=> ?_⟩
  ·simp only[nH,sR,aa,hd,aSy,M1]
  ·rw[LC,aU ak,aj,bg ak ak,aj,bg ak ak,aj,aa,n1,n2,ame (d:=t.2.1[k]) (hb _ (aO aOW))];simp only[ah,bt,ari];rw[N.mO ak]
 ·right;obtain rfl:k=l.length:=ak;intro R kn kx;rw[LC,aR ak,ao];simp only[nH,sR,aa,aK,M1]
theorem Kg{t:dv}{h:Int}{a:List (bF×dQ)}(e:(eK t h a).2=0):gV t=true/\1<=h/\h<=1048576/\∃oH,xx h (mj t) a t.1 0= .inr oH/\(gS t).any (qw a)=false/\0<=oH - iY t.2.1/\eK t h a=(oH - iY t.2.1,0):=by
 unfold eK at e ⊢;by_cases h0:gV t=true/\1<=h/\h<=1048576
 ·rw[if_pos h0]at e;rw[if_pos h0];refine⟨h0.1,h0.2.1,h0.2.2,?_⟩;cases hi:xx h (mj t) a t.1 0 with
  |inl x=>
   exfalso;rw[hi]at e;simp only at e;subst e;have key:∀(l:List gG) (f:Int),xx h (mj t) a l f≠ .inl 0:=by
    intro l
    induction l with
    |nil=>intro f hf;cases hf
    |cons x l ih=>
     intro f hf;simp only[xx]at hf;cases hg:bQ bl x.1 a with
     |none=>rw[hg]at hf;simp at hf
     |some c=>
      rw[hg]at hf;simp only at hf;split at hf
      ·rename_i gC;exact gC (by injection hf)
      ·exact ih _ hf
   exact key _ _ hi
  |inr oH=>
   rw[hi]at e;simp only at e ⊢;by_cases hm:(gS t).any (qw a)=true
   ·rw[if_pos hm]at e;cases e
   ·rw[if_neg hm]at e;rw[if_neg hm];by_cases hf:oH - iY t.2.1 < 0
    ·rw[if_pos hf]at e;cases e
    ·rw[if_neg hf];exact⟨oH,rfl,by simpa using hm,ak,rfl⟩
 ·rw[if_neg h0]at e;cases e
theorem Z7{t:dv}(h:gV t=true):(dN t).length=t.1.length:=by unfold dN;rw[if_pos h,bU]
theorem aD4:aD2:=by
 rintro⟨t,h,n,a,s⟩ ⟨hv,ha,hn,hs⟩;have hv:nT t:=hv;have ha:akU a:=ha;have hn:n<=s.length:=hn;have hs:s.length<=1000000:=hs;rw[aD3,afF (d:=(t,h,n,a,s)) ⟨hv,ha⟩];simp only[ah,bt,ah8,Ar,Kn];by_cases he:(eK t h a).2=0
 ·rw[dB he,ao,if_neg (λe=>e he)];obtain⟨jj,_,_,_⟩:=Kg he;obtain⟨⟨_,a2,a3,_⟩,b1,b2⟩:=jI jj;rw[ag6 (d:=t) hv];simp only[ah,bt,X9];rw[WK (d:=t) hv.1];simp only[ah,bt,KR];rw[ah5 (d:=(h,t,dN t,((dN t).length:Int),0,n,a,s,0,(gS t,()),[])) ⟨by rw[Z7 jj];omega,0,aJ _,rfl,rfl,rfl,rfl⟩];simp only[ah,nG,sQ,aX,aD,aT,aN];rw[ah6 (d:=(h,t,gS t,((gS t).length:Int),0,n,zd (dN t) a,s,(dN t).length,(gS t,()),vm a (dN t))) ⟨by rw[vG jj];omega,vG jj,λo ho=>by
   have:=Tv (kq _ _ b2 o ho).2;exact⟨ak,λb hb=>by have:=this.2 b hb;omega⟩,0,aJ _,rfl,rfl⟩]
  simp only[ah,nH,sR,aX,aD];have aVl:∀(l:List bF) (a:List (bF×dQ)),(vm a l).length=l.length:=by
   intro l
   induction l with
   |nil=>intro a;rfl
   |cons o l ih=>intro a;simp[vm,ih]
  rw[aM (by rw[aVl];exact⟨trivial,ak⟩),aj,aM hn,aj,dr ak ak,aj,eV (aVl _ _)];rfl
 ·rw[fj he,aj,if_pos he]
def avc:=Entry.ad6 [none,some eA,some ti] Zk SU Ar Kn Ko
def AQ:PJ->Option ah7:=Lp avc Zk
theorem axU:iW AQ SU Ar Kn:=acf (W2 [.d eA,.d ti,.n,.d (.slice (.pair bl eQ)),.d (.slice cD)] λ_=>bY)
def aml:SG Tryz.prog:=⟨162,ml,avc,.of (.aNO (.fn 2 bY aD4 (And.intro (.fp amj bY) (And.intro (.fp amk bY) trivial)))) (by rfl)⟩
theorem aHO(k:Int)(m:List Int):aNT (mI k m):=by
 unfold mI;split
 ·exact⟨(aMM _).u,(auL _ _).u⟩
 ·exact⟨⟨ix 0,by decide⟩,ix 0,by decide⟩
theorem amQ:∀(l l':List gG) (b:List Int),l.map (·.1)=l'.map (·.1)->l.foldl KB b=l'.foldl KB b
 |[],[],_,_=>rfl
 |[],_::_,_,h=>by cases h
 |_::_,[],_,h=>by cases h
 |x::l,y::l',b,h=>by
  rw[bP,bP,df]at h;have e:KB b x=KB b y:=by unfold KB;rw[h.1]
  rw[bA,bA,e,amQ l l' _ h.2]
theorem azJ{l l':List gG}(t:List gf×Int×Unit)(h:l.map (·.1)=l'.map (·.1)):uT (l,t)=uT (l',t):=by
 have hl:l.length=l'.length:=by have:=bo ag h;simpa using this
 unfold uT;simp only[hl];rw[amQ l l' _ h]
theorem anj:∀(l l':List gG) (m:List (bF×Bool)),l.map (·.1)=l'.map (·.1)->Em m l=true->(∀x∈l',BO x.2.1=true)->Em m l'=true
 |[],[],_,_,_,_=>rfl
 |[],_::_,_,h,_,_=>by cases h
 |_::_,[],_,h,_,_=>by cases h
 |x::l,y::l',m,h,hi,hw=>by
  rw[bP,bP,df]at h;rw[Em,au,au]at hi ⊢;have hx:=hi.1.2;unfold Ij at hx;rw[au]at hx;refine⟨⟨?_,?_⟩,?_⟩
  ·have:=hi.1.1;unfold Qh at this ⊢;rw[<-h.1];exact this
  ·unfold Ij;rw[<-h.1,hx.1,hw y aL];rfl
  ·rw[<-h.1];exact anj l l' _ h.2 hi.2 λz hz=>hw z (aI _ hz)
theorem aIF{l l':List gG}{t:List gf×Int×Unit}(h:l.map (·.1)=l'.map (·.1))(jj:gV (l,t)=true)(hw:∀x∈l',BO x.2.1=true):gV (l',t)=true:=by
 have hl:l.length=l'.length:=by have:=bo ag h;simpa using this
 unfold gV adg at jj ⊢;rw[au,au]at jj ⊢;simp only[hl]at jj;exact⟨jj.1,anj l l' _ h jj.2.1 hw,jj.2.2⟩
theorem awr{l l':List gG}{t:List gf×Int×Unit}(h:l.map (·.1)=l'.map (·.1))(h1:gV (l,t)=true)(h2:gV (l',t)=true):mj (l',t)=mj (l,t):=by unfold mj;rw[h1,h2,azJ t h]
theorem atX{l l':List gG}{t:List gf×Int×Unit}(h:l.map (·.1)=l'.map (·.1))(h1:gV (l,t)=true)(h2:gV (l',t)=true):dN (l',t)=dN (l,t):=by unfold dN;rw[h1,h2];exact h.symm
theorem aF7{l l':List gG}{t:List gf×Int×Unit}(h:l.map (·.1)=l'.map (·.1))(h1:gV (l,t)=true)(h2:gV (l',t)=true):gS (l',t)=gS (l,t):=by unfold gS;rw[h1,h2,awr h h1 h2]
def Xw(t:dv)(k:Nat)(w:UC):dv:=(t.1.set k ((nth fY t.1 k).1,w,()),t.2)
theorem RA(l:List gG)(k:Nat)(w:UC)(h:k < l.length):l.map (·.1)=(l.set k ((nth fY l k).1,w,())).map (·.1):=by
 have n1:nth fY l k=l[k]:=cg (t:=fY) h;rw[n1,List.map_set];have e:(l[k].1:bF)=(l.map (·.1))[k]'(by rw[bU];exact h):=by rw[List.getElem_map]
 show _=(l.map (·.1)).set k l[k].1;rw[e,gE]
theorem apa{l:List gG}{k:Nat}{w:UC}{x:gG}(h:k < l.length)(hx:x∈l.set k ((nth fY l k).1,w,())):x∈l\/(x.1=l[k].1/\x.2.1=w):=by
 have n1:nth fY l k=l[k]:=cg (t:=fY) h;rw[n1]at hx;rcases List.mem_or_eq_of_mem_set hx with h1 | h1
 ·exact .inl h1
 ·exact .inr ⟨by rw[h1],by rw[h1]⟩
theorem X7{t:dv}{k:Nat}{w:UC}(h:k < t.1.length)(jj:gV t=true)(hw:BO w=true):gV (Xw t k w)=true:=by
 obtain⟨_,b1,_⟩:=jI jj;refine aIF (l:=t.1) (RA t.1 k w h) jj λx hx=> ?_
 rcases apa h hx with h1 | h1
 ·have:=mC _ _ b1 x h1;unfold Ij at this;rw[au]at this;exact this.2
 ·rw[h1.2];exact hw
theorem aPI{t:dv}{k:Nat}{w:UC}(h:k < t.1.length)(hv:nT t)(hu:Yg w)(hl:w.2.1.length<=9223372036854775807):nT (Xw t k w):=by
 refine⟨⟨hv.1.1,by show(t.1.set k _).length<=_;rw[rU];exact hv.1.2.1,hv.1.2.2⟩,λx hx=> ?_,hv.2.2⟩;rcases apa h hx with h1 | h1
 ·exact hv.2.1 x h1
 ·refine⟨?_,by rw[h1.2];exact hu,by rw[h1.2];exact hl⟩;rw[h1.1];exact(hv.2.1 _ (aO h)).1
theorem aMv{t:dv}{k:Nat}{w:UC}(h:k < t.1.length)(jj:gV t=true)(hw:BO w=true):mj (Xw t k w)=mj t/\dN (Xw t k w)=dN t/\gS (Xw t k w)=gS t:=⟨awr (l:=t.1) (RA t.1 k w h) jj (X7 h jj hw),atX (l:=t.1) (RA t.1 k w h) jj (X7 h jj hw),aF7 (l:=t.1) (RA t.1 k w h) jj (X7 h jj hw)⟩
def aeC(t:dv)(br:Int)(ks:List Int)(sc:Int):UC:=(br,ks.map (λk=>mI k (mj t)),sc,())
theorem aHU(t:dv)(i br:Int)(ks:List Int)(sc:Int):aHT t i br ks sc=if Gr t i br ks then(Xw t i.toNat (aeC t br ks sc),0) else(([],[],0,()),1):=rfl
theorem apf{t:dv}{i br:Int}{ks:List Int}(h:Gr t i br ks=true):gV t=true/\(0<=i/\i < t.1.length/\0<=br/\br < 4/\ks.length<=12)/\∀k∈ks,k < 2305843009213688669/\k≠0:=by unfold Gr at h;simp only[au,aW,cC]at h;refine⟨h.1,h.2.1,λk hk=> ?_⟩;have:=h.2.2;rw[jq]at this;have:=this k hk;unfold M3 at this;simpa using this
theorem aMA{t:dv}{i br:Int}{ks:List Int}(sc:Int)(h:Gr t i br ks=true):BO (aeC t br ks sc)=true:=by have e:=(apf h).2.1;unfold BO aeC;rw[aM ⟨e.2.2.1,e.2.2.2.1⟩,aM (by rw[bU];exact e.2.2.2.2)];rfl
theorem aPM(t:dv)(br:Int)(ks:List Int){sc:Int}(h:nU sc):Yg (aeC t br ks sc):=⟨λs hs=>by
  obtain⟨k,_,rfl⟩:=cS.1 (show s∈ks.map λk=>mI k (mj t) from hs);exact aHO k _,h⟩
theorem aHV{t:dv}{i br sc:Int}{ks:List Int}(hv:nT t)(h:Gr t i br ks=true)(hs:nU sc):
  gV (Xw t i.toNat (aeC t br ks sc))=true/\nT (Xw t i.toNat (aeC t br ks sc))/\mj (Xw t i.toNat (aeC t br ks sc))=mj t/\dN (Xw t i.toNat (aeC t br ks sc))=dN t/\gS (Xw t i.toNat (aeC t br ks sc))=gS t:=by
 obtain⟨jj,e,_⟩:=apf h;have hk:i.toNat < t.1.length:=ak;have hw:=aMA sc h;exact⟨X7 hk jj hw,aPI hk hv (aPM t br ks hs) (by show(ks.map _).length<=_;rw[bU];omega),aMv hk jj hw⟩
def P7:gI:=([],true,())
def rq(r:gI):Prop:=r.1.length<=1000000000/\Bytes r.1
def mL(n:Nat)(r:gI):List Int×gI:=if r.2.1=true\/r.1.length < n then([],P7) else(r.1.take n,(r.1.drop n,r.2))
def Ob(l:List Int):Int:=l.foldl (λn b=>n*256+b) 0
def rS(r:gI):Int×gI:=(Ob (mL 8 r).1,(mL 8 r).2)
theorem aiu:rq P7:=⟨aJ _,λx hx=>by cases hx⟩
theorem z7{n:Nat}{r:gI}(h:rq r):(mL n r).1.length<=n/\Bytes (mL n r).1/\rq (mL n r).2:=by
 unfold mL;split
 ·exact⟨aJ _,λx hx=>(by cases hx),aiu⟩
 ·refine⟨by rw[bp];omega,λx hx=>h.2 x (fg hx),?_,λx hx=>h.2 x (List.mem_of_mem_drop hx)⟩;show(r.1.drop n).length<=_;rw[dp];have:=h.1;omega
theorem azq(l:List Int)(b:Int):Ob (l++ [b])=Ob l*256+b:=by unfold Ob;rw[List.foldl_append];rfl
theorem anT:∀(l:List Int) (n:Int) (k:Nat),Bytes l->0<=n->n < 256^k->0<=l.foldl (λn b=>n*256+b) n/\l.foldl (λn b=>n*256+b) n < 256^(k+l.length)
 |[],n,k,_,h0,h1=>⟨h0,h1⟩
 |b::l,n,k,hb,h0,h1=>by obtain⟨aO8,aSM⟩:=hb b aL;have e:(256:Int)^(k+1)=256^k*256:=fJ 256 k;have:=anT l (n*256+b) (k+1) (λx hx=>hb x (aI _ hx)) ak (by rw[e];omega);rw[show k+(b::l).length=k+1+l.length by rw[aA];omega];exact this
theorem avU{l:List Int}(h:Bytes l):0<=Ob l/\Ob l < 256^l.length:=by have:=anT l 0 0 h (ix 0) (by decide);rw[aN]at this;exact this
theorem agv{a b:Nat}(h:a<=b):(256:Int)^a<=256^b:=by have:((256^a:Nat):Int)<=((256^b:Nat):Int):=Int.ofNat_le.2 (Nat.pow_le_pow_right (by decide) h);rw[kS,kS]at this;exact this
theorem aPu{l:List Int}(h:Bytes l)(h8:l.length<=8):nU (Ob l):=by have e:=avU h;have e2:=agv h8;have e3:(256:Int)^8=18446744073709551616:=rfl;exact⟨e.1,ak⟩
theorem Ut{r:gI}(h:rq r):nU (rS r).1/\rq (rS r).2:=⟨aPu (z7 h).2.1 (z7 h).1,(z7 h).2.2⟩
theorem aSh{n b:Int}(h0:0<=n)(h1:n < 72057594037927936)(hb:ahk b):cG .or .u64 (mD .u64 n 8) (dX .u64 b)=n*256+b:=by have e:=(Vi (n:=n) (b:=b) ⟨h0,ak⟩ hb).1;rw[wW 56 (by rfl) ak]at e;have p:(2:Int)^56=72057594037927936:=rfl;rw[p]at e;omega
def aAo:gI->Prop:=λ_=>True
def aMd:gI->gI:=λ_=>P7
def Rh:Fs Tryz.prog aAo bt aMd:=eN 177 Tryz.f177 (λo0=>([.ptr (.bm 0) 0 [] 0],[.obj 0 false (.d tW o0)])) (λx=>⟨.nil,[.obj 0 false (.d tW x)],[]⟩) [none] [] {Nw:=[⟨0,[.arr],tW⟩]}
theorem aHg{R:Type}(o0)(k:K1 R):Rh.A o0 k=k (Rh.out (([]:List Int),(true,o0.2.2))):=bY
theorem aHh:Rh.Ok:=by intro o _;rw[aHg];rfl
theorem TS:Rh.RS:=rE [.d tW] Rh
def aoK:=Rh.eS aHh
def agE:gI->Int->((gI)×(Int)):=λo0 y=>(o0,y)
def aAr:gI->Prop:=λ_=>True
def awe:gI->Int:=λo=>(o.1.length:Int)
def ab2:Fs Tryz.prog aAr agE awe:=eN 127 Tryz.f127 (λo0=>([.ptr (.bm 0) 0 [] 0],[.obj 0 false (.d tW o0)])) (λx=>⟨.d ti x.2,[.obj 0 false (.d tW x.1)],[]⟩) [none]
theorem aHl{R:Type}(o0)(k:K1 R):ab2.A o0 k=k (ab2.out (o0,(o0.1.length:Int))):=bY
theorem aHm:ab2.Ok:=by intro o _;rw[aHl];rfl
theorem aAs:ab2.RS:=rE [.d tW] ab2
def aHn:=ab2.eS aHm
def aoP:gI->Bool->((gI)×(Bool)):=λo0 y=>(o0,y)
def aHt:gI->Prop:=λ_=>True
def aHs:gI->Bool:=λo=> !o.2.1
def atp:Fs Tryz.prog aHt aoP aHs:=eN 126 Tryz.f126 (λo0=>([.ptr (.bm 0) 0 [] 0],[.obj 0 false (.d tW o0)])) (λx=>⟨.d .bool x.2,[.obj 0 false (.d tW x.1)],[]⟩) [none]
theorem aMh{R:Type}(o0)(k:K1 R):atp.A o0 k=k (atp.out (o0,(!o0.2.1))):=bY
theorem aMi:atp.Ok:=by intro o _;rw[aMh];rfl
theorem aHu:atp.RS:=rE [.d tW] atp
def aMj:=atp.eS aMi
def aAA:(Int×gI)->Prop:=λ(n,o)=>0<=n/\o.1.length<=1000000000
def X6:(Int×gI)->(Bs×gI):=λ(n,o)=>mL n.toNat o
def Jl:Fs Tryz.prog aAA bt X6:=eN 178 Tryz.f178 (λ(n,o0)=>([.ptr (.bm 0) 0 [] 0,.d ti n],[.obj 0 false (.d tW o0)])) (λx=>⟨.d tB x.1,[.obj 0 false (.d tW x.2)],[]⟩) [none,some ti] [aoK,SO] {res:=[some tB],Nw:=[⟨0,[.arr],tW⟩]}
theorem aHF{R:Type}(n o0)(k:K1 R):Jl.A (n,o0) k=aH (o0.2.1) (al (Rh.call o0) λx1=>k (Jl.out (([]:List Int),x1))) (aH ((rz n (o0.1.length:Int))) (al (Rh.call o0) λx2=>k (Jl.out (([]:List Int),x2))) (aH (inc n (o0.1.length:Int)) (al (AM.call (cut o0.1 0 ((ae n) - 0))) λx3=>aH (inc n (o0.1.length:Int)) (aH (decide (0=0/\(0+x3.1)<=(ag x3.2))) (k (Jl.out ((cut x3.2 0 x3.1),((cut o0.1 (ae n) ((ag o0.1) - (ae n))),o0.2)))) none) none) none)):=bY
theorem aHG:Jl.Ok:=by
 rintro⟨n,o⟩ ⟨h0,hl⟩;have h0:0<=n:=h0;have hl:o.1.length<=1000000000:=hl;obtain⟨k,rfl⟩:∃k:Nat,n=k:=⟨n.toNat,ak⟩;rw[aHF];simp only[bt,X6,mL,aa,Nat.sub_zero];cases h2:o.2.1
 ·by_cases hn:o.1.length < k
  ·rw[cR ak,if_pos (ff hn),TS (d:=o) trivial];rfl
  ·have e1:cut o.1 0 k=o.1.take k:=rfl;have e2:cut o.1 k (o.1.length - k)=o.1.drop k:=by unfold cut;rw[aY];rw[dp];omega
   rw[cn ak,if_neg (by intro x;rcases x with x | x;exact absurd x (by decide);exact hn x),uI ak ak,e1,e2,Ni (d:=o.1.take k) (by show(o.1.take k).length<=_;rw[bp];omega)];simp only[ao,aj,ah,bt,HW,aN,ax,jh,cr,eV]
 ·rw[aj,if_pos (lV rfl),TS (d:=o) trivial];rfl
theorem T6:Jl.RS:=rE [.d ti,.d tW] Jl
def ace:=Jl.eS aHG
abbrev T8:=Int×Bs×Int×Int×gI
def ao0:T8->Int->((gI)×(Int)):=λ(n,t7,t8,t9,BZ) y=>(BZ,y)
def aoZ:T8->Prop:=λ(n,l,m,i,o)=>Bytes l/\l.length<=8/\m=l.length/\∃k:Nat,k<=l.length/\i=k/\n=Ob (l.take k)
def aAC:T8->Int:=λ(n,l,m,i,o)=>Ob l
def aHJ:gI->Prop:=λo=>rq o
def T7:gI->(Int×gI):=λo=>rS o
def zW:Ls aoZ ao0 aAC:=rW (λ(n,t7,t8,t9,BZ)=>⟨([bE,bE,bE,.d tu n,bE,bE,bE,.d tB t7,.d ti t8,.d ti t9]++aP 10 []),dK (.d tW BZ),(ab 20 [])⟩) (λx=>(.exit 0,⟨([bE,bE,bE,.d tu x.2]++aP 16 []),dK (.d tW x.1),(ab 20 [])⟩))
def Rt:Fs Tryz.prog aHJ bt T7:=eN 125 Tryz.f125 (λo0=>([.ptr (.bm 0) 0 [] 0],[.obj 0 false (.d tW o0)])) (λx=>⟨.d tu x.1,[.obj 0 false (.d tW x.2)],[]⟩) [none] [ace] {loops:=nX [(3,{aV:=[3,7,8,9]})],outs:=nV [(3,{aV:=[3]},{aV:=[2]})],fC:=na [(3,zW.E)]}
theorem ao1:zW.RS:=rL [.d tu,.d tB,.d ti,.d ti,.d tW] zW
theorem Ru{R:Type}(n t7 t8 t9 BZ)(kn:K2 R)(kx:K3 R):Rt.R 0 zW (n,t7,t8,t9,BZ) kn kx=aH ((gq t9 t8)) (aH (eo t9 (t7.length:Int)) (kn (zW.st ((cG .or .u64 (mD .u64 n 8) (dX .u64 (nth tb t7 (ae t9)))),t7,t8,(bI .i64 t9 1),BZ))) none) (zW.go kx (BZ,n)):=bY
theorem aMq{R:Type}(o0)(k:K1 R):Rt.A o0 k=al (Jl.call (8,o0)) λx1=>al (zW.call (0,x1.1,(x1.1.length:Int),0,x1.2)) λx2=>k (Rt.out (x2.2,x2.1)):=bY
theorem atA:(Rt.kN 0 zW):=by
 refine(Rt.mh 0 zW) (λ(n,l,m,i,o)=>l.length - i.toNat) ?_
 rintro⟨n,l,m,i,o⟩ ⟨hb,h8,rfl,k,hk,rfl,rfl⟩;have h8:l.length<=8:=h8;have hk:k<=l.length:=hk;by_cases h:k < l.length
 ·left;have hx:=hb _ (aO h);have n1:nth (.int .u8) l k=l[k]:=cg (t:= .int .u8) h;have ht:(l.take k).length=k:=by rw[bp];omega
  have b0:=avU (l:=l.take k) λx hx=>hb x (fg hx)
  rw[ht]at b0;have b1:=agv (show k<=7 by omega);have b2:(256:Int)^7=72057594037927936:=rfl;refine⟨(Ob (l.take (k+1)),l,l.length,((k+1:Nat):Int),o),⟨hb,h8,rfl,k+1,ak,rfl,rfl⟩,by simp only[aa];omega,rfl,λkn kx=> ?_⟩;rw[Ru,aU ak,bg ak ak,aa,n1,N.mO ak,aSh b0.1 ak hx,ik h,azq];rfl
 ·right;obtain rfl:k=l.length:=ak;intro R kn kx;rw[Ru,aR ak,ao,bK];rfl
theorem aMr:Rt.Ok:=by intro o h;have h:rq o:=h;have t:=z7 (n:=8) h;rw[aMq,T6 (d:=(8,o)) ⟨by decide,h.1⟩];simp only[ah,bt,X6];rw[show ae 8=8 from rfl,ao1 (d:=(0,(mL 8 o).1,(mL 8 o).1.length,0,(mL 8 o).2)) ⟨t.2.1,t.1,rfl,0,aJ _,rfl,rfl⟩];rfl
theorem Jm:Rt.RS:=rE [.d tW] Rt
def awi:=Rt.eS aMr 1 ⟨.fp atA,trivial⟩
def aAv:Bs->Prop:=λb=>b.length<=1000000000
def aj0:Bs->gI:=λb=>(b,false,())
def Wi:Fs Tryz.prog aAv bt aj0:=eN 119 Tryz.f119 (λb=>([.d tB b],[])) (λx=>⟨.ptr (.new 0 0) 0 [] 0,[],[.obj 0 false (.d tW x)]⟩) [some tB] [SO] {bJ:=[6],Nw:=[⟨2,[.arr],tW⟩]}
theorem aHv{R:Type}(b)(k:K1 R):Wi.A b k=al (AM.call b) λx1=>aH (decide (0=0/\(0+x1.1)<=(ag x1.2))) (k (Wi.out ((cut x1.2 0 x1.1),(false,())))) none:=bY
theorem aHw:Wi.Ok:=by intro b hb;have hb:b.length<=1000000000:=hb;rw[aHv,Ni (d:=b) (by show b.length<=_;omega)];simp only[ah,bt,HW,aN,ax,jh,cr,aj,eV];rfl
theorem agH:Wi.RS:=rE [.d tB] Wi
def aoQ:=Wi.eS aHw
abbrev ack:=Int×gI
def Gm:ack->Bool->((Int×gI)×(Bool)):=λ(o0,o2) y=>((o0,o2),y)
def atC:ack->Prop:=λ(a,o)=>0<=a
def Rw:ack->Bool:=λ(a,o)=>decide (o.1.length<=a.toNat\/8 < a.toNat\/(0 < a.toNat/\nth (.int .u8) o.1 a.toNat=0))
def DK:Fs Tryz.prog atC Gm Rw:=eN 176 Tryz.f176 (λ(o0,o2)=>([.ptr (.bm 0) 0 [] 0,.ptr (.bm 1) 0 [] 0],[.obj 0 false (.d ti o0),.obj 0 false (.ptr (.bm 2) 0 [] 0),.obj 0 false (.d tW o2)])) (λx=>⟨.d .bool x.2,[.obj 0 false (.d ti x.1.1),.obj 0 false (.ptr (.bm 2) 0 [] 0),.obj 0 false (.d tW x.1.2)],[]⟩) [none,none]
theorem aAH{R:Type}(o0 o2)(k:K1 R):DK.A (o0,o2) k=aH ((Cm o0 (o2.1.length:Int))) (k (DK.out ((o0,o2),true))) (aH ((rz o0 8)) (k (DK.out ((o0,o2),true))) (aH ((rz o0 0)) (aH (eo o0 (o2.1.length:Int)) (k (DK.out ((o0,o2),(qY (nth tb o2.1 (ae o0)) 0)))) none) (k (DK.out ((o0,o2),false))))):=bY
theorem aAI:DK.Ok:=by
 rintro⟨a,o⟩ h0;obtain⟨k,rfl⟩:∃k:Nat,a=k:=⟨a.toNat,by have h0:0<=a:=h0;omega⟩;rw[aAH];simp only[Gm,Rw,aa];by_cases h1:o.1.length<=k
 ·rw[gr ak,aM (lV h1)];rfl
 by_cases h2:8 < k
 ·rw[eE ak,cR ak,aM (ff (lV h2))];rfl
 by_cases h3:0 < k
 ·rw[eE ak,cn ak,cR ak,bg ak ak];simp only[ao,aj];by_cases h4:nth (.int .u8) o.1 k=0
  ·rw[du h4,aM (ff (ff ⟨h3,h4⟩))]
  ·rw[eH h4,aS (by rintro(x | x | x);exact h1 x;exact h2 x;exact h4 x.2)]
 ·rw[eE ak,cn ak,cn ak,aS (by rintro(x | x | x);exact h1 x;exact h2 x;exact h3 x.1)];rfl
theorem acm:DK.RS:=rE [.d ti,.d tW] DK
def aAJ:=DK.eS aAI
def Bh:List Int->Nat->Int->(Int×Nat)⊕Unit
 |[],_,_=> .inr ()
 |d::l,a,n=>if 8 < a\/(0 < a/\d=0) then .inr () else if d < 128 then .inl (n+d%128*128^a,a+1) else Bh l (a+1) (n+d%128*128^a)
def dC(r:gI):Int×gI:=match Bh r.1 0 0 with | .inl v=>(v.1,(r.1.drop v.2,r.2)) | .inr _=>(0,P7)
theorem asO(k:Nat):(128:Int)^k=((128^k:Nat):Int):=by rw[kS];rfl
theorem amz{n d k:Nat}(hk:k<=8)(hn:n < 128^k)(hd:d < 128):cG .or .i64 (n:Int) (mD .i64 (d:Int) ((7*k:Nat):Int))=((n+d*128^k:Nat):Int)/\n+d*128^k < 128^(k+1)/\128^(k+1)<=9223372036854775808:=by
 have p:128^k<=128^8:=Nat.pow_le_pow_right (by decide) hk;have p8:128^8=72057594037927936:=rfl;have e1:128^(k+1)=128^k*128:=Nat.pow_succ (n:=128) (m:=k);have e2:2^(7*k)=128^k:=by rw[Nat.pow_mul]
 have e3:d*128^k<=127*128^k:=cQ _ ak;refine⟨?_,ak,ak⟩;have s:mD .i64 (d:Int) ((7*k:Nat):Int)=((d*128^k:Nat):Int):=by
  rw[mD];have e:min (ae ((7*k:Nat):Int)) IntKind.i64.bits=7*k:=by simp only[IntKind.bits,aa];omega
  rw[e,show(2:Int)^(7*k)=((2^(7*k):Nat):Int) by rw[kS];rfl,e2,<-kR];exact uG ak ak
 rw[s];have e:(bf 64 (n:Int) ||| bf 64 ((d*128^k:Nat):Int)).toNat=n+d*128^k:=by
  rw[BitVec.toNat_or];have a:(bf 64 ((d*128^k:Nat):Int)).toNat=2^(7*k)*d:=by rw[jf,kf,e2,qm];exact j6 (by rw[qm];omega)
  have b:(bf 64 (n:Int)).toNat=n:=by rw[jf,kf];exact j6 ak
  rw[a,b,Nat.or_comm,<-Nat.two_pow_add_eq_or_of_lt (by rw[e2];exact hn),e2,qm];omega
 show IntKind.i64.wrap ((bf 64 (n:Int) ||| bf 64 ((d*128^k:Nat):Int)).toNat:Int)=_;rw[e];exact uG ak ak
theorem ajp:∀(l:List Int) (a:Nat) (n:Int) (v:Int×Nat),Bytes l->a<=9->0<=n->n < 128^a->Bh l a n= .inl v->0<=v.1/\v.1 < 9223372036854775808/\a < v.2/\v.2<=a+l.length/\v.2<=9
 |[],a,n,v,_,_,_,_,h=>by cases h
 |d::l,a,n,v,hb,ha,h0,h1,h=>by
  have hx:=hb d aL;obtain⟨x1,x2⟩:=hx;rw[Bh]at h;split at h
  ·cases h
  ·rename_i hc;have aVc:a<=8:=ak;rw[asO]at h1 h;obtain⟨nn,rfl⟩:∃m:Nat,n=m:=⟨n.toNat,ak⟩;obtain⟨dn,aSz⟩:∃m:Nat,d%128=m:=⟨(d%128).toNat,ak⟩;have g:=(amz (n:=nn) (d:=dn) aVc ak ak).2;rw[aSz]at h;have ec:((nn:Int)+(dn:Int)*((128^a:Nat):Int))=((nn+dn*128^a:Nat):Int):=by rw[Int.natCast_add,kR]
   rw[ec]at h;split at h
   ·cases h;simp only[aA];exact⟨ak,ak,ak,ak,ak⟩
   ·have:=ajp l (a+1) _ v (λx hx=>hb x (aI _ hx)) ak ak (by rw[asO];omega) h;simp only[aA];exact⟨this.1,this.2.1,ak,ak,this.2.2.2.2⟩
theorem rY{r:gI}(h:rq r):0<=(dC r).1/\(dC r).1<=9223372036854775807/\rq (dC r).2:=by
 unfold dC;cases hf:Bh r.1 0 0 with
 |inl v=>
  have:=ajp r.1 0 0 v h.2 (by decide) (by decide) (by decide) hf;refine⟨this.1,by have:=this.2.1;show v.1<=_;omega,?_,λx hx=>h.2 x (List.mem_of_mem_drop hx)⟩;show(r.1.drop v.2).length<=_;rw[dp];have:=h.1;omega
 |inr _=>exact⟨ix 0,(show(0:Int)<=9223372036854775807 by decide),aiu⟩
theorem anV:∀(f:Nat) (n:Int) (a:Nat) (m:Int) (rest:List Int),0<=n->n < 128^(f+1)->a+f<=8->(a=0\/0 < n)->
  Bh ((gH f n).1++(gH f n).2::rest) a m= .inl (m+n*128^a,a+(gH f n).1.length+1)
 | 0,n,a,m,rest,h0,h1,ha,hp=>by have h1:n < 128:=h1;show Bh (n::rest) a m=_;rw[Bh,if_neg ak,if_pos h1,fa h0 h1];rfl
 |f+1,n,a,m,rest,h0,h1,ha,hp=>by
  rw[gH];have e:(128:Int)^(f+1+1)=128^(f+1)*128:=fJ 128 (f+1);split
  ·rename_i h;show Bh ((n%128+128)::((gH f (n / 128)).1++(gH f (n / 128)).2::rest)) a m=_;rw[Bh,if_neg ak,if_neg ak,anV f (n / 128) (a+1) _ rest ak ak ak (ff ak)];have e2:(128:Int)^(a+1)=128^a*128:=fJ 128 a;have e3:(n%128+128)%128=n%128:=ak;have e4:m+n%128*128^a+n / 128*(128^a*128)=m+n*128^a:=by
    have:n*128^a=(n%128+n / 128*128)*128^a:=by rw[show n%128+n / 128*128=n by omega]
    rw[this,Int.add_mul,rn (n / 128),qe 128 (128^a),Int.add_assoc]
   rw[e3,e2,e4];simp only[aA];rw[show a+1+(gH f (n / 128)).1.length+1=a+((gH f (n / 128)).1.length+1)+1 by omega]
  ·rename_i h;show Bh (n::rest) a m=_;rw[Bh,if_neg ak,if_pos ak,fa h0 ak];rfl
theorem ID(n:Int)(h:Ht n)(rest:List Int)(u:Bool×Unit):dC (gl n++rest,u)=(n,(rest,u)):=by
 have h0:=h.1;have h1:=h.2;have e8:(128:Int)^(8+1)=9223372036854775808:=rfl;have e10:(128:Int)^(10+1)=151115727451828646838272:=rfl;have er:gH 10 n=gH 8 n:=KM 10 8 n (by rw[e10];omega) (by rw[e8];omega);have el:gl n++rest=(gH 8 n).1++(gH 8 n).2::rest:=by unfold gl;rw[er,aF];rfl
 have e:=anV 8 n 0 0 rest h0 (by rw[e8];omega) (by decide) (lV rfl);unfold dC;show(match Bh (gl n++rest) 0 0 with | .inl v=>(v.1,((gl n++rest).drop v.2,u)) | .inr _=>(0,P7))=_;rw[el,e];show(0+n*128^0,(((gH 8 n).1++(gH 8 n).2::rest).drop (0+(gH 8 n).1.length+1),u))=_;rw[lf,xj,Int.zero_add,aN,List.append_cons,kT (by rw[ai];rfl)]
theorem aGl(n:Int)(h:nU n):Ob (jo n)=n:=by obtain⟨h0,h1⟩:=h;unfold Ob jo;simp only[bA,cY];omega
theorem JY(n:Int)(h:nU n)(rest:List Int):rS (jo n++rest,false,())=(n,(rest,false,())):=by
 unfold rS mL;have l8:=cj n;rw[if_neg (by
  intro x;rcases x with x | x
  ·have x:false=true:=x;cases x
  ·have x:(jo n++rest).length < 8:=x;rw[ai]at x;omega)]
 show(Ob ((jo n++rest).take 8),((jo n++rest).drop 8,false,()))=_;rw[kU l8,kT l8,aGl n h]
abbrev ER:=Int×gI×Int
def te:ER->AS:=λ(n,BZ,n4)=>⟨([.ptr (.bm 0) 0 [] 0,eT 1,bE,.d ti n,eT 4,.fn 176 (.cons (eT 4) (.cons (eT 1) (.nil)))]++aP 35 []),dK (.d tW BZ),([[],dK (.ptr (.bm 0) 0 [] 0),[],[],dK (.d ti n4)]++bM 36 [])⟩
def CH:gI->Exit×AS:=λx=>(.ret,⟨([.ptr (.bm 0) 0 [] 0,bE,.d ti (0:Int)]++aP 38 []),dK (.d tW x),(ab 41 [])⟩)
def tN:(Int×gI×Int)->Exit×AS:=λx=>(.exit 0,⟨([.ptr (.bm 0) 0 [] 0,eT 1,bE,.d ti x.1,eT 4]++aP 36 []),dK (.d tW x.2.1),([[],dK (.ptr (.bm 0) 0 [] 0),[],[],dK (.d ti x.2.2)]++bM 36 [])⟩)
abbrev TU:=(gI)⊕((Int×gI×Int))
abbrev agG:=(gI)⊕((Int×gI×Int))
def Ji:TU->Out (Exit×AS):=λx=> .br x.isLeft (.get x.getLeft? λa=> .ok (CH a)) (.get x.getRight? λb=> .ok (tN b))
def nh:ER->agG->TU:=λ(n,BZ,n4) y=>match y with | .inl y=> .inl y | .inr z=> .inr (z)
def CG:ER->Prop:=λ(n,o,i)=>rq o/\∃(k m:Nat),k<=9/\i=k/\n=m/\m < 128^k
def tM:ER->agG:=λ(n,o,i)=>match Bh (o.1.drop i.toNat) i.toNat n with | .inl v=> .inr (v.1,o,(v.2:Int)) | .inr _=> .inl P7
def aHr:gI->Prop:=λo=>rq o
def vW:gI->(Int×gI):=λo=>dC o
def agF:=dy.fp te CG nh tM Ji
def Rj:ER->Option TU:=gB agF te
def DJ:Fs Tryz.prog aHr bt vW:=eN 121 Tryz.f121 (λo0=>([.ptr (.bm 0) 0 [] 0],[.obj 0 false (.d tW o0)])) (λx=>⟨.d ti x.1,[.obj 0 false (.d tW x.2)],[]⟩) [none] [aAJ,aoK] {bJ:=[1],loops:=nX [(3,{aV:=[0,1,3,4,5],sites:=[1,4]})],outs:=nV [(3,{aV:=[0,1,3,4],sites:=[1,4]},{aV:=[0,2]})],fC:=na [(3,agF)],Nw:=[⟨0,[.arr],tW⟩]}
def TT:= @ee Tryz.prog (jy DJ.G) DJ.an 0 Tryz.f121 0 _ te
abbrev ab3:=kj Tryz.prog (jy DJ.G) DJ.an 0 Tryz.f121 0 te CG nh tM Ji
theorem aoO:iW Rj CG nh tM:=l6 (jk [.d ti,.d tW,.d ti] λ_=>bY)
theorem TV:mP @TT te CG nh tM Ji ab3:=nD
theorem Rk{R:Type}(n:Int)(BZ:gI)(n4:Int)(kn:AS->Option R)(kx:Exit->AS->Option R):TT (n,BZ,n4) kn kx=al (DK.call (n4,BZ)) λx1=>aH (x1.2) (al (Rh.call x1.1.2) λx2=>kx (CH x2).1 (CH x2).2) (aH (eo x1.1.1 (((ag x1.1.2.1):Nat):Int)) (aH (mF (gv .i64 (7:Int) x1.1.1)) (aH ((gq (nth tb x1.1.2.1 (ae x1.1.1)) (128:Int))) (kx (tN ((cG .or .i64 n (mD .i64 (dX .i64 (mR (nth tb x1.1.2.1 (ae x1.1.1)) (128:Int))) (gv .i64 (7:Int) x1.1.1))),x1.1.2,(bI .i64 x1.1.1 (1:Int)))).1 (tN ((cG .or .i64 n (mD .i64 (dX .i64 (mR (nth tb x1.1.2.1 (ae x1.1.1)) (128:Int))) (gv .i64 (7:Int) x1.1.1))),x1.1.2,(bI .i64 x1.1.1 (1:Int)))).2) (kn (te ((cG .or .i64 n (mD .i64 (dX .i64 (mR (nth tb x1.1.2.1 (ae x1.1.1)) (128:Int))) (gv .i64 (7:Int) x1.1.1))),x1.1.2,(bI .i64 x1.1.1 (1:Int)))))) none) none):=bY
theorem aMf{R:Type}(o0)(k:K1 R):DJ.A o0 k=al (Rj (0,o0,0)) λx3=>aH (x3.isLeft) (al (x3.getLeft?) λa4=>k (DJ.out (0,a4))) (al (x3.getRight?) λb5=>aH (inc b5.2.2 (b5.2.1.1.length:Int)) (k (DJ.out (b5.1,((cut b5.2.1.1 (ae b5.2.2) ((ag b5.2.1.1) - (ae b5.2.2))),b5.2.1.2)))) none):=bY
theorem ato:ab3:=by
 refine TV (λ(n,o,i)=>9 - i.toNat) ?_
 rintro⟨n,o,i⟩ ⟨hr,k,m,hk,rfl,rfl,hm⟩;have hk:k<=9:=hk;have hr:rq o:=hr;by_cases hw:o.1.length<=k\/8 < k\/(0 < k/\nth (.int .u8) o.1 k=0)
 ·right;have hf:Bh (o.1.drop k) k (m:Int)= .inr ():=by
   by_cases h:k < o.1.length
   ·have n1:nth (.int .u8) o.1 k=o.1[k]:=cg (t:= .int .u8) h;rw[aq h,Bh,if_pos (by rw[n1]at hw;rcases hw with x | x | x;exact absurd x ak;exact lV x;exact ff x)]
   ·rw[dZ ak];rfl
  refine⟨CH P7,?_,λkn kx=> ?_⟩
  ·simp only[nh,tM,aa,hf];rfl
  ·rw[Rk,acm (d:=((k:Int),o)) (gK k)];simp only[ah,Gm,Rw,aa];rw[aM hw,aj,TS (d:=o) trivial];rfl
 ·have h:k < o.1.length:=ak;have hx:=hr.2 _ (aO h);obtain⟨x1,x2⟩:=hx;have n1:nth (.int .u8) o.1 k=o.1[k]:=cg (t:= .int .u8) h;have hc:¬(8 < k\/(0 < k/\o.1[k]=0)):=λx=>hw (x.elim (λy=> .inr (.inl y)) λy=> .inr (.inr ⟨y.1,n1.trans y.2⟩))
  obtain⟨dn,aSz⟩:∃d:Nat,o.1[k]=d:=⟨o.1[k].toNat,ak⟩;have g:=amz (n:=m) (d:=dn%128) (k:=k) ak hm ak;have step:∀ {R:Type} (kn:AS->Option R) (kx:Exit->AS->Option R),TT ((m:Int),o,(k:Int)) kn kx=aH (gq o.1[k] 128) (kx (tN (((m+dn%128*128^k:Nat):Int),o,((k+1:Nat):Int))).1 (tN (((m+dn%128*128^k:Nat):Int),o,((k+1:Nat):Int))).2) (kn (te (((m+dn%128*128^k:Nat):Int),o,((k+1:Nat):Int)))):=by intro R kn kx;rw[Rk,acm (d:=((k:Int),o)) (gK k)];simp only[ah,Gm,Rw,aa];rw[aS hw,ao,bg ak ak,n1,aSz,N.aRX ak,tE ak,N.aSU,N.cN ak,g.1,N.mO ak];rfl
  have ef:Bh (o.1.drop k) k (m:Int)=if o.1[k] < 128 then .inl (((m+dn%128*128^k:Nat):Int),k+1) else Bh (o.1.drop (k+1)) (k+1) ((m+dn%128*128^k:Nat):Int):=by
   have ec:(m:Int)+o.1[k]%128*128^k=((m+dn%128*128^k:Nat):Int):=by rw[aSz,asO,Int.natCast_add,kR];rfl
   rw[aq h,Bh,if_neg hc,ec]
  by_cases hl:o.1[k] < 128
  ·right;refine⟨tN (((m+dn%128*128^k:Nat):Int),o,((k+1:Nat):Int)),?_,λkn kx=> ?_⟩
   ·simp only[nh,tM,aa,ef,if_pos hl];rfl
   ·rw[step,aU hl,aj]
  ·left;refine⟨(((m+dn%128*128^k:Nat):Int),o,((k+1:Nat):Int)),⟨hr,k+1,_,ak,rfl,rfl,g.2.1⟩,by simp only[aa];omega,?_,λkn kx=> ?_⟩
   ·simp only[nh,tM,aa,ef,if_neg hl]
   ·rw[step,aR hl,ao]
theorem aMg:DJ.Ok:=by
 intro o h;have h:rq o:=h;rw[aMf,aoO (d:=(0,o,0)) ⟨h,0,0,by decide,rfl,rfl,by decide⟩];simp only[ah,nh,tM,aX,aD,bt,vW,dC];cases hf:Bh o.1 0 0 with
 |inl v=>
  have g:=ajp o.1 0 0 v h.2 (by decide) (by decide) (by decide) hf;have e2:cut o.1 v.2 (o.1.length - v.2)=o.1.drop v.2:=by unfold cut;rw[aY];rw[dp];omega
  simp only[dJ,c9,ao,ah,aa];rw[uI ak ak,aj,e2]
 |inr _=>rfl
theorem pR:DJ.RS:=rE [.d tW] DJ
def X4:=DJ.eS aMg 1 ⟨.fp ato,trivial⟩
theorem gj{a b:List Int}(ha:Bytes a)(hb:Bytes b):Bytes (a++b):=λx hx=>by
 rcases bB.1 hx with h | h
 ·exact ha x h
 ·exact hb x h
theorem ab6:∀(f:Nat) (n:Int),0<=n->n < 128^(f+1)->Bytes (gH f n).1/\ahk (gH f n).2
 | 0,n,h0,h1=>by have h1:n < 128:=h1;exact⟨λx hx=>(by cases hx),h0,by show n < 256;omega⟩
 |f+1,n,h0,h1=>by
  have e:(128:Int)^(f+1+1)=128^(f+1)*128:=fJ 128 (f+1);rw[gH];split
  ·have ih:=ab6 f (n / 128) ak ak;refine⟨λx hx=> ?_,ih.2⟩;rcases cd.1 hx with rfl | hx
   ·exact⟨ak,ak⟩
   ·exact ih.1 x hx
  ·exact⟨λx hx=>(by cases hx),h0,by show n < 256;omega⟩
theorem kZ{n:Int}(h:Ht n):Bytes (gl n):=by have e10:(128:Int)^(10+1)=151115727451828646838272:=rfl;obtain⟨h0,h1⟩:=h;have:=ab6 10 n h0 (by rw[e10];omega);unfold gl;exact gj this.1 λx hx=>by rw[bh]at hx;subst hx;exact this.2
theorem ano:∀(ks:List Int) (o:List Int),mE o ks=o++ks.flatMap jo
 |[],o=>by rw[qh,ba];rfl
 |k::ks,o=>by show mE (o++jo k) ks=_;rw[ano ks,dx,aF]
theorem ar2(ks:List Int):Bytes (ks.flatMap jo):=λx hx=>by obtain⟨k,_,hk⟩:=qj.1 hx;exact D7 k x hk
def aJl(b:oq):List Int:=gl b.1.length++(b.1.flatMap jo++(gl b.2.1++(gl b.2.2.1++jo b.2.2.2.1)))
theorem X2(o:List Int){n:Int}(h:0<=n):cF o n=o++gl n:=by rw[cF,if_neg ak]
structure aNQ(b:oq):Prop where
 len:b.1.length<=12
 af:Ht b.2.1
 dl:Ht b.2.2.1
theorem aOe{b:oq}(h:vd b=true):aNQ b:=by unfold vd NQ at h;simp only[au,aW]at h;obtain⟨h1,_,h2,h3,_⟩:=h;exact⟨h1,⟨h2.1,ak⟩,⟨h3.1,ak⟩⟩
theorem uP{n:Nat}(h:n<=1000000000):Ht (n:Int):=⟨ak,ak⟩
theorem aOc(o:List Int){b:oq}(h:aNQ b):aBV o b=o++aJl b:=by unfold aBV aJl;rw[X2 _ (gK _),ano,X2 _ h.af.1,X2 _ h.dl.1];simp only[aF]
theorem au0:∀(bs:List oq) (o:List Int),(∀b∈bs,aNQ b)->bs.foldl aBV o=o++bs.flatMap aJl
 |[],o,_=>by rw[qh,ba];rfl
 |b::bs,o,h=>by rw[bA,aOc o (h b aL),au0 bs _ λx hx=>h x (aI _ hx),dx,aF]
theorem asb{l:Lk}(h:kP l=true):(∀b∈l.1,aNQ b)/\0 < l.1.length/\l.1.length<=4:=by unfold kP at h;simp only[au,cV,aW]at h;exact⟨λb hb=>aOe (h.1 b hb),h.2⟩
theorem aFK{l:Lk}(h:kP l=true):NX l=gl l.1.length++l.1.flatMap aJl:=by unfold NX;rw[if_pos h,au0 _ _ (asb h).1,X2 _ (gK _),aT]
theorem axo{b:oq}(h:aNQ b):Bytes (aJl b):=
 have afX:=h.len
 gj (kZ (uP ak)) (gj (ar2 _) (gj (kZ h.af) (gj (kZ h.dl) (D7 _))))
theorem ayW(l:Lk):Bytes (NX l):=by
 cases h:kP l
 ·unfold NX;rw[h,if_neg (by decide)];exact λx hx=>(by cases hx)
 ·have hk:=asb h;rw[aFK h];refine gj (kZ (uP ak)) λx hx=> ?_
  obtain⟨b,hb,hx⟩:=qj.1 hx;exact axo (hk.1 b hb) x hx
theorem ath{b:List Int}(h:Bytes b)(hl:b.length<=1000000000)(u:Bool×Unit):rq (b,u):=⟨hl,h⟩
def tA:Nat->gI->List Int×gI
 | 0,r=>([],r)
 |k+1,r=>((rS r).1::(tA k (rS r).2).1,(tA k (rS r).2).2)
def D4(k:Nat)(r:gI):oq×gI:=(((tA k r).1,(dC (tA k r).2).1,(dC (dC (tA k r).2).2).1,(rS (dC (dC (tA k r).2).2).2).1,()),(rS (dC (dC (tA k r).2).2).2).2)
def D6:Nat->Int->gI->List oq
 | 0,_,_=> []
 |f+1,n,r=>if 0 < n then(if f=0\/12 < (dC r).1 then [] else(D4 (dC r).1.toNat (dC r).2).1::D6 f (n - 1) (D4 (dC r).1.toNat (dC r).2).2) else []
def tK(b:List Int):List oq:=D6 5 (dC (b,false,())).1 (dC (b,false,())).2
theorem ai4:∀(k:Nat) (r:gI),rq r->GM (tA k r).1/\(tA k r).1.length=k/\rq (tA k r).2
 | 0,r,h=>⟨λx hx=>(by cases hx),rfl,h⟩
 |k+1,r,h=>by
  have e:=Ut h;have ih:=ai4 k _ e.2;refine⟨λx hx=> ?_,by rw[tA,aA,ih.2.1],ih.2.2⟩;rcases cd.1 hx with rfl | hx
  ·exact e.1
  ·exact ih.1 x hx
theorem auX(k:Nat)(r:gI)(h:rq r):aB6 (D4 k r).1/\(D4 k r).1.1.length=k/\rq (D4 k r).2:=by have h1:=ai4 k r h;have h2:=rY h1.2.2;have h3:=rY h2.2.2;have h4:=Ut h3.2.2;exact⟨⟨h1.1,h4.1⟩,h1.2.1,h4.2⟩
theorem aC1:∀(f:Nat) (n:Int) (r:gI),rq r->(∀b∈D6 f n r,aB6 b)/\(D6 f n r).length<=f
 | 0,n,r,h=>⟨λx hx=>(by cases hx),ax _⟩
 |f+1,n,r,h=>by
  have h1:=rY h;have h2:=auX (dC r).1.toNat _ h1.2.2;have ih:=aC1 f (n - 1) _ h2.2.2;rw[D6];split
  ·split
   ·exact⟨λx hx=>(by cases hx),aJ _⟩
   ·refine⟨λx hx=> ?_,by rw[aA];omega⟩;rcases cd.1 hx with rfl | hx
    ·exact h2.1
    ·exact ih.1 x hx
  ·exact⟨λx hx=>(by cases hx),aJ _⟩
theorem awb{b:List Int}(h:Bytes b)(hl:b.length<=1000000000):adD (tK b,())/\(tK b).length<=5:=by have e:=aC1 5 (dC (b,false,())).1 _ (rY (ath h hl (false,()))).2.2;exact⟨e.1,e.2⟩
theorem af5:∀(ks:List Int) (rest:List Int),GM ks->tA ks.length (ks.flatMap jo++rest,false,())=(ks,(rest,false,()))
 |[],rest,_=>rfl
 |k::ks,rest,h=>by
  have e:rS ((k::ks).flatMap jo++rest,false,())=(k,(ks.flatMap jo++rest,false,())):=by rw[dx,aF];exact JY k (h k aL) _
  have ih:=af5 ks rest λx hx=>h x (aI _ hx)
  rw[aA,tA,e,ih]
theorem axk(b:oq)(hb:aB6 b)(hk:aNQ b)(rest:List Int):D4 b.1.length (b.1.flatMap jo++(gl b.2.1++(gl b.2.2.1++(jo b.2.2.2.1++rest))),false,())=(b,(rest,false,())):=by unfold D4;rw[af5 _ _ hb.1];simp only[];rw[ID _ hk.af,ID _ hk.dl,JY _ hb.2]
theorem aCX(b:oq)(rest:List Int):aJl b++rest=gl b.1.length++(b.1.flatMap jo++(gl b.2.1++(gl b.2.2.1++(jo b.2.2.2.1++rest)))):=by unfold aJl;simp only[aF]
theorem alI:∀(bs:List oq) (f:Nat) (rest:List Int),(∀b∈bs,aB6 b)->(∀b∈bs,aNQ b)->bs.length+1<=f->D6 f bs.length (bs.flatMap aJl++rest,false,())=bs
 |[],0,rest,_,_,h=>absurd h (by simp)
 |[],f+1,rest,_,_,_=>by rw[D6,if_neg (by show ¬(0:Int) < ((0:Nat):Int);omega)]
 |b::bs,0,rest,_,_,h=>absurd h (by simp)
 |b::bs,f+1,rest,hu,hk,h=>by
  have ub:=hu b aL;have kb:=hk b aL;have h:bs.length+1+1<=f+1:=h;have e:(b::bs).flatMap aJl++rest=gl b.1.length++(b.1.flatMap jo++(gl b.2.1++(gl b.2.2.1++(jo b.2.2.2.1++(bs.flatMap aJl++rest))))):=by rw[dx,aF,aCX]
  have afX:=kb.len;rw[D6,if_pos (by rw[aA];omega),e,ID _ (uP ak)];simp only[aa];rw[if_neg ak,axk b ub kb];simp only[];rw[show((b::bs).length:Int) - 1=(bs.length:Int) by rw[aA];omega,alI bs f rest (λx hx=>hu x (aI _ hx)) (λx hx=>hk x (aI _ hx)) ak]
theorem aAl{l:Lk}(hu:adD l)(jj:kP l=true)(rest:List Int):tK (NX l++rest)=l.1:=by have hk:=asb jj;unfold tK;rw[aFK jj,aF,ID _ (uP ak)];exact alI l.1 5 rest hu hk.1 ak
def G9(b:List Int):Lk×Bool:=if kP (tK b,())=true/\NX (tK b,())=b then((tK b,()),true) else(([],()),false)
theorem agB{l:Lk}(hu:adD l)(jj:kP l=true):G9 (NX l)=(l,true):=by
 have e:tK (NX l)=l.1:=by have e:=aAl hu jj [];rw[ba]at e;exact e
 unfold G9;rw[e];have e2:((l.1,()):Lk)=l:=rfl;rw[e2,if_pos ⟨jj,rfl⟩]
theorem aG9{b:List Int}(h:(G9 b).2=true):∃l:Lk,kP l=true/\NX l=b/\G9 b=(l,true)/\l=(tK b,()):=by
 unfold G9 at h ⊢;split at h
 ·rename_i hc;exact⟨(tK b,()),hc.1,hc.2,by rw[if_pos hc],rfl⟩
 ·cases h
abbrev aaq:=Bs×Int×Int×Nat×gI×(List oq)
abbrev N0:=Bs×Int×Int×Int×Int×Nat×Nat×(Int×(Int×(Int×Unit)))×gI×(List Int)×(List oq)
abbrev aar:=Nat×gI×(List Int)
def zG:N0->aar->((Bs×Int×Int×Nat×(Int×(Int×(Int×Unit)))×(List oq))×(Nat×gI×(List Int))):=λ(Sh,wG,fL,t27,t28,aaX,aLO,n8,agd,n35,aaU) y=>((Sh,wG,fL,aaX,n8,aaU),y)
def aje:N0->Prop:=λ(b,n,i,t,j,m1,m2,x,r,ks,bs)=>rq r/\ks.length=m2/\m2<=1000/\∃k c:Nat,j=k/\t=c/\k<=c/\c<=12/\m2=k
def FX:N0->aar:=λ(b,n,i,t,j,m1,m2,x,r,ks,bs)=>(m2+(t - j).toNat,(tA (t - j).toNat r).2,ks++(tA (t - j).toNat r).1)
def ajc:aaq->Prop:=λ(b,n,i,m,r,bs)=>rq r/\n<=9223372036854775807/\bs.length=m/\∃k:Nat,i=k/\k<=4/\m=k
def Bd:aaq->(Bs×Nat×(List oq)):=λ(b,n,i,m,r,bs)=>(b,m+(D6 (5 - i.toNat) (n - i) r).length,bs++D6 (5 - i.toNat) (n - i) r)
def ay6:Bs->Prop:=λb=>Bytes b/\b.length<=1000000000
def ajb:Bs->(Lk×Bool):=λb=>G9 b
def pG:Ls ajc bt Bd:=rW (λ(iN,n,i,aPo,n11,n51)=>⟨([.d tB iN,bE,eT 2,bE,eT 11,eT 5,.d ti n,.d ti i]++aP 57 []),[],([[],[],dK (.pr (.dd) fP),[],[],dK (.pr (oh 51 aPo) fP)]++bM 5 ([dK (.d tW n11)]++bM 39 ([dK (.vec 98 ke n51)]++bM 13 [])))⟩) (λx=>(.exit 0,⟨([.d tB x.1,bE,eT 2,bE,bE,eT 5]++aP 59 []),[],([[],[],dK (.pr (.dd) fP),[],[],dK (.pr (oh 51 x.2.1) fP)]++bM 45 ([dK (.vec 98 ke x.2.2)]++bM 13 []))⟩))
def uM:Ls aje zG FX:=rW (λ(Sh,wG,fL,t27,t28,aaX,aLO,n8,agd,n35,aaU)=>⟨([.d tB Sh,bE,eT 2,bE,eT 11,eT 5,.d ti wG,.d ti fL,eT 8]++aP 18 ([.d ti t27,.d ti t28]++aP 36 [])),[],([[],[],dK (.pr (.dd) fP),[],[],dK (.pr (oh 51 aaX) fP),[],[],dK (.pr (oh 35 aLO) (.d (.pair ti (.pair ti (.pair tu .unit))) n8)),[],[],dK (.d tW agd)]++bM 23 ([dK (.vec 75 tu n35)]++bM 15 ([dK (.vec 98 ke aaU)]++bM 13 [])))⟩) (λx=>(.exit 2,⟨([.d tB x.1.1,bE,eT 2,bE,eT 11,eT 5,.d ti x.1.2.1,.d ti x.1.2.2.1,eT 8]++aP 56 []),[],([[],[],dK (.pr (.dd) fP),[],[],dK (.pr (oh 51 x.1.2.2.2.1) fP),[],[],dK (.pr (oh 35 x.2.1) (.d (.pair ti (.pair ti (.pair tu .unit))) x.1.2.2.2.2.1)),[],[],dK (.d tW x.2.2.1)]++bM 23 ([dK (.vec 75 tu x.2.2.2)]++bM 15 ([dK (.vec 98 ke x.1.2.2.2.2.2)]++bM 13 [])))⟩))
def Bc:Fs Tryz.prog ay6 bt ajb:=eN 123 Tryz.f123 (λb=>([.d tB b],[])) (λx=>⟨.cons (.d OZ x.1) (.cons (.d .bool x.2) (.nil)),[],[]⟩) [some tB] [aoQ,X4,awi,Ep,af6,aJU] {loops:=nX [(5,{aV:=[0,2,4,5,6,7],sites:=[2,5,11,51],owns:=[⟨5,[.fst],51,70⟩]}),(11,{aV:=[0,2,4,5,6,7,8,27,28],sites:=[2,5,8,11,35,51],owns:=[⟨8,[.fst],35,96⟩]})],outs:=nV [(5,{aV:=[0,2,5],sites:=[2,5,51]},{aV:=[2,3]}),(11,{aV:=[0,2,4,5,6,7,8],sites:=[2,5,8,11,35,51]},{aV:=[2,3]})],fC:=na [(5,pG.E),(11,uM.E)],res:=[some OZ,none]}
theorem ajd:pG.RS:=rL [.d tB,.d ti,.d ti,.n,.d tW,.d (.slice ke)] pG
theorem Db{R:Type}(iN n i aPo n11 n51)(kn:K2 R)(kx:K3 R):Bc.R 0 pG (iN,n,i,aPo,n11,n51) kn kx=aH ((gq i n)) (al (DJ.call n11) λHC=>aH ((qY i 4)) (pG.go kx (iN,aPo,n51)) (aH ((rz HC.1 12)) (pG.go kx (iN,aPo,n51)) (al (uM.call (iN,n,i,HC.1,0,aPo,0,(0,(0,(0,()))),HC.2,([]:List Int),n51)) λYd=>al (DJ.call Yd.2.2.1) λaVS=>al (DJ.call aVS.2) λaQB=>al (Rt.call aQB.2) λak1=>aH (decide (0=0/\(0+Yd.2.1)<=(ag Yd.2.2.2))) (aH (decide (Yd.1.2.2.2.1<=(ag Yd.1.2.2.2.2.2))) (aH (da (Yd.1.2.2.2.1+1) 48) (kn (pG.st (Yd.1.1,Yd.1.2.1,(bI .i64 Yd.1.2.2.1 1),(Yd.1.2.2.2.1+1),ak1.2,((aQ Yd.1.2.2.2.1 Yd.1.2.2.2.2.2)++ [((cut Yd.2.2.2 0 Yd.2.1),(aVS.1,(aQB.1,(ak1.1,Yd.1.2.2.2.2.1.2.2.2))))])))) none) none) none))) (pG.go kx (iN,aPo,n51)):=bY
theorem ajf:uM.RS:=rL [.d tB,.d ti,.d ti,.d ti,.d ti,.n,.n,.d (.pair ti (.pair ti (.pair tu .unit))),.d tW,.d tU,.d (.slice ke)] uM
theorem L8{R:Type}(Sh wG fL t27 t28 aaX aLO n8 agd n35 aaU)(kn:K2 R)(kx:K3 R):Bc.R 1 uM (Sh,wG,fL,t27,t28,aaX,aLO,n8,agd,n35,aaU) kn kx=aH ((gq t28 t27)) (al (Rt.call agd) λx4=>aH (decide (aLO<=(ag n35))) (aH (da (aLO+1) 8) (kn (uM.st (Sh,wG,fL,t27,(bI .i64 t28 1),aaX,(aLO+1),n8,x4.2,((aQ aLO n35)++ [x4.1]),aaU))) none) none) (uM.go kx ((Sh,wG,fL,aaX,n8,aaU),(aLO,agd,n35))):=bY
theorem aFZ{R:Type}(b)(k:K1 R):Bc.A b k=al (Wi.call b) λx4=>al (DJ.call x4) λx6=>al (pG.call (b,x6.1,0,0,x6.2,([]:List oq))) λaBU=>aH (decide (0=0/\(0+aBU.2.1)<=(ag aBU.2.2))) (al (pH.call ((cut aBU.2.2 0 aBU.2.1),())) λaUN=>aH ((!aUN)) (k (Bc.out ((([]:List oq),()),false))) (aH (decide (0=0/\(0+aBU.2.1)<=(ag aBU.2.2))) (al (s8.call ((cut aBU.2.2 0 aBU.2.1),())) λaUO=>al (Sw.call (aUO,aBU.1)) λap1=>aH ((!ap1)) (k (Bc.out ((([]:List oq),()),false))) (aH (decide (0=0/\(0+aBU.2.1)<=(ag aBU.2.2))) (k (Bc.out (((cut aBU.2.2 0 aBU.2.1),()),true))) none)) none)) none:=bY
theorem anE:(Bc.kN 1 uM):=by
 refine(Bc.mh 1 uM) (λ(b,n,i,t,j,m1,m2,x,r,ks,bs)=>(t - j).toNat) ?_
 rintro⟨b,n,i,t,j,m1,m2,x,r,ks,bs⟩ ⟨hr,aEX,hm,k,c,rfl,rfl,aXn,hc,aK2⟩;have hr:rq r:=hr;have aEX:ks.length=m2:=aEX;have aK2:m2=k:=aK2;by_cases h:k < c
 ·left;have e1:((c:Int) - (k:Int)).toNat=(c - (k+1))+1:=ak;have e2:((c:Int) - ((k+1:Nat):Int)).toNat=c - (k+1):=ak;refine⟨(b,n,i,(c:Int),((k+1:Nat):Int),m1,m2+1,x,(rS r).2,ks++ [(rS r).1],bs),⟨(Ut hr).2,by rw[ai];show ks.length+1=_;omega,ak,k+1,c,rfl,rfl,ak,hc,ak⟩,by show((c:Int) - ((k+1:Nat):Int)).toNat < ((c:Int) - (k:Int)).toNat;omega,?_,λkn kx=> ?_⟩
  ·simp only[zG,FX,e1,e2,tA,aF,cZ];rw[show m2+1+(c - (k+1))=m2+(c - (k+1)+1) by omega]
  ·rw[L8,aU ak,Jm (d:=r) hr];simp only[ah,aj,bt,T7];rw[aM ak,dr ak ak,N.mO ak,aY ak];rfl
 ·right;obtain rfl:k=c:=ak;intro R kn kx;rw[L8,aR ak,ao];simp only[zG,FX,Int.sub_self,aX,tA,ba,cm]
theorem anD:(Bc.kN 0 pG):=by
 refine(Bc.mh 0 pG) (λ(b,n,i,m,r,bs)=>5 - i.toNat) ?_
 rintro⟨b,n,i,m,r,bs⟩ ⟨hr,hn,aVf,k,rfl,hk,aK2⟩;have hr:rq r:=hr;have hn:n<=9223372036854775807:=hn;have aVf:bs.length=m:=aVf;have aK2:m=k:=aK2;have e0:5 - (k:Int).toNat=(4 - k)+1:=by rw[aa];omega
 have g1:=rY hr;by_cases h:(k:Int) < n
 ·have hp:0 < n - (k:Int):=ak;by_cases hc:4 - k=0\/12 < (dC r).1
  ·right;intro R kn kx;have eb:D6 ((4 - k)+1) (n - (k:Int)) r=[]:=by rw[D6,if_pos hp,if_pos hc]
   rw[Db,aU h,pR (d:=r) hr];simp only[ah,aj,bt,vW,bt,Bd,e0,eb,aZ,cm,ba];by_cases h4:(k:Int)=4
   ·rw[du h4,aj]
   ·rw[eH h4,ao,cR ak,aj]
  ·left;have h4:¬(k:Int)=4:=ak;have aWs:¬(dC r).1 > 12:=ak;obtain⟨c,aQl⟩:∃c:Nat,(dC r).1=c:=⟨(dC r).1.toNat,ak⟩;have am0:=auX c _ g1.2.2;have gk:=ai4 c _ g1.2.2;have ga:=rY gk.2.2;have gd:=rY ga.2.2;have eb:D6 ((4 - k)+1) (n - (k:Int)) r=(D4 c (dC r).2).1::D6 (4 - k) (n - (k:Int) - 1) (D4 c (dC r).2).2:=by rw[D6,if_pos hp,if_neg hc,aQl,aa]
   have e1:5 - ((k+1:Nat):Int).toNat=4 - k:=by rw[aa];omega
   refine⟨(b,n,((k+1:Nat):Int),m+1,(D4 c (dC r).2).2,bs++ [(D4 c (dC r).2).1]),⟨am0.2.2,hn,by rw[ai];show bs.length+1=_;omega,k+1,rfl,ak,ak⟩,by simp only[aa];omega,?_,λkn kx=> ?_⟩
   ·simp only[bt,Bd,e0,e1,eb,aF,cZ,aA];rw[show n - ((k+1:Nat):Int)=n - (k:Int) - 1 by omega,show m+1+(D6 (4 - k) (n - (k:Int) - 1) (D4 c (dC r).2).2).length=m+((D6 (4 - k) (n - (k:Int) - 1) (D4 c (dC r).2).2).length+1) by omega]
   ·rw[Db,aU h,pR (d:=r) hr];simp only[ah,aj,bt,vW];rw[eH h4,ao,cn aWs,ao,aQl,ajf (d:=(b,n,(k:Int),(c:Int),0,m,0,(0,0,0,()),(dC r).2,[],bs)) ⟨g1.2.2,rfl,by decide,0,c,rfl,rfl,aJ _,ak,rfl⟩];simp only[ah,zG,FX,qg,aa,aN,aT];rw[pR (d:=(tA c (dC r).2).2) gk.2.2];simp only[ah,bt,vW];rw[pR (d:=(dC (tA c (dC r).2).2).2) ga.2.2];simp only[ah,bt,vW];rw[Jm (d:=(dC (dC (tA c (dC r).2).2).2).2) gd.2.2];simp only[ah,bt,T7];rw[aM ⟨by trivial,by rw[gk.2.1];exact ax _⟩,aM ak,dr ak ak,N.mO ak,aY ak,eV gk.2.1];rfl
 ·right;intro R kn kx;have eb:D6 ((4 - k)+1) (n - (k:Int)) r=[]:=by rw[D6,if_neg ak]
  rw[Db,aR h,ao];simp only[bt,Bd,e0,eb,aZ,cm,ba]
theorem aF0:Bc.Ok:=by
 rintro b ⟨hb,hl⟩;have hb:Bytes b:=hb;have hl:b.length<=1000000000:=hl;have g0:=ath hb hl (false,());have g1:=rY g0;have gu:=awb hb hl;rw[aFZ,agH (d:=b) hl];simp only[ah,bt,aj0];rw[pR (d:=(b,false,())) g0];simp only[ah,bt,vW];rw[ajd (d:=(b,(dC (b,false,())).1,0,0,(dC (b,false,())).2,[])) ⟨g1.2.2,g1.2.1,rfl,0,rfl,by decide,rfl⟩];simp only[ah,bt,Bd,aX,Nat.sub_zero,qg,aN,aT,ax,jh,cr,aj,eV];rw[show D6 5 (dC (b,false,())).1 (dC (b,false,())).2=tK b from rfl];have hL1:((tK b,()):Lk).1.length<=1000000000:=by show(tK b).length<=_;omega
 rw[Be (d:=(tK b,())) ⟨gu.1,il hL1 (by decide)⟩];simp only[ah,bt,Eo,bt,ajb,G9];cases jj:kP (tK b,())
 ·rw[if_neg (by rintro⟨x,_⟩;cases x)];rfl
 ·rw[aai (d:=(tK b,())) ⟨gu.1,il hL1 (by decide)⟩];simp only[cz,ao,ah,bt,QD];rw[aCD (d:=(NX (tK b,()),b)) (by show(NX _).length<=_;have:=KF (tK b,());omega)];simp only[ah,bt,aqw];by_cases hx:NX (tK b,())=b
  ·rw[aM hx,if_pos ⟨by trivial,hx⟩];rfl
  ·rw[aS hx,if_neg (λy=>hx y.2)];rfl
theorem ay7:Bc.RS:=rE [.d tB] Bc
def aF1:=Bc.eS aF0 2 ⟨.fp anD,⟨.fp anE,trivial⟩⟩
def Ig(r:gI):List Int×gI:=((mL 32 r).1++bR (mL 32 r).1.length (ab 32 (0:Int)),(mL 32 r).2)
def Hu(r:gI):List Int×gI:=if(dC r).2.2.1=true then([],(dC r).2) else mL (dC r).1.toNat (dC r).2
def OS(most:Int)(r:gI):Int×gI:=(if(dC r).1 > most then -1 else(dC r).1,(dC r).2)
def aNG(r:gI):bF×gI:=(((Ig r).1,(dC (Ig r).2).1,()),(dC (Ig r).2).2)
def K9:Nat->gI->List bF×gI
 | 0,r=>([],r)
 |k+1,r=>((aNG r).1::(K9 k (aNG r).2).1,(K9 k (aNG r).2).2)
def abd(r:gI):gf×gI:=(((dC r).1,(G9 (Hu (dC r).2).1).1,()),(Hu (dC r).2).2)
def G4:Nat->gI->Option (List gf×gI)
 | 0,r=>some ([],r)
 |k+1,r=>if(G9 (Hu (dC r).2).1).2=true then(match G4 k (abd r).2 with
  |some x=>some ((abd r).1::x.1,x.2)
  |none=>none) else none
def aNM(r:gI):Sg×gI:=(((rS r).1,(rS (rS r).2).1,()),(rS (rS r).2).2)
def Gq:Nat->gI->List Sg×gI
 | 0,r=>([],r)
 |k+1,r=>((aNM r).1::(Gq k (aNM r).2).1,(Gq k (aNM r).2).2)
def wa(r:gI):List Sg×gI:=Gq (OS 12 (dC r).2).1.toNat (OS 12 (dC r).2).2
def auz(r:gI):Option (UC×gI):=if(OS 12 (dC r).2).1 < 0 then none else some (((dC r).1,(wa r).1,(rS (wa r).2).1,()),(rS (wa r).2).2)
def Hq:List bF->gI->Option (List gG×gI)
 |[],r=>some ([],r)
 |o::l,r=>match auz r with
  |none=>none
  |some w=>match Hq l w.2 with
   |none=>none
   |some x=>some ((o,w.1,())::x.1,x.2)
def aPs:dv×Bool:=(([],[],0,()),false)
def aEn(n m:Int)(t:dv)(r:gI):dv×Bool:=if n < 0\/m < 0\/r.2.1=true\/0 < r.1.length\/gV t=false then aPs else(t,true)
def aF8(n m:Int)(ops:List bF)(os:List gf)(r:gI):dv×Bool:=match Hq ops (dC r).2 with
 |none=>aPs
 |some x=>aEn n m (x.1,os,(dC r).1,()) x.2
def abV(b:List Int):dv×Bool:=
 let n:=OS 64 (b,false,())
 let ops:=K9 n.1.toNat n.2
 let m:=OS 64 ops.2
 match G4 m.1.toNat m.2 with
 |none=>aPs
 |some x=>aF8 n.1 m.1 ops.1 x.1 x.2
def asA(o:bF):List Int:=o.1++gl o.2.1
def Es(o:gf):List Int:=gl o.1++(gl (NX o.2.1).length++NX o.2.1)
def aB3(s:Sg):List Int:=jo s.1++jo s.2.1
def DW(w:UC):List Int:=gl w.1++(gl w.2.1.length++(w.2.1.flatMap aB3++jo w.2.2.1))
def aSY(t:dv):List Int:=gl t.1.length++(t.1.flatMap (λx=>asA x.1)++(gl t.2.1.length++(t.2.1.flatMap Es++(gl t.2.2.1++t.1.flatMap λx=>DW x.2.1))))
theorem Eg{α:Type}(f:List Int->α->List Int)(w:α->List Int):∀(l:List α) (b:List Int),(∀x∈l,∀b,f b x=b++w x)->l.foldl f b=b++l.flatMap w
 |[],b,_=>by simp
 |x::l,b,h=>by rw[bA,h x aL,Eg f w l _ λy hy=>h y (aI _ hy),dx,aF]
theorem Bq(b:List Int){n:Int}(h:0<=n):cF b n=b++gl n:=by unfold cF;rw[if_neg ak]
theorem aIE{t:dv}(jj:gV t=true):aur t=aSY t:=by
 obtain⟨⟨_,a2,a3,a4⟩,b1,b2⟩:=jI jj;have e1:∀b,t.1.foldl KB b=b++t.1.flatMap λx=>asA x.1:=λb=>Eg _ _ _ _ λx hx b=>by have:=A6 (mC _ _ b1 x hx);unfold KB asA;rw[Bq _ this.1,aF]
 have e2:∀b,t.2.1.foldl La b=b++t.2.1.flatMap Es:=λb=>Eg _ _ _ _ λo ho b=>by have:=(kq _ _ b2 o ho).1;unfold La Es;rw[Bq _ this.1,aF]
 have e3:∀(l:List Sg) b,l.foldl acp b=b++l.flatMap aB3:=λl b=>Eg _ _ _ _ λs _ b=>by unfold acp aB3;rw[aF]
 have e4:∀b,t.1.foldl auy b=b++t.1.flatMap λx=>DW x.2.1:=λb=>Eg _ _ _ _ λx hx b=>by have:=A6 (mC _ _ b1 x hx);unfold auy DW;rw[e3,Bq _ this.2.2.1,Bq _ ak];simp only[aF]
 unfold aur uT aSY;rw[if_pos jj,e4,Bq _ a4,e2,Bq _ ak,e1,Bq _ ak,aT];simp only[aF]
theorem ag4{n:Nat}(a rest:List Int)(h:a.length=n):mL n (a++rest,false,())=(a,(rest,false,())):=by
 unfold mL;rw[if_neg (by
  intro x;rcases x with x | x
  ·cases x
  ·have x:(a++rest).length < n:=x;rw[ai]at x;omega)]
 show((a++rest).take n,((a++rest).drop n,false,()))=_;rw[kU h,kT h]
theorem ayx(a rest:List Int)(h:a.length=32):Ig (a++rest,false,())=(a,(rest,false,())):=by unfold Ig;rw[ag4 a rest h];simp only[h];rw[show bR 32 (ab 32 (0:Int))=[] from rfl,ba]
theorem Er(n:Int)(h:Ht n)(rest:List Int):dC (gl n++rest,false,())=(n,(rest,false,())):=ID n h rest _
theorem aC4(a rest:List Int)(h:a.length<=1000000000):Hu (gl a.length++(a++rest),false,())=(a,(rest,false,())):=by unfold Hu;rw[Er _ (uP ak)];simp only[bn,bq,aa];exact ag4 a rest rfl
theorem akE{n m:Int}(h:Ht n)(hm:n<=m)(rest:List Int):OS m (gl n++rest,false,())=(n,(rest,false,())):=by unfold OS;rw[Er n h];simp only[if_neg (show ¬n > m by omega)]
theorem an1:∀(l:List bF) (rest:List Int),(∀o∈l,o.1.length=32/\Ht o.2.1)->K9 l.length (l.flatMap asA++rest,false,())=(l,(rest,false,()))
 |[],rest,_=>rfl
 |o::l,rest,h=>by
  obtain⟨h1,h2⟩:=h o aL;have e:aNG ((o::l).flatMap asA++rest,false,())=(o,(l.flatMap asA++rest,false,())):=by unfold aNG asA;rw[dx,aF,aF,ayx _ _ h1];simp only[];rw[Er _ h2]
  rw[aA,K9,e,an1 l rest λx hx=>h x (aI _ hx)]
theorem agr:∀(l:List gf) (rest:List Int),(∀o∈l,Ht o.1/\kP o.2.1=true/\adD o.2.1)->G4 l.length (l.flatMap Es++rest,false,())=some (l,(rest,false,()))
 |[],rest,_=>rfl
 |o::l,rest,h=>by
  obtain⟨h1,h2,h3⟩:=h o aL;have hl:=KF o.2.1;have e0:dC ((o::l).flatMap Es++rest,false,())=(o.1,(gl (NX o.2.1).length++(NX o.2.1++(l.flatMap Es++rest)),false,())):=by rw[dx];unfold Es;simp only[aF];exact Er _ h1 _
  have e1:Hu (dC ((o::l).flatMap Es++rest,false,())).2=(NX o.2.1,(l.flatMap Es++rest,false,())):=by rw[e0];exact aC4 _ _ ak
  have e2:abd ((o::l).flatMap Es++rest,false,())=(o,(l.flatMap Es++rest,false,())):=by unfold abd;rw[e1,e0,agB h3 h2]
  rw[aA,G4,e1,agB h3 h2,if_pos rfl,e2,agr l rest λx hx=>h x (aI _ hx)]
theorem apc:∀(l:List Sg) (rest:List Int),(∀s∈l,nU s.1/\nU s.2.1)->Gq l.length (l.flatMap aB3++rest,false,())=(l,(rest,false,()))
 |[],rest,_=>rfl
 |s::l,rest,h=>by
  obtain⟨h1,h2⟩:=h s aL;have e:aNM ((s::l).flatMap aB3++rest,false,())=(s,(l.flatMap aB3++rest,false,())):=by unfold aNM aB3;rw[dx,aF,aF,JY _ h1];simp only[];rw[JY _ h2]
  rw[aA,Gq,e,apc l rest λx hx=>h x (aI _ hx)]
theorem aIU(w:UC)(rest:List Int)(hw:Yg w)(hb:Ht w.1)(afX:w.2.1.length<=12):auz (DW w++rest,false,())=some (w,(rest,false,())):=by
 have e0:dC (DW w++rest,false,())=(w.1,(gl w.2.1.length++(w.2.1.flatMap aB3++(jo w.2.2.1++rest)),false,())):=by unfold DW;simp only[aF];exact Er _ hb _
 have e1:OS 12 (dC (DW w++rest,false,())).2=((w.2.1.length:Int),(w.2.1.flatMap aB3++(jo w.2.2.1++rest),false,())):=by rw[e0];exact akE (uP ak) ak _
 have e2:wa (DW w++rest,false,())=(w.2.1,(jo w.2.2.1++rest,false,())):=by unfold wa;rw[e1];exact apc _ _ hw.1
 unfold auz;rw[e1,if_neg (by show ¬(w.2.1.length:Int) < 0;omega),e2,e0];simp only[];rw[JY _ hw.2]
theorem ahe:∀(l:List gG) (rest:List Int),(∀x∈l,Yg x.2.1/\Ht x.2.1.1/\x.2.1.2.1.length<=12)->Hq (l.map (·.1)) (l.flatMap (λx=>DW x.2.1)++rest,false,())=some (l,(rest,false,()))
 |[],rest,_=>rfl
 |x::l,rest,h=>by obtain⟨h1,h2,h3⟩:=h x aL;rw[dx,aF,bP,Hq,aIU _ _ h1 h2 h3];simp only[];rw[ahe l rest λy hy=>h y (aI _ hy)]
theorem ati{t:dv}(hv:nT t)(jj:gV t=true):abV (aur t)=(t,true):=by
 obtain⟨⟨a1,a2,a3,a4⟩,b1,b2⟩:=jI jj;have am2:∀x∈t.1,_:=λx hx=>A6 (mC _ _ b1 x hx)
 have aWC:=hv.2.2;rw[aIE jj];have e1:=akE (n:=(t.1.length:Int)) (m:=64) (uP ak) ak (t.1.flatMap (λx=>asA x.1)++(gl t.2.1.length++(t.2.1.flatMap Es++(gl t.2.2.1++t.1.flatMap λx=>DW x.2.1))));have ef:t.1.flatMap (λx=>asA x.1)=(t.1.map (·.1)).flatMap asA:=by rw[List.flatMap_map]
 have e2:=an1 (t.1.map (·.1)) (gl t.2.1.length++(t.2.1.flatMap Es++(gl t.2.2.1++t.1.flatMap λx=>DW x.2.1))) λo ho=>by obtain⟨x,hx,rfl⟩:=cS.1 ho;exact⟨(hv.2.1 x hx).1.1,(am2 x hx).1,by have:=(am2 x hx).2.1;omega⟩
 rw[<-ef,bU]at e2;have e3:=akE (n:=(t.2.1.length:Int)) (m:=64) (uP ak) ak (t.2.1.flatMap Es++(gl t.2.2.1++t.1.flatMap λx=>DW x.2.1));have e4:=agr t.2.1 (gl t.2.2.1++t.1.flatMap λx=>DW x.2.1) λo ho=>by have:=kq _ _ b2 o ho;exact⟨⟨this.1.1,ak⟩,this.2,(hv.1.1 o ho).1⟩
 have e5:=Er t.2.2.1 ⟨a4,aWC⟩ (t.1.flatMap λx=>DW x.2.1);have e6:=ahe t.1 [] λx hx=>⟨(hv.2.1 x hx).2.1,⟨(am2 x hx).2.2.1,by have:=(am2 x hx).2.2.2.1;omega⟩,(am2 x hx).2.2.2.2⟩
 rw[ba]at e6;unfold abV aSY;simp only[e1,aa,e2,e3,e4];unfold aF8;simp only[e5,e6];unfold aEn;rw[if_neg];rintro(x | x | x | x | x)
 ·omega
 ·omega
 ·cases x
 ·simp at x
 ·rw[show((t.1,t.2.1,t.2.2.1,()):dv)=t from rfl,jj]at x;cases x
def ue(r:gI):Prop:=rq r/\(r.2.1=true->r.1=[])
def Ov(r r':gI)(e:List Int):Prop:=ue r'/\(r'.2.1=false->r.2.1=false/\r.1=e++r'.1)
theorem Ov.trans{r r1 r2:gI}{e1 e2:List Int}(h1:Ov r r1 e1)(h2:Ov r1 r2 e2):Ov r r2 (e1++e2):=
 ⟨h2.1,λh=>⟨(h1.2 (h2.2 h).1).1,by rw[(h1.2 (h2.2 h).1).2,(h2.2 h).2,aF]⟩⟩
theorem Ov.of{r r':gI}{e e':List Int}(h:Ov r r' e)(he:r'.2.1=false->e=e'):Ov r r' e':=⟨h.1,λh'=>by rw[<-he h'];exact h.2 h'⟩
theorem Ov.refl{r:gI}(h:ue r):Ov r r []:=⟨h,λh'=>⟨h',rfl⟩⟩
theorem aKL:ue P7:=⟨aiu,λ_=>rfl⟩
theorem amH(r:gI)(e:List Int):Ov r P7 e:=⟨aKL,λh=>by cases h⟩
theorem aMc{b:List Int}(hb:Bytes b)(hl:b.length<=1000000000):ue (b,false,()):=⟨ath hb hl (false,()),λh=>by cases h⟩
theorem acM{r:gI}(h:ue r)(n:Nat):Ov r (mL n r).2 (mL n r).1/\((mL n r).2.2.1=false->(mL n r).1.length=n):=by
 have hb:=(z7 (n:=n) h.1).2.2
 revert hb
 unfold mL;split
 ·exact λ_=>⟨amH _ _,λh=>by cases h⟩
 ·rename_i hc;intro hb;have h1:r.2.1=false:=by cases hr:r.2.1 with | false=>rfl | true=>exact absurd (lV hr) hc
  have h2:¬r.1.length < n:=λx=>hc (ff x)
  exact⟨⟨⟨hb,λ(hx:r.2.1=true)=>by rw[h1]at hx;cases hx⟩,λ_=>⟨h1,(dq n r.1).symm⟩⟩,λ_=>by show(r.1.take n).length=n;rw[bp];omega⟩
theorem ab8(f:Nat){d:Int}(h:d < 128):gH f d=([],d):=by
 cases f with
 |zero=>rfl
 |succ f=>rw[gH,if_neg ak]
theorem anU:∀(l:List Int) (a:Nat) (n:Int) (v:Int×Nat),Bytes l->a<=9->Bh l a n= .inl v->
  ∃w rest,v.1=n+w*128^a/\0<=w/\(a=0\/0 < w)/\w < 128^(9 - a)/\l=(gH (8 - a) w).1++(gH (8 - a) w).2::rest/\v.2=a+(gH (8 - a) w).1.length+1
 |[],a,n,v,_,_,h=>by cases h
 |d::l,a,n,v,hb,ha,h=>by
  obtain⟨x1,x2⟩:=hb d aL;rw[Bh]at h;split at h
  ·cases h
  rename_i hc;have aVc:a<=8:=ak;have e9:(128:Int)^(9 - a)=128^(8 - a)*128:=by rw[show 9 - a=(8 - a)+1 by omega];exact fJ 128 (8 - a)
  have p8:(0:Int) < 128^(8 - a):=Int.pow_pos (by decide);split at h
  ·rename_i hd;cases h;refine⟨d,l,by rw[fa x1 hd],x1,ak,ak,?_,?_⟩
   ·rw[ab8 _ hd];rfl
   ·rw[ab8 _ hd];rfl
  ·rename_i hd;obtain⟨w,rest,e1,w0,w1,w2,e2,e3⟩:=anU l (a+1) _ v (λx hx=>hb x (aI _ hx)) ak h;have w1:0 < w:=ak;rw[show 9 - (a+1)=8 - a by omega]at w2;have aXl:a<=7:=by
    by_cases h8:a=8
    ·rw[h8]at w2;have:(128:Int)^(8 - 8)=1:=rfl;omega
    ·omega
   have er:gH (8 - a) (d%128+128*w)=((d%128+128)::(gH (8 - (a+1)) w).1,(gH (8 - (a+1)) w).2):=by rw[show 8 - a=(8 - (a+1))+1 by omega,gH,if_pos ak,show(d%128+128*w)%128=d%128 by omega,show(d%128+128*w) / 128=w by omega]
   refine⟨d%128+128*w,rest,?_,ak,ak,ak,?_,?_⟩
   ·rw[e1,fJ,Int.add_mul,Int.add_assoc,qe 128 w,rn w,qe 128]
   ·rw[er,e2,show d%128+128=d by omega];rfl
   ·rw[er,e3];simp only[aA];omega
theorem rZ{r:gI}(h:ue r):Ov r (dC r).2 (gl (dC r).1)/\((dC r).2.2.1=false->Ht (dC r).1):=by
 have hk:=rY h.1
 revert hk
 unfold dC;cases hf:Bh r.1 0 0 with
 |inr _=>exact λ_=>⟨amH _ _,λh=>by cases h⟩
 |inl v=>
  intro hk;obtain⟨w,rest,e1,w0,_,w2,e2,e3⟩:=anU r.1 0 0 v h.1.2 (by decide) hf;have h1:r.2.1=false:=by
   cases hr:r.2.1 with
   |false=>rfl
   |true=>rw[h.2 hr]at hf;cases hf
  have ew:v.1=w:=by rw[e1,lf];omega
  have e9:(128:Int)^(9 - 0)=9223372036854775808:=rfl;have e8:(128:Int)^(8+1)=9223372036854775808:=rfl;have e10:(128:Int)^(10+1)=151115727451828646838272:=rfl;have er:gH 10 w=gH 8 w:=KM 10 8 w (by rw[e10];omega) (by rw[e8];omega);have en:gl v.1=(gH 8 w).1++ [(gH 8 w).2]:=by rw[ew];unfold gl;rw[er]
  refine⟨⟨⟨hk.2.2,λ(hx:r.2.1=true)=>by rw[h1]at hx;cases hx⟩,λ_=>⟨h1,?_⟩⟩,λ_=>⟨hk.1,hk.2.1⟩⟩;show r.1=gl v.1++r.1.drop v.2;rw[en,e3,aF]
  conv=>rhs;rw[e2]
  rw[List.append_cons,aN,kT (by rw[ai];rfl)];exact e2
theorem aCB{l:List Int}(h:l.length=8)(hb:Bytes l):jo (Ob l)=l:=by
 match l,h with
 |[a,b,c,d,e,f,g,i],_=>
  have h0:=hb a (by simp);have h1:=hb b (by simp);have h2:=hb c (by simp);have h3:=hb d (by simp);have h4:=hb e (by simp);have h5:=hb f (by simp);have h6:=hb g (by simp);have h7:=hb i (by simp);unfold ahk at h0 h1 h2 h3 h4 h5 h6 h7;unfold jo Ob;simp only[bA,cY];congr 1
  ·omega
  congr 1
  ·omega
  congr 1
  ·omega
  congr 1
  ·omega
  congr 1
  ·omega
  congr 1
  ·omega
  congr 1
  ·omega
  congr 1;omega
theorem KS{r:gI}(h:ue r):Ov r (rS r).2 (jo (rS r).1):=by have e:=acM h 8;exact e.1.of λhk=>(aCB (e.2 hk) (z7 h.1).2.1).symm
theorem amZ{r:gI}(h:ue r):Ov r (Ig r).2 (Ig r).1:=by
 have e:=acM h 32;refine e.1.of λhk=> ?_
 unfold Ig;simp only[e.2 hk];rw[show bR 32 (ab 32 (0:Int))=[] from rfl,ba]
theorem aET{r:gI}(h:rq r):Sm (Ig r).1:=by
 have e:=z7 (n:=32) h;refine⟨?_,gj e.2.1 λx hx=> ?_⟩
 ·show((mL 32 r).1++bR (mL 32 r).1.length (ab 32 (0:Int))).length=32;rw[ai,dp,b8];have:=e.1;omega
 ·obtain rfl:=(nr.1 (List.mem_of_mem_drop hx)).2;exact⟨by decide,by decide⟩
theorem ahH{r:gI}(h:ue r):Ov r (Hu r).2 (gl (Hu r).1.length++(Hu r).1)/\Bytes (Hu r).1/\(Hu r).1.length<=1000000000:=by
 have e:=rZ h;unfold Hu;split
 ·rename_i hc;exact⟨⟨e.1.1,λhk=>by rw[hc]at hk;cases hk⟩,λx hx=>(by cases hx),aJ _⟩
 ·rename_i hc;have hc:(dC r).2.2.1=false:=by simpa using hc
  have t:=acM e.1.1 (dC r).1.toNat;have tb:=z7 (n:=(dC r).1.toNat) e.1.1.1;have n0:=(e.2 hc).1;refine⟨(e.1.trans t.1).of λhk=> ?_,tb.2.1,?_⟩
  ·rw[t.2 hk,Int.toNat_of_nonneg n0]
  ·have hl:(mL (dC r).1.toNat (dC r).2).1.length<=(dC r).2.1.length:=by
    unfold mL;split
    ·exact aJ _
    ·show((dC r).2.1.take _).length<=_;rw[bp];omega
   have:=e.1.1.1.1;omega
theorem aP3{r:gI}(h:ue r){m:Int}(h0:0<=(OS m r).1):Ov r (OS m r).2 (gl (OS m r).1)/\(OS m r).1<=m:=by
 have e:=rZ h;unfold OS at h0 ⊢;by_cases hc:(dC r).1 > m
 ·simp only[if_pos hc]at h0;omega
 ·simp only[if_neg hc];exact⟨e.1,ak⟩
theorem awu{r:gI}(h:ue r)(m:Int):ue (OS m r).2:=(rZ h).1.1
theorem awt{r:gI}(h:rq r){m:Int}(hm:0<=m): -1<=(OS m r).1/\(OS m r).1<=m:=by
 have:=(rY h).1;unfold OS;split
 ·exact⟨ak,by show(-1:Int)<=m;omega⟩
 ·rename_i hc;have hc:¬(dC r).1 > m:=hc;exact⟨by show -1<=(dC r).1;omega,by show(dC r).1<=m;omega⟩
theorem avZ:∀(k:Nat) {r:gI},ue r->Ov r (K9 k r).2 ((K9 k r).1.flatMap asA)/\(K9 k r).1.length=k/\∀o∈(K9 k r).1,Sm o.1
 | 0,r,h=>⟨Ov.refl h,rfl,λx hx=>by cases hx⟩
 |k+1,r,h=>by
  have e1:=amZ h;have e2:=rZ e1.1;have ih:=avZ k (r:=(aNG r).2) e2.1.1;refine⟨?_,by rw[K9,aA,ih.2.1],λo ho=> ?_⟩
  ·have:=(e1.trans e2.1).trans ih.1;rw[K9,dx];exact this
  ·rcases cd.1 ho with rfl | ho
   ·exact aET h.1
   ·exact ih.2.2 o ho
theorem aPx{r:gI}(h:ue r):ue (abd r).2:=(ahH (rZ h).1.1).1.1
theorem an4:∀(k:Nat) {r:gI} {x:List gf×gI},ue r->G4 k r=some x->Ov r x.2 (x.1.flatMap Es)/\x.1.length=k/\∀o∈x.1,o.1<=9223372036854775807/\kP o.2.1=true/\aNS o.2.1
 | 0,r,x,h,hx=>by cases hx;exact⟨Ov.refl h,rfl,λx hx=>by cases hx⟩
 |k+1,r,x,h,hx=>by
  rw[G4]at hx;split at hx
  ·rename_i hr;split at hx
   ·rename_i y hy;cases hx;have e1:=rZ h;have e2:=ahH e1.1.1;have ih:=an4 k (aPx h) hy;obtain⟨l,hl,aJo,he,hle⟩:=aG9 hr;have hu:=awb e2.2.1 e2.2.2;have el:(abd r).1.2.1=l:=by show(G9 (Hu (dC r).2).1).1=l;rw[he]
    refine⟨?_,by rw[aA,ih.2.1],λo ho=> ?_⟩
    ·have:=(e1.1.trans e2.1).trans ih.1;rw[dx];unfold Es;rw[el,aJo];exact this
    ·rcases cd.1 ho with rfl | ho
     ·refine⟨(rY h.1).2.1,by rw[el];exact hl,?_⟩;rw[el,hle];exact⟨hu.1,by show(tK _).length<=_;omega⟩
     ·exact ih.2.2 o ho
   ·cases hx
  ·cases hx
theorem aj9:∀(k:Nat) {r:gI},ue r->Ov r (Gq k r).2 ((Gq k r).1.flatMap aB3)/\(Gq k r).1.length=k/\∀s∈(Gq k r).1,aNT s
 | 0,r,h=>⟨Ov.refl h,rfl,λx hx=>by cases hx⟩
 |k+1,r,h=>by
  have e1:=KS h;have e2:=KS e1.1;have ih:=aj9 k (r:=(aNM r).2) e2.1;refine⟨?_,by rw[Gq,aA,ih.2.1],λo ho=> ?_⟩
  ·have:=(e1.trans e2).trans ih.1;rw[Gq,dx];exact this
  ·rcases cd.1 ho with rfl | ho
   ·exact⟨(Ut h.1).1,(Ut e1.1.1).1⟩
   ·exact ih.2.2 o ho
theorem awy{r:gI}(h:ue r):ue (wa r).2/\(wa r).1.length<=12/\∀s∈(wa r).1,aNT s:=by have e1:=rZ h;have ih:=aj9 (OS 12 (dC r).2).1.toNat (awu e1.1.1 12);have:=awt e1.1.1.1 (m:=12) (by decide);exact⟨ih.1.1,by show(Gq _ _).1.length<=12;rw[ih.2.1];omega,ih.2.2⟩
theorem aMV{r:gI}{w:UC×gI}(h:ue r)(hw:auz r=some w):Ov r w.2 (DW w.1)/\Yg w.1/\w.1.2.1.length<=12:=by
 unfold auz at hw;split at hw
 ·cases hw
 ·rename_i hc;cases hw;have e1:=rZ h;have hc:0<=(OS 12 (dC r).2).1:=ak;have e2:=aP3 e1.1.1 hc;have e3:=aj9 (OS 12 (dC r).2).1.toNat e2.1.1;have g:=awy h;have e4:=KS g.1;have hl:((wa r).1.length:Int)=(OS 12 (dC r).2).1:=by show((Gq _ _).1.length:Int)=_;rw[e3.2.1];omega
  have:=((e1.1.trans e2.1).trans e3.1).trans e4;refine⟨this.of λ_=> ?_,⟨g.2.2,(Ut g.1.1).1⟩,g.2.1⟩;unfold DW;simp only[hl,aF];rfl
theorem apU:∀(l:List bF) {r:gI} {x:List gG×gI},ue r->Hq l r=some x->Ov r x.2 (x.1.flatMap λy=>DW y.2.1)/\x.1.map (·.1)=l/\∀y∈x.1,Yg y.2.1/\y.2.1.2.1.length<=12
 |[],r,x,h,hx=>by cases hx;exact⟨Ov.refl h,rfl,λx hx=>by cases hx⟩
 |o::l,r,x,h,hx=>by
  rw[Hq]at hx;split at hx
  ·cases hx
  ·rename_i w hw;have e:=aMV h hw;split at hx
   ·cases hx
   ·rename_i y hy;cases hx;have ih:=apU l e.1.1 hy;refine⟨?_,by rw[bP,ih.2.1],λz hz=> ?_⟩
    ·have:=e.1.trans ih.1;rw[dx];exact this
    ·rcases cd.1 hz with rfl | hz
     ·exact e.2
     ·exact ih.2.2 z hz
def aJu(o:bF):Ay:=(o,(0,none,0,()),())
def aSN(x:gG):Ay:=(x.1,(x.2.1.1,some x.2.1.2.1,x.2.1.2.2),())
def aUM(x:Ay):gG:=(x.1,(x.2.1.1,x.2.1.2.1.getD [],x.2.1.2.2),())
theorem aOm(l:List Ay):aQi (.slice rP) (.slice fY) l=l.map aUM:=bY
theorem aP1(l:List gG):(l.map aSN).map aUM=l:=by rw[List.map_map];have:(aUM∘aSN)=id:=rfl;rw[this,List.map_id]
theorem aLV{t:Ty}{l:List t.den}{k:Nat}{y:t.den}(h:k < l.length):nth t (l.set k y) k=y:=by simp[nth,h]
theorem aLU{t:Ty}{a b:List t.den}{k:Nat}{y:t.den}(h:a.length=k):nth t (a++y::b) k=y:=by subst h;simp[nth]
theorem aMw{α:Type}{a b:List α}{k:Nat}{y z:α}(h:a.length=k):(a++y::b).set k z=a++z::b:=by subst h;simp
theorem aA4{α:Type}{l:List α}{k:Nat}{y:α}:(l.set k y).take k=l.take k:=by rw[List.take_set,List.set_eq_of_length_le (by rw[bp];omega)]
theorem ax5{α:Type}{l:List α}{k:Nat}{y:α}:(l.set k y).drop (k+1)=l.drop (k+1):=List.drop_set_of_lt ak
def aAp:gI->Prop:=λr=>rq r
def awd:gI->(Bs×gI):=λr=>Ig r
def ab1:Fs Tryz.prog aAp bt awd:=eN 122 Tryz.f122 (λo0=>([.ptr (.bm 0) 0 [] 0],[.obj 0 false (.d tW o0)])) (λx=>⟨.d tH x.1,[.obj 0 false (.d tW x.2)],[]⟩) [none] [ace]
theorem aHi{R:Type}(o0)(k:K1 R):ab1.A o0 k=al (Jl.call (32,o0)) λx1=>aH (decide ((ag x1.1)<=32)) (k (ab1.out ((x1.1++(bR (ag x1.1) (ab 32 0))),x1.2))) none:=bY
theorem aHj:ab1.Ok:=by intro r h;have h:rq r:=h;have e:=(z7 (n:=32) h).1;rw[aHi,T6 (d:=(32,r)) ⟨by decide,h.1⟩];simp only[ah,bt,X6];rw[show ae 32=32 from rfl,aM e];rfl
theorem aAq:ab1.RS:=rE [.d tW] ab1
def aHk:=ab1.eS aHj
def ate:gI->Prop:=λr=>rq r
def abU:gI->(Bs×gI):=λr=>Hu r
def Jf:Fs Tryz.prog ate bt abU:=eN 124 Tryz.f124 (λo0=>([.ptr (.bm 0) 0 [] 0],[.obj 0 false (.d tW o0)])) (λx=>⟨.d tB x.1,[.obj 0 false (.d tW x.2)],[]⟩) [none] [X4,ace] {res:=[some tB],Nw:=[⟨0,[.arr],tW⟩]}
theorem aAi{R:Type}(o0)(k:K1 R):Jf.A o0 k=al (DJ.call o0) λx1=>aH (x1.2.2.1) (k (Jf.out (([]:List Int),x1.2))) (al (Jl.call (x1.1,x1.2)) λx2=>k (Jf.out (x2.1,x2.2))):=bY
theorem aAj:Jf.Ok:=by
 intro r h;have h:rq r:=h;have e:=rY h;rw[aAi,pR (d:=r) h];simp only[ah,bt,vW,bt,abU,Hu];cases hc:(dC r).2.2.1
 ·rw[ao,T6 (d:=((dC r).1,(dC r).2)) ⟨e.1,e.2.2.1⟩];rfl
 ·rfl
theorem atf:Jf.RS:=rE [.d tW] Jf
def aAk:=Jf.eS aAj
def aBv:(Int×gI)->Prop:=λ(m,r)=>rq r
def RY:(Int×gI)->(Int×gI):=λ(m,r)=>OS m r
def MO:Fs Tryz.prog aBv bt RY:=eN 120 Tryz.f120 (λ(most,o1)=>([.d ti most,.ptr (.bm 0) 0 [] 0],[.obj 0 false (.ptr (.bm 1) 0 [] 0),.obj 0 false (.d tW o1)])) (λx=>⟨.d ti x.1,[.obj 0 false (.ptr (.bm 1) 0 [] 0),.obj 0 false (.d tW x.2)],[]⟩) [some ti,none] [X4]
theorem aIA{R:Type}(most o1)(k:K1 R):MO.A (most,o1) k=al (DJ.call o1) λx1=>aH ((rz x1.1 most)) (k (MO.out ((-1),x1.2))) (k (MO.out (x1.1,x1.2))):=bY
theorem aIB:MO.Ok:=by
 rintro⟨m,r⟩ h;have h:rq r:=h;rw[aIA,pR (d:=r) h];simp only[ah,bt,vW,bt,RY,OS];by_cases hc:(dC r).1 > m
 ·rw[cR hc,if_pos hc];rfl
 ·rw[cn hc,if_neg hc];rfl
theorem Ur:MO.RS:=rE [.d ti,.d tW] MO
def aIC:=MO.eS aIB
abbrev OH:=Int×Int×Int×(Int×Unit)×Nat×(Int×Unit)×gI×(List Ay)
abbrev acY:=Nat×gI×(List Ay)
def z8:OH->acY->((Int×(Int×Unit)×(Int×Unit))×(Nat×gI×(List Ay))):=λ(n,t20,t21,n2,aLL,n4,n16,n32) y=>((n,n2,n4),y)
abbrev BH:=Int×Int×Int×Int×(Int×Unit)×Nat×Nat×(Int×Unit)×gI×(List Ay)×(List gf)
def pZ:BH->AS:=λ(wG,m,t37,t38,kM,VT,Mb,Bf,aaH,VQ,aND)=>⟨([bE,bE,eT 2,bE,eT 4,eT 5,.fn 120 (.cons (eT 5) (.nil)),.d ti wG,.d ti m]++aP 28 ([.d ti t37,.d ti t38]++aP 93 [])),[],([[],[],dK (.pr (.dd) (.pr (.dd) (.d (.pair ti .unit) kM))),[],dK (.pr (oh 32 VT) (.pr (oh 58 Mb) (.d (.pair ti .unit) Bf))),dK (eT 16)]++bM 10 ([dK (.d tW aaH)]++bM 15 ([dK (.vec 86 rP VQ)]++bM 25 ([dK (.vec 79 gb aND)]++bM 73 []))))⟩
def qU:(Int×Unit)->Exit×AS:=λx=>(.ret,⟨([bE,bE,eT 2,.d .bool false]++aP 128 []),[],([[],[],dK (.pr (.dd) (.pr (.dd) (.d (.pair ti .unit) x)))]++bM 129 [])⟩)
abbrev WA:=(Int×Int×(Int×Unit)×Nat×(Int×Unit)×(List Ay))×(Nat×gI×(List gf))
def Ac:WA->Exit×AS:=λx=>(.exit 2,⟨([bE,bE,eT 2,bE,eT 4,eT 5,.fn 120 (.cons (eT 5) (.nil)),.d ti x.1.1,.d ti x.1.2.1]++aP 123 []),[],([[],[],dK (.pr (.dd) (.pr (.dd) (.d (.pair ti .unit) x.1.2.2.1))),[],dK (.pr (oh 32 x.1.2.2.2.1) (.pr (oh 58 x.2.1) (.d (.pair ti .unit) x.1.2.2.2.2.1))),dK (eT 16)]++bM 10 ([dK (.d tW x.2.2.1)]++bM 15 ([dK (.vec 86 rP x.1.2.2.2.2.2)]++bM 25 ([dK (.vec 79 gb x.2.2.2)]++bM 73 []))))⟩)
abbrev OJ:=((Int×Unit))⊕(WA)
abbrev ac0:=((Int×Unit))⊕((Nat×gI×(List gf)))
def GB:OJ->Out (Exit×AS):=λx=> .br x.isLeft (.get x.getLeft? λa=> .ok (qU a)) (.get x.getRight? λb=> .ok (Ac b))
def lT:BH->ac0->OJ:=λ(wG,m,t37,t38,kM,VT,Mb,Bf,aaH,VQ,aND) y=>match y with | .inl y=> .inl y | .inr z=> .inr (((wG,m,kM,VT,Bf,VQ),z))
abbrev BI:=Int×Int×Int×Int×(Int×Unit)×Nat×Nat×(Int×Unit)×gI×(List Ay)×(List gf)
def qa:BI->AS:=λ(aPp,avP,t66,t67,td,VU,aaR,QP,aaI,fN,aaV)=>⟨([bE,bE,eT 2,bE,eT 4,eT 5,.fn 120 (.cons (eT 5) (.nil)),.d ti aPp,.d ti avP]++aP 57 ([.d ti t66,.d ti t67]++aP 64 [])),[],([[],[],dK (.pr (.dd) (.pr (.dd) (.d (.pair ti .unit) td))),[],dK (.pr (oh 32 VU) (.pr (oh 58 aaR) (.d (.pair ti .unit) QP))),dK (eT 16)]++bM 10 ([dK (.d tW aaI)]++bM 15 ([dK (.vec 86 rP fN)]++bM 25 ([dK (.vec 79 gb aaV)]++bM 73 []))))⟩
def qV:(Int×Unit)->Exit×AS:=λx=>(.ret,⟨([bE,bE,eT 2,.d .bool false]++aP 128 []),[],([[],[],dK (.pr (.dd) (.pr (.dd) (.d (.pair ti .unit) x)))]++bM 129 [])⟩)
abbrev WC:=Int×Int×(Int×Unit)×Nat×Nat×(Int×Unit)×gI×(List Ay)×(List gf)
def Ae:WC->Exit×AS:=λx=>(.exit 4,⟨([bE,bE,eT 2,bE,eT 4,eT 5,bE,.d ti x.1,.d ti x.2.1]++aP 123 []),[],([[],[],dK (.pr (.dd) (.pr (.dd) (.d (.pair ti .unit) x.2.2.1))),[],dK (.pr (oh 32 x.2.2.2.1) (.pr (oh 58 x.2.2.2.2.1) (.d (.pair ti .unit) x.2.2.2.2.2.1))),dK (eT 16)]++bM 10 ([dK (.d tW x.2.2.2.2.2.2.1)]++bM 15 ([dK (.vec 86 rP x.2.2.2.2.2.2.2.1)]++bM 25 ([dK (.vec 79 gb x.2.2.2.2.2.2.2.2)]++bM 73 []))))⟩)
abbrev OL:=((Int×Unit))⊕(WC)
abbrev ac2:=((Int×Unit))⊕((Int×Int×(Int×Unit)×Nat×Nat×(Int×Unit)×gI×(List Ay)×(List gf)))
def GC:OL->Out (Exit×AS):=λx=> .br x.isLeft (.get x.getLeft? λa=> .ok (qV a)) (.get x.getRight? λb=> .ok (Ae b))
def lU:BI->ac2->OL:=λ(aPp,avP,t66,t67,td,VU,aaR,QP,aaI,fN,aaV) y=>match y with | .inl y=> .inl y | .inr z=> .inr (z)
abbrev OM:=Int×Int×Int×Int×Int×Int×(Int×Unit)×Nat×Nat×(Int×Unit)×gI×(List Ay)×bF×Int×Nat×(Int×Unit)×(List Ay)×(List gf)×(List Sg)
abbrev ac3:=gI×(List Ay)×(List Sg)
def Af:OM->ac3->((Int×Int×Int×Int×(Int×Unit)×Nat×Nat×(Int×Unit)×(List gf))×(gI×(List Ay)×(List Sg))):=λ(aPq,aPi,acK,EW,t85,t86,N6,aaS,aaT,aso,agh,agj,agk,agl,ad7,agm,aaQ,aaW,n99) y=>((aPq,aPi,acK,EW,N6,aaS,aaT,aso,aaW),y)
def aks:OH->Prop:=λ(n,m,i,u,L,v,r,l)=>ue r/\m<=64/\∃k:Nat,i=k/\k<=64/\L=l.length/\l.length=k
def GA:OH->acY:=λ(n,m,i,u,L,v,r,l)=>(L+(m - i).toNat,(K9 (m - i).toNat r).2,l++(K9 (m - i).toNat r).1.map aJu)
def Aa:BH->Prop:=λ(n,m1,m,i,u,L,L2,v,r,l,os)=>ue r/\m<=64/\∃k:Nat,i=k/\k<=64/\L2=os.length/\os.length=k
def pY:BH->ac0:=λ(n,m1,m,i,u,L,L2,v,r,l,os)=>match G4 (m - i).toNat r with | none=> .inl (0,()) | some x=> .inr (L2+x.1.length,x.2,os++x.1)
def akw:OM->Prop:=λ(n,m1,mo,io,m,i,u,L,L2,v,r,la,op,br,Ls,sc,lb,os,sg)=>ue r/\m<=12/\∃k:Nat,i=k/\k<=12/\Ls=sg.length/\sg.length=k
def GD:OM->ac3:=λ(n,m1,mo,io,m,i,u,L,L2,v,r,la,op,br,Ls,sc,lb,os,sg)=>((Gq (m - i).toNat r).2,la++(op,(br,some (sg++(Gq (m - i).toNat r).1),sc),())::lb,sg++(Gq (m - i).toNat r).1)
def Ad:BI->Prop:=λ(n,m1,m,i,u,L,L2,v,r,l,os)=>ue r/\l.length<=64/\∃k:Nat,i=k/\k<=l.length/\m=l.length/\L=l.length/\∀x∈l.drop k,x=aJu x.1
def p9:BI->ac2:=λ(n,m1,m,i,u,L,L2,v,r,l,os)=>match Hq ((l.drop i.toNat).map (·.1)) r with | none=> .inl (0,()) | some x=> .inr (n,m1,u,L,L2,v,x.2,l.take i.toNat++x.1.map aSN,os)
def aBc:Bs->Prop:=λb=>Bytes b/\b.length<=1000000000
def akr:Bs->(dv×Bool):=λb=>abV b
def u7:Ls aks z8 GA:=rW (λ(n,t20,t21,n2,aLL,n4,n16,n32)=>⟨([bE,bE,eT 2,bE,eT 4,eT 5,.fn 120 (.cons (eT 5) (.nil)),.d ti n]++aP 12 ([.d ti t20,.d ti t21]++aP 110 [])),[],([[],[],dK (.pr (.dd) (.pr (.dd) (.d (.pair ti .unit) n2))),[],dK (.pr (oh 32 aLL) (.pr (.dd) (.d (.pair ti .unit) n4))),dK (eT 16)]++bM 10 ([dK (.d tW n16)]++bM 15 ([dK (.vec 86 rP n32)]++bM 99 [])))⟩) (λx=>(.exit 0,⟨([bE,bE,eT 2,bE,eT 4,eT 5,.fn 120 (.cons (eT 5) (.nil)),.d ti x.1.1]++aP 124 []),[],([[],[],dK (.pr (.dd) (.pr (.dd) (.d (.pair ti .unit) x.1.2.1))),[],dK (.pr (oh 32 x.2.1) (.pr (.dd) (.d (.pair ti .unit) x.1.2.2))),dK (eT 16)]++bM 10 ([dK (.d tW x.2.2.1)]++bM 15 ([dK (.vec 86 rP x.2.2.2)]++bM 99 [])))⟩))
def acZ:=dy.fp pZ Aa lT pY GB
def MG:BH->Option OJ:=gB acZ pZ
def ac1:=dy.fp qa Ad lU p9 GC
def MI:BI->Option OL:=gB ac1 qa
def u9:Ls akw Af GD:=rW (λ(aPq,aPi,acK,EW,t85,t86,N6,aaS,aaT,aso,agh,agj,agk,agl,ad7,agm,aaQ,aaW,n99)=>⟨([bE,bE,eT 2,bE,eT 4,eT 5,.fn 120 (.cons (eT 5) (.nil)),.d ti aPq,.d ti aPi]++aP 4 ([.ptr (.new 32 0) 0 [.snd,.fst,.snd,.fst] ((0+((ae EW)*36))+33)]++aP 52 ([.d ti acK,.d ti EW]++aP 17 ([.d ti t85,.d ti t86]++aP 45 [])))),[],([[],[],dK (.pr (.dd) (.pr (.dd) (.d (.pair ti .unit) N6))),[],dK (.pr (oh 32 aaS) (.pr (oh 58 aaT) (.d (.pair ti .unit) aso))),dK (eT 16)]++bM 10 ([dK (.d tW agh)]++bM 15 ([dK (.bx 86 36 (.pr (.d (.arr (0+(ae EW)) rP) agj) (.pr (.pr (.d bl agk) (.pr (.pr (.d ti agl) (.pr (oh 99 ad7) (.d (.pair tu .unit) agm))) fP)) (.d (.arr (ag aaQ) rP) aaQ))))]++bM 25 ([dK (.vec 79 gb aaW)]++bM 40 ([dK (.vec 143 Av n99)]++bM 32 [])))))⟩) (λx=>(.exit 6,⟨([bE,bE,eT 2,bE,eT 4,eT 5,.fn 120 (.cons (eT 5) (.nil)),.d ti x.1.1,.d ti x.1.2.1]++aP 4 ([.ptr (.new 32 0) 0 [.idx (0+(ae x.1.2.2.2.1)),.snd,.fst] ((0+((ae x.1.2.2.2.1)*36))+33)]++aP 52 ([.d ti x.1.2.2.1,.d ti x.1.2.2.2.1]++aP 64 []))),[],([[],[],dK (.pr (.dd) (.pr (.dd) (.d (.pair ti .unit) x.1.2.2.2.2.1))),[],dK (.pr (oh 32 x.1.2.2.2.2.2.1) (.pr (oh 58 x.1.2.2.2.2.2.2.1) (.d (.pair ti .unit) x.1.2.2.2.2.2.2.2.1))),dK (eT 16)]++bM 10 ([dK (.d tW x.2.1)]++bM 15 ([dK (.vec 86 rP x.2.2.1)]++bM 25 ([dK (.vec 79 gb x.1.2.2.2.2.2.2.2.2)]++bM 40 ([[.obj 0 true (.vec 143 Av x.2.2.2)]]++bM 32 [])))))⟩))
def kO:Fs Tryz.prog aBc bt akr:=eN 73 Tryz.f73 (λb=>([.d tB b],[])) (λx=>⟨.cons (.d eA x.1) (.cons (.d .bool x.2) (.nil)),[],[]⟩) [some tB] [aoQ,aIC,aHk,X4,aAk,aF1,awi,aMj,aHn,tR] {bJ:=[100031,100032],loops:=nX [(6,{aV:=[2,4,5,6,7,20,21],sites:=[2,4,5,16,32],owns:=[⟨4,[.fst],32,100053⟩]}),(11,{aV:=[2,4,5,6,7,8,37,38],sites:=[2,4,5,16,32,58],owns:=[⟨4,[.snd,.fst],58,22⟩]}),(21,{aV:=[2,4,5,6,7,8,66,67],sites:=[2,4,5,16,32,58]}),(29,{aV:=[2,4,5,6,7,8,13,66,67,85,86],sites:=[2,4,5,16,32,58,99],owns:=[⟨13,[.snd,.fst],99,82⟩],aU7:=[13]})],outs:=nV [(6,{aV:=[2,4,5,6,7],sites:=[2,4,5,16,32]},{aV:=[2,3]}),(11,{aV:=[2,4,5,6,7,8],sites:=[2,4,5,16,32,58]},{aV:=[2,3],sites:=[2]}),(21,{aV:=[2,4,5,7,8],sites:=[2,4,5,16,32,58]},{aV:=[2,3],sites:=[2]}),(29,{aV:=[2,4,5,6,7,8,13,66,67],sites:=[2,4,5,16,32,58,99],aVP:=[13]},{aV:=[2,3]})],fC:=na [(6,u7.E),(11,acZ),(21,ac1),(29,u9.E)],res:=[some eA,none]}
def OI:= @ee Tryz.prog (jy kO.G) kO.an 0 Tryz.f73 1 _ pZ
abbrev Wz:=kj Tryz.prog (jy kO.G) kO.an 0 Tryz.f73 1 pZ Aa lT pY GB
def OK:= @ee Tryz.prog (jy kO.G) kO.an 0 Tryz.f73 2 _ qa
abbrev WB:=kj Tryz.prog (jy kO.G) kO.an 0 Tryz.f73 2 qa Ad lU p9 GC
theorem akt:u7.RS:=rL [.d ti,.d ti,.d ti,.d (.pair ti .unit),.n,.d (.pair ti .unit),.d tW,.d (.slice rP)] u7
theorem MF{R:Type}(n t20 t21 n2 aLL n4 n16 n32)(kn:K2 R)(kx:K3 R):kO.R 0 u7 (n,t20,t21,n2,aLL,n4,n16,n32) kn kx=aH ((gq t21 t20)) (al (ab1.call n16) λx7=>al (DJ.call x7.2) λx8=>aH (decide (aLL<=(ag n32))) (aH (da (aLL+1) 80) (kn (u7.st (n,t20,(bI .i64 t21 1),n2,(aLL+1),n4,x8.2,((aQ aLL n32)++ [((x7.1,(x8.1,())),((0,(none,(0,()))),()))])))) none) none) (u7.go kx ((n,n2,n4),(aLL,n16,n32))):=bY
theorem aku:iW MG Aa lT pY:=l6 (jk [.d ti,.d ti,.d ti,.d ti,.d (.pair ti .unit),.n,.n,.d (.pair ti .unit),.d tW,.d (.slice rP),.d (.slice gb)] λ_=>bY)
theorem RT:mP @OI pZ Aa lT pY GB Wz:=nD
theorem MH{R:Type}(wG:Int)(m:Int)(t37:Int)(t38:Int)(kM:(Int×Unit))(VT:Nat)(Mb:Nat)(Bf:(Int×Unit))(aaH:gI)(VQ:(List Ay))(aND:(List gf))(kn:AS->Option R)(kx:Exit->AS->Option R):OI (wG,m,t37,t38,kM,VT,Mb,Bf,aaH,VQ,aND) kn kx=aH ((gq t38 t37)) (al (DJ.call aaH) λae2=>al (Jf.call ae2.2) λaVR=>al (Bc.call aVR.1) λYd=>aH ((!Yd.2)) (kx (qU ((0:Int),())).1 (qU ((0:Int),())).2) (aH (decide (Mb<=(ag aND))) (aH (da (Mb+1) 32) (kn (pZ (wG,m,t37,(bI .i64 t38 (1:Int)),kM,VT,(Mb+1),Bf,aVR.2,VQ,((aQ Mb aND)++ [(ae2.1,(Yd.1,()))])))) none) none)) (kx (Ac ((wG,m,kM,VT,Bf,VQ),(Mb,aaH,aND))).1 (Ac ((wG,m,kM,VT,Bf,VQ),(Mb,aaH,aND))).2):=bY
theorem akv:iW MI Ad lU p9:=l6 (jk [.d ti,.d ti,.d ti,.d ti,.d (.pair ti .unit),.n,.n,.d (.pair ti .unit),.d tW,.d (.slice rP),.d (.slice gb)] λ_=>bY)
theorem RU:mP @OK qa Ad lU p9 GC WB:=nD
theorem MJ{R:Type}(aPp:Int)(avP:Int)(t66:Int)(t67:Int)(td:(Int×Unit))(VU:Nat)(aaR:Nat)(QP:(Int×Unit))(aaI:gI)(fN:(List Ay))(aaV:(List gf))(kn:AS->Option R)(kx:Exit->AS->Option R):OK (aPp,avP,t66,t67,td,VU,aaR,QP,aaI,fN,aaV) kn kx=aH ((gq t67 t66)) (aH (eo t67 ((VU:Nat):Int)) (al (DJ.call aaI) λae2=>aH (decide ((0+(ae t67)) < (ag fN))) (aH (decide ((((0+(ae t67))*36)+33)=(((0+((ae t67)*36))+33)+0))) (aH (decide ((0+(ae t67)) < (ag fN))) (al (MO.call ((12:Int),ae2.2)) λBT=>aH ((gq BT.1 (0:Int))) (kx (qV ((0:Int),())).1 (qV ((0:Int),())).2) (aH (decide ((0+(ae t67)) < (ag (fT fN (0+(ae t67)) ((nth rP fN (0+(ae t67))).1,((ae2.1,(nth rP fN (0+(ae t67))).2.1.2),(nth rP fN (0+(ae t67))).2.2)))))) (aH ((Option.isNone (nth rP (fT fN (0+(ae t67)) ((nth rP fN (0+(ae t67))).1,((ae2.1,(nth rP fN (0+(ae t67))).2.1.2),(nth rP fN (0+(ae t67))).2.2))) (0+(ae t67))).2.1.2.1)) (al (u9.call (aPp,avP,t66,t67,BT.1,(0:Int),td,VU,aaR,QP,BT.2,(aQ (0+(ae t67)) (fT fN (0+(ae t67)) ((nth rP fN (0+(ae t67))).1,((ae2.1,(nth rP fN (0+(ae t67))).2.1.2),(nth rP fN (0+(ae t67))).2.2)))),((nth rP (fT fN (0+(ae t67)) ((nth rP fN (0+(ae t67))).1,((ae2.1,(nth rP fN (0+(ae t67))).2.1.2),(nth rP fN (0+(ae t67))).2.2))) (0+(ae t67))).1.1,((nth rP (fT fN (0+(ae t67)) ((nth rP fN (0+(ae t67))).1,((ae2.1,(nth rP fN (0+(ae t67))).2.1.2),(nth rP fN (0+(ae t67))).2.2))) (0+(ae t67))).1.2.1,(nth rP (fT fN (0+(ae t67)) ((nth rP fN (0+(ae t67))).1,((ae2.1,(nth rP fN (0+(ae t67))).2.1.2),(nth rP fN (0+(ae t67))).2.2))) (0+(ae t67))).1.2.2)),(nth rP (fT fN (0+(ae t67)) ((nth rP fN (0+(ae t67))).1,((ae2.1,(nth rP fN (0+(ae t67))).2.1.2),(nth rP fN (0+(ae t67))).2.2))) (0+(ae t67))).2.1.1,0,((nth rP (fT fN (0+(ae t67)) ((nth rP fN (0+(ae t67))).1,((ae2.1,(nth rP fN (0+(ae t67))).2.1.2),(nth rP fN (0+(ae t67))).2.2))) (0+(ae t67))).2.1.2.2.1,(nth rP (fT fN (0+(ae t67)) ((nth rP fN (0+(ae t67))).1,((ae2.1,(nth rP fN (0+(ae t67))).2.1.2),(nth rP fN (0+(ae t67))).2.2))) (0+(ae t67))).2.1.2.2.2),(bR ((0+(ae t67))+1) (fT fN (0+(ae t67)) ((nth rP fN (0+(ae t67))).1,((ae2.1,(nth rP fN (0+(ae t67))).2.1.2),(nth rP fN (0+(ae t67))).2.2)))),aaV,([]:List Sg))) λHC=>al (Rt.call HC.2.1) λYd=>aH (decide ((0+(ae HC.1.2.2.2.1)) < (ag HC.2.2.1))) (aH (decide ((((0+(ae HC.1.2.2.2.1))*36)+35)=(((0+((ae HC.1.2.2.2.1)*36))+33)+2))) (aH (decide ((0+(ae HC.1.2.2.2.1)) < (ag HC.2.2.1))) (kn (qa (HC.1.1,HC.1.2.1,HC.1.2.2.1,(bI .i64 HC.1.2.2.2.1 (1:Int)),HC.1.2.2.2.2.1,HC.1.2.2.2.2.2.1,HC.1.2.2.2.2.2.2.1,HC.1.2.2.2.2.2.2.2.1,Yd.2,(fT HC.2.2.1 (0+(ae HC.1.2.2.2.1)) ((nth rP HC.2.2.1 (0+(ae HC.1.2.2.2.1))).1,(((nth rP HC.2.2.1 (0+(ae HC.1.2.2.2.1))).2.1.1,((nth rP HC.2.2.1 (0+(ae HC.1.2.2.2.1))).2.1.2.1,(Yd.1,(nth rP HC.2.2.1 (0+(ae HC.1.2.2.2.1))).2.1.2.2.2))),(nth rP HC.2.2.1 (0+(ae HC.1.2.2.2.1))).2.2))),HC.1.2.2.2.2.2.2.2.2))) none) none) none) none) none)) none) none) none) none) (kx (Ae (aPp,avP,td,VU,aaR,QP,aaI,fN,aaV)).1 (Ae (aPp,avP,td,VU,aaR,QP,aaI,fN,aaV)).2):=bY
theorem akx:u9.RS:=rL [.d ti,.d ti,.d ti,.d ti,.d ti,.d ti,.d (.pair ti .unit),.n,.n,.d (.pair ti .unit),.d tW,.d (.slice rP),.d bl,.d ti,.n,.d (.pair tu .unit),.d (.slice rP),.d (.slice gb),.d (.slice Av)] u9
theorem MK{R:Type}(aPq aPi acK EW t85 t86 N6 aaS aaT aso agh agj agk agl ad7 agm aaQ aaW n99)(kn:K2 R)(kx:K3 R):kO.R 3 u9 (aPq,aPi,acK,EW,t85,t86,N6,aaS,aaT,aso,agh,agj,agk,agl,ad7,agm,aaQ,aaW,n99) kn kx=aH ((gq t86 t85)) (aH (decide ((((0+(ae EW))*36)+34)=(((0+((ae EW)*36))+33)+1))) (al (Rt.call agh) λx7=>al (Rt.call x7.2) λx8=>aH (decide (ad7<=(ag n99))) (aH (da (ad7+1) 16) (aH (decide ((((0+(ae EW))*36)+34)=(((0+((ae EW)*36))+33)+1))) (kn (u9.st (aPq,aPi,acK,EW,t85,(bI .i64 t86 1),N6,aaS,aaT,aso,x8.2,agj,agk,agl,(ad7+1),agm,aaQ,aaW,((aQ ad7 n99)++ [(x7.1,(x8.1,()))])))) none) none) none) none) (aH (decide (0=0/\(0+ad7)<=(ag n99))) (u9.go kx ((aPq,aPi,acK,EW,N6,aaS,aaT,aso,aaW),(agh,(agj++(agk,((agl,((some (cut n99 0 ad7)),agm)),()))::aaQ),n99))) none):=bY
theorem aIp{R:Type}(b)(k:K1 R):kO.A b k=al (Wi.call b) λx4=>al (MO.call (64,x4)) λx8=>al (u7.call (x8.1,x8.1,0,(0,()),0,(0,()),x8.2,([]:List Ay))) λady=>al (MO.call (64,ady.2.2.1)) λahj=>al (MG (ady.1.1,ahj.1,ahj.1,0,ady.1.2.1,ady.2.1,0,ady.1.2.2,ahj.2,ady.2.2.2,([]:List gf))) λaNP=>aH (aNP.isLeft) (al (aNP.getLeft?) λa83=>k (kO.out ((([]:List gG),(([]:List gf),a83)),false))) (al (aNP.getRight?) λb84=>al (DJ.call b84.2.2.1) λaVT=>al (MI (b84.1.1,b84.1.2.1,((b84.1.2.2.2.1:Nat):Int),0,b84.1.2.2.1,b84.1.2.2.2.1,b84.2.1,(aVT.1,b84.1.2.2.2.2.1.2),aVT.2,b84.1.2.2.2.2.2,b84.2.2.2)) λae1=>aH (ae1.isLeft) (al (ae1.getLeft?) λa125=>k (kO.out ((([]:List gG),(([]:List gf),a125)),false))) (al (ae1.getRight?) λb126=>aH ((gq b126.1 0)) (k (kO.out ((([]:List gG),(([]:List gf),(0,()))),false))) (aH ((gq b126.2.1 0)) (k (kO.out ((([]:List gG),(([]:List gf),(0,()))),false))) (al (atp.call b126.2.2.2.2.2.2.1) λaM3=>aH ((!aM3.2)) (k (kO.out ((([]:List gG),(([]:List gf),(0,()))),false))) (al (ab2.call aM3.1) λoo=>aH ((rz oo.2 0)) (k (kO.out ((([]:List gG),(([]:List gf),(0,()))),false))) (aH (decide (0=0/\(0+b126.2.2.2.1)<=(ag b126.2.2.2.2.2.2.2.1))) (aH (decide (0=0/\(0+b126.2.2.2.2.1)<=(ag b126.2.2.2.2.2.2.2.2))) (al (iI.call ((aQi (.slice rP) (.slice fY) (cut b126.2.2.2.2.2.2.2.1 0 b126.2.2.2.1)),((cut b126.2.2.2.2.2.2.2.2 0 b126.2.2.2.2.1),b126.2.2.2.2.2.1))) λaUP=>aH ((!aUP)) (k (kO.out ((([]:List gG),(([]:List gf),(0,()))),false))) (aH (decide (0=0/\(0+b126.2.2.2.1)<=(ag b126.2.2.2.2.2.2.2.1))) (aH (decide (0=0/\(0+b126.2.2.2.2.1)<=(ag b126.2.2.2.2.2.2.2.2))) (k (kO.out (((aQi (.slice rP) (.slice fY) (cut b126.2.2.2.2.2.2.2.1 0 b126.2.2.2.1)),((cut b126.2.2.2.2.2.2.2.2 0 b126.2.2.2.2.1),b126.2.2.2.2.2.1)),true))) none) none)) none) none)))))):=bY
theorem apE:(kO.kN 0 u7):=by
 refine(kO.mh 0 u7) (λ(n,m,i,u,L,v,r,l)=>(m - i).toNat) ?_
 rintro⟨n,m,i,u,L,v,r,l⟩ ⟨hr,hm,k,rfl,hk,rfl,akW⟩;have hr:ue r:=hr;have hm:m<=64:=hm;have akW:l.length=k:=akW;by_cases h:(k:Int) < m
 ·left;have e1:(m - (k:Int)).toNat=(m - ((k+1:Nat):Int)).toNat+1:=ak;have h1:=amZ hr;refine⟨(n,m,((k+1:Nat):Int),u,l.length+1,v,(aNG r).2,l++ [aJu (aNG r).1]),⟨(rZ h1.1).1.1,hm,k+1,rfl,ak,by rw[ai];rfl,by rw[ai];show l.length+1=_;omega⟩,by show(m - ((k+1:Nat):Int)).toNat < (m - (k:Int)).toNat;omega,?_,λkn kx=> ?_⟩
  ·simp only[z8,GA,e1,K9,bP,aF,cZ];rw[show ∀a c:Nat,a+1+c=a+(c+1) from λa c=>ak]
  ·rw[MF,aU h,aAq (d:=r) hr.1];simp only[aj,ah,bt,awd];rw[pR (d:=(Ig r).2) h1.1.1];simp only[ah,bt,vW];rw[aM (ax _),dr ak ak,N.mO ak,bK];rfl
 ·right;intro R kn kx;have e1:(m - (k:Int)).toNat=0:=ak;rw[MF,aR h,ao];simp only[z8,GA,e1,K9,ig,ba,cm]
theorem apF:Wz:=by
 refine RT (λ(n,m1,m,i,u,L,L2,v,r,l,os)=>(m - i).toNat) ?_
 rintro⟨n,m1,m,i,u,L,L2,v,r,l,os⟩ ⟨hr,hm,k,rfl,hk,rfl,akW⟩;have hr:ue r:=hr;have hm:m<=64:=hm;have akW:os.length=k:=akW;by_cases h:(k:Int) < m
 ·have e1:(m - (k:Int)).toNat=(m - ((k+1:Nat):Int)).toNat+1:=ak;have h1:=rZ hr;have h2:=ahH h1.1.1;have step:∀ {R:Type} (kn:AS->Option R) (kx:Exit->AS->Option R),OI (n,m1,m,(k:Int),u,L,os.length,v,r,l,os) kn kx=aH (!(G9 (Hu (dC r).2).1).2) (kx (qU (0,())).1 (qU (0,())).2) (kn (pZ (n,m1,m,((k+1:Nat):Int),u,L,os.length+1,v,(abd r).2,l,os++ [(abd r).1]))):=by intro R kn kx;rw[MH,aU h,pR (d:=r) hr.1];simp only[aj,ah,bt,vW];rw[atf (d:=(dC r).2) h1.1.1.1];simp only[ah,bt,abU];rw[ay7 (d:=(Hu (dC r).2).1) ⟨h2.2.1,h2.2.2⟩];simp only[ah,bt,ajb];rw[aM (ax _),dr ak ak,N.mO ak,bK];rfl
  cases hp:(G9 (Hu (dC r).2).1).2
  ·right;refine⟨qU (0,()),?_,λkn kx=> ?_⟩
   ·simp only[lT,pY,e1,G4,hp,bn,bq];rfl
   ·rw[step,hp];rfl
  ·left;refine⟨(n,m1,m,((k+1:Nat):Int),u,L,os.length+1,v,(abd r).2,l,os++ [(abd r).1]),⟨h2.1.1,hm,k+1,rfl,ak,by rw[ai];rfl,by rw[ai];show os.length+1=_;omega⟩,by show(m - ((k+1:Nat):Int)).toNat < (m - (k:Int)).toNat;omega,?_,λkn kx=> ?_⟩
   ·simp only[lT,pY,e1,G4,hp,bG];cases G4 (m - ((k+1:Nat):Int)).toNat (abd r).2 with
    |none=>rfl
    |some x=>
     simp only[aA,aF,cZ];rw[show ∀a c:Nat,a+1+c=a+(c+1) from λa c=>ak]
   ·rw[step,hp];rfl
 ·right;have e1:(m - (k:Int)).toNat=0:=ak;refine⟨Ac ((n,m1,u,L,v,l),(os.length,r,os)),?_,λkn kx=> ?_⟩
  ·simp only[lT,pY,e1,G4,aZ,cm,ba];rfl
  ·rw[MH,aR h,ao]
theorem apH:(kO.kN 3 u9):=by
 refine(kO.mh 3 u9) (λ(n,m1,mo,io,m,i,u,L,L2,v,r,la,op,br,Ls,sc,lb,os,sg)=>(m - i).toNat) ?_
 rintro⟨n,m1,mo,io,m,i,u,L,L2,v,r,la,op,br,Ls,sc,lb,os,sg⟩ ⟨hr,hm,k,rfl,hk,rfl,akW⟩;have hr:ue r:=hr;have hm:m<=12:=hm;have akW:sg.length=k:=akW;by_cases h:(k:Int) < m
 ·left;have e1:(m - (k:Int)).toNat=(m - ((k+1:Nat):Int)).toNat+1:=ak;have h1:=KS hr;have h2:=KS h1.1;refine⟨(n,m1,mo,io,m,((k+1:Nat):Int),u,L,L2,v,(aNM r).2,la,op,br,sg.length+1,sc,lb,os,sg++ [(aNM r).1]),⟨h2.1,hm,k+1,rfl,ak,by rw[ai];rfl,by rw[ai];show sg.length+1=_;omega⟩,by show(m - ((k+1:Nat):Int)).toNat < (m - (k:Int)).toNat;omega,?_,λkn kx=> ?_⟩
  ·simp only[Af,GD,e1,Gq,aF,cZ]
  ·rw[MK,aU h,aM ak,Jm (d:=r) hr.1];simp only[aj,ah,bt,T7];rw[Jm (d:=(rS r).2) h1.1.1];simp only[ah,bt,T7];rw[aM (ax _),dr ak ak,N.mO ak,bK];rfl
 ·right;intro R kn kx;have e1:(m - (k:Int)).toNat=0:=ak;rw[MK,aR h,ao];simp only[Af,GD,e1,Gq,ba,aN,ax,jh,cr,aj,eV]
theorem apG:WB:=by
 refine RU (λ(n,m1,m,i,u,L,L2,v,r,l,os)=>l.length - i.toNat) ?_
 rintro⟨n,m1,m,i,u,L,L2,v,r,l,os⟩ ⟨hr,hl,k,rfl,hk,rfl,rfl,hg⟩;have hr:ue r:=hr;have hl:l.length<=64:=hl;have hk:k<=l.length:=hk;by_cases h:k < l.length
 ·have n1:nth rP l k=l[k]:=cg (t:=rP) h;have hd:l.drop k=l[k]::l.drop (k+1):=aq h;have dm:l[k]=aJu l[k].1:=hg _ (by rw[hd];exact aL);obtain⟨op,aRG⟩:∃op,l[k].1=op:=⟨_,rfl⟩;rw[aRG]at dm;have h1:=rZ hr;have h2:=awu h1.1.1 12;have h3:=awt h1.1.1.1 (m:=12) (by decide);have hw:=awy hr;have hu:=KS hw.1;have Si:(l.take k).length=k:=by rw[bp];omega
  have step:∀ {R:Type} (kn:AS->Option R) (kx:Exit->AS->Option R),OK (n,m1,(l.length:Int),(k:Int),u,l.length,L2,v,r,l,os) kn kx=aH (gq (OS 12 (dC r).2).1 0) (kx (qV (0,())).1 (qV (0,())).2) (kn (qa (n,m1,(l.length:Int),((k+1:Nat):Int),u,l.length,L2,v,(rS (wa r).2).2,l.take k++(op,((dC r).1,some (wa r).1,(rS (wa r).2).1,()),())::l.drop (k+1),os))):=by
   intro R kn kx;rw[MJ,aU ak,bg ak ak,pR (d:=r) hr.1];have ns:∀y:Ay,nth rP (l.set k y) k=y:=λy=>aLV (t:=rP) h
   have nm:∀(y:Ay) (b:List Ay),nth rP (l.take k++y::b) k=y:=λy b=>aLU (t:=rP) Si
   simp only[aj,ah,bt,vW,aa,aN,cm,n1,dm,aM h,cr];rw[Ur (d:=(12,(dC r).2)) h1.1.1.1];simp only[aj,ah,bt,RY];refine bo (λz=>aH _ _ z) ?_
   simp only[rU,aM h,aj,aJu,ns,aA4,ax5,Option.isNone_none];rw[akx (d:=(n,m1,(l.length:Int),(k:Int),(OS 12 (dC r).2).1,0,u,l.length,L2,v,(OS 12 (dC r).2).2,l.take k,op,(dC r).1,0,(0,()),l.drop (k+1),os,[])) ⟨h2,h3.2,0,rfl,by decide,rfl,rfl⟩];simp only[ah,Af,GD,qg,aT];rw[show Gq (OS 12 (dC r).2).1.toNat (OS 12 (dC r).2).2=wa r from rfl,Jm (d:=(wa r).2) hw.1.1];simp only[ah,bt,T7,aa,nm,aMw Si,aM (show k < (l.take k++(op,((dC r).1,some (wa r).1,0,()),())::l.drop (k+1)).length by rw[ai,aA];omega),eO,Nat.reduceAdd,cr,aj];rw[N.mO ak]
  by_cases hp:(OS 12 (dC r).2).1 < 0
  ·right;refine⟨qV (0,()),?_,λkn kx=> ?_⟩
   ·simp only[lU,p9,aa,hd,bP,Hq,auz,if_pos hp];rfl
   ·rw[step,aU hp,aj]
  ·left;have arL:(l.take k++(op,((dC r).1,some (wa r).1,(rS (wa r).2).1,()),())::l.drop (k+1)).length=l.length:=by rw[ai,aA,dp];omega
   have aSy:(l.take k++(op,((dC r).1,some (wa r).1,(rS (wa r).2).1,()),())::l.drop (k+1)).drop (k+1)=l.drop (k+1):=by rw[List.append_cons,kT (by rw[ai];show(l.take k).length+1=_;omega)]
   have aT7:(l.take k++(op,((dC r).1,some (wa r).1,(rS (wa r).2).1,()),())::l.drop (k+1)).take (k+1)=l.take k++ [(op,((dC r).1,some (wa r).1,(rS (wa r).2).1,()),())]:=by rw[List.append_cons,kU (by rw[ai];show(l.take k).length+1=_;omega)]
   refine⟨(n,m1,(l.length:Int),((k+1:Nat):Int),u,l.length,L2,v,(rS (wa r).2).2,l.take k++(op,((dC r).1,some (wa r).1,(rS (wa r).2).1,()),())::l.drop (k+1),os),⟨hu.1,by rw[arL];exact hl,k+1,rfl,by rw[arL];omega,by rw[arL],by rw[arL],by rw[aSy];exact λx hx=>hg x (by rw[hd];exact aI _ hx)⟩,by simp only[aa,arL];omega,?_,λkn kx=> ?_⟩
   ·simp only[lU,p9,aa,aSy,aT7,hd,bP,Hq,auz,if_neg hp,aRG];cases Hq ((l.drop (k+1)).map (·.1)) (rS (wa r).2).2 with
    |none=>rfl
    |some x=>
     simp only[bP,aF,cZ];rfl
   ·rw[step,aR hp,ao]
 ·right;obtain rfl:k=l.length:=ak;refine⟨Ae (n,m1,u,l.length,L2,v,r,l,os),?_,λkn kx=> ?_⟩
  ·simp only[lU,p9,aa,aK,ig,Hq,bK,ba];rfl
  ·rw[MJ,aR ak,ao]
theorem aLI(l:List bF):(l.map aJu).map (·.1)=l:=by rw[List.map_map];have:((λx:Ay=>x.1)∘aJu)=id:=rfl;rw[this,List.map_id]
theorem aIq:kO.Ok:=by
 rintro b ⟨hb,hl⟩;have hb:Bytes b:=hb;have hl:b.length<=1000000000:=hl;have k0:=aMc hb hl;have k1:=awu k0 64;have u1:=awt k0.1 (m:=64) (by decide);rw[aIp,agH (d:=b) hl];simp only[ah,bt,aj0,bt,akr,abV];rw[Ur (d:=(64,(b,false,()))) k0.1];simp only[ah,bt,RY];generalize OS 64 (b,false,())=n at*;have o2:=avZ n.1.toNat k1;rw[akt (d:=(n.1,n.1,0,(0,()),0,(0,()),n.2,[])) ⟨k1,u1.2,0,rfl,by decide,rfl,rfl⟩];simp only[ah,z8,GA,qg,aT,aN];generalize K9 n.1.toNat n.2=ops at*;have k3:=awu o2.1.1 64;have u3:=awt o2.1.1.1 (m:=64) (by decide);rw[Ur (d:=(64,ops.2)) o2.1.1.1];simp only[ah,bt,RY];generalize OS 64 ops.2=m at*;rw[aku (d:=(n.1,m.1,m.1,0,(0,()),n.1.toNat,0,(0,()),m.2,ops.1.map aJu,[])) ⟨k3,u3.2,0,rfl,by decide,rfl,rfl⟩];simp only[ah,lT,pY,qg,aT,aN];cases hx:G4 m.1.toNat m.2 with
 |none=>rfl
 |some x=>
  have o4:=an4 _ k3 hx;have o5:=rZ o4.1.1;have ol:(ops.1.map aJu).length=n.1.toNat:=by rw[bU];exact o2.2.1
  simp only[dJ,c9,ao,ah];rw[pR (d:=x.2) o4.1.1.1];simp only[ah,bt,vW];rw[akv (d:=(n.1,m.1,(n.1.toNat:Int),0,(0,()),n.1.toNat,x.1.length,((dC x.2).1,()),(dC x.2).2,ops.1.map aJu,x.1)) ⟨o5.1.1,by rw[ol];omega,0,rfl,aJ _,by rw[ol],by rw[ol],λz hz=>by
   rw[aD]at hz;obtain⟨o,_,rfl⟩:=cS.1 hz;rfl⟩]
  simp only[ah,lU,p9,aX,aD,dH,aT,aLI,aF8];cases hy:Hq ops.1 (dC x.2).2 with
  |none=>rfl
  |some y=>
   have o6:=apU _ o5.1.1 hy;have yl:y.1.length=n.1.toNat:=by rw[<-o2.2.1,<-o6.2.1,bU]
   have yl2:(y.1.map aSN).length=n.1.toNat:=by rw[bU];exact yl
   simp only[dJ,c9,ao,ah,aEn];by_cases c1:n.1 < 0
   ·rw[aU c1,aj,if_pos (lV c1)];rfl
   rw[aR c1,ao];by_cases c2:m.1 < 0
   ·rw[aU c2,aj,if_pos (ff (lV c2))];rfl
   rw[aR c2,ao,aHu (d:=y.2) trivial];simp only[ah,aoP,aHs,Bool.not_not];cases c3:y.2.2.1
   ·rw[ao,aAs (d:=y.2) trivial];simp only[ah,agE,awe];by_cases c4:0 < y.2.1.length
    ·rw[cR ak,aj,if_pos (ff (ff (ff (lV c4))))];rfl
    ·rw[cn ak,ao,aM ⟨by trivial,ak⟩,aM ⟨by trivial,ak⟩,eV yl2,eV rfl,aOm,aP1];simp only[aj];rw[qb (d:=(y.1,x.1,(dC x.2).1,())) ⟨λo ho=>(o4.2.2 o ho).2.2,by show y.1.length<=_;omega,by show x.1.length<=_;have:=o4.2.1;omega⟩];simp only[ah,bt,rR];cases c5:gV (y.1,x.1,(dC x.2).1,())
     ·rw[if_pos (ff (ff (ff (ff (by trivial)))))];rfl
     ·rw[if_neg (by
       rintro(z | z | z | z | z)
       ·exact c1 z
       ·exact c2 z
       ·cases z
       ·exact c4 z
       ·cases z)]
      rfl
   ·rw[aj,if_pos (ff (ff (lV (by trivial))))];rfl
theorem Uq:kO.RS:=rE [.d tB] kO
def ac4:=kO.eS aIq 4 ⟨.fp apE,⟨.fp apF,⟨.fp apG,⟨.fp apH,trivial⟩⟩⟩⟩
theorem aHS{t:dv}(h:gV t=true):aqd t:=by
 obtain⟨⟨_,a2,a3,_⟩,b1,b2⟩:=jI h;exact⟨⟨ak,λx hx=>by have:=A6 (mC _ _ b1 x hx);omega⟩,ak,λo ho=>by
  have:=Tv (kq _ _ b2 o ho).2;exact⟨ak,λb hb=>by have:=this.2 b hb;omega⟩⟩
theorem Ff{α:Type}{f:α->List Int}{l:List α}(h:∀x∈l,Bytes (f x)):Bytes (l.flatMap f):=λb hb=>by obtain⟨x,hx,hb⟩:=qj.1 hb;exact h x hx b hb
theorem Is{α:Type}{f:α->List Int}{n:Nat}:∀ {l:List α},(∀x∈l,(f x).length<=n)->(l.flatMap f).length<=n*l.length
 |[],_=>aJ _
 |x::l,h=>by
  rw[dx,ai,aA,Nat.mul_add,gO];have h1:=h x aL;have h2:=Is (l:=l) λy hy=>h y (aI _ hy)
  omega
theorem Aw{t:dv}(hv:nT t):Bytes (aur t)/\(aur t).length<=1000000:=by
 cases jj:gV t
 ·unfold aur;rw[jj];exact⟨λx hx=>(by cases hx),aJ _⟩
 obtain⟨⟨a1,a2,a3,a4⟩,b1,b2⟩:=jI jj;have am2:∀x∈t.1,_:=λx hx=>A6 (mC _ _ b1 x hx)
 rw[aIE jj];have n0:∀ {n:Nat},n<=1000->Ht (n:Int):=λh=>uP ak
 have e1:∀x∈t.1,Bytes (asA x.1)/\(asA x.1).length<=43:=λx hx=>by have hi:=am2 x hx;have hr:=kE x.1.2.1;have hs:=(hv.2.1 x hx).1;exact⟨gj hs.2 (kZ ⟨hi.1,ak⟩),by unfold asA;rw[ai,hs.1];omega⟩
 have e2:∀o∈t.2.1,Bytes (Es o)/\(Es o).length<=1022:=λo ho=>by have hi:=(kq _ _ b2 o ho).1;have hr:=kE o.1;have adT:=kE (NX o.2.1).length;have hl:=KF o.2.1;exact⟨gj (kZ ⟨hi.1,ak⟩) (gj (kZ (n0 hl)) (ayW _)),by unfold Es;rw[ai,ai];omega⟩
 have e3:∀x∈t.1,Bytes (DW x.2.1)/\(DW x.2.1).length<=300:=λx hx=>by
  have hi:=am2 x hx;have hr:=kE x.2.1.1;have adT:=kE x.2.1.2.1.length;have hf:=Is (f:=aB3) (n:=16) (l:=x.2.1.2.1) λs _=>by unfold aB3;rw[ai,cj,cj];omega
  refine⟨gj (kZ ⟨hi.2.2.1,ak⟩) (gj (kZ (n0 ak)) (gj (Ff λs _=>gj (D7 _) (D7 _)) (D7 _))),?_⟩;unfold DW;simp only[ai,cj];omega
 have f1:=Is (f:=λx:gG=>asA x.1) (n:=43) (l:=t.1) λx hx=>(e1 x hx).2
 have f2:=Is (f:=Es) (n:=1022) (l:=t.2.1) λx hx=>(e2 x hx).2
 have f3:=Is (f:=λx:gG=>DW x.2.1) (n:=300) (l:=t.1) λx hx=>(e3 x hx).2
 have r1:=kE t.1.length;have r2:=kE t.2.1.length;have r3:=kE t.2.2.1;refine⟨gj (kZ (n0 ak)) (gj (Ff λx hx=>(e1 x hx).1) (gj (kZ (n0 ak)) (gj (Ff λx hx=>(e2 x hx).1) (gj (kZ ⟨a4,hv.2.2⟩) (Ff λx hx=>(e3 x hx).1))))),?_⟩;unfold aSY;simp only[ai];omega
section
section
variable {β:Type} {kt:Ty}
theorem zq(hc:kt.comp=true)(o o':kt.den)(v:β):∀l:List (kt.den×β),bQ kt o (eF kt o' v l)=if kt.beq o o'=true then some v else bQ kt o l
 |[]=>by rw[azg,fu,qD]
 |p::l=>by
  rw[pI];by_cases h:kt.beq o' p.1=true
  ·rw[if_pos h,fu,fu];have e:=beq_eq kt _ _ hc h;by_cases h2:kt.beq o o'=true
   ·rw[if_pos h2,if_pos h2]
   ·rw[if_neg h2,if_neg h2,if_neg (by rw[<-e];exact h2)]
  ·rw[if_neg h,fu,fu,zq hc o o' v l];by_cases h3:kt.beq o p.1=true
   ·rw[if_pos h3,if_pos h3,if_neg];intro h4;apply h;rw[<-beq_eq kt _ _ hc h4];exact h3
   ·rw[if_neg h3,if_neg h3]
theorem aiI(hc:kt.comp=true)(o o':kt.den):∀ {l:List (kt.den×β)},(l.map (·.1)).Nodup->bQ kt o (gT kt o' l)=if kt.beq o o'=true then none else bQ kt o l
 |[],_=>by rw[azf,qD];split <;> rfl
 |p::l,hn=>by
  rw[bP,cU]at hn;rw[vI];by_cases h:kt.beq o' p.1=true
  ·rw[if_pos h,fu];have e:=beq_eq kt _ _ hc h;by_cases h2:kt.beq o o'=true
   ·rw[if_pos h2];have e2:=beq_eq kt _ _ hc h2;cases hg:bQ kt o l with
    |none=>rfl
    |some v=>exact absurd (cS.2 ⟨_,(j8 hc hn.2).1 hg,rfl⟩) (by rw[e2,e];exact hn.1)
   ·rw[if_neg h2,if_neg (by rw[<-e];exact h2)]
  ·rw[if_neg h,fu,fu,aiI hc o o' hn.2];by_cases h3:kt.beq o p.1=true
   ·rw[if_pos h3,if_pos h3,if_neg];intro h4;apply h;rw[<-beq_eq kt _ _ hc h4];exact h3
   ·rw[if_neg h3,if_neg h3]
theorem get_none(hc:kt.comp=true){o:kt.den}{l:List (kt.den×β)}(hn:(l.map (·.1)).Nodup):bQ kt o l=none↔o ∉ l.map (·.1):=by
 constructor
 ·intro h hm;obtain⟨p,hp,e⟩:=cS.1 hm;have e:p.1=o:=e;have:=(j8 hc hn (x:=o) (v:=p.2)).2 (by rw[<-e];exact hp);rw[h]at this;cases this
 ·intro h;cases hg:bQ kt o l with
  |none=>rfl
  |some v=>exact absurd (cS.2 ⟨_,(j8 hc hn).1 hg,rfl⟩) h
theorem Mc{l:List (kt.den×β)}(hn:(l.map (·.1)).Nodup):l.Nodup:=by
 induction l with
 |nil=>exact fS
 |cons p l ih=>
  rw[bP,cU]at hn;exact cU.2 ⟨λh=>hn.1 (cS.2 ⟨p,h,rfl⟩),ih hn.2⟩
theorem aoc(hc:kt.comp=true){l l':List (kt.den×β)}(hn:(l.map (·.1)).Nodup)(hn':(l'.map (·.1)).Nodup)(h:∀o,bQ kt o l=bQ kt o l'):l.Perm l':=by rw[List.perm_ext_iff_of_nodup (Mc hn) (Mc hn')];rintro⟨o,v⟩;rw[<-j8 hc hn,<-j8 hc hn',h]
end
theorem qp(a b:bF):(Ty.beq bl a b=true)↔a=b:=⟨beq_eq bl a b rfl,λh=>by rw[h];exact beq_refl bl b rfl⟩
abbrev At:=List (bF×dQ)
abbrev eC(a:At):List bF:=a.map (·.1)
theorem ayu(o o':bF)(v:dQ)(a:At):bQ bl o (eF bl o' v a)=if o=o' then some v else bQ bl o a:=by
 rw[zq eM];by_cases h:o=o'
 ·rw[if_pos ((qp _ _).2 h),if_pos h]
 ·rw[if_neg (λe=>h ((qp _ _).1 e)),if_neg h]
theorem amU(o o':bF){a:At}(hn:(eC a).Nodup):bQ bl o (gT bl o' a)=if o=o' then none else bQ bl o a:=by
 rw[aiI eM _ _ hn];by_cases h:o=o'
 ·rw[if_pos ((qp _ _).2 h),if_pos h]
 ·rw[if_neg (λe=>h ((qp _ _).1 e)),if_neg h]
theorem NO{o:bF}{v:dQ}{a:At}(hn:(eC a).Nodup):(eC (eF bl o v a)).Nodup:=Cv eM hn
theorem pA{o:bF}{a:At}(hn:(eC a).Nodup):(eC (gT bl o a)).Nodup:=Cu eM hn
theorem aNd{a a':At}(hn:(eC a).Nodup)(hn':(eC a').Nodup)(h:∀o,bQ bl o a=bQ bl o a'):a.Perm a':=aoc eM hn hn' h
theorem aGJ{a a':At}(hn:(eC a).Nodup)(h:a'.Perm a)(o:bF):bQ bl o a'=bQ bl o a:=aaC eM hn h
theorem auc{o:bF}{c:dQ}{a:At}(hn:(eC a).Nodup)(hg:bQ bl o a=some c):a.Perm ((o,c)::gT bl o a):=by
 refine aNd hn ?_ λx=> ?_
 ·show(o::eC (gT bl o a)).Nodup;refine cU.2 ⟨?_,pA hn⟩;have:=(get_none eM (pA (o:=o) hn)).1 (by rw[amU o o hn,if_pos rfl]);exact this
 ·rw[fu,amU x o hn];by_cases h:x=o
  ·subst h;rw[if_pos ((qp _ _).2 rfl),hg]
  ·rw[if_neg (λe=>h ((qp _ _).1 e)),if_neg h]
theorem SX(o:bF)(l:List bF)(a:At):zd (o::l) a=zd l (gT bl o a):=rfl
theorem FC:∀(l:List bF) {a:At},(eC a).Nodup->(eC (zd l a)).Nodup
 |[],_,h=>h
 |o::l,a,h=>by rw[SX];exact FC l (pA h)
theorem ZO(x:bF):∀(l:List bF) {a:At},(eC a).Nodup->bQ bl x (zd l a)=if x∈l then none else bQ bl x a
 |[],a,_=>by rw[if_neg (by simp)];rfl
 |o::l,a,h=>by
  rw[SX,ZO x l (pA h),amU x o h];by_cases h1:x∈l
  ·rw[if_pos h1,if_pos (aI _ h1)]
  ·rw[if_neg h1];by_cases h2:x=o
   ·rw[if_pos h2,if_pos (by rw[h2];exact aL ..)]
   ·rw[if_neg h2,if_neg (by simp[h1,h2])]
theorem Ao(h:Int)(o:bF)(l:List bF)(x:gf)(xs:List gf)(a:At):M1 h (o::l) (x::xs) a=M1 h l xs (eF bl o (x,(h,())) a):=rfl
theorem Yh(h:Int):∀(l:List bF) (xs:List gf) {a:At},(eC a).Nodup->(eC (M1 h l xs a)).Nodup
 |[],[],_,hn=>hn
 |[],_::_,_,hn=>hn
 |_::_,[],_,hn=>hn
 |o::l,x::xs,a,hn=>by rw[Ao];exact Yh h l xs (NO hn)
theorem avq(h:Int)(x:bF):∀(l:List bF) (xs:List gf) (a:At),x ∉ l->bQ bl x (M1 h l xs a)=bQ bl x a
 |[],[],_,_=>rfl
 |[],_::_,_,_=>rfl
 |_::_,[],_,_=>rfl
 |o::l,y::xs,a,hx=>by rw[Ao,avq h x l xs _ (λe=>hx (aI _ e)),ayu,if_neg (λe=>hx (by rw[e];exact aL ..))]
theorem amT(h:Int):∀(l:List bF) (xs:List gf) (a:At),l.Nodup->∀(k:Nat) (hk:k < l.length) (ap5:k < xs.length),bQ bl l[k] (M1 h l xs a)=some (xs[k],(h,()))
 |[],_,_,_,k,hk,_=>by simp at hk
 |_::_,[],_,_,k,_,hk=>by simp at hk
 |o::l,y::xs,a,hn,k,hk,ap5=>by
  rw[cU]at hn;rw[Ao];cases k with
  |zero=>
   show bQ bl o _=some (y,(h,()));rw[avq h o l xs _ hn.1,ayu,if_pos rfl]
  |succ k=>
   simp only[List.getElem_cons_succ];exact amT h l xs _ hn.2 k (by simpa using hk) (by simpa using ap5)
def yo(a:At)(l:List bF):Int:=(l.map λo=>((bQ bl o a).getD aJj).1.1).sum
theorem amx:∀(l:List bF) {a:At},(eC a).Nodup->l.Nodup->(∀o∈l,(bQ bl o a).isSome=true)->vB (zd l a)=vB a - yo a l/\(zd l a).length+l.length=a.length
 |[],a,_,_,_=>by simp[zd,yo]
 |o::l,a,hn,hl,ht=>by
  rw[cU]at hl;obtain⟨c,hc⟩:=bN.1 (ht o (aL ..));have hg:∀x∈l,bQ bl x (gT bl o a)=bQ bl x a:=λx hx=>by rw[amU x o hn,if_neg (λe=>hl.1 (by rw[<-e];exact hx))]
  obtain⟨h1,h2⟩:=amx l (pA (o:=o) hn) hl.2 λx hx=>by rw[hg x hx];exact ht x (aI _ hx)
  have hp:=auc hn hc;have h3:=Ss hp;have h4:=hp.length_eq;have h5:yo (gT bl o a) l=yo a l:=by unfold yo;congr 1;exact gz λx hx=>by rw[hg x hx]
  rw[qo]at h3;rw[aA]at h4;rw[SX,h1,h5,aA];have h6:yo a (o::l)=c.1.1+yo a l:=by simp[yo,hc]
  rw[h6];exact⟨by have h3:vB a=c.1.1+vB (gT bl o a):=h3;omega,ak⟩
theorem tF(x:gf)(xs:List gf):iY (x::xs)=x.1+iY xs:=by simp[iY]
theorem ak5(h:Int):∀(l:List bF) (xs:List gf) {a:At},(eC a).Nodup->l.Nodup->l.length=xs.length->(∀o∈l,bQ bl o a=none)->vB (M1 h l xs a)=vB a+iY xs/\(M1 h l xs a).length=a.length+l.length
 |[],[],a,_,_,_,_=>by simp[M1,iY]
 |[],_::_,_,_,_,he,_=>by simp at he
 |_::_,[],_,_,_,he,_=>by simp at he
 |o::l,x::xs,a,hn,hl,he,ht=>by
  rw[cU]at hl;have h0:=(get_none eM hn).1 (ht o (aL ..));have e:eF bl o (x,(h,())) a=a++ [(o,(x,(h,())))]:=xB eM h0;obtain⟨h1,h2⟩:=ak5 h l xs (NO (o:=o) (v:=(x,(h,()))) hn) hl.2 (by simpa using he) λy hy=>by rw[ayu,if_neg (λe=>hl.1 (by rw[<-e];exact hy))];exact ht y (aI _ hy)
  rw[Ao,h1,h2,e,ala,tF,ai];simp only[vB,bP,ig,List.sum_cons,List.sum_nil,aA,aZ];omega
theorem Z8:∀(l:List gG) (m:List (bF×Bool)),Em m l=true->(l.map (·.1)).Nodup/\∀x∈l,bQ bl x.1 m≠some true
 |[],_,_=>⟨fS,λ_ h=>by cases h⟩
 |x::l,m,h=>by
  rw[Em,au,au]at h;obtain⟨⟨h1,_⟩,h2⟩:=h;obtain⟨h3,h4⟩:=Z8 l _ h2;have hs:∀y∈l,bQ bl y.1 (eF bl x.1 true m)≠some true:=h4;have gC:∀y∈l,y.1≠x.1:=λy hy e=>hs y hy (by rw[zq eM,if_pos ((qp _ _).2 e)])
  refine⟨?_,λy hy=> ?_⟩
  ·rw[bP,cU];refine⟨λhm=> ?_,h3⟩;obtain⟨y,hy,e⟩:=cS.1 hm;exact gC y hy e
  ·rcases cd.1 hy with rfl | hy
   ·intro e;unfold Qh at h1;rw[e]at h1;cases h1
   ·have:=hs y hy;rw[zq eM,if_neg (λe=>gC y hy ((qp _ _).1 e))]at this;exact this
theorem RI(t:dv):(dN t).Nodup:=by
 unfold dN;split
 ·rename_i h;exact(Z8 _ _ (jI h).2.1).1
 ·exact fS
theorem aau(t:dv):(gS t).Nodup:=by
 unfold gS;split
 ·unfold G2;refine List.Pairwise.map _ (λa b gC e=> ?_) (List.nodup_range' (s:=0) (n:=t.2.1.length) (step:=1));have:(a:Int)=b:=bo (λo:bF=>o.2.1) e;exact gC ak
 ·exact fS
theorem Z6{h:Int}{id:List Int}{a:At}:∀(l:List gG) (f0 f:Int),xx h id a l f0= .inr f->(∀o∈l.map (·.1),(bQ bl o a).isSome=true)/\f=f0+yo a (l.map (·.1))
 |[],f0,f,e=>by simp only[xx,Sum.inr.injEq]at e;subst e;simp[yo]
 |x::l,f0,f,e=>by
  simp only[xx]at e;cases hg:bQ bl x.1 a with
  |none=>rw[hg]at e;cases e
  |some c=>
   rw[hg]at e;simp only at e;split at e
   ·cases e
   ·obtain⟨h1,h2⟩:=Z6 l _ _ e;refine⟨λo ho=> ?_,?_⟩
    ·rw[bP]at ho;rcases cd.1 ho with rfl | ho
     ·rw[hg];rfl
     ·exact h1 o ho
    ·rw[h2];simp only[yo,bP,List.sum_cons,hg,dO];omega
structure vu(t:dv)(h:Int)(a:At)(oH:Int):Prop where
 ok:gV t=true
 h1:1<=h
 h2:h<=1048576
 ins:∃f,xx h (mj t) a t.1 0= .inr f/\oH=f - iY t.2.1
 there:∀o∈dN t,(bQ bl o a).isSome=true
 made:∀o∈gS t,bQ bl o a=none
 aQZ:oH=yo a (dN t) - iY t.2.1
 pos:0<=oH
theorem PE{t:dv}{h:Int}{a:At}(e:(eK t h a).2=0):vu t h a (eK t h a).1:=by
 obtain⟨jj,h1,h2,f,hi,hm,hp,hc⟩:=Kg e;obtain⟨i1,i2⟩:=Z6 _ _ _ hi;have hs:dN t=t.1.map (·.1):=by unfold dN;rw[if_pos jj]
 rw[hc];refine⟨jj,h1,h2,⟨f,hi,rfl⟩,by rw[hs];exact i1,λo ho=> ?_,by rw[hs,i2];show 0+_ - _=_;omega,hp⟩;have:=jq.1 hm o ho;unfold qw at this;cases hg:bQ bl o a with
 |none=>rfl
 |some c=>rw[hg]at this;simp at this
theorem aqZ{t:dv}{h:Int}{a:At}(e:(eK t h a).2≠0):(eK t h a).1=0:=by
 unfold eK at e ⊢;split
 ·rename_i h0;rw[if_pos h0]at e;cases hi:xx h (mj t) a t.1 0 with
  |inl x=>rfl
  |inr f=>
   rw[hi]at e;simp only at e ⊢;split
   ·rfl
   ·rename_i h1;rw[if_neg h1]at e;split
    ·rfl
    ·rename_i h2;rw[if_neg h2]at e;exact absurd rfl e
 ·rfl
section
variable {t:dv} {h oH:Int} {a:At}
theorem vu.aSf(hc:vu t h a oH)(ha:(eC a).Nodup){o:bF}(ho:o∈dN t):bQ bl o (fq t h a)=none:=by
 have hm:o ∉ gS t:=λe=>by have:=hc.there o ho;rw[hc.made o e]at this;cases this
 unfold fq;rw[avq h o _ _ _ hm,ZO o _ ha,if_pos ho]
theorem vu.new(hc:vu t h a oH){k:Nat}(hk:k < (gS t).length)(ap5:k < t.2.1.length):bQ bl (gS t)[k] (fq t h a)=some (t.2.1[k],(h,())):=by unfold fq;exact amT h _ _ _ (aau t) k hk ap5
theorem O8(ha:(eC a).Nodup){o:bF}(h1:o ∉ dN t)(h2:o ∉ gS t):bQ bl o (fq t h a)=bQ bl o a:=by unfold fq;rw[avq h o _ _ _ h2,ZO o _ ha,if_neg h1]
theorem im(ha:(eC a).Nodup):(eC (fq t h a)).Nodup:=Yh h _ _ (FC _ ha)
theorem vu.sum(hc:vu t h a oH)(ha:(eC a).Nodup):vB (fq t h a)=vB a - oH/\(fq t h a).length+t.1.length=a.length+t.2.1.length:=by
 obtain⟨d1,d2⟩:=amx (dN t) ha (RI t) hc.there;obtain⟨e1,e2⟩:=ak5 h (gS t) t.2.1 (FC (dN t) ha) (aau t) (vG hc.ok) λo ho=>by
  rw[ZO o _ ha];split
  ·rfl
  ·exact hc.made o ho
 have hf:=hc.aQZ;have hl:=Z7 hc.ok;have hm:=vG hc.ok;unfold fq;rw[e1,e2,d1];exact⟨ak,ak⟩
theorem vu.C7(hc:vu t h a oH)(ha:akU a)(hv:nT t):akU (fq t h a):=by
 refine⟨im ha.1,λp hp=> ?_⟩;have hg:=(j8 eM (im (t:=t) (h:=h) ha.1) (x:=p.1) (v:=p.2)).2 hp;by_cases h2:p.1∈gS t
 ·obtain⟨k,hk,e⟩:=List.getElem_of_mem h2;have ap5:k < t.2.1.length:=by rw[<-vG hc.ok];exact hk
  rw[<-e,hc.new hk ap5]at hg;have hg:=(bk hg).symm;have ho:=kq _ _ (jI hc.ok).2.2 _ (aO ap5);have hu:=hv.1.1 _ (aO ap5);have h1:=hc.h1;have h3:=hc.h2;refine⟨?_,?_⟩
  ·rw[<-e];have hm:gS t=G2 (mj t) 0 t.2.1.length:=by unfold gS;rw[if_pos hc.ok]
   simp only[hm,G2,List.getElem_map];have:=(GG (t:=t));exact⟨this.1,λx hx=>this.2 x hx⟩
  ·rw[hg];exact⟨ho.2,hu.1,ho.1.1,ho.1.2,by show 0<=h;omega,h3⟩
 ·by_cases h1:p.1∈dN t
  ·rw[hc.aSf ha.1 h1]at hg;cases hg
  ·rw[O8 ha.1 h1 h2]at hg;exact ha.2 p ((j8 eM ha.1).1 hg)
end
end
theorem auO(k:Int):nU (gg k):=(aoi _ _).u
def mT:List Int:=[152,45,158,62,185,150,245,89,230,51,244,209,148,222,243,118,29,144,159,90,59,100,125,26,133,31,234,214,124,50,201,209]
theorem s3:mI 3 mT=(2066670005889522986,1913675330412042729,()):=by decide+kernel
theorem s5:mI 5 mT=(1601457595092860225,1871270319440231866,()):=by decide+kernel
theorem u0:nU 0:=⟨ix 0,by decide⟩
theorem ar1{x:Int}{l:List Int}(h:nU x)(hl:GM l):GM (x::l):=λp hp=>by
 rcases cd.1 hp with rfl | hp
 ·exact h
 ·exact hl p hp
theorem ayP:GM []:=λp hp=>by cases hp
theorem aT6:NQ 0=true:=rfl
theorem aJ2(ks:List Int)(a d:Int)(h:ks.length<=12):vd (ks,a,d,0,())=(ks.all vn && (NQ a && NQ d)):=by have e:vd (ks,a,d,0,())=(decide (ks.length<=12) && (ks.all vn && (NQ a && (NQ d && true)))):=rfl;rw[e,aM h,bu,Bool.and_true]
def aGu(b:oq)(sg:List Sg)(s:Int)(m:List Int)(height age:Int):Int:=if height < b.2.1\/age < b.2.2.1 then 11 else if b.2.2.2.1≠0/\gg s≠b.2.2.2.1 then 23 else if sg.length≠b.1.length then 7 else if yp m b.1 sg then 0 else 7
theorem aLX{l:Lk}{i:Nat}{b:oq}(jj:kP l=true)(hi:i < l.1.length)(hb:l.1[i]=b)(sg:List Sg)(s:Int)(m:List Int)(h a:Int):yy l ((i:Int),sg,s,()) m h a=aGu b sg s m h a:=by
 have n1:nth (.pair (.slice (.int .u64)) (.pair (.int .i64) (.pair (.int .i64) (.pair (.int .u64) .unit)))) l.1 i=l.1[i]:=cg (t:=(.pair (.slice (.int .u64)) (.pair (.int .i64) (.pair (.int .i64) (.pair (.int .u64) .unit))))) hi;unfold yy;rw[if_neg (by
  intro hh;rcases hh with hh | hh | hh
  ·rw[jj]at hh;cases hh
  ·have hh:(i:Int) < 0:=hh;omega
  ·have hh:(i:Int)>=l.1.length:=hh;omega)]
 show(if h < (nth (.pair (.slice (.int .u64)) (.pair (.int .i64) (.pair (.int .i64) (.pair (.int .u64) .unit)))) l.1 i).2.1\/a < (nth (.pair (.slice (.int .u64)) (.pair (.int .i64) (.pair (.int .i64) (.pair (.int .u64) .unit)))) l.1 i).2.2.1 then 11 else if(nth (.pair (.slice (.int .u64)) (.pair (.int .i64) (.pair (.int .i64) (.pair (.int .u64) .unit)))) l.1 i).2.2.2.1≠0/\gg s≠(nth (.pair (.slice (.int .u64)) (.pair (.int .i64) (.pair (.int .i64) (.pair (.int .u64) .unit)))) l.1 i).2.2.2.1 then 23 else if sg.length≠(nth (.pair (.slice (.int .u64)) (.pair (.int .i64) (.pair (.int .i64) (.pair (.int .u64) .unit)))) l.1 i).1.length then 7 else if yp m (nth (.pair (.slice (.int .u64)) (.pair (.int .i64) (.pair (.int .i64) (.pair (.int .u64) .unit)))) l.1 i).1 sg then 0 else 7)=_;rw[n1,hb];rfl
theorem adn(m:List Int):∀ks:List Int,(∀k∈ks,0 < k/\k < 2305843009213688669)->yp m (ks.map gg) (ks.map λk=>mI k m)=true
 |[],_=>rfl
 |k::ks,h=>by have hk:=h k aL;show(AJ (gg k) m 1 (mI k m) && yp m (ks.map gg) (ks.map λk=>mI k m))=true;rw[aMB k m hk.1 hk.2,adn m ks λx hx=>h x (aI _ hx)];rfl
theorem ajs(ks:List Int)(hk:∀k∈ks,0 < k/\k < 2305843009213688669)(af dl sc s:Int)(m:List Int)(h a:Int)(hs:sc=0\/gg s=sc):
  aGu (ks.map gg,af,dl,sc,()) (ks.map λk=>mI k m) s m h a=if h < af\/a < dl then 11 else 0:=by
 have e:aGu (ks.map gg,af,dl,sc,()) (ks.map λk=>mI k m) s m h a=if h < af\/a < dl then 11 else if sc≠0/\gg s≠sc then 23 else if(ks.map λk=>mI k m).length≠(ks.map gg).length then 7 else if yp m (ks.map gg) (ks.map λk=>mI k m) then 0 else 7:=rfl
 rw[e,adn m ks hk,if_neg (c:=sc≠0/\gg s≠sc) (by rintro⟨h1,h2⟩;exact hs.elim h1 h2),if_neg (c:=(ks.map λk=>mI k m).length≠(ks.map gg).length) (by rw[bU,bU];exact λx=>x rfl)];rfl
theorem aR1{k:Int}(h:0 < k/\k < 2305843009213688669):∀x∈ [k],0 < x/\x < 2305843009213688669:=λx hx=>by rw[bh]at hx;subst hx;exact h
def z32:List Int:=ab 32 0
def aU3:Lk:=aNY [gg 7]
def aVV:dv:=([((z32,((0:Int),())),(((0:Int),(([]:List Sg),((0:Int),()))),()))],([((90:Int),(aU3,()))],((0:Int),())))
def aU0:At:=[GZ 0 ((100:Int),(aU3,()))]
theorem aUl:¬mj aVV=z32:=by decide+kernel
theorem b7:nU (gg 7):=auO 7
theorem n14(m:List Int)(hm:¬m=z32):bQ bl (m,((0:Int),())) aU0=none:=by unfold aU0 GZ;rw[fu,if_neg,qD];intro e;have:=(qp _ _).1 e;exact hm (bo (λo:bF=>o.1) this)
theorem amy{o:bF}{c:dQ}:zd [o] [(o,c)]=[]:=by show gT bl o [(o,c)]=[];rw[vI];exact if_pos ((qp _ _).2 rfl)
theorem ayr{o:bF}{c:dQ}{a:At}(hg:bQ bl o a=some c):vm a [o]=[(o,(c,()))]:=by simp only[vm,hg,dO]
section
structure DZ(m n:Nat)(a:At)(s:List bW):Prop where
 C7:akU a
 le:n<=s.length
 len:s.length<=m
 aIc:∀st∈s,ahn st
 sum:vB a<=1125899906842624
 aSv:a.length<=256+64*m
theorem DZ.mono{m m' n:Nat}{a:At}{s:List bW}(h:DZ m n a s)(hm:m<=m'):DZ m' n a s:=⟨h.C7,h.le,il h.len hm,h.aIc,h.sum,by have:=h.aSv;omega⟩
theorem alb{a:At}(h:∀p∈a,0<=p.2.1.1):0<=vB a:=by
 induction a with
 |nil=>exact ix 0
 |cons p a ih=>
  rw[qo];have:=h p aL;have:=ih λq hq=>h q (aI _ hq)
  omega
theorem akU.pos{a:At}(h:akU a):0<=vB a:=alb λp hp=>(h.2 p hp).2.2.2.1
theorem agn:∀(l:List gf) (sum:Int) (k:Nat) {a:At},0<=sum->sum<=1125899906842624->(∀o∈l,aqc o)->W6 sum k l=some a->
  a.length=l.length/\vB a=iY l/\sum+iY l<=1125899906842624/\(∀o∈l,0<=o.1)/\(∀p∈a,Le p.1/\aQK p.2/\(k:Int)<=p.1.2.1)/\(eC a).Nodup
 |[],sum,k,a,h0,h1,_,e=>by obtain rfl:=bk e;exact⟨rfl,rfl,by show sum+0<=_;omega,λo ho=>(by cases ho),λp hp=>(by cases hp),fS⟩
 |o::l,sum,k,a,h0,h1,hg,e=>by
  rw[W6]at e;cases ho:F7 sum o with
  |false=>rw[ho]at e;cases e
  |true=>
   rw[ho]at e;simp only at e;cases hr:W6 (sum+o.1) (k+1) l with
   |none=>rw[hr]at e;cases e
   |some r=>
    rw[hr]at e;obtain rfl:=bk e;have ho':=ho;unfold F7 at ho';simp only[au,aW]at ho';obtain⟨k1,k2,k3⟩:=ho';obtain⟨i1,i2,i3,i4,i5,i6⟩:=agn l (sum+o.1) (k+1) ak ak (λx hx=>hg x (aI _ hx)) hr;have hu:=hg o aL;refine⟨by rw[aA,aA,i1],?_,by rw[tF];omega,λx hx=> ?_,λp hp=> ?_,?_⟩
    ·rw[qo,tF,i2];rfl
    ·rcases cd.1 hx with rfl | hx
     ·exact k2
     ·exact i4 x hx
    ·rcases cd.1 hp with rfl | hp
     ·refine⟨⟨by show(ab 32 (0:Int)).length=32;rw[b8],λx hx=> ?_⟩,⟨k1,hu.1,k2,by show o.1<=_;omega,ix 0,by show(0:Int)<=_;decide⟩,by show(k:Int)<=k;omega⟩;have hx:x∈ab 32 (0:Int):=hx;obtain rfl:=(nr.1 hx).2;exact⟨by decide,by decide⟩
     ·have:=i5 p hp;exact⟨this.1,this.2.1,ak⟩
    ·show((GZ k o).1::eC r).Nodup;refine cU.2 ⟨λhm=> ?_,i6⟩;obtain⟨p,hp,he⟩:=cS.1 hm;have:=(i5 p hp).2.2;have he:p.1=(GZ k o).1:=he;rw[he]at this;have this:((k+1:Nat):Int)<=(k:Int):=this;omega
theorem azm{outs:List gf}{a:At}(hg:∀o∈outs,aqc o)(e:ajm outs=some a):DZ 0 0 a []/\vB a=iY outs/\a.length=outs.length/\outs.length<=256/\(∀o∈outs,0<=o.1)/\iY outs<=1125899906842624:=by
 unfold ajm at e;by_cases hl:outs.length<=256
 ·rw[if_pos hl]at e;obtain⟨i1,i2,i3,i4,i5,i6⟩:=agn outs 0 0 (by decide) (by decide) hg e;exact⟨⟨⟨i6,λp hp=>⟨(i5 p hp).1,(i5 p hp).2.1⟩⟩,ax _,ax _,λst mB=>(by cases mB),ak,ak⟩,i2,i1,hl,i4,ak⟩
 ·rw[if_neg hl]at e;cases e
theorem afS:∀(l:List bF) (a:At),(vm a l).length=l.length
 |[],_=>rfl
 |o::l,a=>by rw[vm,aA,aA,afS l]
theorem apr{t:dv}{h oH:Int}{a:At}(hc:vu t h a oH):ahn (stepOf t a):=by have h1:=(jI hc.ok).1;have h2:=vG hc.ok;have h3:=Z7 hc.ok;unfold ahn stepOf;rw[afS];exact⟨ak,by show(gS t).length<=1000;omega⟩
section
variable {m n:Nat} {t:dv} {h:Int} {a:At} {s:List bW}
theorem DZ.app(hg:DZ m n a s)(hc:vu t h a (eK t h a).1)(hv:nT t):DZ (m+1) (n+1) (fq t h a) (s.take n++ [stepOf t a]):=by
 have hl:=hg.le;have hm:=hg.len;have hs:=hc.sum hg.C7.1;have hp:=hc.pos;have h1:=(jI hc.ok).1;have e:(s.take n).length=n:=by rw[bp];omega
 refine⟨hc.C7 hg.C7 hv,by rw[ai,e];exact ax _,by rw[ai,e];show n+1<=_;omega,λst mB=> ?_,?_,?_⟩
 ·rcases bB.1 mB with mB | mB
  ·exact hg.aIc st (fg mB)
  ·rw[bh.1 mB];exact apr hc
 ·have:=hg.sum;omega
 ·have:=hg.aSv;omega
theorem DZ.apply(hg:DZ m n a s)(hm:m<=1000)(hv:nT t):((eK t h a).2≠0/\AQ (t,h,n,a,s)=some (.inl ((eK t h a).2,n,a,s)))\/
  (vu t h a (eK t h a).1/\(eK t h a).2=0/\AQ (t,h,n,a,s)=some (.inr (0,n+1,fq t h a,s.take n++ [stepOf t a]))/\DZ (m+1) (n+1) (fq t h a) (s.take n++ [stepOf t a])):=by
 have hr:=axU (d:=(t,h,n,a,s)) ⟨hv,hg.C7,hg.le,by have:=hg.len;show s.length<=_;omega⟩;by_cases he:(eK t h a).2=0
 ·right;refine⟨PE he,he,?_,hg.app (PE he) hv⟩;rw[hr];simp only[Ar,Kn,he,ne_eq,not_true_eq_false,bq]
 ·left;refine⟨he,?_⟩;rw[hr];simp only[Ar,Kn,ne_eq,he,not_false_eq_true,bG]
theorem DZ.check(hg:DZ m n a s)(hv:nT t):mX.call (t,h,n,a,s)=some ((eK t h a).1,(eK t h a).2,n,a,s):=afF (d:=(t,h,n,a,s)) ⟨hv,hg.C7⟩
def aS7(a:At):List bF:=OD (t:=bl) HX (eC a)
theorem DZ.copy(hg:DZ m n a s)(hm:m<=1000):xX.call (n,a,s)=some (n,a,s,(s.take n).length,iX a,s.take n):=aro (d:=(n,a,s)) ⟨hg.le,by have:=hg.len;show s.length<=_;omega,hg.C7.1⟩
theorem DZ.aSj(hg:DZ m n a s)(hm:m<=1000):AV.call (n,a,s)=some (if n=0 then(false,n,a,s) else(true,n - 1,xQ a (nth cD s (n - 1)),s)):=afH (d:=(n,a,s)) ⟨hg.le,by have:=hg.len;show s.length<=_;omega,hg.aIc⟩
theorem akU.perm{a':At}(h:akU a)(hp:a.Perm a'):akU a':=⟨(hp.map _).nodup_iff.1 h.1,λp hm=>h.2 p (hp.mem_iff.2 hm)⟩
theorem DZ.canon(hg:DZ m n a s):DZ m n (iX a) (s.take n)/\(s.take n).length=n:=by
 have hp:=xo a;have e:(s.take n).length=n:=by rw[bp];have:=hg.le;omega
 exact⟨⟨hg.C7.perm hp.symm,ak,by have:=hg.le;have:=hg.len;omega,λst mB=>hg.aIc st (fg mB),by rw[Ss hp];exact hg.sum,by rw[hp.length_eq];exact hg.aSv⟩,e⟩
end
end
def ap4(v o:bF):Bool:=Ty.beq bl v o
def YA(b:dh)(x:gG):Bool:=b.2.2.2.2.1.any (ap4 x.1)
def awQ(b:dh)(t:dv):Bool:=t.1.any (YA b)
abbrev Bj:=(List bF)×bF×Int×Int
def pM:Bj->AS:=λ(mi,aQz,t7,t8)=>⟨([.d (.slice bl) mi,bE,bE,.dD bl aQz,bE,bE,bE,.d ti t7,.d ti t8]++aP 10 []),[],(ab 19 [])⟩
def qE:Int->Exit×AS:=λx=>(.ret,⟨(aP 4 ([.d ti x]++aP 14 [])),[],(ab 19 [])⟩)
def zM:Unit->Exit×AS:=λx=>(.exit 0,⟨(aP 19 []),[],(ab 19 [])⟩)
abbrev Od:=(Int)⊕(Unit)
abbrev abb:=(Int)⊕(Unit)
def F6:Od->Out (Exit×AS):=λx=> .br x.isLeft (.get x.getLeft? λa=> .ok (qE a)) (.get x.getRight? λb=> .ok (zM b))
def lJ:Bj->abb->Od:=λ(mi,aQz,t7,t8) y=>match y with | .inl y=> .inl y | .inr z=> .inr (z)
abbrev avY:=(List bF)×bF
def zL:Bj->Prop:=λ(l,v,n,i)=>l.length<=1000000000/\(True)/\n=l.length/\∃k:Nat,k<=l.length/\i=k
def pL:Bj->abb:=λ(l,v,n,i)=>Ih (ap4 v) (l.drop i.toNat) i
def azx:avY->Prop:=λ(l,v)=>l.length<=1000000000/\(True)
def ajt:avY->Int:=λ(l,v)=>anb (ap4 v) l
def aba:=dy.fp pM zL lJ pL F6
def Md:Bj->Option Od:=gB aba pM
def G3:Fs Tryz.prog azx bt ajt:=eN 118 Tryz.f118 (λ(sv,v)=>([.d (.slice bl) sv,.d bl v],[])) (λx=>⟨.d ti x,[],[]⟩) [some (.slice bl),some bl] [] {loops:=nX [(2,{aV:=[0,3,7,8]})],outs:=nV [(2,{},{aV:=[4]})],fC:=na [(2,aba)]}
def Oc:= @ee Tryz.prog (jy G3.G) G3.an 0 Tryz.f118 0 _ pM
abbrev VX:=kj Tryz.prog (jy G3.G) G3.an 0 Tryz.f118 0 pM zL lJ pL F6
theorem aju:iW Md zL lJ pL:=l6 (jk [.d (.slice bl),.d bl,.d ti,.d ti] λ_=>bY)
theorem QS:mP @Oc pM zL lJ pL F6 VX:=nD
theorem Me{R:Type}(mi:(List bF))(aQz:bF)(t7:Int)(t8:Int)(kn:AS->Option R)(kx:Exit->AS->Option R):Oc (mi,aQz,t7,t8) kn kx=aH ((gq t8 t7)) (aH (eo t8 (((ag mi):Nat):Int)) (aH ((Ty.beq bl aQz (nth bl mi (ae t8)))) (kx (qE t8).1 (qE t8).2) (kn (pM (mi,aQz,t7,(bI .i64 t8 (1:Int)))))) none) (kx (zM ()).1 (zM ()).2):=bY
theorem aGv{R:Type}(sv v)(k:K1 R):G3.A (sv,v) k=al (Md (sv,v,(sv.length:Int),0)) λx1=>aH (x1.isLeft) (al (x1.getLeft?) λa2=>k (G3.out a2)) (al (x1.getRight?) λb3=>k (G3.out (-1))):=bY
theorem an0:VX:=by
 refine QS (λ(l,v,n,i)=>l.length - i.toNat) ?_
 rintro⟨l,v,n,i⟩ ⟨hb,hv,rfl,k,hk,rfl⟩;have hb:l.length<=1000000000:=hb;have hk:k<=l.length:=hk;by_cases h:k < l.length
 ·have n1:nth bl l k=l[k]:=cg (t:=bl) h;have hd:Ih (ap4 v) (l.drop k) k=if ap4 v l[k] then .inl (k:Int) else Ih (ap4 v) (l.drop (k+1)) ((k+1:Nat):Int):=by rw[aq h];rfl
  have step:∀ {R:Type} (kn:AS->Option R) (kx:Exit->AS->Option R),Oc (l,v,(l.length:Int),(k:Int)) kn kx=aH (ap4 v l[k]) (kx (qE (k:Int)).1 (qE (k:Int)).2) (kn (pM (l,v,(l.length:Int),((k+1:Nat):Int)))):=by intro R kn kx;rw[Me,aU ak,bg ak ak,aa,n1,N.mO ak];rfl
  cases hp:ap4 v l[k]
  ·left;refine⟨(l,v,l.length,((k+1:Nat):Int)),⟨hb,hv,rfl,k+1,ak,rfl⟩,by simp only[aa];omega,?_,λkn kx=> ?_⟩
   ·simp only[lJ,pL,aa,hd,hp,bn,bq]
   ·rw[step,hp,ao]
  ·right;refine⟨qE (k:Int),?_,λkn kx=> ?_⟩
   ·simp only[lJ,pL,aa,hd,hp,bG];rfl
   ·rw[step,hp,aj]
 ·right;obtain rfl:k=l.length:=ak;refine⟨zM (),?_,λkn kx=> ?_⟩
  ·simp only[lJ,pL,aa,aK];rfl
  ·rw[Me,aR ak,ao]
theorem aGw:G3.Ok:=by rintro⟨l,v⟩ ⟨hb,hv⟩;rw[aGv,aju (d:=(l,v,l.length,0)) ⟨hb,hv,rfl,0,ak,rfl⟩];simp only[ah,lJ,pL,aX,aD,bt,ajt,anb];cases Ih (ap4 v) l 0 <;> rfl
theorem azy:G3.RS:=rE [.d (.slice bl),.d bl] G3
def aGx:=G3.eS aGw 1 ⟨.fp an0,trivial⟩
abbrev avW:=(List bF)×bF
def azw:avW->Prop:=λ(l,_)=>l.length<=1000000000
def avX:avW->Bool:=λ(l,v)=>l.any (ap4 v)
def VW:Fs Tryz.prog azw bt avX:=eN 71 Tryz.f71 (λ(sv,v)=>([.d (.slice bl) sv,.d bl v],[])) (λx=>⟨.d .bool x,[],[]⟩) [some (.slice bl),some bl] [aGx]
theorem aGs{R:Type}(sv v)(k:K1 R):VW.A (sv,v) k=al (G3.call (sv,v)) λx1=>k (VW.out (Cm x1 0)):=bY
theorem aGt:VW.Ok:=by rintro⟨l,v⟩ hb;rw[aGs,azy (d:=(l,v)) ⟨hb,trivial⟩];simp only[ah,bt,ajt,ZY];rfl
theorem agq:VW.RS:=rE [.d (.slice bl),.d bl] VW
def anZ:=VW.eS aGt
def awO:(gG×dh)->Prop:=λ(_,b)=>b.2.2.2.2.1.length<=1000
def aJN:(gG×dh)->Bool:=λ(x,b)=>YA b x
def Yz:Fs Tryz.prog awO bt aJN:=eN 229 Tryz.f229 (λ(x,t1)=>([.d fY x,.dD dR t1],[])) (λx=>⟨.d .bool x,[],[]⟩) [some fY,none] [anZ]
theorem aCv{R:Type}(x t1)(k:K1 R):Yz.A (x,t1) k=al (VW.call (t1.2.2.2.2.1,x.1)) λx1=>k (Yz.out x1):=bY
theorem aCw:Yz.Ok:=by rintro⟨x,b⟩ hb;have hb:b.2.2.2.2.1.length<=1000:=hb;rw[aCv,agq (d:=(b.2.2.2.2.1,x.1)) (by show b.2.2.2.2.1.length<=_;omega)];rfl
theorem awP:Yz.RS:=rE [.d fY,.d dR] Yz
def aCx:=Yz.eS aCw
abbrev A7:=(List gG)×dh×Int×Int
def pD:A7->AS:=λ(mi,f,t7,t8)=>⟨([.d (.slice fY) mi,.fn 229 (.cons (.dD dR f) (.nil))]++aP 5 ([.d ti t7,.d ti t8]++aP 10 [])),[],(ab 19 [])⟩
def qv:Int->Exit×AS:=λx=>(.ret,⟨(aP 4 ([.d ti x]++aP 14 [])),[],(ab 19 [])⟩)
def zz:Unit->Exit×AS:=λx=>(.exit 0,⟨(aP 19 []),[],(ab 19 [])⟩)
abbrev NT:=(Int)⊕(Unit)
abbrev Z4:=(Int)⊕(Unit)
def FR:NT->Out (Exit×AS):=λx=> .br x.isLeft (.get x.getLeft? λa=> .ok (qv a)) (.get x.getRight? λb=> .ok (zz b))
def lF:A7->Z4->NT:=λ(mi,f,t7,t8) y=>match y with | .inl y=> .inl y | .inr z=> .inr (z)
abbrev avB:=(List gG)×dh
def zy:A7->Prop:=λ(l,v,n,i)=>l.length<=1000000000/\(v.2.2.2.2.1.length<=1000)/\n=l.length/\∃k:Nat,k<=l.length/\i=k
def pC:A7->Z4:=λ(l,v,n,i)=>Ih (YA v) (l.drop i.toNat) i
def ayJ:avB->Prop:=λ(l,v)=>l.length<=1000000000/\(v.2.2.2.2.1.length<=1000)
def aiY:avB->Int:=λ(l,v)=>anb (YA v) l
def Z3:=dy.fp pD zy lF pC FR
def LZ:A7->Option NT:=gB Z3 pD
def G1:Fs Tryz.prog ayJ bt aiY:=eN 243 Tryz.f243 (λ(sv,fc)=>([.d (.slice fY) sv,.fn 229 (.cons (.dD dR fc) (.nil))],[])) (λx=>⟨.d ti x,[],[]⟩) [some (.slice fY),none] [aCx] {loops:=nX [(2,{aV:=[0,1,7,8]})],outs:=nV [(2,{},{aV:=[4]})],fC:=na [(2,Z3)]}
def NS:= @ee Tryz.prog (jy G1.G) G1.an 0 Tryz.f243 0 _ pD
abbrev Vu:=kj Tryz.prog (jy G1.G) G1.an 0 Tryz.f243 0 pD zy lF pC FR
theorem aiZ:iW LZ zy lF pC:=l6 (jk [.d (.slice fY),.d dR,.d ti,.d ti] λ_=>bY)
theorem Qu:mP @NS pD zy lF pC FR Vu:=nD
theorem L0{R:Type}(mi:(List gG))(f:dh)(t7:Int)(t8:Int)(kn:AS->Option R)(kx:Exit->AS->Option R):NS (mi,f,t7,t8) kn kx=aH ((gq t8 t7)) (aH (eo t8 (((ag mi):Nat):Int)) (al (Yz.call ((nth fY mi (ae t8)),f)) λx1=>aH (x1) (kx (qv t8).1 (qv t8).2) (kn (pD (mi,f,t7,(bI .i64 t8 (1:Int)))))) none) (kx (zz ()).1 (zz ()).2):=bY
theorem aFp{R:Type}(sv fc)(k:K1 R):G1.A (sv,fc) k=al (LZ (sv,fc,(sv.length:Int),0)) λx2=>aH (x2.isLeft) (al (x2.getLeft?) λa3=>k (G1.out a3)) (al (x2.getRight?) λb4=>k (G1.out (-1))):=bY
theorem ani:Vu:=by
 refine Qu (λ(l,v,n,i)=>l.length - i.toNat) ?_
 rintro⟨l,v,n,i⟩ ⟨hb,hv,rfl,k,hk,rfl⟩;have hb:l.length<=1000000000:=hb;have hk:k<=l.length:=hk;by_cases h:k < l.length
 ·have n1:nth fY l k=l[k]:=cg (t:=fY) h;have hd:Ih (YA v) (l.drop k) k=if YA v l[k] then .inl (k:Int) else Ih (YA v) (l.drop (k+1)) ((k+1:Nat):Int):=by rw[aq h];rfl
  have step:∀ {R:Type} (kn:AS->Option R) (kx:Exit->AS->Option R),NS (l,v,(l.length:Int),(k:Int)) kn kx=aH (YA v l[k]) (kx (qv (k:Int)).1 (qv (k:Int)).2) (kn (pD (l,v,(l.length:Int),((k+1:Nat):Int)))):=by intro R kn kx;rw[L0,aU ak,bg ak ak,aa,n1,awP (d:=(l[k],v)) hv,N.mO ak];rfl
  cases hp:YA v l[k]
  ·left;refine⟨(l,v,l.length,((k+1:Nat):Int)),⟨hb,hv,rfl,k+1,ak,rfl⟩,by simp only[aa];omega,?_,λkn kx=> ?_⟩
   ·simp only[lF,pC,aa,hd,hp,bn,bq]
   ·rw[step,hp,ao]
  ·right;refine⟨qv (k:Int),?_,λkn kx=> ?_⟩
   ·simp only[lF,pC,aa,hd,hp,bG];rfl
   ·rw[step,hp,aj]
 ·right;obtain rfl:k=l.length:=ak;refine⟨zz (),?_,λkn kx=> ?_⟩
  ·simp only[lF,pC,aa,aK];rfl
  ·rw[L0,aR ak,ao]
theorem aFq:G1.Ok:=by rintro⟨l,v⟩ ⟨hb,hv⟩;rw[aFp,aiZ (d:=(l,v,l.length,0)) ⟨hb,hv,rfl,0,ak,rfl⟩];simp only[ah,lF,pC,aX,aD,bt,aiY,anb];cases Ih (YA v) l 0 <;> rfl
theorem ayK:G1.RS:=rE [.d (.slice fY),.d dR] G1
def aFr:=G1.eS aFq 1 ⟨.fp ani,trivial⟩
abbrev avz:=(List gG)×dh
def ayH:avz->Prop:=λ(l,b)=>l.length<=1000000000/\b.2.2.2.2.1.length<=1000
def aLn:avz->Bool:=λ(l,b)=>l.any (YA b)
def Z0:Fs Tryz.prog ayH bt aLn:=eN 228 Tryz.f228 (λ(sv,fc)=>([.d (.slice fY) sv,.fn 229 (.cons (.dD dR fc) (.nil))],[])) (λx=>⟨.d .bool x,[],[]⟩) [some (.slice fY),none] [aFr]
theorem aFj{R:Type}(sv fc)(k:K1 R):Z0.A (sv,fc) k=al (G1.call (sv,fc)) λx1=>k (Z0.out (Cm x1 0)):=bY
theorem aFk:Z0.Ok:=by rintro⟨l,v⟩ ⟨hb,hv⟩;rw[aFj,ayK (d:=(l,v)) ⟨hb,hv⟩];simp only[ah,bt,aiY,ZY];rfl
theorem ayI:Z0.RS:=rE [.d (.slice fY),.d dR] Z0
def aFl:=Z0.eS aFk
def aqq:(dv×dh)->Prop:=λ(t,b)=>nT t/\t.1.length<=1000000000/\b.2.2.2.2.1.length<=1000
def Pb:(dv×dh)->Bool:=λ(t,b)=>awQ b t
def M4:Fs Tryz.prog aqq bt Pb:=eN 227 Tryz.f227 (λ(t,t1)=>([.d eA t,.dD dR t1],[])) (λx=>⟨.d .bool x,[],[]⟩) [some eA,none] [aFl]
theorem awR{R:Type}(t t1)(k:K1 R):M4.A (t,t1) k=al (Z0.call (t.1,t1)) λx1=>k (M4.out x1):=bY
theorem awS:M4.Ok:=by rintro⟨t,b⟩ ⟨_,hl,hb⟩;rw[awR,ayI (d:=(t.1,b)) ⟨hl,hb⟩];rfl
theorem aqr:M4.RS:=rE [.d eA,.d dR] M4
def awT:=M4.eS awS
abbrev xn:=(List dv)×Int×dh×Int×(List dv)×Int×Int×Nat×(List (bF×dQ))×(List bW)×Nat×(List (bF×dQ))×(List bW)
def nC:xn->AS:=λ(vg,dP,endv,fees,t18,t19,t20,o0L,dS,ez,aGb,n17,anN)=>⟨([bE,.d (.slice eA) vg,.d ti dP,.fn 227 (.cons (.dD dR endv) (.nil))]++aP 5 ([.d ti fees,bE,eT 17]++aP 6 ([.d (.slice eA) t18,.d ti t19,.d ti t20]++aP 32 []))),[.obj 0 false (.pr (.ct (.bm 1) 0) (.pr (.bz (.bm 2) 0 [] 0 0 o0L) fP)),.obj 0 false (.mp bl eQ dS),.obj 0 false (.vec 256 cD ez)],(bM 17 ([[.obj 0 false (.pr (.ct (.new 17 1) 0) (.pr (.bz (.new 17 2) 0 [] 0 0 aGb) fP)),.obj 0 false (.mp bl eQ n17),.obj 0 false (.vec 256 cD anN)]]++bM 35 []))⟩
abbrev Pp:=(Nat×(List (bF×dQ))×(List bW))×(Int×Int×Int)
def lX:Pp->Exit×AS:=λx=>(.ret,⟨(aP 8 ([.d ti x.2.1,.d ti x.2.2.1,.d ti x.2.2.2]++aP 42 [])),[.obj 0 false (.pr (.ct (.bm 1) 0) (.pr (.bz (.bm 2) 0 [] 0 0 x.1.1) fP)),.obj 0 false (.mp bl eQ x.1.2.1),.obj 0 false (.vec 256 cD x.1.2.2)],(ab 53 [])⟩)
abbrev Pq:=((List dv)×Nat×(List (bF×dQ))×(List bW))×(Int)
def wj:Pq->Exit×AS:=λx=>(.exit 0,⟨([bE,.d (.slice eA) x.1.1]++aP 7 ([.d ti x.2]++aP 43 [])),[.obj 0 false (.pr (.ct (.bm 1) 0) (.pr (.bz (.bm 2) 0 [] 0 0 x.1.2.1) fP)),.obj 0 false (.mp bl eQ x.1.2.2.1),.obj 0 false (.vec 256 cD x.1.2.2.2)],(ab 53 [])⟩)
abbrev HM:=(Pp)⊕(Pq)
abbrev UR:=((Int×Int×Int))⊕(Int)
def CZ:HM->Out (Exit×AS):=λx=> .br x.isLeft (.get x.getLeft? λa=> .ok (lX a)) (.get x.getRight? λb=> .ok (wj b))
def jb:xn->UR->HM:=λ(vg,dP,endv,fees,t18,t19,t20,o0L,dS,ez,aGb,n17,anN) y=>match y with | .inl y=> .inl ((o0L,dS,ez),y) | .inr z=> .inr (((vg,o0L,dS,ez),z))
abbrev alC:=(List dv)×Int×dh×Nat×(List (bF×dQ))×(List bW)
def BM(b:dh)(h:Int):List dv->Int->Int->At->(Int×Int×Int)⊕Int
 |[],_,fees,_=> .inr fees
 |t::l,k,fees,a=>if awQ b t then .inl (k,fees,14) else if(eK t h a).2≠0 then .inl (k,fees,(eK t h a).2) else BM b h l (k+1) (fees+(eK t h a).1) (fq t h a)
def aCg(l:List dv)(b:dh):Prop:=l.length<=100/\(∀t∈l,nT t/\t.1.length<=1000000)/\b.2.2.2.2.1.length<=1000
def wi:xn->Prop:=λ(_,_,b,fees,l,n',i,_,_,_,n,a,s)=>aCg l b/\n'=(l.length:Int)/\∃k:Nat,k<=l.length/\i=k/\DZ (500+k) n a s/\0<=fees/\fees+vB a<=1125899906842624
def lk:xn->UR:=λ(_,h,b,fees,l,_,i,_,_,_,_,a,_)=>BM b h (l.drop i.toNat) i fees a
def R3(b:dh)(h:Int)(l:List dv)(a:At):Int×Int×Int:=match BM b h l 0 0 (iX a) with
 | .inl x=>x
 | .inr f=>((l.length:Int),f,0)
def aqK:alC->Prop:=λ(l,_,b,n,a,s)=>aCg l b/\DZ 500 n a s
def alD:alC->(Int×Int×Int×Nat×(List (bF×dQ))×(List bW)):=λ(l,h,b,n,a,s)=>((R3 b h l a).1,(R3 b h l a).2.1,(R3 b h l a).2.2,n,a,s)
def UP:=dy.fp nC wi jb lk CZ
def HN:xn->Option HM:=gB UP nC
def xT:Fs Tryz.prog aqK bt alD:=eN 230 Tryz.f230 (λ(l,height,endc,o0baL,o1,o2)=>([.ptr (.bm 0) 0 [] 0,.d (.slice eA) l,.d ti height,.fn 227 (.cons (.dD dR endc) (.nil))],[.obj 0 false (.pr (.ct (.bm 1) 0) (.pr (.bz (.bm 2) 0 [] 0 0 o0baL) (.d .unit ()))),.obj 0 false (.mp bl eQ o1),.obj 0 false (.vec 256 cD o2)])) (λx=>⟨.cons (.d ti x.1) (.cons (.d ti x.2.1) (.cons (.d ti x.2.2.1) (.nil))),[.obj 0 false (.pr (.ct (.bm 1) 0) (.pr (.bz (.bm 2) 0 [] 0 0 x.2.2.2.1) (.d .unit ()))),.obj 0 false (.mp bl eQ x.2.2.2.2.1),.obj 0 false (.vec 256 cD x.2.2.2.2.2)],[]⟩) [none,some (.slice eA),some ti,none] [afG,awT,amp,aml] {loops:=nX [(3,{aV:=[1,2,3,9,11,18,19,20],sites:=[17],owns:=[⟨11,[.snd,.fst],17,88⟩]})],outs:=nV [(3,{aV:=[1,9]},{aV:=[8,9,10]})],fC:=na [(3,UP)]}
def UQ:= @ee Tryz.prog (jy xT.G) xT.an 0 Tryz.f230 0 _ nC
abbrev Po:=kj Tryz.prog (jy xT.G) xT.an 0 Tryz.f230 0 nC wi jb lk CZ
theorem adI:iW HN wi jb lk:=l6 (jk [.d (.slice eA),.d ti,.d dR,.d ti,.d (.slice eA),.d ti,.d ti,.n,.d (.slice (.pair bl eQ)),.d (.slice cD),.n,.d (.slice (.pair bl eQ)),.d (.slice cD)] λ_=>bY)
theorem M7:mP @UQ nC wi jb lk CZ Po:=nD
theorem ui{R:Type}(vg:(List dv))(dP:Int)(endv:dh)(fees:Int)(t18:(List dv))(t19:Int)(t20:Int)(o0L:Nat)(dS:(List (bF×dQ)))(ez:(List bW))(aGb:Nat)(n17:(List (bF×dQ)))(anN:(List bW))(kn:AS->Option R)(kx:Exit->AS->Option R):UQ (vg,dP,endv,fees,t18,t19,t20,o0L,dS,ez,aGb,n17,anN) kn kx=aH ((gq t20 t19)) (aH (eo t20 (((ag t18):Nat):Int)) (al (M4.call ((nth eA t18 (ae t20)),endv)) λx1=>aH (x1) (kx (lX ((o0L,dS,ez),(t20,fees,(14:Int)))).1 (lX ((o0L,dS,ez),(t20,fees,(14:Int)))).2) (al (mX.call ((nth eA t18 (ae t20)),dP,aGb,n17,anN)) λx2=>aH ((BY x2.2.1 (0:Int))) (kx (lX ((o0L,dS,ez),(t20,fees,x2.2.1))).1 (lX ((o0L,dS,ez),(t20,fees,x2.2.1))).2) (al (AQ ((nth eA t18 (ae t20)),dP,x2.2.2.1,x2.2.2.2.1,x2.2.2.2.2)) λx3=>aH (x3.isLeft) (al (x3.getLeft?) λaUU=>kn (nC (vg,dP,endv,(bI .i64 fees x2.1),t18,t19,(bI .i64 t20 (1:Int)),o0L,dS,ez,aUU.2.1,aUU.2.2.1,aUU.2.2.2))) (al (x3.getRight?) λaUV=>kn (nC (vg,dP,endv,(bI .i64 fees x2.1),t18,t19,(bI .i64 t20 (1:Int)),o0L,dS,ez,aUV.2.1,aUV.2.2.1,aUV.2.2.2)))))) none) (kx (wj ((vg,o0L,dS,ez),fees)).1 (wj ((vg,o0L,dS,ez),fees)).2):=bY
theorem axd{R:Type}(l height endc o0baL o1 o2)(k:K1 R):xT.A (l,height,endc,o0baL,o1,o2) k=al (xX.call (o0baL,o1,o2)) λx1=>al (HN (l,height,endc,0,l,(l.length:Int),0,x1.1,x1.2.1,x1.2.2.1,x1.2.2.2.1,x1.2.2.2.2.1,x1.2.2.2.2.2)) λx8=>aH (x8.isLeft) (al (x8.getLeft?) λa9=>k (xT.out (a9.2.1,a9.2.2.1,a9.2.2.2,a9.1.1,a9.1.2.1,a9.1.2.2))) (al (x8.getRight?) λawM=>k (xT.out ((awM.1.1.length:Int),awM.2,0,awM.1.2.1,awM.1.2.2.1,awM.1.2.2.2))):=bY
theorem ahC:Po:=by
 refine M7 (λ(_,_,_,_,l,_,i,_)=>l.length - i.toNat) ?_
 rintro⟨l0,h,b,fees,l,n',i,nS,a0,s0,n,a,s⟩ ⟨⟨h1,h2,h3⟩,rfl,k,hk,rfl,hg,f0,f1⟩;have h1:l.length<=100:=h1;have hk:k<=l.length:=hk;have f0:0<=fees:=f0;have f1:fees+vB a<=1125899906842624:=f1;have hg:DZ (500+k) n a s:=hg;by_cases gJ:k < l.length
 ·have n1:nth eA l k=l[k]:=cg (t:=eA) gJ;have hd:l.drop k=l[k]::l.drop (k+1):=aq gJ;obtain⟨hv,hi⟩:=h2 _ (aO gJ);have aOH:=aqr (d:=(l[k],b)) ⟨hv,il hi (by decide),h3⟩;by_cases hb:awQ b l[k]=true
  ·right;refine⟨lX ((nS,a0,s0),((k:Int),fees,14)),?_,λkn kx=> ?_⟩;rotate_left
   ·rw[ui,aU ak,aj,bg ak ak,aj,aa,n1,aOH];simp only[ah,bt,Pb,hb,aj]
   ·simp only[jb,lk,aa,hd,BM,if_pos hb];rfl
  ·have hb':awQ b l[k]=false:=by simpa using hb
   have hc:=hg.check (t:=l[k]) (h:=h) hv;rcases hg.apply (t:=l[k]) (h:=h) ak hv with⟨he,_⟩ | ⟨aWa,he,ha,hg'⟩
   ·right;refine⟨lX ((nS,a0,s0),((k:Int),fees,(eK l[k] h a).2)),?_,λkn kx=> ?_⟩;rotate_left
    ·rw[ui,aU ak,aj,bg ak ak,aj,aa,n1,aOH];simp only[ah,bt,Pb,hb',ao];rw[hc];simp only[ah];rw[fj he,aj]
    ·simp only[jb,lk,aa,hd,BM,if_neg hb,if_pos he];rfl
   ·left;have Ej:=(aWa.sum hg.C7.1).1;have aWh:0<=(eK l[k] h a).1:=by obtain⟨_,_,_,f,_,_,hp,aTs⟩:=Kg he;rw[aTs];exact hp
    have uF:=alb λp hp=>(hg'.C7.2 p hp).2.2.2.1
    refine⟨(l0,h,b,fees+(eK l[k] h a).1,l,(l.length:Int),((k+1:Nat):Int),nS,a0,s0,n+1,fq l[k] h a,s.take n++ [stepOf l[k] a]),⟨⟨h1,h2,h3⟩,rfl,k+1,ak,rfl,hg',by show(0:Int)<=fees+(eK l[k] h a).1;omega,by show fees+(eK l[k] h a).1+vB (fq l[k] h a)<=_;omega⟩,by simp only[aa];omega,?_,λkn kx=> ?_⟩
    ·simp only[jb,lk,aa,hd,BM,if_neg hb,if_neg (λe=>e he:¬(eK l[k] h a).2≠0)];rfl
    ·rw[ui,aU ak,aj,bg ak ak,aj,aa,n1,aOH];simp only[ah,bt,Pb,hb',ao];rw[hc];simp only[ah];rw[dB he,ao,ha];simp only[ah,dJ,ao,c9];rw[fU (x:=fees) ak ak,N.mO ak]
 ·right;obtain rfl:k=l.length:=ak;refine⟨wj ((l0,nS,a0,s0),fees),?_,λkn kx=> ?_⟩;rotate_left
  ·rw[ui,aR ak,ao]
  ·simp only[jb,lk,aa,aK,BM];rfl
theorem axe:xT.Ok:=by
 rintro⟨l,h,b,n,a,s⟩ ⟨hw,hg⟩;have hg:DZ 500 n a s:=hg;obtain⟨hc,hl⟩:=hg.canon;have z1:((0:Int)).toNat=0:=rfl;rw[axd,hg.copy ak];simp only[ah];rw[hl,adI (d:=(l,h,b,0,l,(l.length:Int),0,n,a,s,n,iX a,s.take n)) ⟨hw,rfl,0,aJ _,rfl,hc,ix 0,by show(0:Int)+vB (iX a)<=_;have:=hc.sum;omega⟩];simp only[ah,jb,lk,z1,aD,bt,alD,R3];cases BM b h l 0 0 (iX a) with
 |inl x=>rfl
 |inr f=>rfl
theorem aqL:xT.RS:=rE [.d (.slice eA),.d ti,.d dR,.n,.d (.slice (.pair bl eQ)),.d (.slice cD)] xT
def axf:=xT.eS axe 1 ⟨.fp ahC,trivial⟩
abbrev aly:=dh×Nat×(List (bF×dQ))×(List bW)
def tG(b:dh)(a:At):Int×Int:=if Ia b.1 b.2.2.2.1 then(if 4000 < aQg b then(0,3) else(R3 b b.1 b.2.2.1 a).2) else(0,1)
def WT(b:dh):Prop:=auF b/\b.2.2.1.length<=100/\∀t∈b.2.2.1,t.1.length<=1000000
theorem WT.walk{b:dh}(h:WT b):aCg b.2.2.1 b:=⟨h.2.1,λt ht=>⟨h.1.1.2 t ht,h.2.2 t ht⟩,h.1.2.2.1⟩
def aqG:aly->Prop:=λ(b,n,a,s)=>WT b/\DZ 500 n a s
def alz:aly->(Int×Int×Nat×(List (bF×dQ))×(List bW)):=λ(b,n,a,s)=>((tG b a).1,(tG b a).2,n,a,s)
def CX:Fs Tryz.prog aqG bt alz:=eN 195 Tryz.f195 (λ(b,o0baL,o1,o2)=>([.ptr (.bm 0) 0 [] 0,.d dR b],[.obj 0 false (.pr (.ct (.bm 1) 0) (.pr (.bz (.bm 2) 0 [] 0 0 o0baL) (.d .unit ()))),.obj 0 false (.mp bl eQ o1),.obj 0 false (.vec 256 cD o2)])) (λx=>⟨.cons (.d ti x.1) (.cons (.d ti x.2.1) (.nil)),[.obj 0 false (.pr (.ct (.bm 1) 0) (.pr (.bz (.bm 2) 0 [] 0 0 x.2.2.1) (.d .unit ()))),.obj 0 false (.mp bl eQ x.2.2.2.1),.obj 0 false (.vec 256 cD x.2.2.2.2)],[]⟩) [none,some dR] [aw6,aOa,axf]
theorem aw7{R:Type}(b o0baL o1 o2)(k:K1 R):CX.A (b,o0baL,o1,o2) k=al (CW.call (b.1,b.2.2.2.1)) λx1=>aH ((!x1)) (k (CX.out (0,1,o0baL,o1,o2))) (aH ((rz (b.2.2.1.length:Int) 200)) (k (CX.out (0,3,o0baL,o1,o2))) (al (aJk.call b) λx2=>aH ((rz x2 4000)) (k (CX.out (0,3,o0baL,o1,o2))) (al (xT.call (b.2.2.1,b.1,b,o0baL,o1,o2)) λx3=>k (CX.out (x3.2.1,x3.2.2.1,x3.2.2.2.1,x3.2.2.2.2.1,x3.2.2.2.2.2))))):=bY
theorem aw8:CX.Ok:=by
 rintro⟨b,n,a,s⟩ ⟨hb,hg⟩;have hb:WT b:=hb;have hl:b.2.2.1.length<=100:=hb.2.1;rw[aw7,aqC (d:=(b.1,b.2.2.2.1)) trivial];simp only[ah,bt,YK,bt,alz,tG];cases hf:Ia b.1 b.2.2.2.1 with
 |false=>rfl
 |true=>
  have aNk:=hf;simp only[Ia,aW]at aNk;rw[cz,ao,cn ak,ao,aJ1 (d:=b) ⟨hb.1,aNk.2.2.1,by show b.2.2.2.1<=_;omega⟩];simp only[ah,bt,aCS,bG];by_cases hw:4000 < aQg b
  ·rw[cR ak,aj,if_pos hw]
  ·rw[cn ak,ao,if_neg hw,aqL (d:=(b.2.2.1,b.1,b,n,a,s)) ⟨hb.walk,hg⟩];rfl
theorem aqH:CX.RS:=rE [.d dR,.n,.d (.slice (.pair bl eQ)),.d (.slice cD)] CX
def aw9:=CX.eS aw8
abbrev auU:=dh×Nat×(List (bF×dQ))×(List bW)
def aw2:auU->Prop:=λ(b,n,a,s)=>WT b/\DZ 500 n a s
def auV:auU->(Int×Nat×(List (bF×dQ))×(List bW)):=λ(b,n,a,s)=>((tG b a).2,n,a,s)
def YJ:Fs Tryz.prog aw2 bt auV:=eN 161 Tryz.f161 (λ(b,o0baL,o1,o2)=>([.ptr (.bm 0) 0 [] 0,.d dR b],[.obj 0 false (.pr (.ct (.bm 1) 0) (.pr (.bz (.bm 2) 0 [] 0 0 o0baL) (.d .unit ()))),.obj 0 false (.mp bl eQ o1),.obj 0 false (.vec 256 cD o2)])) (λx=>⟨.d ti x.1,[.obj 0 false (.pr (.ct (.bm 1) 0) (.pr (.bz (.bm 2) 0 [] 0 0 x.2.1) (.d .unit ()))),.obj 0 false (.mp bl eQ x.2.2.1),.obj 0 false (.vec 256 cD x.2.2.2)],[]⟩) [none,some dR] [aw9]
theorem aCK{R:Type}(b o0baL o1 o2)(k:K1 R):YJ.A (b,o0baL,o1,o2) k=al (CX.call (b,o0baL,o1,o2)) λx1=>k (YJ.out (x1.2.1,x1.2.2.1,x1.2.2.2.1,x1.2.2.2.2)):=bY
theorem aCL:YJ.Ok:=by rintro⟨b,n,a,s⟩ h;rw[aCK,aqH (d:=(b,n,a,s)) h];rfl
theorem aw3:YJ.RS:=rE [.d dR,.n,.d (.slice (.pair bl eQ)),.d (.slice cD)] YJ
def aCM:=YJ.eS aCL
abbrev AF:=dh×Int×(List dv)×Int×Int×Nat×(List (bF×dQ))×(List bW)
def oZ:AF->AS:=λ(iN,err,t12,t13,t14,o0L,dS,ez)=>⟨([.ptr (.bm 0) 0 [] 0,bE,bE,.dD dR iN,bE,.d ti err]++aP 6 ([.d (.slice eA) t12,.d ti t13,.d ti t14]++aP 13 [])),[.obj 0 false (.pr (.ct (.bm 1) 0) (.pr (.bz (.bm 2) 1 [] 0 0 o0L) fP)),.obj 0 false (.mp bl eQ dS),.obj 1 false (.vec 256 cD ez)],(ab 28 [])⟩
abbrev UJ:=(Int)×(Nat×(List (bF×dQ))×(List bW))
def yI:UJ->Exit×AS:=λx=>(.ret,⟨(aP 4 ([.d ti x.1]++aP 23 [])),[.obj 0 false (.pr (.ct (.bm 1) 0) (.pr (.bz (.bm 2) 1 [] 0 0 x.2.1) fP)),.obj 0 false (.mp bl eQ x.2.2.1),.obj 1 false (.vec 256 cD x.2.2.2)],(ab 28 [])⟩)
abbrev UK:=(Int)×(Nat×(List (bF×dQ))×(List bW))
def yJ:UK->Exit×AS:=λx=>(.exit 0,⟨(aP 5 ([.d ti x.1]++aP 22 [])),[.obj 0 false (.pr (.ct (.bm 1) 0) (.pr (.bz (.bm 2) 1 [] 0 0 x.2.1) fP)),.obj 0 false (.mp bl eQ x.2.2.1),.obj 1 false (.vec 256 cD x.2.2.2)],(ab 28 [])⟩)
abbrev M5:=(UJ)⊕(UK)
abbrev YI:=((Nat×(List (bF×dQ))×(List bW)))⊕((Nat×(List (bF×dQ))×(List bW)))
def E8:M5->Out (Exit×AS):=λx=> .br x.isLeft (.get x.getLeft? λa=> .ok (yI a)) (.get x.getRight? λb=> .ok (yJ b))
def jB:AF->YI->M5:=λ(iN,err,t12,t13,t14,o0L,dS,ez) y=>match y with | .inl y=> .inl (err,y) | .inr z=> .inr ((err,z))
abbrev auT:=dh×Nat×(List (bF×dQ))×(List bW)
abbrev aCd:=Nat×At×List bW
def alg(h:Int)(S:aCd)(t:dv):aCd:=if(eK t h S.2.1).2≠0 then S else(S.1+1,fq t h S.2.1,S.2.2.take S.1++ [stepOf t S.2.1])
def axg(b:dh)(S:aCd):aCd:=b.2.2.1.foldl (alg b.1) S
def yH:AF->Prop:=λ(_,_,l,m,i,n,a,s)=>(l.length<=100/\∀t∈l,nT t)/\m=(l.length:Int)/\∃k:Nat,k<=l.length/\i=k/\DZ (400+k) n a s
def nA:AF->YI:=λ(b,e,l,_,i,n,a,s)=>if e≠0/\i < (l.length:Int) then .inl (n,a,s) else .inr ((l.drop i.toNat).foldl (alg b.1) (n,a,s))
def aw0:auT->Prop:=λ(b,n,a,s)=>WT b/\DZ 400 n a s
def ahy:auT->(Int×Nat×(List (bF×dQ))×(List bW)):=λ(b,n,a,s)=>((tG b a).2,if(tG b a).2≠0 then(n,a,s) else axg b (n,a,s))
def YG:=dy.fp oZ yH jB nA E8
def Li:AF->Option M5:=gB YG oZ
def GQ:Fs Tryz.prog aw0 bt ahy:=eN 102 Tryz.f102 (λ(b,o0baL,o1,o2)=>([.ptr (.bm 0) 0 [] 0,.d dR b],[.obj 0 false (.pr (.ct (.bm 1) 0) (.pr (.bz (.bm 2) 0 [] 0 0 o0baL) (.d .unit ()))),.obj 0 false (.mp bl eQ o1),.obj 0 false (.vec 256 cD o2)])) (λx=>⟨.d ti x.1,[.obj 0 false (.pr (.ct (.bm 1) 0) (.pr (.bz (.bm 2) 1 [] 0 0 x.2.1) (.d .unit ()))),.obj 0 false (.mp bl eQ x.2.2.1),.obj 1 false (.vec 256 cD x.2.2.2)],[]⟩) [none,some dR] [aCM,aml] {loops:=nX [(3,{aV:=[0,3,5,12,13,14],aqO:=[(2,1)]})],outs:=nV [(3,{aV:=[5],aqO:=[(2,1)]},{aV:=[4],aqO:=[(2,1)]})],fC:=na [(3,YG)],aqO:=[(2,1)]}
def YH:= @ee Tryz.prog (jy GQ.G) GQ.an 0 Tryz.f102 0 _ oZ
abbrev UI:=kj Tryz.prog (jy GQ.G) GQ.an 0 Tryz.f102 0 oZ yH jB nA E8
theorem ahz:iW Li yH jB nA:=l6 (jk [.d dR,.d ti,.d (.slice eA),.d ti,.d ti,.n,.d (.slice (.pair bl eQ)),.d (.slice cD)] λ_=>bY)
theorem Pg:mP @YH oZ yH jB nA E8 UI:=nD
theorem wh{R:Type}(iN:dh)(err:Int)(t12:(List dv))(t13:Int)(t14:Int)(o0L:Nat)(dS:(List (bF×dQ)))(ez:(List bW))(kn:AS->Option R)(kx:Exit->AS->Option R):YH (iN,err,t12,t13,t14,o0L,dS,ez) kn kx=aH ((gq t14 t13)) (aH (eo t14 (((ag t12):Nat):Int)) (aH ((BY err (0:Int))) (kx (yI (err,(o0L,dS,ez))).1 (yI (err,(o0L,dS,ez))).2) (al (AQ ((nth eA t12 (ae t14)),iN.1,o0L,dS,ez)) λx1=>aH (x1.isLeft) (al (x1.getLeft?) λaJe=>kn (oZ (iN,err,t12,t13,(bI .i64 t14 (1:Int)),aJe.2.1,aJe.2.2.1,aJe.2.2.2))) (al (x1.getRight?) λaJf=>kn (oZ (iN,err,t12,t13,(bI .i64 t14 (1:Int)),aJf.2.1,aJf.2.2.1,aJf.2.2.2))))) none) (kx (yJ (err,(o0L,dS,ez))).1 (yJ (err,(o0L,dS,ez))).2):=bY
theorem aCH{R:Type}(b o0baL o1 o2)(k:K1 R):GQ.A (b,o0baL,o1,o2) k=al (YJ.call (b,o0baL,o1,o2)) λx1=>al (Li (b,x1.1,b.2.2.1,(b.2.2.1.length:Int),0,x1.2.1,x1.2.2.1,x1.2.2.2)) λx3=>aH (x3.isLeft) (al (x3.getLeft?) λa4=>k (GQ.out (a4.1,a4.2.1,a4.2.2.1,a4.2.2.2))) (al (x3.getRight?) λb5=>k (GQ.out (b5.1,b5.2.1,b5.2.2.1,b5.2.2.2))):=bY
theorem als:UI:=by
 refine Pg (λ(_,_,l,_,i,_,_,_)=>l.length - i.toNat) ?_
 rintro⟨b,e,l,m,i,n,a,s⟩ ⟨⟨hl,hv⟩,rfl,k,hk,rfl,hg⟩;have hl:l.length<=100:=hl;have hk:k<=l.length:=hk;by_cases h:k < l.length
 ·have n1:nth eA l k=l[k]:=cg (t:=eA) h;have hd:l.drop k=l[k]::l.drop (k+1):=aq h;have aSL:=hv _ (aO h);generalize l[k]=t at n1 hd aSL;by_cases h0:e=0
  ·left;have ne:¬(e≠0/\(k:Int) < (l.length:Int)):=λx=>x.1 h0
   have ne2:¬(e≠0/\((k+1:Nat):Int) < (l.length:Int)):=λx=>x.1 h0
   rcases hg.apply (t:=t) (h:=b.1) ak aSL with⟨hc,ha⟩ | ⟨_,hc,ha,aWj⟩
   ·refine⟨(b,e,l,(l.length:Int),((k+1:Nat):Int),n,a,s),⟨⟨hl,hv⟩,rfl,k+1,h,rfl,hg.mono ak⟩,by simp only[aa];omega,?_,λkn kx=> ?_⟩
    ·simp only[jB,nA,if_neg ne,if_neg ne2,aa,hd,bA];rw[show alg b.1 (n,a,s) t=(n,a,s) from if_pos hc]
    ·rw[wh,aU ak,aj,bg ak ak,aj,dB h0,ao,aa,n1,ha];simp only[ah,oX,aj,my];rw[N.mO ak]
   ·refine⟨(b,e,l,(l.length:Int),((k+1:Nat):Int),n+1,fq t b.1 a,s.take n++ [stepOf t a]),⟨⟨hl,hv⟩,rfl,k+1,h,rfl,aWj⟩,by simp only[aa];omega,?_,λkn kx=> ?_⟩
    ·simp only[jB,nA,if_neg ne,if_neg ne2,aa,hd,bA];rw[show alg b.1 (n,a,s) t=(n+1,fq t b.1 a,s.take n++ [stepOf t a]) from if_neg (λx=>x hc)]
    ·rw[wh,aU ak,aj,bg ak ak,aj,dB h0,ao,aa,n1,ha];simp only[ah,dJ,ao,c9];rw[N.mO ak]
  ·right;refine⟨yI (e,(n,a,s)),?_,λkn kx=> ?_⟩
   ·have pe:e≠0/\(k:Int) < (l.length:Int):=⟨h0,ak⟩;simp only[jB,nA,if_pos pe];rfl
   ·rw[wh,aU ak,aj,bg ak ak,aj,fj h0,aj]
 ·right;obtain rfl:k=l.length:=ak;refine⟨yJ (e,(n,a,s)),?_,λkn kx=> ?_⟩
  ·have ne:¬(e≠0/\(l.length:Int) < (l.length:Int)):=λx=>ak
   simp only[jB,nA,if_neg ne,aa,aK,cY];rfl
  ·rw[wh,aR ak,ao]
theorem aCI:GQ.Ok:=by
 rintro⟨b,n,a,s⟩ ⟨hb,hg⟩;have hg:DZ 400 n a s:=hg;rw[aCH,aw3 (d:=(b,n,a,s)) ⟨hb,hg.mono (by decide)⟩];simp only[ah,bt,auV,bt,ahy];rw[ahz (d:=(b,(tG b a).2,b.2.2.1,(b.2.2.1.length:Int),0,n,a,s)) ⟨⟨hb.2.1,hb.1.1.2⟩,rfl,0,aJ _,rfl,hg⟩];simp only[ah,jB,nA,aX,aD];by_cases h0:(tG b a).2=0
 ·rw[if_neg (λx=>x.1 h0),if_neg (λx=>x h0)];rfl
 ·rw[if_pos h0];by_cases hl:(0:Int) < (b.2.2.1.length:Int)
  ·rw[if_pos ⟨h0,hl⟩];rfl
  ·rw[if_neg (λx=>hl x.2),bD (by omega:b.2.2.1.length=0)];rfl
theorem aw1:GQ.RS:=rE [.d dR,.n,.d (.slice (.pair bl eQ)),.d (.slice cD)] GQ
def aCJ:=GQ.eS aCI 1 ⟨.fp als,trivial⟩
abbrev Nd:=Nat×Nat×(List (bF×dQ))×(List bW)×(List dh)
def Fh:Nd->Int->((Nat×Nat×(List (bF×dQ))×(List bW)×(List dh))×(Int)):=λ(o0baL,o1baL,o2,o3,o4) y=>((o0baL,o1baL,o2,o3,o4),y)
def ahP:Nd->Prop:=λ_=>True
def Nf:Nd->Int:=λ(n,_)=>(n:Int)
def pf:Fs Tryz.prog ahP Fh Nf:=eN 43 Tryz.f43 (λ(o0baL,o1baL,o2,o3,o4)=>([.ptr (.bm 0) 0 [] 0],[.obj 0 false (.pr (.ptr (.bm 1) 0 [] 0) (.pr (.bz (.bm 4) 0 [] 0 0 o0baL) (.d .unit ()))),.obj 0 false (.pr (.ct (.bm 2) 0) (.pr (.bz (.bm 3) 0 [] 0 0 o1baL) (.d .unit ()))),.obj 0 false (.mp bl eQ o2),.obj 0 false (.vec 256 cD o3),.obj 0 false (.vec 48 dR o4)])) (λx=>⟨.d ti x.2,[.obj 0 false (.pr (.ptr (.bm 1) 0 [] 0) (.pr (.bz (.bm 4) 0 [] 0 0 x.1.1) (.d .unit ()))),.obj 0 false (.pr (.ct (.bm 2) 0) (.pr (.bz (.bm 3) 0 [] 0 0 x.1.2.1) (.d .unit ()))),.obj 0 false (.mp bl eQ x.1.2.2.1),.obj 0 false (.vec 256 cD x.1.2.2.2.1),.obj 0 false (.vec 48 dR x.1.2.2.2.2)],[]⟩) [none]
theorem alW{R:Type}(o0baL o1baL o2 o3 o4)(k:K1 R):pf.A (o0baL,o1baL,o2,o3,o4) k=k (pf.out ((o0baL,o1baL,o2,o3,o4),((o0baL:Nat):Int))):=bY
theorem alX:pf.Ok:=by rintro⟨n,_⟩ _;rw[alW];rfl
theorem Fi:pf.RS:=rE [.n,.n,.d (.slice (.pair bl eQ)),.d (.slice cD),.d (.slice dR)] pf
def Cc:=pf.eS alX
abbrev ahR:=Nat×Nat×(List (bF×dQ))×(List bW)×(List dh)
def afv:ahR->Bs->((Nat×Nat×(List (bF×dQ))×(List bW)×(List dh))×(Bs)):=λ(o0baL,o1baL,o2,o3,o4) y=>((o0baL,o1baL,o2,o3,o4),y)
def rQ(n:Nat)(bs:List dh):Bs:=if n=0 then ab 32 0 else aqA (nth dR bs (n - 1))
def axD:ahR->Prop:=λ(n,_,_,_,bs)=>ap3 n bs
def ahS:ahR->Bs:=λ(n,_,_,_,bs)=>rQ n bs
def Lx:Fs Tryz.prog axD afv ahS:=eN 45 Tryz.f45 (λ(o0baL,o1baL,o2,o3,o4)=>([.ptr (.bm 0) 0 [] 0],[.obj 0 false (.pr (.ptr (.bm 1) 0 [] 0) (.pr (.bz (.bm 4) 0 [] 0 0 o0baL) (.d .unit ()))),.obj 0 false (.pr (.ct (.bm 2) 0) (.pr (.bz (.bm 3) 0 [] 0 0 o1baL) (.d .unit ()))),.obj 0 false (.mp bl eQ o2),.obj 0 false (.vec 256 cD o3),.obj 0 false (.vec 48 dR o4)])) (λx=>⟨.d tH x.2,[.obj 0 false (.pr (.ptr (.bm 1) 0 [] 0) (.pr (.bz (.bm 4) 0 [] 0 0 x.1.1) (.d .unit ()))),.obj 0 false (.pr (.ct (.bm 2) 0) (.pr (.bz (.bm 3) 0 [] 0 0 x.1.2.1) (.d .unit ()))),.obj 0 false (.mp bl eQ x.1.2.2.1),.obj 0 false (.vec 256 cD x.1.2.2.2.1),.obj 0 false (.vec 48 dR x.1.2.2.2.2)],[]⟩) [none] [aJZ]
theorem aDp{R:Type}(o0baL o1baL o2 o3 o4)(k:K1 R):Lx.A (o0baL,o1baL,o2,o3,o4) k=aH ((qY ((o0baL:Nat):Int) 0)) (k (Lx.out ((o0baL,o1baL,o2,o3,o4),(ab 32 0)))) (aH (eo (cP .i64 ((o0baL:Nat):Int) 1) ((o0baL:Nat):Int)) (aH (decide ((0+(ae (cP .i64 ((o0baL:Nat):Int) 1))) < (ag o4))) (aH (decide ((((0+(ae (cP .i64 ((o0baL:Nat):Int) 1)))*36)+0)=(0+((ae (cP .i64 ((o0baL:Nat):Int) 1))*36)))) (al (SB.call (nth dR o4 (0+(ae (cP .i64 ((o0baL:Nat):Int) 1))))) λx1=>k (Lx.out ((o0baL,o1baL,o2,o3,o4),x1))) none) none) none):=bY
theorem aDq:Lx.Ok:=by
 rintro⟨n,m,a,s,bs⟩ ⟨h1,h2,h3⟩;have h1:n<=bs.length:=h1;have h2:n<=1000000:=h2;rw[aDp];cases n with
 |zero=>
  rw[du (show((0:Nat):Int)=0 from rfl),aj];rfl
 |succ k=>
  have e1:cP .i64 (((k+1:Nat):Nat):Int) (1:Int)=(k:Int):=by rw[eL ak ak];omega
  have hk:k < bs.length:=ak;rw[eH ak,ao,e1,bg ak ak,aj];simp only[aa,aN,cm,aM hk,aj,cr];have n1:nth dR bs k=bs[k]:=cg (t:=dR) hk;rw[n1,aCO (d:=bs[k]) (h3 _ (aO hk))];simp only[ah,bt,aqD,ahS,rQ,iT,n1,if_neg (Nat.succ_ne_zero k)];rfl
theorem afw:Lx.RS:=rE [.n,.n,.d (.slice (.pair bl eQ)),.d (.slice cD),.d (.slice dR)] Lx
def al1:=Lx.eS aDq
abbrev aq6:=Nat×(List dh)
abbrev aDu:=Nat×(List dh)
def Y4:aq6->aDu->(((List dh))×(Nat×(List dh))):=λ(sL,o0) y=>(o0,y)
def aDt:aq6->Prop:=λ(n,l)=>n<=l.length/\n<=1000000
def aq7:aq6->aDu:=λ(n,l)=>((l.take n).length,l.take n)
def ahU:Fs Tryz.prog aDt Y4 aq7:=eN 164 Tryz.f164 (λ(sL,o0)=>([.bz (.bm 0) 0 [] 0 0 sL],[.obj 0 false (.vec 48 dR o0)])) (λx=>⟨.bz (.new 0 0) 0 [] 0 0 x.2.1,[.obj 0 false (.vec 48 dR x.1)],[.obj 0 false (.vec 48 dR x.2.2)]⟩) [none] [] {bJ:=[5],owns:=[⟨2,[],5,41⟩]}
theorem aKe{R:Type}(sL o0)(k:K1 R):ahU.A (sL,o0) k=aH (decide (0 < sL)) (aH (decide (0=0/\(0+sL)<=(ag o0))) (aH (da (0+(ag (cut o0 0 sL))) 96) (k (ahU.out (o0,((0+(ag (cut o0 0 sL))),((aQ 0 (ab 0 (0,((ab 32 0),(([]:List dv),(0,(([]:List bF),())))))))++(cut o0 0 sL)))))) none) none) (nd (k (ahU.out (o0,(0,([]:List dh))))) (aH (decide (0=0/\(0+sL)<=(ag o0))) (aH (da (0+(ag (cut o0 0 sL))) 96) (k (ahU.out (o0,((0+(ag (cut o0 0 sL))),((aQ 0 (ab 0 (0,((ab 32 0),(([]:List dv),(0,(([]:List bF),())))))))++(cut o0 0 sL)))))) none) none)):=bY
theorem aKf:ahU.Ok:=by
 rintro⟨n,l⟩ ⟨h1,h2⟩;have h1:n<=l.length:=h1;have h2:n<=1000000:=h2;have ec:cut l 0 n=l.take n:=by simp[cut]
 have ht:(l.take n).length<=1000000:=by rw[bp];omega
 have hr:da (l.take n).length 96=true:=dr ak ak;rw[aKe];simp only[aN,ec,hr,aj,dH,aT,mM,aM h1,Y4,aq7];by_cases h:0 < n
 ·simp only[aM h,aj]
 ·have:n=0:=ak;subst this;simp only[dH,aZ,aJ,cr,aj,zI,aS (hJ 0),ao]
theorem aDv:ahU.RS:=rE [.n,.d (.slice dR)] ahU
def aKg:=ahU.eS aKf
abbrev YW:=Nat×Nat×(List (bF×dQ))×(List bW)×(List dh)
abbrev alV:=Nat×(List (bF×dQ))×(List bW)×(List dh)×Nat×Nat×(List (bF×dQ))×(List bW)×(List dh)
def YX:YW->alV->((Nat)×(Nat×(List (bF×dQ))×(List bW)×(List dh)×Nat×Nat×(List (bF×dQ))×(List bW)×(List dh))):=λ(o0baL,o1baL,o2,o3,o4) y=>(o0baL,y)
def aqX:YW->Prop:=λ(nb,n,a,s,bs)=>DZ 500 n a s/\ap3 nb bs
def alU:YW->alV:=λ(nb,n,a,s,bs)=>(n,a,s,bs,nb,n,iX a,s.take n,bs.take nb)
def Nc:Fs Tryz.prog aqX YX alU:=eN 103 Tryz.f103 (λ(o0baL,o1baL,o2,o3,o4)=>([.ptr (.bm 0) 0 [] 0],[.obj 0 false (.pr (.ptr (.bm 1) 0 [] 0) (.pr (.bz (.bm 4) 0 [] 0 0 o0baL) (.d .unit ()))),.obj 0 false (.pr (.ct (.bm 2) 0) (.pr (.bz (.bm 3) 0 [] 0 0 o1baL) (.d .unit ()))),.obj 0 false (.mp bl eQ o2),.obj 0 false (.vec 256 cD o3),.obj 0 false (.vec 48 dR o4)])) (λx=>⟨.ptr (.new 0 0) 0 [] 0,[.obj 0 false (.pr (.ptr (.bm 1) 0 [] 0) (.pr (.bz (.bm 4) 0 [] 0 0 x.1) (.d .unit ()))),.obj 0 false (.pr (.ct (.bm 2) 0) (.pr (.bz (.bm 3) 0 [] 0 0 x.2.1) (.d .unit ()))),.obj 0 false (.mp bl eQ x.2.2.1),.obj 0 false (.vec 256 cD x.2.2.2.1),.obj 0 false (.vec 48 dR x.2.2.2.2.1)],[.obj 0 false (.pr (.ptr (.new 0 1) 0 [] 0) (.pr (.bz (.new 0 4) 0 [] 0 0 x.2.2.2.2.2.1) (.d .unit ()))),.obj 0 false (.pr (.ct (.new 0 2) 0) (.pr (.bz (.new 0 3) 0 [] 0 0 x.2.2.2.2.2.2.1) (.d .unit ()))),.obj 0 false (.mp bl eQ x.2.2.2.2.2.2.2.1),.obj 0 false (.vec 256 cD x.2.2.2.2.2.2.2.2.1),.obj 0 false (.vec 48 dR x.2.2.2.2.2.2.2.2.2)]⟩) [none] [afG,aKg] {bJ:=[14]}
theorem axA{R:Type}(o0baL o1baL o2 o3 o4)(k:K1 R):Nc.A (o0baL,o1baL,o2,o3,o4) k=al (xX.call (o1baL,o2,o3)) λx1=>al (ahU.call (o0baL,o4)) λx2=>k (Nc.out (o0baL,(x1.1,x1.2.1,x1.2.2.1,x2.1,x2.2.1,x1.2.2.2.1,x1.2.2.2.2.1,x1.2.2.2.2.2,x2.2.2))):=bY
theorem axB:Nc.Ok:=by
 rintro⟨nb,n,a,s,bs⟩ ⟨hg,hc⟩;have hg:DZ 500 n a s:=hg;obtain⟨h1,h2,_⟩:=hc;have h1:nb<=bs.length:=h1;rw[axA,hg.copy ak,hg.canon.2];simp only[ah];have e:(bs.take nb).length=nb:=by rw[bp];omega
 rw[aDv (d:=(nb,bs)) ⟨h1,h2⟩];simp only[ah,Y4,aq7,e];rfl
theorem aqY:Nc.RS:=rE [.n,.n,.d (.slice (.pair bl eQ)),.d (.slice cD),.d (.slice dR)] Nc
def axC:=Nc.eS axB
def aDz:(List bF)->Prop:=λl=>l.length<=1000000
def aq9:(List bF)->(List bF):=λl=>l
def ahX:Fs Tryz.prog aDz bt aq9:=eN 146 Tryz.f146 (λsv=>([.d (.slice bl) sv],[])) (λx=>⟨.d (.slice bl) x,[],[]⟩) [some (.slice bl)] [] {bJ:=[5],res:=[some (.slice bl)]}
theorem aKm{R:Type}(sv)(k:K1 R):ahX.A sv k=aH (decide (0 < (ag sv))) (aH (da (0+(ag sv)) 40) (aH (decide (0=0/\(0+(0+(ag sv)))<=(ag ((aQ 0 (ab 0 ((ab 32 0),(0,()))))++sv)))) (k (ahX.out (cut ((aQ 0 (ab 0 ((ab 32 0),(0,()))))++sv) 0 (0+(ag sv))))) none) none) (nd (k (ahX.out ([]:List bF))) (aH (da (0+(ag sv)) 40) (aH (decide (0=0/\(0+(0+(ag sv)))<=(ag ((aQ 0 (ab 0 ((ab 32 0),(0,()))))++sv)))) (k (ahX.out (cut ((aQ 0 (ab 0 ((ab 32 0),(0,()))))++sv) 0 (0+(ag sv))))) none) none)):=bY
theorem aKn:ahX.Ok:=by
 intro l hl;have hl:l.length<=1000000:=hl;have hr:da l.length 40=true:=dr ak ak;rw[aKm];simp only[aN,hr,aj,dH,aT,ax,jh,cr,eV,bt,aq9];by_cases h:0 < l.length
 ·simp only[aM h,aj]
 ·have:l=[]:=bD ak;subst this;simp only[aZ,zI,aS (hJ 0),ao]
theorem aDA:ahX.RS:=rE [.d (.slice bl)] ahX
def aKo:=ahX.eS aKn
abbrev Nb:=Nat×(List dv)×Int×Int×dh×Int×Bs×Int×(List dv)
abbrev YS:=Nat×(List dv)
def yS:Nb->YS->((dh×Int×Bs×Int)×(Nat×(List dv))):=λ(txsL,t9,t10,t11,n1,n2,kM,td,n24) y=>((n1,n2,kM,td),y)
def aqb(t:dv):dv:=(abV (aur t)).1
def an5(b:dh):dh:=(b.1,(b.2.1,(b.2.2.1.map aqb,(b.2.2.2.1,(b.2.2.2.2.1,())))))
theorem TM{t:dv}(hv:nT t)(jj:gV t=true):aqb t=t:=by unfold aqb;rw[ati hv jj]
theorem ajx{b:dh}(hv:auF b)(jj:∀t∈b.2.2.1,gV t=true):an5 b=b:=by unfold an5;rw[show b.2.2.1.map aqb=b.2.2.1 from(gz λt ht=>TM (hv.1.2 t ht) (jj t ht)).trans (List.map_id _)]
def ahJ:Nb->Prop:=λ(L,l,n,i,b1,b2,b3,b4,row)=>(l).length<=1000000/\∃k:Nat,k<=(l).length/\i=k/\n=(l).length/\L=(row).length/\(row).length<=1000000+k/\(∀t∈l,nT t)
def Fg:Nb->YS:=λ(L,l,n,i,b1,b2,b3,b4,row)=>(L+(bR (ae i) l).length,row++(bR (ae i) l).map aqb)
def axv:dh->Prop:=λb=>auF b
def ahI:dh->dh:=λb=>an5 b
def uj:Ls ahJ yS Fg:=rW (λ(txsL,t9,t10,t11,n1,n2,kM,td,n24)=>⟨([bE,eT 1,eT 2,oh 24 txsL]++aP 5 ([.d (.slice eA) t9,.d ti t10,.d ti t11]++aP 21 [])),[],([[],dK (.d dR n1),dK (.pr (.d ti n2) (.pr (.d tH kM) (.pr (.dd) (.pr (.d ti td) (.pr (.dd) fP)))))]++bM 21 ([dK (.vec 55 eA n24)]++bM 8 []))⟩) (λx=>(.exit 0,⟨([bE,eT 1,eT 2,oh 24 x.2.1]++aP 29 []),[],([[],dK (.d dR x.1.1),dK (.pr (.d ti x.1.2.1) (.pr (.d tH x.1.2.2.1) (.pr (.dd) (.pr (.d ti x.1.2.2.2) (.pr (.dd) fP)))))]++bM 21 ([dK (.vec 55 eA x.2.2)]++bM 8 []))⟩))
def HS:Fs Tryz.prog axv bt ahI:=eN 95 Tryz.f95 (λb=>([.d dR b],[])) (λx=>⟨.d dR x,[],[]⟩) [some dR] [Un,ac4,aKo] {bJ:=[1],loops:=nX [(3,{aV:=[1,2,3,9,10,11],sites:=[1,2,24],owns:=[⟨3,[],24,34⟩]})],outs:=nV [(3,{aV:=[1,2,3],sites:=[1,2,24]},{aV:=[2]})],fC:=na [(3,uj.E)],res:=[some dR]}
theorem ahK:uj.RS:=rL [.n,.d (.slice eA),.d ti,.d ti,.d dR,.d ti,.d tB,.d ti,.d (.slice eA)] uj
theorem Lq{R:Type}(txsL t9 t10 t11 n1 n2 kM td n24)(kn:K2 R)(kx:K3 R):HS.R 0 uj (txsL,t9,t10,t11,n1,n2,kM,td,n24) kn kx=aH ((gq t11 t10)) (aH (eo t11 (t9.length:Int)) (al (rj.call (nth eA t9 (ae t11))) λx1=>al (kO.call x1) λx2=>aH (decide (txsL<=(ag n24))) (aH (da (txsL+1) 56) (kn (uj.st ((txsL+1),t9,t10,(bI .i64 t11 1),n1,n2,kM,td,((aQ txsL n24)++ [x2.1])))) none) none) none) (uj.go kx ((n1,n2,kM,td),(txsL,n24))):=bY
theorem aC9{R:Type}(b)(k:K1 R):HS.A b k=al (uj.call (0,b.2.2.1,(b.2.2.1.length:Int),0,b,0,(ab 32 0),0,([]:List dv))) λx5=>al (ahX.call x5.1.1.2.2.2.2.1) λx6=>aH (decide (0=0/\(0+x5.2.1)<=(ag x5.2.2))) (k (HS.out (x5.1.1.1,(x5.1.1.2.1,((cut x5.2.2 0 x5.2.1),(x5.1.1.2.2.2.1,(x6,x5.1.1.2.2.2.2.2))))))) none:=bY
theorem alP:(HS.kN 0 uj):=by
 refine(HS.mh 0 uj) (λ(L,l,n,i,b1,b2,b3,b4,row)=>(l).length - ae i) ?_
 rintro⟨L,l,n,i,b1,b2,b3,b4,row⟩ ⟨hlen,k,hk,rfl,rfl,rfl,sV,hx⟩;have hlen:(l).length<=1000000:=hlen;have hk:k<=(l).length:=hk;have sV:(row).length<=1000000+k:=sV;have hx:∀t∈l,nT t:=hx;by_cases h:k < (l).length
 ·left;have n1:nth eA l k=l[k]:=cg (t:=eA) h;have hd:bR k l=l[k]::bR (k+1) l:=aq h;refine⟨((row).length+1,l,((l).length:Int),((k+1:Nat):Int),b1,b2,b3,b4,row++ [aqb l[k]]),⟨hlen,k+1,ak,rfl,rfl,by rw[ai];rfl,by rw[ai];show(row).length+1<=_;omega,hx⟩,by simp only[aa];omega,?_,λkn kx=> ?_⟩
  ·simp only[yS,Fg,aa,hd,bP,aA,aF,cZ];rw[show ∀a c:Nat,a+1+c=a+(c+1) from λa c=>ak]
  ·rw[Lq,aU ak,bg (show(0:Int)<=(k:Int) by omega) ak,aa,n1];simp only[aj];have hv:=hx _ (aO h);rw[OF (d:=l[k]) hv];simp only[ah,bt,JE];rw[Uq (d:=aur l[k]) ⟨(Aw hv).1,by show(aur l[k]).length<=_;have:=(Aw hv).2;omega⟩];simp only[ah,bt,akr];rw[aM (ax _),dr ak ak,N.mO ak,bK];rfl
 ·right;obtain rfl:k=(l).length:=ak;intro R kn kx;rw[Lq,aR ak,ao];simp only[yS,Fg,aa,aK,ig,ba,aZ,cm]
theorem aDa:HS.Ok:=by rintro b ⟨⟨h1,h2⟩,h3,h4,h5⟩;have z1:((0:Int)).toNat=0:=rfl;rw[aC9,ahK (d:=(0,b.2.2.1,(b.2.2.1.length:Int),0,b,0,ab 32 0,0,[])) ⟨by show b.2.2.1.length<=_;omega,0,aJ _,rfl,rfl,rfl,by show(0:Nat)<=_;omega,h2⟩];simp only[ah,yS,Fg,z1,aD,aN,aT];rw[aDA (d:=b.2.2.2.2.1) (by show b.2.2.2.2.1.length<=_;omega)];simp only[ah,bt,aq9];rw[aM (by rw[bU];exact⟨trivial,ax _⟩),aj,eV (bU ..)];rfl
theorem afm:HS.RS:=rE [.d dR] HS
def alQ:=HS.eS aDa 1 ⟨.fp alP,trivial⟩
abbrev l7:Ty:=(.pair .bool (.pair eA (.pair tH (.pair ti (.pair .bool .unit)))))
abbrev jn:=(Bool×(dv×(Bs×(Int×(Bool×Unit)))))
abbrev yz:Ty:=(.pair ti (.pair (.slice eA) (.pair ti (.pair bl .unit))))
abbrev KV:=(Int×((List dv)×(Int×(bF×Unit))))
abbrev EX:Ty:=(.pair ti (.pair bl (.pair eA (.pair ti .unit))))
abbrev yt:=(Int×(bF×(dv×(Int×Unit))))
abbrev Wm:=List (bF×jn)
def tS:jn:=(false,((([]:List gG),(([]:List gf),((0:Int),()))),((ab 32 (0:Int)),((0:Int),(false,())))))
def od(o:bF)(m:Wm):jn:=(bQ bl o m).getD tS
def aI3:Unit->Prop:=λ_=>True
def aI2:Unit->((List (bF×jn))):=λ_=> []
def adw:Fs Tryz.prog aI3 bt aI2:=eN 11 Tryz.f11 (λ_=>([],[])) (λx=>⟨.ptr (.new 0 0) 0 [] 0,[],[.obj 0 false (.pr (.ct (.new 0 1) 0) (.d .unit ())),.obj 0 false (.mp bl l7 x)]⟩) [] [] {bJ:=[3]}
theorem aMY{R:Type}(d)(k:K1 R):adw.A d k=k (adw.out ([]:List (bF×jn))):=bY
theorem aMZ:adw.Ok:=by rintro d _;rw[aMY];rfl
theorem apY:adw.RS:=rE [] adw
def awB:=adw.eS aMZ
def aBE:dv->Prop:=λt=>nT t
def akK:dv->dv:=λt=>aqb t
def MR:Fs Tryz.prog aBE bt akK:=eN 57 Tryz.f57 (λt=>([.d eA t],[])) (λx=>⟨.d eA x,[],[]⟩) [some eA] [Un,ac4]
theorem aIV{R:Type}(t)(k:K1 R):MR.A t k=al (rj.call t) λx1=>al (kO.call x1) λx2=>k (MR.out x2.1):=bY
theorem aIW:MR.Ok:=by intro t hv;have hv:nT t:=hv;rw[aIV,OF (d:=t) hv];simp only[ah,bt,JE];rw[Uq (d:=aur t) ⟨(Aw hv).1,by show(aur t).length<=_;have:=(Aw hv).2;omega⟩];rfl
theorem Uw:MR.RS:=rE [.d eA] MR
def adt:=MR.eS aIW
abbrev awF:=bF×(List (bF×jn))
def aBL:awF->Prop:=λ_=>True
def Yc:awF->((List (bF×jn))):=λ(o,m)=>if(bQ bl o m).isSome then m else eF bl o tS m
def EZ:Fs Tryz.prog aBL bt Yc:=eN 30 Tryz.f30 (λ(o,o1)=>([.ptr (.bm 0) 0 [] 0,.d bl o],[.obj 0 false (.pr (.ct (.bm 1) 0) (.d .unit ())),.obj 0 false (.mp bl l7 o1)])) (λx=>⟨.nil,[.obj 0 false (.pr (.ct (.bm 1) 0) (.d .unit ())),.obj 0 false (.mp bl l7 x)],[]⟩) [none,some bl]
theorem aJb{R:Type}(o o1)(k:K1 R):EZ.A (o,o1) k=aH ((!(bQ bl o o1).isSome)) (k (EZ.out (eF bl o (false,((([]:List gG),(([]:List gf),(0,()))),((ab 32 0),(0,(false,()))))) o1))) (k (EZ.out o1)):=bY
theorem aJc:EZ.Ok:=by rintro⟨o,m⟩ _;rw[aJb];simp only[bt,Yc];cases(bQ bl o m).isSome <;> rfl
theorem KT:EZ.RS:=rE [.d bl,.d (.slice (.pair bl l7))] EZ
def adx:=EZ.eS aJc
abbrev aww:=bF×(List (bF×jn))
def aBy:aww->Prop:=λ_=>True
def awx:aww->((List (bF×jn))):=λ(o,m)=>gT bl o m
def R4:Fs Tryz.prog aBy bt awx:=eN 36 Tryz.f36 (λ(o,o1)=>([.ptr (.bm 0) 0 [] 0,.d bl o],[.obj 0 false (.pr (.ct (.bm 1) 0) (.d .unit ())),.obj 0 false (.mp bl l7 o1)])) (λx=>⟨.nil,[.obj 0 false (.pr (.ct (.bm 1) 0) (.d .unit ())),.obj 0 false (.mp bl l7 x)],[]⟩) [none,some bl]
theorem aIP{R:Type}(o o1)(k:K1 R):R4.A (o,o1) k=k (R4.out (gT bl o o1)):=bY
theorem aIQ:R4.Ok:=by rintro⟨o,m⟩ _;rw[aIP];rfl
theorem ahb:R4.RS:=rE [.d bl,.d (.slice (.pair bl l7))] R4
def apR:=R4.eS aIQ
abbrev akP:=bF×(List (bF×jn))
abbrev awD:=dv×Int×Bool
def Uz:akP->awD->(((List (bF×jn)))×(dv×Int×Bool)):=λ(o,o1) y=>(o1,y)
def aBJ:akP->Prop:=λ(o,m)=>nT (od o m).2.1
def Yb:akP->awD:=λ(o,m)=>if(od o m).1 then(aqb (od o m).2.1,(od o m).2.2.2.1,true) else(tS.2.1,0,false)
def Kb:Fs Tryz.prog aBJ Uz Yb:=eN 21 Tryz.f21 (λ(o,o1)=>([.ptr (.bm 0) 0 [] 0,.d bl o],[.obj 0 false (.pr (.ct (.bm 1) 0) (.d .unit ())),.obj 0 false (.mp bl l7 o1)])) (λx=>⟨.cons (.d eA x.2.1) (.cons (.d ti x.2.2.1) (.cons (.d .bool x.2.2.2) (.nil))),[.obj 0 false (.pr (.ct (.bm 1) 0) (.d .unit ())),.obj 0 false (.mp bl l7 x.1)],[]⟩) [none,some bl] [adt] {res:=[some eA,none,none]}
theorem aI5{R:Type}(o o1)(k:K1 R):Kb.A (o,o1) k=aH ((!((bQ bl o o1).getD (false,((([]:List gG),(([]:List gf),(0,()))),((ab 32 0),(0,(false,())))))).1)) (k (Kb.out (o1,((([]:List gG),(([]:List gf),(0,()))),0,false)))) (al (MR.call ((bQ bl o o1).getD (false,((([]:List gG),(([]:List gf),(0,()))),((ab 32 0),(0,(false,())))))).2.1) λx1=>k (Kb.out (o1,(x1,((bQ bl o o1).getD (false,((([]:List gG),(([]:List gf),(0,()))),((ab 32 0),(0,(false,())))))).2.2.2.1,true)))):=bY
theorem aI6:Kb.Ok:=by
 rintro⟨o,m⟩ hv;have hv:nT (od o m).2.1:=hv;rw[aI5];simp only[Uz,Yb];have e:(bQ bl o m).getD tS=od o m:=rfl;cases h:(od o m).1 with
 |false=>
  rw[show((bQ bl o m).getD (false,((([]:List gG),(([]:List gf),(0,()))),((ab 32 0),(0,(false,())))))).1=false from h];rfl
 |true=>
  rw[show((bQ bl o m).getD (false,((([]:List gG),(([]:List gf),(0,()))),((ab 32 0),(0,(false,())))))).1=true from h,cz,ao];rw[show MR.call ((bQ bl o m).getD (false,((([]:List gG),(([]:List gf),(0,()))),((ab 32 0),(0,(false,())))))).2.1=some (aqb (od o m).2.1) from Uw (d:=(od o m).2.1) hv];rfl
theorem ahh:Kb.RS:=rE [.d bl,.d (.slice (.pair bl l7))] Kb
def aI7:=Kb.eS aI6
abbrev adq:=bF×(List (bF×jn))
def adr:adq->Bool->(((List (bF×jn)))×(Bool)):=λ(o,o1) y=>(o1,y)
def auw:adq->Prop:=λ_=>True
def apT:adq->Bool:=λ(o,m)=>(od o m).2.2.2.2.1
def tg:Fs Tryz.prog auw adr apT:=eN 28 Tryz.f28 (λ(o,o1)=>([.ptr (.bm 0) 0 [] 0,.d bl o],[.obj 0 false (.pr (.ct (.bm 1) 0) (.d .unit ())),.obj 0 false (.mp bl l7 o1)])) (λx=>⟨.d .bool x.2,[.obj 0 false (.pr (.ct (.bm 1) 0) (.d .unit ())),.obj 0 false (.mp bl l7 x.1)],[]⟩) [none,some bl]
theorem aBC{R:Type}(o o1)(k:K1 R):tg.A (o,o1) k=k (tg.out (o1,((bQ bl o o1).getD (false,((([]:List gG),(([]:List gf),(0,()))),((ab 32 0),(0,(false,())))))).2.2.2.2.1)):=bY
theorem aBD:tg.Ok:=by rintro⟨o,m⟩ _;rw[aBC];rfl
theorem ads:tg.RS:=rE [.d bl,.d (.slice (.pair bl l7))] tg
def ahd:=tg.eS aBD
abbrev Pu:=(List gf)
def YZ:Pu->SA:=λouts=>([.d (.slice gb) outs],[])
abbrev au5:=(Unit)⊕((List (bF×dQ))×(List bW)×(List dh))
abbrev ahQ:=(Unit)⊕((List (bF×dQ))×(List bW)×(List dh))
def Ki:ahQ->fG:=λx=>match x with | .inl x=>⟨.re,[],[]⟩ | .inr x=>⟨eT 0,[],[.obj 0 false (.pr (.ptr (.new 0 1) 0 [] 0) (.pr (.bz (.new 0 4) 0 [] 0 0 0) fP)),.obj 0 false (.pr (.ct (.new 0 2) 0) (.pr (.bz (.new 0 3) 0 [] 0 0 0) fP)),.obj 0 false (.mp bl eQ x.1),.obj 0 false (.vec 256 cD x.2.1),.obj 0 false (.vec 48 dR x.2.2)]⟩
def D8:Pu->au5->ahQ:=λouts y=>match y with | .inl y=> .inl y | .inr y=> .inr y
def SM:Pu->Prop:=λouts=>∀o∈outs,aqc o
def Kh:Pu->au5:=λouts=>match ajm outs with | none=> .inl () | some r=> .inr (r,[],[])
def aKc:oT:=jy (P:=Tryz.prog) [aEa]
def aDm:xi:= {bJ:=[10],owns:=[⟨2,[.snd,.fst],0,41⟩]}
def au3:= @HD Tryz.prog aKc aDm 0 Tryz.f9 _ YZ
abbrev aDl:=ahl @au3 SM D8 Kh Ki
theorem aDn{R:Type}(outs:(List gf))(k:fG->Option R):au3 outs k=al (Zt outs) λx1=>aH (x1.isLeft) (al (x1.getLeft?) λaJe=>k (Ki (.inl ()))) (al (x1.getRight?) λaJf=>k (Ki (.inr (aJf.1,aJf.2,([]:List dh))))):=bY
theorem aDo:aDl:=by
 intro outs h;rw[aDn,axY (d:=outs) h];simp only[ah,PT,Kh];cases ajm outs with
 |none=>rfl
 |some r=>rfl
def au4:=Entry.ad6 [some (.slice gb)] YZ SM D8 Kh Ki
def Fj:Pu->Option ahQ:=Lp au4 YZ
theorem afq:iW Fj SM D8 Kh:=acf (W2 [.d (.slice gb)] λ_=>bY)
def alY:SG Tryz.prog:=⟨9,ml,au4,.of (.aNO (.fn 0 bY aDo trivial)) (by rfl)⟩
abbrev aqW:=Int×Nat×Nat×(List (bF×dQ))×(List bW)×(List dh)
def alT:aqW->(dh×Bool)->((Nat×Nat×(List (bF×dQ))×(List bW)×(List dh))×(dh×Bool)):=λ(height,o0baL,o1baL,o2,o3,o4) y=>((o0baL,o1baL,o2,o3,o4),y)
def aQd(h:Int)(nb:Nat)(bs:List dh):dh×Bool:=if 1<=h/\h<=nb then(an5 (nth dR bs (h.toNat - 1)),true) else(dR.zero,false)
def aDj:aqW->Prop:=λ(_,nb,_,_,_,bs)=>ap3 nb bs
def YV:aqW->(dh×Bool):=λ(h,nb,_,_,_,bs)=>((aQd h nb bs).1,(aQd h nb bs).2)
def ahO:Fs Tryz.prog aDj alT YV:=eN 46 Tryz.f46 (λ(height,o0baL,o1baL,o2,o3,o4)=>([.ptr (.bm 0) 0 [] 0,.d ti height],[.obj 0 false (.pr (.ptr (.bm 1) 0 [] 0) (.pr (.bz (.bm 4) 0 [] 0 0 o0baL) (.d .unit ()))),.obj 0 false (.pr (.ct (.bm 2) 0) (.pr (.bz (.bm 3) 0 [] 0 0 o1baL) (.d .unit ()))),.obj 0 false (.mp bl eQ o2),.obj 0 false (.vec 256 cD o3),.obj 0 false (.vec 48 dR o4)])) (λx=>⟨.cons (.d dR x.2.1) (.cons (.d .bool x.2.2) (.nil)),[.obj 0 false (.pr (.ptr (.bm 1) 0 [] 0) (.pr (.bz (.bm 4) 0 [] 0 0 x.1.1) (.d .unit ()))),.obj 0 false (.pr (.ct (.bm 2) 0) (.pr (.bz (.bm 3) 0 [] 0 0 x.1.2.1) (.d .unit ()))),.obj 0 false (.mp bl eQ x.1.2.2.1),.obj 0 false (.vec 256 cD x.1.2.2.2.1),.obj 0 false (.vec 48 dR x.1.2.2.2.2)],[]⟩) [none,some ti] [alQ] {res:=[some dR,none]}
theorem aJ9{R:Type}(height o0baL o1baL o2 o3 o4)(k:K1 R):ahO.A (height,o0baL,o1baL,o2,o3,o4) k=aH ((gq height 1)) (k (ahO.out ((o0baL,o1baL,o2,o3,o4),((0,((ab 32 0),(([]:List dv),(0,(([]:List bF),()))))),false)))) (aH ((rz height ((o0baL:Nat):Int))) (k (ahO.out ((o0baL,o1baL,o2,o3,o4),((0,((ab 32 0),(([]:List dv),(0,(([]:List bF),()))))),false)))) (aH (eo (cP .i64 height 1) ((o0baL:Nat):Int)) (aH (decide ((0+(ae (cP .i64 height 1))) < (ag o4))) (aH (decide ((((0+(ae (cP .i64 height 1)))*36)+0)=(0+((ae (cP .i64 height 1))*36)))) (al (HS.call (nth dR o4 (0+(ae (cP .i64 height 1))))) λx1=>k (ahO.out ((o0baL,o1baL,o2,o3,o4),(x1,true)))) none) none) none)):=bY
theorem aKa:ahO.Ok:=by
 rintro⟨h,nb,n,a,s,bs⟩ ⟨h1,h2,h3⟩;have h1:nb<=bs.length:=h1;have h2:nb<=1000000:=h2;rw[aJ9];by_cases a1:1<=h
 ·rw[aR ak,ao];by_cases a2:h<=nb
  ·obtain⟨k,rfl⟩:∃k:Nat,h=(k:Int)+1:=⟨(h - 1).toNat,ak⟩;have hk:k < bs.length:=ak;have e1:cP .i64 ((k:Int)+1) (1:Int)=(k:Int):=by rw[eL ak ak];omega
   have e2:((k:Int)+1).toNat - 1=k:=ak;rw[cn ak,ao,e1,bg ak ak,aj];simp only[aa,aN,cm,aM hk,aj,cr];have n1:nth dR bs k=bs[k]:=cg (t:=dR) hk;rw[n1,afm (d:=bs[k]) (h3 _ (aO hk))];simp only[ah,bt,ahI,YV,aQd,if_pos (And.intro a1 a2),e2,n1];rfl
  ·rw[cR ak,aj];simp only[YV,aQd,if_neg (λe:1<=h/\h<=(nb:Int)=>a2 e.2)];rfl
 ·rw[aU ak,aj];simp only[YV,aQd,if_neg (λe:1<=h/\h<=(nb:Int)=>a1 e.1)];rfl
theorem aDk:ahO.RS:=rE [.d ti,.n,.n,.d (.slice (.pair bl eQ)),.d (.slice cD),.d (.slice dR)] ahO
def aKb:=ahO.eS aKa
abbrev au2:=dh×Nat×Nat×(List (bF×dQ))×(List bW)×(List dh)
def mg(b:dh)(nb:Nat)(S:aCd)(bs:List dh):Int×Nat×Nat×At×List bW×List dh:=if b.2.1=rQ nb bs/\b.1=(nb:Int)+1 then if(tG b S.2.1).2=0 then(0,nb+1,(axg b S).1,(axg b S).2.1,(axg b S).2.2,bs.take nb++ [an5 b]) else((tG b S.2.1).2,nb,S.1,S.2.1,S.2.2,bs) else(1,nb,S.1,S.2.1,S.2.2,bs)
def SL:au2->Prop:=λ(b,nb,n,a,s,bs)=>WT b/\DZ 400 n a s/\ap3 nb bs
def ahM:au2->(Int×Nat×Nat×(List (bF×dQ))×(List bW)×(List dh)):=λ(b,nb,n,a,s,bs)=>mg b nb (n,a,s) bs
def GU:Fs Tryz.prog SL bt ahM:=eN 55 Tryz.f55 (λ(b,o0baL,o1baL,o2,o3,o4)=>([.ptr (.bm 0) 0 [] 0,.d dR b],[.obj 0 false (.pr (.ptr (.bm 1) 0 [] 0) (.pr (.bz (.bm 4) 0 [] 0 0 o0baL) (.d .unit ()))),.obj 0 false (.pr (.ct (.bm 2) 0) (.pr (.bz (.bm 3) 0 [] 0 0 o1baL) (.d .unit ()))),.obj 0 false (.mp bl eQ o2),.obj 0 false (.vec 256 cD o3),.obj 0 false (.vec 48 dR o4)])) (λx=>⟨.d ti x.1,[.obj 0 false (.pr (.ptr (.bm 1) 0 [] 0) (.pr (.bz (.bm 4) 1 [] 0 0 x.2.1) (.d .unit ()))),.obj 0 false (.pr (.ct (.bm 2) 0) (.pr (.bz (.bm 3) 1 [] 0 0 x.2.2.1) (.d .unit ()))),.obj 0 false (.mp bl eQ x.2.2.2.1),.obj 1 false (.vec 256 cD x.2.2.2.2.1),.obj 1 false (.vec 48 dR x.2.2.2.2.2)],[]⟩) [none,some dR] [al1,Cc,aCJ,alQ] {aqO:=[(3,1),(4,1)]}
theorem aDf{R:Type}(b o0baL o1baL o2 o3 o4)(k:K1 R):GU.A (b,o0baL,o1baL,o2,o3,o4) k=al (Lx.call (o0baL,o1baL,o2,o3,o4)) λx1=>aH ((!(Ty.beq tH b.2.1 x1.2))) (k (GU.out (1,x1.1.1,x1.1.2.1,x1.1.2.2.1,x1.1.2.2.2.1,x1.1.2.2.2.2))) (al (pf.call (x1.1.1,x1.1.2.1,x1.1.2.2.1,x1.1.2.2.2.1,x1.1.2.2.2.2)) λx2=>aH ((BY b.1 (bI .i64 x2.2 1))) (k (GU.out (1,x2.1.1,x2.1.2.1,x2.1.2.2.1,x2.1.2.2.2.1,x2.1.2.2.2.2))) (al (GQ.call (b,x2.1.2.1,x2.1.2.2.1,x2.1.2.2.2.1)) λx3=>aH ((BY x3.1 0)) (k (GU.out (x3.1,x2.1.1,x3.2.1,x3.2.2.1,x3.2.2.2,x2.1.2.2.2.2))) (al (HS.call b) λx4=>aH (decide (x2.1.1<=(ag x2.1.2.2.2.2))) (aH (da (x2.1.1+1) 96) (k (GU.out (0,(x2.1.1+1),x3.2.1,x3.2.2.1,x3.2.2.2,((aQ x2.1.1 x2.1.2.2.2.2)++ [x4])))) none) none))):=bY
theorem aDg:GU.Ok:=by
 rintro⟨b,nb,n,a,s,bs⟩ ⟨hb,hg,hc⟩;have hb:WT b:=hb;obtain⟨h1,h2,_⟩:=id hc;have h1:nb<=bs.length:=h1;have h2:nb<=1000000:=h2;rw[aDf,afw (d:=(nb,n,a,s,bs)) hc];simp only[ah,afv,ahS,aQX,bt,ahM,mg];by_cases ht:b.2.1=rQ nb bs
 ·rw[fy ht,cz,ao,Fi (d:=(nb,n,a,s,bs)) trivial];simp only[ah,Fh,Nf];rw[fU ak ak];by_cases hh:b.1=(nb:Int)+1
  ·rw[dB hh,ao,aw1 (d:=(b,n,a,s)) ⟨hb,hg⟩];simp only[ah,bt,ahy,if_pos (And.intro ht hh)];by_cases he:(tG b a).2=0
   ·rw[dB he,ao,afm (d:=b) hb.1];simp only[ah,bt,ahI];rw[aM h1,aj,dr ak ak,aj,if_pos he,if_neg (λe=>e he)]
   ·rw[fj he,aj,if_neg he,if_pos he]
  ·rw[fj hh,aj,if_neg (λe=>hh e.2)]
 ·rw[ju ht,eZ,aj,if_neg (λe=>ht e.1)]
theorem afo:GU.RS:=rE [.d dR,.n,.n,.d (.slice (.pair bl eQ)),.d (.slice cD),.d (.slice dR)] GU
def alR:=GU.eS aDg
end Go.Ab
end
