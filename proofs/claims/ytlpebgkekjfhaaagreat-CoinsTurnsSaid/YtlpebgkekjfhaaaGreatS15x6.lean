/-
  Made short by a program of mine (wip/tools/mini.py).
-/
import Derived.Test.YtlpebgkekjfhaaaGreatS15x5
set_option linter.unusedVariables false
set_option linter.unusedSimpArgs false
namespace Go.Ab
open Go.Proofs
set_option maxRecDepth 100000
set_option linter.unusedVariables false
set_option linter.unusedSimpArgs false
set_option synthInstance.maxSize 5000
theorem qv{t:eI}{o:bX}(h:o∈dG t):o.1=iK t:=by
 unfold dG at h
 split at h
 ·unfold lf at h
  obtain⟨k,_,rfl⟩:=List.mem_map.1 h
  rfl
 ·cases h
section
variable {a b:eI} {h fa fb:Int} {A:At}
theorem AR(hn:(dX A).Nodup)(ha:eN a h A fa){o:bX}(ht:(bF bz o A).isSome=true):bF bz o (cJ a h A)=if o∈bu a then none else bF bz o A:=by
 have hm:o ∉ dG a:=fun e=>by
  rw[ha.made o e]at ht;cases ht
 by_cases h1:o∈bu a
 ·rw[if_pos h1,ha.yS hn h1]
 ·rw[if_neg h1,ln hn h1 hm]
theorem pt(hn:(dX A).Nodup)(ha:eN a h A fa)(id:List Int):∀(l:List gU) (f g:Int),(∀x∈l,(bF bz x.1 A).isSome=true)→gz h id A l f= .inr g→
  gz h id (cJ a h A) l f=if(∃x∈l,x.1∈bu a) then .inl 5 else .inr g
 |[],f,g,_,e=>by
  rw[if_neg (by rintro⟨x,hx,_⟩;cases hx)]
  exact e
 |x::l,f,g,ht,e=>by
  have hx:=AR hn ha (ht x List.mem_cons_self)
  obtain⟨c,hc⟩:=Option.isSome_iff_exists.1 (ht x List.mem_cons_self)
  rw[hc]at hx
  simp only[gz,hc]at e
  by_cases h1:x.1∈bu a
  ·rw[if_pos h1]at hx
   rw[if_pos ⟨x,List.mem_cons_self,h1⟩]
   simp only[gz,hx]
  ·rw[if_neg h1]at hx
   by_cases h2:kB c.1.2.1 x.2.1 id h (h - c.2.1)=0
   ·rw[if_neg (fun e=>e h2)]at e
    have ih:=pt hn ha id l _ g (fun y hy=>ht y (List.mem_cons_of_mem _ hy)) e
    have e2:gz h id (cJ a h A) (x::l) f=gz h id (cJ a h A) l (f+c.1.1):=by
     simp only[gz,hx]
     rw[if_neg (fun e=>e h2)]
    rw[e2,ih]
    by_cases h3:∃y∈l,y.1∈bu a
    ·rw[if_pos h3,if_pos (by obtain⟨y,hy,h4⟩:=h3;exact⟨y,List.mem_cons_of_mem _ hy,h4⟩)]
    ·rw[if_neg h3,if_neg (by
      rintro⟨y,hy,h4⟩
      rcases List.mem_cons.1 hy with rfl | hy
      ·exact h1 h4
      ·exact h3 ⟨y,hy,h4⟩)]
   ·rw[if_pos h2]at e
    cases e
theorem tM(hok:fA a=true):bu a=a.1.map (·.1):=by unfold bu;rw[if_pos hok]
theorem qM(hn:(dX A).Nodup)(ha:eN a h A fa)(hb:eN b h A fb){o:bX}(h1:o∈bu a)(h2:o∈bu b):dB b h (cJ a h A)=(0,5):=by
 obtain⟨f,hi,_⟩:=hb.ins
 have hs:=tM hb.ok
 have hth:∀x∈b.1,(bF bz x.1 A).isSome=true:=fun x hx=>hb.there x.1 (by rw[hs];exact List.mem_map.2 ⟨x,hx,rfl⟩)
 have e:=pt hn ha (iK b) b.1 0 f hth hi
 rw[if_pos (by
  rw[hs]at h2
  obtain⟨x,hx,e⟩:=List.mem_map.1 h2
  have e:x.1=o:=e
  exact⟨x,hx,by rw[e];exact h1⟩)]at e
 unfold dB
 rw[if_pos ⟨hb.ok,hb.h1,hb.h2⟩,e]
theorem qN(hn:(dX A).Nodup)(ha:eN a h A fa)(hb:eN b h A fb)(h1:∀o∈bu b,o ∉ bu a)(h2:iK a≠iK b):(dB b h (cJ a h A)).2=0:=by
 obtain⟨f,hi,hf⟩:=hb.ins
 have hs:=tM hb.ok
 have hp:=hb.pos
 have hth:∀x∈b.1,(bF bz x.1 A).isSome=true:=fun x hx=>hb.there x.1 (by rw[hs];exact List.mem_map.2 ⟨x,hx,rfl⟩)
 have e:=pt hn ha (iK b) b.1 0 f hth hi
 rw[if_neg (by
  rintro⟨x,hx,e⟩
  exact h1 x.1 (by rw[hs];exact List.mem_map.2 ⟨x,hx,rfl⟩) e)]at e
 unfold dB
 rw[if_pos ⟨hb.ok,hb.h1,hb.h2⟩,e]
 have hm:(dG b).any (fI (cJ a h A))=false:=by
  rw[List.any_eq_false]
  intro o ho hth
  unfold fI at hth
  have hma:o ∉ dG a:=fun e=>h2 (by rw[←qv e,←qv ho])
  by_cases h3:o∈bu a
  ·rw[ha.yS hn h3]at hth;cases hth
  ·rw[ln hn h3 hma,hb.made o ho]at hth;cases hth
 simp only[hm,Bool.false_eq_true,if_false]
 rw[if_neg (by omega)]
theorem xe(hn:(dX A).Nodup)(ha:eN a h A fa)(hb:eN b h A fb)(h2:iK a≠iK b):lP (cJ b h (cJ a h A)) (cJ a h (cJ b h A)):=fun o=>by
 have la:=gC ha.ok
 have lb:=gC hb.ok
 have na:(dX (cJ a h A)).Nodup:=gv hn
 have nb:(dX (cJ b h A)).Nodup:=gv hn
 have new:∀(t:eI) (c:At),(dG t).length=t.2.1.length→o∈dG t→∃v,∀c:At,bF bz o (cJ t h c)=some v:=by
  intro t _ hl ho
  obtain⟨k,hk,rfl⟩:=List.getElem_of_mem ho
  have hk2:k < t.2.1.length:=by omega
  exact⟨(t.2.1[k],(h,())),fun c=>by unfold cJ;exact ra h _ _ _ (nJ t) k hk hk2⟩
 have cz:∀(t:eI) (c:At),(dX c).Nodup→o ∉ dG t→bF bz o (cJ t h c)=if o∈bu t then none else bF bz o c:=by
  intro t c hc ho
  unfold cJ
  rw[vQ h o _ _ _ ho,rb o _ hc]
 by_cases m1:o∈dG a
 ·have m2:o ∉ dG b:=fun e=>h2 (by rw[←qv e,←qv m1])
  have s2:o ∉ bu b:=fun e=>by have:=hb.there o e;rw[ha.made o m1]at this;cases this
  obtain⟨v,hv⟩:=new a A la m1
  rw[cz b _ na m2,if_neg s2,hv,hv]
 ·by_cases m2:o∈dG b
  ·have s1:o ∉ bu a:=fun e=>by have:=ha.there o e;rw[hb.made o m2]at this;cases this
   obtain⟨v,hv⟩:=new b A lb m2
   rw[cz a _ nb m1,if_neg s1,hv,hv]
  ·rw[cz b _ na m2,cz a _ hn m1,cz a _ nb m1,cz b _ hn m2]
   by_cases s1:o∈bu a
   ·rw[if_pos s1,if_pos s1];split <;> rfl
   ·rw[if_neg s1,if_neg s1]
end
abbrev ab.L0.D:=Int×eI×eI×Bool×(List bX)×(List bX)×Bool×Int×Nat×(List (bX×dJ))×(List cG)×Nat×(List (bX×dJ))×(List cG)
def ab.L0.st:ab.L0.D→AS:=fun(height_2,a_2,b_2,head,l,m,both,i,n21L,n21,n21_2,n43L,n43,n43_2)=>⟨([.undef,.undef,.undef,.d ti height_2,.undef,.dZ gm a_2,.dZ gm b_2,.undef,.undef,.d .bool head,.ptr (.new 21 0) 0 [] 0,.ptr (.new 43 0) 0 [] 0,.d (.slice bz) l,.d (.slice bz) m,.d .bool both,.d ti i]++bm 124 []),[],(cr 21 ([[.obj 0 false (.pr (.dy (.new 21 1) 0) (.pr (.bt (.new 21 2) 0 [] 0 0 n21L) (.d .unit ()))),.obj 0 false (.mp bz eX n21),.obj 0 false (.vec 161 dx n21_2)]]++cr 21 ([[.obj 0 false (.pr (.dy (.new 43 1) 0) (.pr (.bt (.new 43 2) 0 [] 0 0 n43L) (.d .unit ()))),.obj 0 false (.mp bz eX n43),.obj 0 false (.vec 161 dx n43_2)]]++cr 96 [])))⟩
abbrev ab.L0.Y0:=Int×eI×eI×Bool×Bool×Nat×(List (bX×dJ))×(List cG)×Nat×(List (bX×dJ))×(List cG)
abbrev ab.L0.X0:=Int×eI×eI×Bool×Bool×Nat×(List (bX×dJ))×(List cG)×Nat×(List (bX×dJ))×(List cG)
def ab.L0.bK:ab.L0.X0→Exit×AS:=fun x=>(.exit 0,⟨([.undef,.undef,.undef,.d ti x.1,.undef,.dZ gm x.2.1,.dZ gm x.2.2.1,.undef,.undef,.d .bool x.2.2.2.1,.ptr (.new 21 0) 0 [] 0,.ptr (.new 43 0) 0 [] 0,.undef,.undef,.d .bool x.2.2.2.2.1]++bm 125 []),[],(cr 21 ([[.obj 0 false (.pr (.dy (.new 21 1) 0) (.pr (.bt (.new 21 2) 0 [] 0 0 x.2.2.2.2.2.1) (.d .unit ()))),.obj 0 false (.mp bz eX x.2.2.2.2.2.2.1),.obj 0 false (.vec 161 dx x.2.2.2.2.2.2.2.1)]]++cr 21 ([[.obj 0 false (.pr (.dy (.new 43 1) 0) (.pr (.bt (.new 43 2) 0 [] 0 0 x.2.2.2.2.2.2.2.2.1) (.d .unit ()))),.obj 0 false (.mp bz eX x.2.2.2.2.2.2.2.2.2.1),.obj 0 false (.vec 161 dx x.2.2.2.2.2.2.2.2.2.2)]]++cr 96 [])))⟩)
abbrev ab.L0.X:=ab.L0.X0
abbrev ab.L0.Y:=ab.L0.Y0
def ab.L0.out:ab.L0.X→Out (Exit×AS):=fun x=> .ok (ab.L0.bK x)
def ab.L0.add:ab.L0.D→ab.L0.Y→ab.L0.X:=fun(height_2,a_2,b_2,head,l,m,both,i,n21L,n21,n21_2,n43L,n43,n43_2) y=>y
abbrev ab.L1.D:=Int×eI×eI×Bool×(List bX)×(List bX)×Bool×Int×Int×Nat×(List (bX×dJ))×(List cG)×Nat×(List (bX×dJ))×(List cG)
def ab.L1.st:ab.L1.D→AS:=fun(height_3,a_3,b_3,head_2,l_2,m_2,both_2,i_2,kv,n21L_2,n21_3,n21_4,n43L_2,n43_3,n43_4)=>⟨([.undef,.undef,.undef,.d ti height_3,.undef,.dZ gm a_3,.dZ gm b_3,.undef,.undef,.d .bool head_2,.ptr (.new 21 0) 0 [] 0,.ptr (.new 43 0) 0 [] 0,.d (.slice bz) l_2,.d (.slice bz) m_2,.d .bool both_2,.d ti i_2,.d ti kv]++bm 123 []),[],(cr 21 ([[.obj 0 false (.pr (.dy (.new 21 1) 0) (.pr (.bt (.new 21 2) 0 [] 0 0 n21L_2) (.d .unit ()))),.obj 0 false (.mp bz eX n21_3),.obj 0 false (.vec 161 dx n21_4)]]++cr 21 ([[.obj 0 false (.pr (.dy (.new 43 1) 0) (.pr (.bt (.new 43 2) 0 [] 0 0 n43L_2) (.d .unit ()))),.obj 0 false (.mp bz eX n43_3),.obj 0 false (.vec 161 dx n43_4)]]++cr 96 [])))⟩
abbrev ab.L1.Y0:=Bool
abbrev ab.L1.X0:=(Int×eI×eI×Bool×(List bX)×(List bX)×Int×Nat×(List (bX×dJ))×(List cG)×Nat×(List (bX×dJ))×(List cG))×(Bool)
def ab.L1.bK:ab.L1.X0→Exit×AS:=fun x=>(.exit 2,⟨([.undef,.undef,.undef,.d ti x.1.1,.undef,.dZ gm x.1.2.1,.dZ gm x.1.2.2.1,.undef,.undef,.d .bool x.1.2.2.2.1,.ptr (.new 21 0) 0 [] 0,.ptr (.new 43 0) 0 [] 0,.d (.slice bz) x.1.2.2.2.2.1,.d (.slice bz) x.1.2.2.2.2.2.1,.d .bool x.2,.d ti x.1.2.2.2.2.2.2.1]++bm 124 []),[],(cr 21 ([[.obj 0 false (.pr (.dy (.new 21 1) 0) (.pr (.bt (.new 21 2) 0 [] 0 0 x.1.2.2.2.2.2.2.2.1) (.d .unit ()))),.obj 0 false (.mp bz eX x.1.2.2.2.2.2.2.2.2.1),.obj 0 false (.vec 161 dx x.1.2.2.2.2.2.2.2.2.2.1)]]++cr 21 ([[.obj 0 false (.pr (.dy (.new 43 1) 0) (.pr (.bt (.new 43 2) 0 [] 0 0 x.1.2.2.2.2.2.2.2.2.2.2.1) (.d .unit ()))),.obj 0 false (.mp bz eX x.1.2.2.2.2.2.2.2.2.2.2.2.1),.obj 0 false (.vec 161 dx x.1.2.2.2.2.2.2.2.2.2.2.2.2)]]++cr 96 [])))⟩)
abbrev ab.L1.X:=ab.L1.X0
abbrev ab.L1.Y:=ab.L1.Y0
def ab.L1.out:ab.L1.X→Out (Exit×AS):=fun x=> .ok (ab.L1.bK x)
def ab.L1.add:ab.L1.D→ab.L1.Y→ab.L1.X:=fun(height_3,a_3,b_3,head_2,l_2,m_2,both_2,i_2,kv,n21L_2,n21_3,n21_4,n43L_2,n43_3,n43_4) y=>((height_3,a_3,b_3,head_2,l_2,m_2,i_2,n21L_2,n21_3,n21_4,n43L_2,n43_3,n43_4),y)
abbrev ab.D:=(List fR)×eI×eI×Int
def ab.st:ab.D→SA:=fun(outs,a,b,height)=>([.d (.slice gJ) outs,.d gm a,.d gm b,.d ti height],[])
abbrev ab.Y:=Bool
abbrev ab.X:=Bool
def ab.out:ab.X→aW:=fun x=>⟨.d .bool x,[],[]⟩
def ab.add:ab.D→ab.Y→ab.X:=fun(outs,a,b,height) y=>y
def C7(x y:bX):Bool:=Ty.beq bz x y
def ab.L0.aC:ab.L0.D→Prop:=fun(_,_,_,_,l,m,_,i,_,_,_,_,_,_)=>l.length≤1000∧m.length≤1000∧∃k:Nat,k≤l.length∧i=k
def ab.L0.F:ab.L0.D→ab.L0.Y:=fun(h,a,b,hd,l,m,both,i,n1,a1,s1,n2,a2,s2)=>(h,a,b,hd,both || (l.drop i.toNat).any (fun x=>m.any (C7 x)),n1,a1,s1,n2,a2,s2)
def ab.L1.aC:ab.L1.D→Prop:=fun(_,_,_,_,l,m,_,i,j,_,_,_,_,_,_)=>m.length≤1000∧0≤i∧i < l.length∧∃k:Nat,k≤m.length∧j=k
def ab.L1.F:ab.L1.D→ab.L1.Y:=fun(h,a,b,hd,l,m,both,i,j,n1,a1,s1,n2,a2,s2)=>both || (m.drop j.toNat).any (C7 (nth bz l i.toNat))
def ab.aC:ab.D→Prop:=fun(outs,a,b,h)=>(∀o∈outs,w4 o)∧nV a∧nV b
def ab.F:ab.D→ab.Y:=fun _=>true
noncomputable def ab.G:dH:=eT (P:=Tryz.prog) [aM.sg,aT.sg,aQ.sg,aB.sg,az.sg,tid.sg,aS.sg,bo.sg,aO.sg]
noncomputable def ab.L0.E:=bZ.cP ab.L0.st ab.L0.aC ab.L0.add ab.L0.F ab.L0.out
noncomputable def ab.L0.call:ab.L0.D→Option ab.L0.X:=dI ab.L0.E ab.L0.st
noncomputable def ab.L1.E:=bZ.cP ab.L1.st ab.L1.aC ab.L1.add ab.L1.F ab.L1.out
noncomputable def ab.L1.call:ab.L1.D→Option ab.L1.X:=dI ab.L1.E ab.L1.st
noncomputable def ab.an:ee:= {loops:=lZ [(12,{bn:=[3,5,6,9,10,11,12,13,14,15],sites:=[21,43],kO:=[⟨10,[],21,0⟩,⟨11,[],43,0⟩]}),(15,{bn:=[3,5,6,9,10,11,12,13,14,15,16],sites:=[21,43]})],outs:=lY [(12,{bn:=[3,5,6,9,10,11,14],sites:=[21,43]},{bn:=[8]}),(15,{bn:=[3,5,6,9,10,11,12,13,14,15],sites:=[21,43]},{bn:=[8]})],fO:=mW [(12,ab.L0.E),(15,ab.L1.E)]}
noncomputable def ab.A:= @cT Tryz.prog ab.G ab.an 0 Tryz.f8 _ ab.st
abbrev ab.Ok:=cU @ab.A ab.aC ab.add ab.F ab.out
noncomputable def ab.L0.R:= @cC Tryz.prog ab.G ab.an 0 Tryz.f8 0 _ ab.L0.st
abbrev ab.L0.Ok:=eO Tryz.prog ab.G ab.an 0 Tryz.f8 0 ab.L0.st ab.L0.aC ab.L0.add ab.L0.F ab.L0.out
noncomputable def ab.L1.R:= @cC Tryz.prog ab.G ab.an 0 Tryz.f8 1 _ ab.L1.st
abbrev ab.L1.Ok:=eO Tryz.prog ab.G ab.an 0 Tryz.f8 1 ab.L1.st ab.L1.aC ab.L1.add ab.L1.F ab.L1.out
theorem ab.L0.run:bP ab.L0.call ab.L0.aC ab.L0.add ab.L0.F:=fe (eY [.d ti,.d gm,.d gm,.d .bool,.d (.slice bz),.d (.slice bz),.d .bool,.d ti,.n,.d (.slice (.pair bz eX)),.d (.slice dx),.n,.d (.slice (.pair bz eX)),.d (.slice dx)] fun _=>by kernel_rfl)
theorem ab.L0.aL:ga @ab.L0.R ab.L0.st ab.L0.aC ab.L0.add ab.L0.F ab.L0.bK ab.L0.Ok:=gw
theorem ab.L0.step{R:Type}(height_2:Int)(a_2:eI)(b_2:eI)(head:Bool)(l:(List bX))(m:(List bX))(both:Bool)(i:Int)(n21L:Nat)(n21:(List (bX×dJ)))(n21_2:(List cG))(n43L:Nat)(n43:(List (bX×dJ)))(n43_2:(List cG))(kn:AS→Option R)(kx:Exit→AS→Option R):ab.L0.R (height_2,a_2,b_2,head,l,m,both,i,n21L,n21,n21_2,n43L,n43,n43_2) kn kx=
  aF ((gQ i (((List.length l):Nat):Int))) (
   ah (ab.L1.call (height_2,a_2,b_2,head,l,m,both,i,(0:Int),n21L,n21,n21_2,n43L,n43,n43_2)) fun x2=>
   kn (ab.L0.st (x2.1.1,x2.1.2.1,x2.1.2.2.1,x2.1.2.2.2.1,x2.1.2.2.2.2.1,x2.1.2.2.2.2.2.1,x2.2,(ck .i64 x2.1.2.2.2.2.2.2.1 (1:Int)),x2.1.2.2.2.2.2.2.2.1,x2.1.2.2.2.2.2.2.2.2.1,x2.1.2.2.2.2.2.2.2.2.2.1,x2.1.2.2.2.2.2.2.2.2.2.2.1,x2.1.2.2.2.2.2.2.2.2.2.2.2.1,x2.1.2.2.2.2.2.2.2.2.2.2.2.2))) (
   kx (ab.L0.bK (height_2,a_2,b_2,head,both,n21L,n21,n21_2,n43L,n43,n43_2)).1 (ab.L0.bK (height_2,a_2,b_2,head,both,n21L,n21,n21_2,n43L,n43,n43_2)).2):=by kernel_rfl
theorem ab.L1.run:bP ab.L1.call ab.L1.aC ab.L1.add ab.L1.F:=fe (eY [.d ti,.d gm,.d gm,.d .bool,.d (.slice bz),.d (.slice bz),.d .bool,.d ti,.d ti,.n,.d (.slice (.pair bz eX)),.d (.slice dx),.n,.d (.slice (.pair bz eX)),.d (.slice dx)] fun _=>by kernel_rfl)
theorem ab.L1.aL:ga @ab.L1.R ab.L1.st ab.L1.aC ab.L1.add ab.L1.F ab.L1.bK ab.L1.Ok:=gw
theorem ab.L1.step{R:Type}(height_3:Int)(a_3:eI)(b_3:eI)(head_2:Bool)(l_2:(List bX))(m_2:(List bX))(both_2:Bool)(i_2:Int)(kv:Int)(n21L_2:Nat)(n21_3:(List (bX×dJ)))(n21_4:(List cG))(n43L_2:Nat)(n43_3:(List (bX×dJ)))(n43_4:(List cG))(kn:AS→Option R)(kx:Exit→AS→Option R):ab.L1.R (height_3,a_3,b_3,head_2,l_2,m_2,both_2,i_2,kv,n21L_2,n21_3,n21_4,n43L_2,n43_3,n43_4) kn kx=
  aF ((gQ kv (((List.length m_2):Nat):Int))) (
   aF (both_2) (
    kn (ab.L1.st (height_3,a_3,b_3,head_2,l_2,m_2,true,i_2,(ck .i64 kv (1:Int)),n21L_2,n21_3,n21_4,n43L_2,n43_3,n43_4))) (
    aF (fE i_2 (((List.length l_2):Nat):Int)) (
    aF (fE kv (((List.length m_2):Nat):Int)) (
    kn (ab.L1.st (height_3,a_3,b_3,head_2,l_2,m_2,(Ty.beq bz (nth bz l_2 (Int.toNat i_2)) (nth bz m_2 (Int.toNat kv))),i_2,(ck .i64 kv (1:Int)),n21L_2,n21_3,n21_4,n43L_2,n43_3,n43_4))) none) none)) (
   kx (ab.L1.bK ((height_3,a_3,b_3,head_2,l_2,m_2,i_2,n21L_2,n21_3,n21_4,n43L_2,n43_3,n43_4),both_2)).1 (ab.L1.bK ((height_3,a_3,b_3,head_2,l_2,m_2,i_2,n21L_2,n21_3,n21_4,n43L_2,n43_3,n43_4),both_2)).2):=by kernel_rfl
theorem ab.eq{R:Type}(outs:(List fR))(a:eI)(b:eI)(height:Int)(k:aW→Option R):ab.A (outs,a,b,height) k=
  ah (aM.call ()) fun x4=>
  ah (aT.call outs) fun x8=>
  aF (x8.isLeft) (
   ah (x8.getLeft?) fun x8l=>
   k (ab.out x4)) (
   ah (x8.getRight?) fun x8r=>
   aF ((po (((List.length outs):Nat):Int) (20:Int))) (
    k (ab.out x4)) (
    aF ((po (((List.length a.1):Nat):Int) (8:Int))) (
     k (ab.out x4)) (
     aF ((po (((List.length b.1):Nat):Int) (8:Int))) (
      k (ab.out x4)) (
      ah (aQ.call (0,x8r.1,x8r.2)) fun x12=>
      ah (aB.call (a,height,x12.1,x12.2.1,x12.2.2.1)) fun x22=>
      aF (x22.isLeft) (
       ah (x22.getLeft?) fun x22l=>
       aF ((qe x22l.1 (0:Int))) (
        aF (x4) (
         k (ab.out true)) (
         k (ab.out false))) (
        ah (aB.call (b,height,x12.2.2.2.1,x12.2.2.2.2.1,x12.2.2.2.2.2)) fun x23=>
        aF (x23.isLeft) (
         ah (x23.getLeft?) fun x23l=>
         aF ((qe x23l.1 (0:Int))) (
          aF (x4) (
           k (ab.out true)) (
           k (ab.out false))) (
          ah (az.call a) fun x27=>
          ah (az.call b) fun x31=>
          ah (ab.L0.call (height,a,b,x4,x27,x31,false,(0:Int),x22l.2.1,x22l.2.2.1,x22l.2.2.2,x23l.2.1,x23l.2.2.1,x23l.2.2.2)) fun x35=>
          ah (aB.call (x35.2.2.1,x35.1,x35.2.2.2.2.2.1,x35.2.2.2.2.2.2.1,x35.2.2.2.2.2.2.2.1)) fun x36=>
          aF (x36.isLeft) (
           ah (x36.getLeft?) fun x36l=>
           ah (aB.call (x35.2.1,x35.1,x35.2.2.2.2.2.2.2.2.1,x35.2.2.2.2.2.2.2.2.2.1,x35.2.2.2.2.2.2.2.2.2.2)) fun x37=>
           aF (x37.isLeft) (
            ah (x37.getLeft?) fun x37l=>
            aF (x35.2.2.2.2.1) (
             aF (x35.2.2.2.1) (
              aF ((dN x36l.1 (5:Int))) (
               k (ab.out (dN x37l.1 (5:Int)))) (
               k (ab.out false))) (
              k (ab.out false))) (
             ah (tid.call x35.2.1) fun x44=>
             ah (tid.call x35.2.2.1) fun x45=>
             aF ((Ty.beq tH x44 x45)) (
              k (ab.out x35.2.2.2.1)) (
              aF (x35.2.2.2.1) (
               aF ((dN x36l.1 (0:Int))) (
                aF ((dN x37l.1 (0:Int))) (
                 ah (aS.call (x36l.2.1,x36l.2.2.1,x36l.2.2.2)) fun x51=>
                 ah (aS.call (x37l.2.1,x37l.2.2.1,x37l.2.2.2)) fun x52=>
                 aF (decide (0=0∧(0+x51.1)≤(List.length x51.2.2.2.2))) (
                 aF (decide (0=0∧(0+x52.1)≤(List.length x52.2.2.2.2))) (
                 ah (bo.call ((cut x51.2.2.2.2 0 x51.1),(cut x52.2.2.2.2 0 x52.1))) fun x53=>
                 aF (x53) (
                  ah (aO.call (x51.2.1,x51.2.2.1,x51.2.2.2.1)) fun x54=>
                  ah (aO.call (x52.2.1,x52.2.2.1,x52.2.2.2.1)) fun x55=>
                  k (ab.out (dN x54.1 x55.1))) (
                  k (ab.out false))) none) none) (
                 k (ab.out false))) (
                k (ab.out false))) (
               k (ab.out false))))) (
            ah (x37.getRight?) fun x37r=>
            aF (x35.2.2.2.2.1) (
             aF (x35.2.2.2.1) (
              aF ((dN x36l.1 (5:Int))) (
               k (ab.out (dN x37r.1 (5:Int)))) (
               k (ab.out false))) (
              k (ab.out false))) (
             ah (tid.call x35.2.1) fun x62=>
             ah (tid.call x35.2.2.1) fun x63=>
             aF ((Ty.beq tH x62 x63)) (
              k (ab.out x35.2.2.2.1)) (
              aF (x35.2.2.2.1) (
               aF ((dN x36l.1 (0:Int))) (
                aF ((dN x37r.1 (0:Int))) (
                 ah (aS.call (x36l.2.1,x36l.2.2.1,x36l.2.2.2)) fun x69=>
                 ah (aS.call (x37r.2.1,x37r.2.2.1,x37r.2.2.2)) fun x70=>
                 aF (decide (0=0∧(0+x69.1)≤(List.length x69.2.2.2.2))) (
                 aF (decide (0=0∧(0+x70.1)≤(List.length x70.2.2.2.2))) (
                 ah (bo.call ((cut x69.2.2.2.2 0 x69.1),(cut x70.2.2.2.2 0 x70.1))) fun x71=>
                 aF (x71) (
                  ah (aO.call (x69.2.1,x69.2.2.1,x69.2.2.2.1)) fun x72=>
                  ah (aO.call (x70.2.1,x70.2.2.1,x70.2.2.2.1)) fun x73=>
                  k (ab.out (dN x72.1 x73.1))) (
                  k (ab.out false))) none) none) (
                 k (ab.out false))) (
                k (ab.out false))) (
               k (ab.out false)))))) (
           ah (x36.getRight?) fun x36r=>
           ah (aB.call (x35.2.1,x35.1,x35.2.2.2.2.2.2.2.2.1,x35.2.2.2.2.2.2.2.2.2.1,x35.2.2.2.2.2.2.2.2.2.2)) fun x74=>
           aF (x74.isLeft) (
            ah (x74.getLeft?) fun x74l=>
            aF (x35.2.2.2.2.1) (
             aF (x35.2.2.2.1) (
              aF ((dN x36r.1 (5:Int))) (
               k (ab.out (dN x74l.1 (5:Int)))) (
               k (ab.out false))) (
              k (ab.out false))) (
             ah (tid.call x35.2.1) fun x81=>
             ah (tid.call x35.2.2.1) fun x82=>
             aF ((Ty.beq tH x81 x82)) (
              k (ab.out x35.2.2.2.1)) (
              aF (x35.2.2.2.1) (
               aF ((dN x36r.1 (0:Int))) (
                aF ((dN x74l.1 (0:Int))) (
                 ah (aS.call (x36r.2.1,x36r.2.2.1,x36r.2.2.2)) fun x88=>
                 ah (aS.call (x74l.2.1,x74l.2.2.1,x74l.2.2.2)) fun x89=>
                 aF (decide (0=0∧(0+x88.1)≤(List.length x88.2.2.2.2))) (
                 aF (decide (0=0∧(0+x89.1)≤(List.length x89.2.2.2.2))) (
                 ah (bo.call ((cut x88.2.2.2.2 0 x88.1),(cut x89.2.2.2.2 0 x89.1))) fun x90=>
                 aF (x90) (
                  ah (aO.call (x88.2.1,x88.2.2.1,x88.2.2.2.1)) fun x91=>
                  ah (aO.call (x89.2.1,x89.2.2.1,x89.2.2.2.1)) fun x92=>
                  k (ab.out (dN x91.1 x92.1))) (
                  k (ab.out false))) none) none) (
                 k (ab.out false))) (
                k (ab.out false))) (
               k (ab.out false))))) (
            ah (x74.getRight?) fun x74r=>
            aF (x35.2.2.2.2.1) (
             aF (x35.2.2.2.1) (
              aF ((dN x36r.1 (5:Int))) (
               k (ab.out (dN x74r.1 (5:Int)))) (
               k (ab.out false))) (
              k (ab.out false))) (
             ah (tid.call x35.2.1) fun x99=>
             ah (tid.call x35.2.2.1) fun x100=>
             aF ((Ty.beq tH x99 x100)) (
              k (ab.out x35.2.2.2.1)) (
              aF (x35.2.2.2.1) (
               aF ((dN x36r.1 (0:Int))) (
                aF ((dN x74r.1 (0:Int))) (
                 ah (aS.call (x36r.2.1,x36r.2.2.1,x36r.2.2.2)) fun x106=>
                 ah (aS.call (x74r.2.1,x74r.2.2.1,x74r.2.2.2)) fun x107=>
                 aF (decide (0=0∧(0+x106.1)≤(List.length x106.2.2.2.2))) (
                 aF (decide (0=0∧(0+x107.1)≤(List.length x107.2.2.2.2))) (
                 ah (bo.call ((cut x106.2.2.2.2 0 x106.1),(cut x107.2.2.2.2 0 x107.1))) fun x108=>
                 aF (x108) (
                  ah (aO.call (x106.2.1,x106.2.2.1,x106.2.2.2.1)) fun x109=>
                  ah (aO.call (x107.2.1,x107.2.2.1,x107.2.2.2.1)) fun x110=>
                  k (ab.out (dN x109.1 x110.1))) (
                  k (ab.out false))) none) none) (
                 k (ab.out false))) (
                k (ab.out false))) (
               k (ab.out false)))))))) (
         ah (x23.getRight?) fun x23r=>
         aF ((qe x23r.1 (0:Int))) (
          aF (x4) (
           k (ab.out true)) (
           k (ab.out false))) (
          ah (az.call a) fun x114=>
          ah (az.call b) fun x118=>
          ah (ab.L0.call (height,a,b,x4,x114,x118,false,(0:Int),x22l.2.1,x22l.2.2.1,x22l.2.2.2,x23r.2.1,x23r.2.2.1,x23r.2.2.2)) fun x120=>
          ah (aB.call (x120.2.2.1,x120.1,x120.2.2.2.2.2.1,x120.2.2.2.2.2.2.1,x120.2.2.2.2.2.2.2.1)) fun x121=>
          aF (x121.isLeft) (
           ah (x121.getLeft?) fun x121l=>
           ah (aB.call (x120.2.1,x120.1,x120.2.2.2.2.2.2.2.2.1,x120.2.2.2.2.2.2.2.2.2.1,x120.2.2.2.2.2.2.2.2.2.2)) fun x122=>
           aF (x122.isLeft) (
            ah (x122.getLeft?) fun x122l=>
            aF (x120.2.2.2.2.1) (
             aF (x120.2.2.2.1) (
              aF ((dN x121l.1 (5:Int))) (
               k (ab.out (dN x122l.1 (5:Int)))) (
               k (ab.out false))) (
              k (ab.out false))) (
             ah (tid.call x120.2.1) fun x129=>
             ah (tid.call x120.2.2.1) fun x130=>
             aF ((Ty.beq tH x129 x130)) (
              k (ab.out x120.2.2.2.1)) (
              aF (x120.2.2.2.1) (
               aF ((dN x121l.1 (0:Int))) (
                aF ((dN x122l.1 (0:Int))) (
                 ah (aS.call (x121l.2.1,x121l.2.2.1,x121l.2.2.2)) fun x136=>
                 ah (aS.call (x122l.2.1,x122l.2.2.1,x122l.2.2.2)) fun x137=>
                 aF (decide (0=0∧(0+x136.1)≤(List.length x136.2.2.2.2))) (
                 aF (decide (0=0∧(0+x137.1)≤(List.length x137.2.2.2.2))) (
                 ah (bo.call ((cut x136.2.2.2.2 0 x136.1),(cut x137.2.2.2.2 0 x137.1))) fun x138=>
                 aF (x138) (
                  ah (aO.call (x136.2.1,x136.2.2.1,x136.2.2.2.1)) fun x139=>
                  ah (aO.call (x137.2.1,x137.2.2.1,x137.2.2.2.1)) fun x140=>
                  k (ab.out (dN x139.1 x140.1))) (
                  k (ab.out false))) none) none) (
                 k (ab.out false))) (
                k (ab.out false))) (
               k (ab.out false))))) (
            ah (x122.getRight?) fun x122r=>
            aF (x120.2.2.2.2.1) (
             aF (x120.2.2.2.1) (
              aF ((dN x121l.1 (5:Int))) (
               k (ab.out (dN x122r.1 (5:Int)))) (
               k (ab.out false))) (
              k (ab.out false))) (
             ah (tid.call x120.2.1) fun x147=>
             ah (tid.call x120.2.2.1) fun x148=>
             aF ((Ty.beq tH x147 x148)) (
              k (ab.out x120.2.2.2.1)) (
              aF (x120.2.2.2.1) (
               aF ((dN x121l.1 (0:Int))) (
                aF ((dN x122r.1 (0:Int))) (
                 ah (aS.call (x121l.2.1,x121l.2.2.1,x121l.2.2.2)) fun x154=>
                 ah (aS.call (x122r.2.1,x122r.2.2.1,x122r.2.2.2)) fun x155=>
                 aF (decide (0=0∧(0+x154.1)≤(List.length x154.2.2.2.2))) (
                 aF (decide (0=0∧(0+x155.1)≤(List.length x155.2.2.2.2))) (
                 ah (bo.call ((cut x154.2.2.2.2 0 x154.1),(cut x155.2.2.2.2 0 x155.1))) fun x156=>
                 aF (x156) (
                  ah (aO.call (x154.2.1,x154.2.2.1,x154.2.2.2.1)) fun x157=>
                  ah (aO.call (x155.2.1,x155.2.2.1,x155.2.2.2.1)) fun x158=>
                  k (ab.out (dN x157.1 x158.1))) (
                  k (ab.out false))) none) none) (
                 k (ab.out false))) (
                k (ab.out false))) (
               k (ab.out false)))))) (
           ah (x121.getRight?) fun x121r=>
           ah (aB.call (x120.2.1,x120.1,x120.2.2.2.2.2.2.2.2.1,x120.2.2.2.2.2.2.2.2.2.1,x120.2.2.2.2.2.2.2.2.2.2)) fun x159=>
           aF (x159.isLeft) (
            ah (x159.getLeft?) fun x159l=>
            aF (x120.2.2.2.2.1) (
             aF (x120.2.2.2.1) (
              aF ((dN x121r.1 (5:Int))) (
               k (ab.out (dN x159l.1 (5:Int)))) (
               k (ab.out false))) (
              k (ab.out false))) (
             ah (tid.call x120.2.1) fun x166=>
             ah (tid.call x120.2.2.1) fun x167=>
             aF ((Ty.beq tH x166 x167)) (
              k (ab.out x120.2.2.2.1)) (
              aF (x120.2.2.2.1) (
               aF ((dN x121r.1 (0:Int))) (
                aF ((dN x159l.1 (0:Int))) (
                 ah (aS.call (x121r.2.1,x121r.2.2.1,x121r.2.2.2)) fun x173=>
                 ah (aS.call (x159l.2.1,x159l.2.2.1,x159l.2.2.2)) fun x174=>
                 aF (decide (0=0∧(0+x173.1)≤(List.length x173.2.2.2.2))) (
                 aF (decide (0=0∧(0+x174.1)≤(List.length x174.2.2.2.2))) (
                 ah (bo.call ((cut x173.2.2.2.2 0 x173.1),(cut x174.2.2.2.2 0 x174.1))) fun x175=>
                 aF (x175) (
                  ah (aO.call (x173.2.1,x173.2.2.1,x173.2.2.2.1)) fun x176=>
                  ah (aO.call (x174.2.1,x174.2.2.1,x174.2.2.2.1)) fun x177=>
                  k (ab.out (dN x176.1 x177.1))) (
                  k (ab.out false))) none) none) (
                 k (ab.out false))) (
                k (ab.out false))) (
               k (ab.out false))))) (
            ah (x159.getRight?) fun x159r=>
            aF (x120.2.2.2.2.1) (
             aF (x120.2.2.2.1) (
              aF ((dN x121r.1 (5:Int))) (
               k (ab.out (dN x159r.1 (5:Int)))) (
               k (ab.out false))) (
              k (ab.out false))) (
             ah (tid.call x120.2.1) fun x184=>
             ah (tid.call x120.2.2.1) fun x185=>
             aF ((Ty.beq tH x184 x185)) (
              k (ab.out x120.2.2.2.1)) (
              aF (x120.2.2.2.1) (
               aF ((dN x121r.1 (0:Int))) (
                aF ((dN x159r.1 (0:Int))) (
                 ah (aS.call (x121r.2.1,x121r.2.2.1,x121r.2.2.2)) fun x191=>
                 ah (aS.call (x159r.2.1,x159r.2.2.1,x159r.2.2.2)) fun x192=>
                 aF (decide (0=0∧(0+x191.1)≤(List.length x191.2.2.2.2))) (
                 aF (decide (0=0∧(0+x192.1)≤(List.length x192.2.2.2.2))) (
                 ah (bo.call ((cut x191.2.2.2.2 0 x191.1),(cut x192.2.2.2.2 0 x192.1))) fun x193=>
                 aF (x193) (
                  ah (aO.call (x191.2.1,x191.2.2.1,x191.2.2.2.1)) fun x194=>
                  ah (aO.call (x192.2.1,x192.2.2.1,x192.2.2.2.1)) fun x195=>
                  k (ab.out (dN x194.1 x195.1))) (
                  k (ab.out false))) none) none) (
                 k (ab.out false))) (
                k (ab.out false))) (
               k (ab.out false)))))))))) (
       ah (x22.getRight?) fun x22r=>
       aF ((qe x22r.1 (0:Int))) (
        aF (x4) (
         k (ab.out true)) (
         k (ab.out false))) (
        ah (aB.call (b,height,x12.2.2.2.1,x12.2.2.2.2.1,x12.2.2.2.2.2)) fun x196=>
        aF (x196.isLeft) (
         ah (x196.getLeft?) fun x196l=>
         aF ((qe x196l.1 (0:Int))) (
          aF (x4) (
           k (ab.out true)) (
           k (ab.out false))) (
          ah (az.call a) fun x200=>
          ah (az.call b) fun x204=>
          ah (ab.L0.call (height,a,b,x4,x200,x204,false,(0:Int),x22r.2.1,x22r.2.2.1,x22r.2.2.2,x196l.2.1,x196l.2.2.1,x196l.2.2.2)) fun x206=>
          ah (aB.call (x206.2.2.1,x206.1,x206.2.2.2.2.2.1,x206.2.2.2.2.2.2.1,x206.2.2.2.2.2.2.2.1)) fun x207=>
          aF (x207.isLeft) (
           ah (x207.getLeft?) fun x207l=>
           ah (aB.call (x206.2.1,x206.1,x206.2.2.2.2.2.2.2.2.1,x206.2.2.2.2.2.2.2.2.2.1,x206.2.2.2.2.2.2.2.2.2.2)) fun x208=>
           aF (x208.isLeft) (
            ah (x208.getLeft?) fun x208l=>
            aF (x206.2.2.2.2.1) (
             aF (x206.2.2.2.1) (
              aF ((dN x207l.1 (5:Int))) (
               k (ab.out (dN x208l.1 (5:Int)))) (
               k (ab.out false))) (
              k (ab.out false))) (
             ah (tid.call x206.2.1) fun x215=>
             ah (tid.call x206.2.2.1) fun x216=>
             aF ((Ty.beq tH x215 x216)) (
              k (ab.out x206.2.2.2.1)) (
              aF (x206.2.2.2.1) (
               aF ((dN x207l.1 (0:Int))) (
                aF ((dN x208l.1 (0:Int))) (
                 ah (aS.call (x207l.2.1,x207l.2.2.1,x207l.2.2.2)) fun x222=>
                 ah (aS.call (x208l.2.1,x208l.2.2.1,x208l.2.2.2)) fun x223=>
                 aF (decide (0=0∧(0+x222.1)≤(List.length x222.2.2.2.2))) (
                 aF (decide (0=0∧(0+x223.1)≤(List.length x223.2.2.2.2))) (
                 ah (bo.call ((cut x222.2.2.2.2 0 x222.1),(cut x223.2.2.2.2 0 x223.1))) fun x224=>
                 aF (x224) (
                  ah (aO.call (x222.2.1,x222.2.2.1,x222.2.2.2.1)) fun x225=>
                  ah (aO.call (x223.2.1,x223.2.2.1,x223.2.2.2.1)) fun x226=>
                  k (ab.out (dN x225.1 x226.1))) (
                  k (ab.out false))) none) none) (
                 k (ab.out false))) (
                k (ab.out false))) (
               k (ab.out false))))) (
            ah (x208.getRight?) fun x208r=>
            aF (x206.2.2.2.2.1) (
             aF (x206.2.2.2.1) (
              aF ((dN x207l.1 (5:Int))) (
               k (ab.out (dN x208r.1 (5:Int)))) (
               k (ab.out false))) (
              k (ab.out false))) (
             ah (tid.call x206.2.1) fun x233=>
             ah (tid.call x206.2.2.1) fun x234=>
             aF ((Ty.beq tH x233 x234)) (
              k (ab.out x206.2.2.2.1)) (
              aF (x206.2.2.2.1) (
               aF ((dN x207l.1 (0:Int))) (
                aF ((dN x208r.1 (0:Int))) (
                 ah (aS.call (x207l.2.1,x207l.2.2.1,x207l.2.2.2)) fun x240=>
                 ah (aS.call (x208r.2.1,x208r.2.2.1,x208r.2.2.2)) fun x241=>
                 aF (decide (0=0∧(0+x240.1)≤(List.length x240.2.2.2.2))) (
                 aF (decide (0=0∧(0+x241.1)≤(List.length x241.2.2.2.2))) (
                 ah (bo.call ((cut x240.2.2.2.2 0 x240.1),(cut x241.2.2.2.2 0 x241.1))) fun x242=>
                 aF (x242) (
                  ah (aO.call (x240.2.1,x240.2.2.1,x240.2.2.2.1)) fun x243=>
                  ah (aO.call (x241.2.1,x241.2.2.1,x241.2.2.2.1)) fun x244=>
                  k (ab.out (dN x243.1 x244.1))) (
                  k (ab.out false))) none) none) (
                 k (ab.out false))) (
                k (ab.out false))) (
               k (ab.out false)))))) (
           ah (x207.getRight?) fun x207r=>
           ah (aB.call (x206.2.1,x206.1,x206.2.2.2.2.2.2.2.2.1,x206.2.2.2.2.2.2.2.2.2.1,x206.2.2.2.2.2.2.2.2.2.2)) fun x245=>
           aF (x245.isLeft) (
            ah (x245.getLeft?) fun x245l=>
            aF (x206.2.2.2.2.1) (
             aF (x206.2.2.2.1) (
              aF ((dN x207r.1 (5:Int))) (
               k (ab.out (dN x245l.1 (5:Int)))) (
               k (ab.out false))) (
              k (ab.out false))) (
             ah (tid.call x206.2.1) fun x252=>
             ah (tid.call x206.2.2.1) fun x253=>
             aF ((Ty.beq tH x252 x253)) (
              k (ab.out x206.2.2.2.1)) (
              aF (x206.2.2.2.1) (
               aF ((dN x207r.1 (0:Int))) (
                aF ((dN x245l.1 (0:Int))) (
                 ah (aS.call (x207r.2.1,x207r.2.2.1,x207r.2.2.2)) fun x259=>
                 ah (aS.call (x245l.2.1,x245l.2.2.1,x245l.2.2.2)) fun x260=>
                 aF (decide (0=0∧(0+x259.1)≤(List.length x259.2.2.2.2))) (
                 aF (decide (0=0∧(0+x260.1)≤(List.length x260.2.2.2.2))) (
                 ah (bo.call ((cut x259.2.2.2.2 0 x259.1),(cut x260.2.2.2.2 0 x260.1))) fun x261=>
                 aF (x261) (
                  ah (aO.call (x259.2.1,x259.2.2.1,x259.2.2.2.1)) fun x262=>
                  ah (aO.call (x260.2.1,x260.2.2.1,x260.2.2.2.1)) fun x263=>
                  k (ab.out (dN x262.1 x263.1))) (
                  k (ab.out false))) none) none) (
                 k (ab.out false))) (
                k (ab.out false))) (
               k (ab.out false))))) (
            ah (x245.getRight?) fun x245r=>
            aF (x206.2.2.2.2.1) (
             aF (x206.2.2.2.1) (
              aF ((dN x207r.1 (5:Int))) (
               k (ab.out (dN x245r.1 (5:Int)))) (
               k (ab.out false))) (
              k (ab.out false))) (
             ah (tid.call x206.2.1) fun x270=>
             ah (tid.call x206.2.2.1) fun x271=>
             aF ((Ty.beq tH x270 x271)) (
              k (ab.out x206.2.2.2.1)) (
              aF (x206.2.2.2.1) (
               aF ((dN x207r.1 (0:Int))) (
                aF ((dN x245r.1 (0:Int))) (
                 ah (aS.call (x207r.2.1,x207r.2.2.1,x207r.2.2.2)) fun x277=>
                 ah (aS.call (x245r.2.1,x245r.2.2.1,x245r.2.2.2)) fun x278=>
                 aF (decide (0=0∧(0+x277.1)≤(List.length x277.2.2.2.2))) (
                 aF (decide (0=0∧(0+x278.1)≤(List.length x278.2.2.2.2))) (
                 ah (bo.call ((cut x277.2.2.2.2 0 x277.1),(cut x278.2.2.2.2 0 x278.1))) fun x279=>
                 aF (x279) (
                  ah (aO.call (x277.2.1,x277.2.2.1,x277.2.2.2.1)) fun x280=>
                  ah (aO.call (x278.2.1,x278.2.2.1,x278.2.2.2.1)) fun x281=>
                  k (ab.out (dN x280.1 x281.1))) (
                  k (ab.out false))) none) none) (
                 k (ab.out false))) (
                k (ab.out false))) (
               k (ab.out false)))))))) (
         ah (x196.getRight?) fun x196r=>
         aF ((qe x196r.1 (0:Int))) (
          aF (x4) (
           k (ab.out true)) (
           k (ab.out false))) (
          ah (az.call a) fun x285=>
          ah (az.call b) fun x289=>
          ah (ab.L0.call (height,a,b,x4,x285,x289,false,(0:Int),x22r.2.1,x22r.2.2.1,x22r.2.2.2,x196r.2.1,x196r.2.2.1,x196r.2.2.2)) fun x291=>
          ah (aB.call (x291.2.2.1,x291.1,x291.2.2.2.2.2.1,x291.2.2.2.2.2.2.1,x291.2.2.2.2.2.2.2.1)) fun x292=>
          aF (x292.isLeft) (
           ah (x292.getLeft?) fun x292l=>
           ah (aB.call (x291.2.1,x291.1,x291.2.2.2.2.2.2.2.2.1,x291.2.2.2.2.2.2.2.2.2.1,x291.2.2.2.2.2.2.2.2.2.2)) fun x293=>
           aF (x293.isLeft) (
            ah (x293.getLeft?) fun x293l=>
            aF (x291.2.2.2.2.1) (
             aF (x291.2.2.2.1) (
              aF ((dN x292l.1 (5:Int))) (
               k (ab.out (dN x293l.1 (5:Int)))) (
               k (ab.out false))) (
              k (ab.out false))) (
             ah (tid.call x291.2.1) fun x300=>
             ah (tid.call x291.2.2.1) fun x301=>
             aF ((Ty.beq tH x300 x301)) (
              k (ab.out x291.2.2.2.1)) (
              aF (x291.2.2.2.1) (
               aF ((dN x292l.1 (0:Int))) (
                aF ((dN x293l.1 (0:Int))) (
                 ah (aS.call (x292l.2.1,x292l.2.2.1,x292l.2.2.2)) fun x307=>
                 ah (aS.call (x293l.2.1,x293l.2.2.1,x293l.2.2.2)) fun x308=>
                 aF (decide (0=0∧(0+x307.1)≤(List.length x307.2.2.2.2))) (
                 aF (decide (0=0∧(0+x308.1)≤(List.length x308.2.2.2.2))) (
                 ah (bo.call ((cut x307.2.2.2.2 0 x307.1),(cut x308.2.2.2.2 0 x308.1))) fun x309=>
                 aF (x309) (
                  ah (aO.call (x307.2.1,x307.2.2.1,x307.2.2.2.1)) fun x310=>
                  ah (aO.call (x308.2.1,x308.2.2.1,x308.2.2.2.1)) fun x311=>
                  k (ab.out (dN x310.1 x311.1))) (
                  k (ab.out false))) none) none) (
                 k (ab.out false))) (
                k (ab.out false))) (
               k (ab.out false))))) (
            ah (x293.getRight?) fun x293r=>
            aF (x291.2.2.2.2.1) (
             aF (x291.2.2.2.1) (
              aF ((dN x292l.1 (5:Int))) (
               k (ab.out (dN x293r.1 (5:Int)))) (
               k (ab.out false))) (
              k (ab.out false))) (
             ah (tid.call x291.2.1) fun x318=>
             ah (tid.call x291.2.2.1) fun x319=>
             aF ((Ty.beq tH x318 x319)) (
              k (ab.out x291.2.2.2.1)) (
              aF (x291.2.2.2.1) (
               aF ((dN x292l.1 (0:Int))) (
                aF ((dN x293r.1 (0:Int))) (
                 ah (aS.call (x292l.2.1,x292l.2.2.1,x292l.2.2.2)) fun x325=>
                 ah (aS.call (x293r.2.1,x293r.2.2.1,x293r.2.2.2)) fun x326=>
                 aF (decide (0=0∧(0+x325.1)≤(List.length x325.2.2.2.2))) (
                 aF (decide (0=0∧(0+x326.1)≤(List.length x326.2.2.2.2))) (
                 ah (bo.call ((cut x325.2.2.2.2 0 x325.1),(cut x326.2.2.2.2 0 x326.1))) fun x327=>
                 aF (x327) (
                  ah (aO.call (x325.2.1,x325.2.2.1,x325.2.2.2.1)) fun x328=>
                  ah (aO.call (x326.2.1,x326.2.2.1,x326.2.2.2.1)) fun x329=>
                  k (ab.out (dN x328.1 x329.1))) (
                  k (ab.out false))) none) none) (
                 k (ab.out false))) (
                k (ab.out false))) (
               k (ab.out false)))))) (
           ah (x292.getRight?) fun x292r=>
           ah (aB.call (x291.2.1,x291.1,x291.2.2.2.2.2.2.2.2.1,x291.2.2.2.2.2.2.2.2.2.1,x291.2.2.2.2.2.2.2.2.2.2)) fun x330=>
           aF (x330.isLeft) (
            ah (x330.getLeft?) fun x330l=>
            aF (x291.2.2.2.2.1) (
             aF (x291.2.2.2.1) (
              aF ((dN x292r.1 (5:Int))) (
               k (ab.out (dN x330l.1 (5:Int)))) (
               k (ab.out false))) (
              k (ab.out false))) (
             ah (tid.call x291.2.1) fun x337=>
             ah (tid.call x291.2.2.1) fun x338=>
             aF ((Ty.beq tH x337 x338)) (
              k (ab.out x291.2.2.2.1)) (
              aF (x291.2.2.2.1) (
               aF ((dN x292r.1 (0:Int))) (
                aF ((dN x330l.1 (0:Int))) (
                 ah (aS.call (x292r.2.1,x292r.2.2.1,x292r.2.2.2)) fun x344=>
                 ah (aS.call (x330l.2.1,x330l.2.2.1,x330l.2.2.2)) fun x345=>
                 aF (decide (0=0∧(0+x344.1)≤(List.length x344.2.2.2.2))) (
                 aF (decide (0=0∧(0+x345.1)≤(List.length x345.2.2.2.2))) (
                 ah (bo.call ((cut x344.2.2.2.2 0 x344.1),(cut x345.2.2.2.2 0 x345.1))) fun x346=>
                 aF (x346) (
                  ah (aO.call (x344.2.1,x344.2.2.1,x344.2.2.2.1)) fun x347=>
                  ah (aO.call (x345.2.1,x345.2.2.1,x345.2.2.2.1)) fun x348=>
                  k (ab.out (dN x347.1 x348.1))) (
                  k (ab.out false))) none) none) (
                 k (ab.out false))) (
                k (ab.out false))) (
               k (ab.out false))))) (
            ah (x330.getRight?) fun x330r=>
            aF (x291.2.2.2.2.1) (
             aF (x291.2.2.2.1) (
              aF ((dN x292r.1 (5:Int))) (
               k (ab.out (dN x330r.1 (5:Int)))) (
               k (ab.out false))) (
              k (ab.out false))) (
             ah (tid.call x291.2.1) fun x355=>
             ah (tid.call x291.2.2.1) fun x356=>
             aF ((Ty.beq tH x355 x356)) (
              k (ab.out x291.2.2.2.1)) (
              aF (x291.2.2.2.1) (
               aF ((dN x292r.1 (0:Int))) (
                aF ((dN x330r.1 (0:Int))) (
                 ah (aS.call (x292r.2.1,x292r.2.2.1,x292r.2.2.2)) fun x362=>
                 ah (aS.call (x330r.2.1,x330r.2.2.1,x330r.2.2.2)) fun x363=>
                 aF (decide (0=0∧(0+x362.1)≤(List.length x362.2.2.2.2))) (
                 aF (decide (0=0∧(0+x363.1)≤(List.length x363.2.2.2.2))) (
                 ah (bo.call ((cut x362.2.2.2.2 0 x362.1),(cut x363.2.2.2.2 0 x363.1))) fun x364=>
                 aF (x364) (
                  ah (aO.call (x362.2.1,x362.2.2.1,x362.2.2.2.1)) fun x365=>
                  ah (aO.call (x363.2.1,x363.2.2.1,x363.2.2.2.1)) fun x366=>
                  k (ab.out (dN x365.1 x366.1))) (
                  k (ab.out false))) none) none) (
                 k (ab.out false))) (
                k (ab.out false))) (
               k (ab.out false)))))))))))))):=by kernel_rfl
theorem ab.L1.ok:ab.L1.Ok:=by
 refine ab.L1.aL (fun(_,_,_,_,_,m,_,_,j,_,_,_,_,_,_)=>m.length - j.toNat) ?_
 rintro⟨h,a,b,hb,l,m,both,i,j,n1,a1,s1,n2,a2,s2⟩ ⟨hm,i0,i1,k,hk,rfl⟩
 have hm:m.length≤1000:=hm
 have hk:k≤m.length:=hk
 have i0:0≤i:=i0
 have i1:i < l.length:=i1
 by_cases hlt:k < m.length
 ·left
  have e1:nth bz m k=m[k]:=du (t:=bz) hlt
  refine⟨(h,a,b,hb,l,m,both || C7 (nth bz l i.toNat) m[k],i,((k+1:Nat):Int),n1,a1,s1,n2,a2,s2),⟨hm,i0,i1,k+1,by omega,rfl⟩,by simp only[Int.toNat_natCast];omega,?_,fun kn kx=> ?_⟩
  ·simp only[ab.L1.add,ab.L1.F,Int.toNat_natCast]
   rw[List.drop_eq_getElem_cons hlt,List.any_cons,Bool.or_assoc]
  ·rw[ab.L1.step,bq (by omega),ao,N.nW (by omega)]
   cases both with
   |true=>rfl
   |false=>
    rw[aw,bw (by omega) (by omega),ao,bw (by omega) (by omega),ao,Int.toNat_natCast,e1,Bool.false_or]
    rfl
 ·right
  obtain rfl:k=m.length:=by omega
  intro T kn kx
  rw[ab.L1.step,bl (by omega),aw]
  simp only[ab.L1.add,ab.L1.F,Int.toNat_natCast,List.drop_length,List.any_nil,Bool.or_false]
theorem ab.L0.ok:ab.L0.Ok:=by
 refine ab.L0.aL (fun(_,_,_,_,l,_,_,i,_,_,_,_,_,_)=>l.length - i.toNat) ?_
 rintro⟨h,a,b,hb,l,m,both,i,n1,a1,s1,n2,a2,s2⟩ ⟨hl,hm,k,hk,rfl⟩
 have hl:l.length≤1000:=hl
 have hk:k≤l.length:=hk
 by_cases hlt:k < l.length
 ·left
  have e1:nth bz l k=l[k]:=du (t:=bz) hlt
  refine⟨(h,a,b,hb,l,m,both || m.any (C7 l[k]),((k+1:Nat):Int),n1,a1,s1,n2,a2,s2),⟨hl,hm,k+1,by omega,rfl⟩,by simp only[Int.toNat_natCast];omega,?_,fun kn kx=> ?_⟩
  ·simp only[ab.L0.add,ab.L0.F,Int.toNat_natCast]
   rw[List.drop_eq_getElem_cons hlt,List.any_cons,Bool.or_assoc]
  ·rw[ab.L0.step,bq (by omega),ao,ab.L1.run (d:=(h,a,b,hb,l,m,both,(k:Int),0,n1,a1,s1,n2,a2,s2)) ⟨hm,by show 0≤(k:Int);omega,by show(k:Int) < l.length;omega,0,Nat.zero_le _,rfl⟩]
   simp only[aa,ab.L1.add,ab.L1.F,Int.toNat_zero,List.drop_zero,Int.toNat_natCast,e1]
   rw[N.nW (by omega)]
 ·right
  obtain rfl:k=l.length:=by omega
  intro T kn kx
  rw[ab.L0.step,bl (by omega),aw]
  simp only[ab.L0.add,ab.L0.F,Int.toNat_natCast,List.drop_length,List.any_nil,Bool.or_false]
theorem y8{l m:List bX}(h:l.any (fun x=>m.any (C7 x))=true):∃o,o∈l∧o∈m:=by
 obtain⟨x,hx,h⟩:=List.any_eq_true.1 h
 obtain⟨y,hy,h⟩:=List.any_eq_true.1 h
 have e:x=y:=(mQ x y).1 h
 exact⟨x,hx,by rw[e];exact hy⟩
theorem xi{l m:List bX}(h:l.any (fun x=>m.any (C7 x))=false):∀o∈m,o ∉ l:=fun o hm hl=>by
 have h1:=List.any_eq_false.1 h o hl
 have h2:m.any (C7 o)=true:=List.any_eq_true.2 ⟨o,hm,(mQ o o).2 rfl⟩
 rw[h2]at h1
 exact h1 rfl
theorem ab.ok:ab.Ok:=by
 rintro⟨outs,a,b,h⟩ ⟨ho,va,vb⟩
 have va:nV a:=va
 have vb:nV b:=vb
 rw[ab.eq,aM.run (d:=()) trivial,CI ho]
 simp only[aa,aM.add,aM.F,ab.add,ab.F]
 cases hn:uG outs with
 |none=>rfl
 |some a0=>
  simp only[Sum.isLeft_inr,aw,Sum.getRight?_inr,aa]
  obtain⟨g0,_⟩:=zI ho hn
  by_cases m1:outs.length≤20
  rotate_left
  ·rw[dT (by omega)];rfl
  by_cases m2:a.1.length≤8
  rotate_left
  ·rw[dF (by omega),aw,dT (by omega)];rfl
  by_cases m3:b.1.length≤8
  rotate_left
  ·rw[dF (by omega),aw,dF (by omega),aw,dT (by omega)];rfl
  rw[dF (by omega),aw,dF (by omega),aw,dF (by omega),aw,g0.copy (by omega),aa]
  obtain⟨gc,_⟩:=g0.canon
  have gc:qk 0 0 (e8 a0) []:=gc
  have ec:lP (e8 a0) a0:=AL g0.iL.1 (kq a0)
  rcases g0.apply (t:=a) (h:=h) (by omega) va with⟨c1,r1⟩ | ⟨c1,k1,r1,g1⟩
  ·rw[r1,aa]
   simp only[Sum.isLeft_inl,ao,Sum.getLeft?_inl,aa]
   rw[fv c1,ao]
  rw[r1,aa]
  simp only[Sum.isLeft_inr,aw,Sum.getRight?_inr,aa]
  rw[eM rfl,aw]
  rcases gc.apply (t:=b) (h:=h) (by omega) vb with⟨c2,r2⟩ | ⟨c2,k2,r2,g2⟩
  ·have r2:aB.call (b,h,(List.take 0 ([]:List cG)).length,e8 a0,List.take 0 ([]:List cG))=_:=r2
   rw[r2,aa]
   simp only[Sum.isLeft_inl,ao,Sum.getLeft?_inl,aa]
   rw[fv c2,ao]
  have r2:aB.call (b,h,(List.take 0 ([]:List cG)).length,e8 a0,List.take 0 ([]:List cG))=_:=r2
  rw[r2,aa]
  simp only[Sum.isLeft_inr,aw,Sum.getRight?_inr,aa]
  rw[eM rfl,aw,az.run (d:=a) va.1,az.run (d:=b) vb.1]
  simp only[aa,az.add,az.F]
  have la:(bu a).length≤8:=by rw[mj c1.ok];exact m2
  have lb:(bu b).length≤8:=by rw[mj c2.ok];exact m3
  have c2':eN b h a0 (dB b h a0).1:=og (by rw[←ec.check];exact k2)
  have c1':eN a h (e8 a0) (dB a h (e8 a0)).1:=og (by rw[ec.check];exact k1)
  have b1:∀o,o∈bu a→o∈bu b→dB b h (cJ a h a0)=(0,5)∧dB a h (cJ b h (e8 a0))=(0,5):=fun o h1 h2=>⟨qM g0.iL.1 c1 c2' h1 h2,qM gc.iL.1 c2 c1' h2 h1⟩
  have b2:(∀o∈bu b,o ∉ bu a)→iK a≠iK b→(dB b h (cJ a h a0)).2=0∧(dB a h (cJ b h (e8 a0))).2=0∧lP (cJ b h (cJ a h a0)) (cJ a h (cJ b h (e8 a0))):=fun h1 h2=>by
   refine⟨qN g0.iL.1 c1 c2' h1 h2,qN gc.iL.1 c2 c1' (fun o h3 h4=>h1 o h4 h3) (fun e=>h2 e.symm),?_⟩
   exact(xe g0.iL.1 c1 c2' h2).trans ((ec.symm.apply g0.iL.1 gc.iL.1 b h).apply (gv g0.iL.1) (gv gc.iL.1) a h)
  generalize cJ a h a0=A1 at g1 b1 b2 ⊢
  generalize cJ b h (e8 a0)=A2 at g2 b1 b2 ⊢
  generalize List.take 0 ([]:List cG)++ [stepOf a a0]=S1 at g1 ⊢
  generalize List.take 0 ([]:List cG)++ [stepOf b (e8 a0)]=S2 at g2 ⊢
  rw[ab.L0.run (d:=(h,a,b,true,bu a,bu b,false,0,0+1,A1,S1,0+1,A2,S2)) ⟨by show(bu a).length≤1000;omega,by show(bu b).length≤1000;omega,0,Nat.zero_le _,rfl⟩]
  simp only[aa,ab.L0.add,ab.L0.F,Int.toNat_zero,List.drop_zero,Bool.false_or]
  cases hb:(bu a).any (fun x=>(bu b).any (C7 x)) with
  |true=>
   obtain⟨o,o1,o2⟩:=y8 hb
   obtain⟨e1,e2⟩:=b1 o o1 o2
   rcases g1.apply (t:=b) (h:=h) (by omega) vb with⟨_,r3⟩ | ⟨_,k3,_⟩
   rotate_left
   ·rw[e1]at k3;cases k3
   rcases g2.apply (t:=a) (h:=h) (by omega) va with⟨_,r4⟩ | ⟨_,k4,_⟩
   rotate_left
   ·rw[e2]at k4;cases k4
   rw[e1]at r3
   rw[e2]at r4
   rw[r3,aa]
   simp only[Sum.isLeft_inl,ao,Sum.getLeft?_inl,aa]
   rw[r4,aa]
   simp only[Sum.isLeft_inl,ao,Sum.getLeft?_inl,aa]
   rfl
  |false=>
   have hd:=xi hb
   have ta:tid.call a=some (iK a):=tid.run (d:=a) va
   have tb:tid.call b=some (iK b):=tid.run (d:=b) vb
   by_cases hid:iK a=iK b
   ·have hbq:Ty.beq tH (iK a) (iK b)=true:=by rw[hid];exact beq_refl tH _ rfl
    rcases g1.apply (t:=b) (h:=h) (by omega) vb with⟨_,r3⟩ | ⟨_,_,r3,_⟩ <;> rcases g2.apply (t:=a) (h:=h) (by omega) va with⟨_,r4⟩ | ⟨_,_,r4,_⟩ <;>
    ·rw[r3,aa]
     simp only[Sum.isLeft_inl,Sum.isLeft_inr,ao,aw,Sum.getLeft?_inl,Sum.getRight?_inr,aa]
     rw[r4,aa]
     simp only[Sum.isLeft_inl,Sum.isLeft_inr,ao,aw,Sum.getLeft?_inl,Sum.getRight?_inr,aa]
     rw[ta,aa,tb,aa,hbq,ao]
   ·have hbq:Ty.beq tH (iK a) (iK b)=false:=by
     cases hq:Ty.beq tH (iK a) (iK b) with
     |false=>rfl
     |true=>exact absurd (beq_eq tH _ _ rfl hq) hid
    obtain⟨e1,e2,e3⟩:=b2 hd hid
    rcases g1.apply (t:=b) (h:=h) (by omega) vb with⟨k3,_⟩ | ⟨_,_,r3,g3⟩
    ·exact absurd e1 k3
    rcases g2.apply (t:=a) (h:=h) (by omega) va with⟨k4,_⟩ | ⟨_,_,r4,g4⟩
    ·exact absurd e2 k4
    have hp:=e3.perm g3.iL.1 g4.iL.1
    generalize cJ b h A1=B1 at r3 g3 hp
    generalize cJ a h A2=B2 at r4 g4 hp
    generalize S1.take (0+1)++ [stepOf b A1]=S3 at r3 g3
    generalize S2.take (0+1)++ [stepOf a A2]=S4 at r4 g4
    rw[r3,aa]
    simp only[Sum.isLeft_inr,aw,Sum.getRight?_inr,aa]
    rw[r4,aa]
    simp only[Sum.isLeft_inr,aw,Sum.getRight?_inr,aa]
    rw[ta,aa,tb,aa,hbq,aw,ao,iw rfl,ao,ao,g3.all (by omega),aa,g4.all (by omega),aa]
    have l1:=vf g3.iL
    have l2:=vf g4.iL
    simp only[true_and,Nat.zero_add]
    rw[bf (show B1.length≤(xc B1).length by omega),ao,bf (show B2.length≤(xc B2).length by omega),ao,vE l1,vE l2,CP (by have:=g3.EG;omega),aa,bf (y3 g4.iL hp),ao,g3.total,aa,g4.total,aa,iw (mE hp)]
noncomputable def ab.E:=Entry.cP [some (.slice gJ),some gm,some gm,some ti] ab.st ab.aC ab.add ab.F ab.out
noncomputable def ab.call:ab.D→Option ab.X:=bS ab.E ab.st
theorem ab.run:bP ab.call ab.aC ab.add ab.F:=de (cZ [.d (.slice gJ),.d gm,.d gm,.d ti] fun _=>by kernel_rfl)
noncomputable def ab.sg:SG Tryz.prog:=⟨8,aV,ab.E,.fn 2 (by kernel_rfl) ab.ok (And.intro (.cP ab.L0.ok (by kernel_rfl)) (And.intro (.cP ab.L1.ok (by kernel_rfl)) trivial))⟩
end Go.Ab
