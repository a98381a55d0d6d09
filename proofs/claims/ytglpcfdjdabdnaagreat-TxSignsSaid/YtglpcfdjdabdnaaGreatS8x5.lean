/-
  Made short by a program of mine (wip/tools/mini.py).
-/
import Derived.Test.YtglpcfdjdabdnaaGreatS8x4
set_option linter.unusedVariables false
set_option linter.unusedSimpArgs false
namespace Go.Ab
open Go.Proofs
set_option maxRecDepth 100000
set_option linter.unusedVariables false
set_option linter.unusedSimpArgs false
set_option synthInstance.maxSize 5000
theorem eO{a b:List Int}(ha:Bytes a)(hb:Bytes b):Bytes (a++b):=fun x hx=>by
 rcases List.mem_append.1 hx with h | h
 ·exact ha x h
 ·exact hb x h
theorem sm:∀(f:Nat) (n:Int),0≤n→n < 128^(f+1)→Bytes (eZ f n).1∧ua (eZ f n).2
 | 0,n,h0,h1=>by have h1:n < 128:=h1;exact⟨fun x hx=>(by cases hx),h0,by show n < 256;omega⟩
 |f+1,n,h0,h1=>by
  have e:(128:Int)^(f+1+1)=128^(f+1)*128:=Int.pow_succ 128 (f+1)
  rw[eZ]
  split
  ·have ih:=sm f (n / 128) (by omega) (by omega)
   refine⟨fun x hx=> ?_,ih.2⟩
   rcases List.mem_cons.1 hx with rfl | hx
   ·exact⟨by omega,by omega⟩
   ·exact ih.1 x hx
  ·exact⟨fun x hx=>(by cases hx),h0,by show n < 256;omega⟩
theorem gg{n:Int}(h:mK n):Bytes (fj n):=by
 have e10:(128:Int)^(10+1)=151115727451828646838272:=rfl
 obtain⟨h0,h1⟩:=h
 have:=sm 10 n h0 (by rw[e10];omega)
 unfold fj
 exact eO this.1 fun x hx=>by rw[List.mem_singleton]at hx;subst hx;exact this.2
theorem vW:∀(ks:List Int) (o:List Int),jr o ks=o++ks.flatMap fL
 |[],o=>by rw[List.flatMap_nil,List.append_nil];rfl
 |k::ks,o=>by
  show jr (o++fL k) ks=_
  rw[vW ks,List.flatMap_cons,List.append_assoc]
theorem xI(ks:List Int):Bytes (ks.flatMap fL):=fun x hx=>by
 obtain⟨k,_,hk⟩:=List.mem_flatMap.1 hx
 exact lM k x hk
def BF(b:gf):List Int:=fj b.1.length++(b.1.flatMap fL++(fj b.2.1++(fj b.2.2.1++fL b.2.2.2.1)))
theorem rh(o:List Int){n:Int}(h:0≤n):ea o n=o++fj n:=by rw[ea,if_neg (by omega)]
structure CI(b:gf):Prop where
 len:b.1.length≤12
 af:mK b.2.1
 dl:mK b.2.2.1
theorem CU{b:gf}(h:oh b=true):CI b:=by
 unfold oh vR at h
 simp only[Bool.and_eq_true,decide_eq_true_eq]at h
 obtain⟨h1,_,h2,h3,_⟩:=h
 exact⟨h1,⟨h2.1,by omega⟩,⟨h3.1,by omega⟩⟩
theorem jg{n:Nat}(h:n≤1000000000):mK (n:Int):=⟨by omega,by omega⟩
theorem CS(o:List Int){b:gf}(h:CI b):BE o b=o++BF b:=by
 unfold BE BF
 rw[rh _ (Int.natCast_nonneg _),vW,rh _ h.af.1,rh _ h.dl.1]
 simp only[List.append_assoc]
theorem yw:∀(bs:List gf) (o:List Int),(∀b∈bs,CI b)→bs.foldl BE o=o++bs.flatMap BF
 |[],o,_=>by rw[List.flatMap_nil,List.append_nil];rfl
 |b::bs,o,h=>by
  rw[List.foldl_cons,CS o (h b List.mem_cons_self),yw bs _ fun x hx=>h x (List.mem_cons_of_mem _ hx),List.flatMap_cons,List.append_assoc]
theorem xK{l:Lk}(h:iN l=true):(∀b∈l.1,CI b)∧0 < l.1.length∧l.1.length≤4:=by
 unfold iN at h
 simp only[Bool.and_eq_true,List.all_eq_true,decide_eq_true_eq]at h
 exact⟨fun b hb=>CU (h.1 b hb),h.2⟩
theorem AW{l:Lk}(h:iN l=true):pd l=fj l.1.length++l.1.flatMap BF:=by
 unfold pd
 rw[if_pos h,yw _ _ (xK h).1,rh _ (Int.natCast_nonneg _),List.nil_append]
theorem zg{b:gf}(h:CI b):Bytes (BF b):=
 have h12:=h.len
 eO (gg (jg (by omega))) (eO (xI _) (eO (gg h.af) (eO (gg h.dl) (lM _))))
theorem zC(l:Lk):Bytes (pd l):=by
 cases h:iN l
 ·unfold pd
  rw[h,if_neg (by decide)]
  exact fun x hx=>(by cases hx)
 ·have hk:=xK h
  rw[AW h]
  refine eO (gg (jg (by omega))) fun x hx=> ?_
  obtain⟨b,hb,hx⟩:=List.mem_flatMap.1 hx
  exact zg (hk.1 b hb) x hx
theorem xT{b:List Int}(h:Bytes b)(hl:b.length≤1000000000)(u:Bool×Unit):ir (b,u):=⟨hl,h⟩
set_option synthInstance.maxSize 5000
def iS:Nat→eN→List Int×eN
 | 0,r=>([],r)
 |k+1,r=>((iC r).1::(iS k (iC r).2).1,(iS k (iC r).2).2)
def lJ(k:Nat)(r:eN):gf×eN:=
 (((iS k r).1,(db (iS k r).2).1,(db (db (iS k r).2).2).1,(iC (db (db (iS k r).2).2).2).1,()),(iC (db (db (iS k r).2).2).2).2)
def lK:Nat→Int→eN→List gf
 | 0,_,_=> []
 |f+1,n,r=>if 0 < n then(if f=0∨12 < (db r).1 then [] else(lJ (db r).1.toNat (db r).2).1::lK f (n - 1) (lJ (db r).1.toNat (db r).2).2) else []
def iV(b:List Int):List gf:=lK 5 (db (b,false,())).1 (db (b,false,())).2
theorem uI:∀(k:Nat) (r:eN),ir r→mS (iS k r).1∧(iS k r).1.length=k∧ir (iS k r).2
 | 0,r,h=>⟨fun x hx=>(by cases hx),rfl,h⟩
 |k+1,r,h=>by
  have e:=qp h
  have ih:=uI k _ e.2
  refine⟨fun x hx=> ?_,by rw[iS,List.length_cons,ih.2.1],ih.2.2⟩
  rcases List.mem_cons.1 hx with rfl | hx
  ·exact e.1
  ·exact ih.1 x hx
theorem yr(k:Nat)(r:eN)(h:ir r):Cp (lJ k r).1∧(lJ k r).1.1.length=k∧ir (lJ k r).2:=by
 have h1:=uI k r h
 have h2:=hM h1.2.2
 have h3:=hM h2.2.2
 have h4:=qp h3.2.2
 exact⟨⟨h1.1,h4.1⟩,h1.2.1,h4.2⟩
theorem Ar:∀(f:Nat) (n:Int) (r:eN),ir r→(∀b∈lK f n r,Cp b)∧(lK f n r).length≤f
 | 0,n,r,h=>⟨fun x hx=>(by cases hx),Nat.le_refl _⟩
 |f+1,n,r,h=>by
  have h1:=hM h
  have h2:=yr (db r).1.toNat _ h1.2.2
  have ih:=Ar f (n - 1) _ h2.2.2
  rw[lK]
  split
  ·split
   ·exact⟨fun x hx=>(by cases hx),Nat.zero_le _⟩
   ·refine⟨fun x hx=> ?_,by rw[List.length_cons];omega⟩
    rcases List.mem_cons.1 hx with rfl | hx
    ·exact h2.1
    ·exact ih.1 x hx
  ·exact⟨fun x hx=>(by cases hx),Nat.zero_le _⟩
theorem yT{b:List Int}(h:Bytes b)(hl:b.length≤1000000000):yk (iV b,())∧(iV b).length≤5:=by
 have e:=Ar 5 (db (b,false,())).1 _ (hM (xT h hl (false,()))).2.2
 exact⟨e.1,e.2⟩
theorem tz:∀(ks:List Int) (rest:List Int),mS ks→iS ks.length (ks.flatMap fL++rest,false,())=(ks,(rest,false,()))
 |[],rest,_=>rfl
 |k::ks,rest,h=>by
  have e:iC ((k::ks).flatMap fL++rest,false,())=(k,(ks.flatMap fL++rest,false,())):=by
   rw[List.flatMap_cons,List.append_assoc]
   exact nG k (h k List.mem_cons_self) _
  have ih:=tz ks rest fun x hx=>h x (List.mem_cons_of_mem _ hx)
  rw[List.length_cons,iS,e,ih]
theorem zb(b:gf)(hb:Cp b)(hk:CI b)(rest:List Int):lJ b.1.length (b.1.flatMap fL++(fj b.2.1++(fj b.2.2.1++(fL b.2.2.2.1++rest))),false,())=(b,(rest,false,())):=by
 unfold lJ
 rw[tz _ _ hb.1]
 simp only[]
 rw[nu _ hk.af,nu _ hk.dl,nG _ hb.2]
theorem Aq(b:gf)(rest:List Int):BF b++rest=fj b.1.length++(b.1.flatMap fL++(fj b.2.1++(fj b.2.2.1++(fL b.2.2.2.1++rest)))):=by
 unfold BF
 simp only[List.append_assoc]
theorem vy:∀(bs:List gf) (f:Nat) (rest:List Int),(∀b∈bs,Cp b)→(∀b∈bs,CI b)→bs.length+1≤f→lK f bs.length (bs.flatMap BF++rest,false,())=bs
 |[],0,rest,_,_,h=>absurd h (by simp)
 |[],f+1,rest,_,_,_=>by
  rw[lK,if_neg (by show ¬(0:Int) < ((0:Nat):Int);omega)]
 |b::bs,0,rest,_,_,h=>absurd h (by simp)
 |b::bs,f+1,rest,hu,hk,h=>by
  have ub:=hu b List.mem_cons_self
  have kb:=hk b List.mem_cons_self
  have h:bs.length+1+1≤f+1:=h
  have e:(b::bs).flatMap BF++rest=fj b.1.length++(b.1.flatMap fL++(fj b.2.1++(fj b.2.2.1++(fL b.2.2.2.1++(bs.flatMap BF++rest))))):=by rw[List.flatMap_cons,List.append_assoc,Aq]
  have h12:=kb.len
  rw[lK,if_pos (by rw[List.length_cons];omega),e,nu _ (jg (by omega))]
  simp only[Int.toNat_natCast]
  rw[if_neg (by omega),zb b ub kb]
  simp only[]
  rw[show((b::bs).length:Int) - 1=(bs.length:Int) by rw[List.length_cons];omega,vy bs f rest (fun x hx=>hu x (List.mem_cons_of_mem _ hx)) (fun x hx=>hk x (List.mem_cons_of_mem _ hx)) (by omega)]
theorem zQ{l:Lk}(hu:yk l)(hok:iN l=true)(rest:List Int):iV (pd l++rest)=l.1:=by
 have hk:=xK hok
 unfold iV
 rw[AW hok,List.append_assoc,nu _ (jg (by omega))]
 exact vy l.1 5 rest hu hk.1 (by omega)
def mE(b:List Int):Lk×Bool:=if iN (iV b,())=true∧pd (iV b,())=b then((iV b,()),true) else(([],()),false)
theorem tI{l:Lk}(hu:yk l)(hok:iN l=true):mE (pd l)=(l,true):=by
 have e:iV (pd l)=l.1:=by have e:=zQ hu hok [];rw[List.append_nil]at e;exact e
 unfold mE
 rw[e]
 have e2:((l.1,()):Lk)=l:=rfl
 rw[e2,if_pos ⟨hok,rfl⟩]
theorem Bh{b:List Int}(h:(mE b).2=true):∃l:Lk,iN l=true∧pd l=b∧mE b=(l,true)∧l=(iV b,()):=by
 unfold mE at h ⊢
 split at h
 ·rename_i hc
  exact⟨(iV b,()),hc.1,hc.2,by rw[if_pos hc],rfl⟩
 ·cases h
set_option synthInstance.maxSize 5000
abbrev aS.L0.D:=Bs×Int×Int×Nat×eN×(List gf)
def aS.L0.st:aS.L0.D→AS:=fun(b_2,n,i,n5L,n11,n51)=>⟨([.d tB b_2,.undef,.ptr (.new 2 0) 0 [] 0,.undef,.ptr (.new 11 0) 0 [] 0,.ptr (.new 5 0) 0 [] 0,.d ti n,.d ti i]++a9 57 []),[],([[],[],[.obj 0 false (.pr (.cV) (.d .unit ()))],[],[],[.obj 0 false (.pr (.cf (.new 51 0) 0 [] 0 0 n5L) (.d .unit ()))]]++bJ 5 ([[.obj 0 false (.d iY n11)]]++bJ 39 ([[.obj 0 false (.vec 85 fg n51)]]++bJ 13 [])))⟩
abbrev aS.L0.Y0:=Bs×Nat×(List gf)
abbrev aS.L0.X0:=Bs×Nat×(List gf)
def aS.L0.bq:aS.L0.X0→Exit×AS:=fun x=>(.exit 0,⟨([.d tB x.1,.undef,.ptr (.new 2 0) 0 [] 0,.undef,.undef,.ptr (.new 5 0) 0 [] 0]++a9 59 []),[],([[],[],[.obj 0 false (.pr (.cV) (.d .unit ()))],[],[],[.obj 0 false (.pr (.cf (.new 51 0) 0 [] 0 0 x.2.1) (.d .unit ()))]]++bJ 45 ([[.obj 0 false (.vec 85 fg x.2.2)]]++bJ 13 []))⟩)
abbrev aS.L0.X:=aS.L0.X0
abbrev aS.L0.Y:=aS.L0.Y0
def aS.L0.out:aS.L0.X→Out (Exit×AS):=fun x=> .ok (aS.L0.bq x)
def aS.L0.add:aS.L0.D→aS.L0.Y→aS.L0.X:=fun(b_2,n,i,n5L,n11,n51) y=>y
abbrev aS.L1.D:=Bs×Int×Int×Int×Int×Nat×Nat×(Int×(Int×(Int×Unit)))×eN×(List Int)×(List gf)
def aS.L1.st:aS.L1.D→AS:=fun(b_3,n_2,i_2,t27,t28,n5L_2,n8L,n8,n11_2,n35,n51_2)=>⟨([.d tB b_3,.undef,.ptr (.new 2 0) 0 [] 0,.undef,.ptr (.new 11 0) 0 [] 0,.ptr (.new 5 0) 0 [] 0,.d ti n_2,.d ti i_2,.ptr (.new 8 0) 0 [] 0]++a9 18 ([.d ti t27,.d ti t28]++a9 36 [])),[],([[],[],[.obj 0 false (.pr (.cV) (.d .unit ()))],[],[],[.obj 0 false (.pr (.cf (.new 51 0) 0 [] 0 0 n5L_2) (.d .unit ()))],[],[],[.obj 0 false (.pr (.cf (.new 35 0) 0 [] 0 0 n8L) (.d (.pair ti (.pair ti (.pair tu .unit))) n8))],[],[],[.obj 0 false (.d iY n11_2)]]++bJ 23 ([[.obj 0 false (.vec 58 tu n35)]]++bJ 15 ([[.obj 0 false (.vec 85 fg n51_2)]]++bJ 13 [])))⟩
abbrev aS.L1.Y0:=Nat×eN×(List Int)
abbrev aS.L1.X0:=(Bs×Int×Int×Nat×(Int×(Int×(Int×Unit)))×(List gf))×(Nat×eN×(List Int))
def aS.L1.bq:aS.L1.X0→Exit×AS:=fun x=>(.exit 2,⟨([.d tB x.1.1,.undef,.ptr (.new 2 0) 0 [] 0,.undef,.ptr (.new 11 0) 0 [] 0,.ptr (.new 5 0) 0 [] 0,.d ti x.1.2.1,.d ti x.1.2.2.1,.ptr (.new 8 0) 0 [] 0]++a9 56 []),[],([[],[],[.obj 0 false (.pr (.cV) (.d .unit ()))],[],[],[.obj 0 false (.pr (.cf (.new 51 0) 0 [] 0 0 x.1.2.2.2.1) (.d .unit ()))],[],[],[.obj 0 false (.pr (.cf (.new 35 0) 0 [] 0 0 x.2.1) (.d (.pair ti (.pair ti (.pair tu .unit))) x.1.2.2.2.2.1))],[],[],[.obj 0 false (.d iY x.2.2.1)]]++bJ 23 ([[.obj 0 false (.vec 58 tu x.2.2.2)]]++bJ 15 ([[.obj 0 false (.vec 85 fg x.1.2.2.2.2.2)]]++bJ 13 [])))⟩)
abbrev aS.L1.X:=aS.L1.X0
abbrev aS.L1.Y:=aS.L1.Y0
def aS.L1.out:aS.L1.X→Out (Exit×AS):=fun x=> .ok (aS.L1.bq x)
def aS.L1.add:aS.L1.D→aS.L1.Y→aS.L1.X:=fun(b_3,n_2,i_2,t27,t28,n5L_2,n8L,n8,n11_2,n35,n51_2) y=>((b_3,n_2,i_2,n5L_2,n8,n51_2),y)
abbrev aS.D:=Bs
def aS.st:aS.D→SA:=fun b=>([.d tB b],[])
abbrev aS.Y:=Lk×Bool
abbrev aS.X:=Lk×Bool
def aS.out:aS.X→aZ:=fun x=>⟨.cons (.d j7 x.1) (.cons (.d .bool x.2) (.nil)),[],[]⟩
def aS.add:aS.D→aS.Y→aS.X:=fun b y=>y
def aS.L1.aC:aS.L1.D→Prop:=fun(b,n,i,t,j,m1,m2,x,r,ks,bs)=>ir r∧ks.length=m2∧m2≤1000∧∃k c:Nat,j=k∧t=c∧k≤c∧c≤12∧m2=k
def aS.L1.F:aS.L1.D→aS.L1.Y:=fun(b,n,i,t,j,m1,m2,x,r,ks,bs)=>(m2+(t - j).toNat,(iS (t - j).toNat r).2,ks++(iS (t - j).toNat r).1)
def aS.L0.aC:aS.L0.D→Prop:=fun(b,n,i,m,r,bs)=>ir r∧n≤9223372036854775807∧bs.length=m∧∃k:Nat,i=k∧k≤4∧m=k
def aS.L0.F:aS.L0.D→aS.L0.Y:=fun(b,n,i,m,r,bs)=>(b,m+(lK (5 - i.toNat) (n - i) r).length,bs++lK (5 - i.toNat) (n - i) r)
def aS.aC:aS.D→Prop:=fun b=>Bytes b∧b.length≤1000000000
def aS.F:aS.D→aS.Y:=fun b=>mE b
noncomputable def aS.G:dQ:=eR (P:=Tryz.prog) [dH.sg,bG.sg,cl.sg,aO.sg,aE.sg,bS.sg]
noncomputable def aS.L0.E:=bN.ct aS.L0.st aS.L0.aC aS.L0.add aS.L0.F aS.L0.out
noncomputable def aS.L0.call:aS.L0.D→Option aS.L0.X:=dh aS.L0.E aS.L0.st
noncomputable def aS.L1.E:=bN.ct aS.L1.st aS.L1.aC aS.L1.add aS.L1.F aS.L1.out
noncomputable def aS.L1.call:aS.L1.D→Option aS.L1.X:=dh aS.L1.E aS.L1.st
noncomputable def aS.an:eC:= {loops:=jJ [(5,{bm:=[0,2,4,5,6,7],sites:=[2,5,11,51],ix:=[⟨5,[.fst],51,22⟩]}),(11,{bm:=[0,2,4,5,6,7,8,27,28],sites:=[2,5,8,11,35,51],ix:=[⟨8,[.fst],35,83⟩]})],outs:=jI [(5,{bm:=[0,2,5],sites:=[2,5,51]},{bm:=[2,3]}),(11,{bm:=[0,2,4,5,6,7,8],sites:=[2,5,8,11,35,51]},{bm:=[2,3]})],fG:=kh [(5,aS.L0.E),(11,aS.L1.E)],res:=[some j7,none]}
noncomputable def aS.A:= @cH Tryz.prog aS.G aS.an 0 Tryz.f11 _ aS.st
abbrev aS.Ok:=cI @aS.A aS.aC aS.add aS.F aS.out
noncomputable def aS.L0.R:= @bX Tryz.prog aS.G aS.an 0 Tryz.f11 0 _ aS.L0.st
abbrev aS.L0.Ok:=eA Tryz.prog aS.G aS.an 0 Tryz.f11 0 aS.L0.st aS.L0.aC aS.L0.add aS.L0.F aS.L0.out
noncomputable def aS.L1.R:= @bX Tryz.prog aS.G aS.an 0 Tryz.f11 1 _ aS.L1.st
abbrev aS.L1.Ok:=eA Tryz.prog aS.G aS.an 0 Tryz.f11 1 aS.L1.st aS.L1.aC aS.L1.add aS.L1.F aS.L1.out
theorem aS.L0.run:bD aS.L0.call aS.L0.aC aS.L0.add aS.L0.F:=eG (eE [.d tB,.d ti,.d ti,.n,.d iY,.d (.slice fg)] fun _=>by kernel_rfl)
theorem aS.L0.aG:fR @aS.L0.R aS.L0.st aS.L0.aC aS.L0.add aS.L0.F aS.L0.bq aS.L0.Ok:=fU
theorem aS.L0.step{R:Type}(b_2:Bs)(n:Int)(i:Int)(n5L:Nat)(n11:eN)(n51:(List gf))(kn:AS→Option R)(kx:Exit→AS→Option R):aS.L0.R (b_2,n,i,n5L,n11,n51) kn kx=
  aK ((gb i n)) (
   aj (bG.call n11) fun x22=>
   aK ((mM i (4:Int))) (
    kx (aS.L0.bq (b_2,n5L,n51)).1 (aS.L0.bq (b_2,n5L,n51)).2) (
    aK ((mN x22.1 (12:Int))) (
     kx (aS.L0.bq (b_2,n5L,n51)).1 (aS.L0.bq (b_2,n5L,n51)).2) (
     aj (aS.L1.call (b_2,n,i,x22.1,(0:Int),n5L,0,((0:Int),((0:Int),((0:Int),()))),x22.2,([]:List Int),n51)) fun x24=>
     aj (bG.call x24.2.2.1) fun x31=>
     aj (bG.call x31.2) fun x32=>
     aj (cl.call x32.2) fun x36=>
     aK (decide (0=0∧(0+x24.2.1)≤(List.length x24.2.2.2))) (
     aK (decide (x24.1.2.2.2.1≤(List.length x24.1.2.2.2.2.2))) (
     aK (dj (x24.1.2.2.2.1+1) 48) (
     kn (aS.L0.st (x24.1.1,x24.1.2.1,(bK .i64 x24.1.2.2.1 (1:Int)),(x24.1.2.2.2.1+1),x36.2,((List.take x24.1.2.2.2.1 x24.1.2.2.2.2.2)++ [((cut x24.2.2.2 0 x24.2.1),(x31.1,(x32.1,(x36.1,x24.1.2.2.2.2.1.2.2.2))))])))) none) none) none))) (
   kx (aS.L0.bq (b_2,n5L,n51)).1 (aS.L0.bq (b_2,n5L,n51)).2):=by kernel_rfl
theorem aS.L1.run:bD aS.L1.call aS.L1.aC aS.L1.add aS.L1.F:=eG (eE [.d tB,.d ti,.d ti,.d ti,.d ti,.n,.n,.d (.pair ti (.pair ti (.pair tu .unit))),.d iY,.d tU,.d (.slice fg)] fun _=>by kernel_rfl)
theorem aS.L1.aG:fR @aS.L1.R aS.L1.st aS.L1.aC aS.L1.add aS.L1.F aS.L1.bq aS.L1.Ok:=fU
theorem aS.L1.step{R:Type}(b_3:Bs)(n_2:Int)(i_2:Int)(t27:Int)(t28:Int)(n5L_2:Nat)(n8L:Nat)(n8:(Int×(Int×(Int×Unit))))(n11_2:eN)(n35:(List Int))(n51_2:(List gf))(kn:AS→Option R)(kx:Exit→AS→Option R):aS.L1.R (b_3,n_2,i_2,t27,t28,n5L_2,n8L,n8,n11_2,n35,n51_2) kn kx=
  aK ((gb t28 t27)) (
   aj (cl.call n11_2) fun x4=>
   aK (decide (n8L≤(List.length n35))) (
   aK (dj (n8L+1) 8) (
   kn (aS.L1.st (b_3,n_2,i_2,t27,(bK .i64 t28 (1:Int)),n5L_2,(n8L+1),n8,x4.2,((List.take n8L n35)++ [x4.1]),n51_2))) none) none) (
   kx (aS.L1.bq ((b_3,n_2,i_2,n5L_2,n8,n51_2),(n8L,n11_2,n35))).1 (aS.L1.bq ((b_3,n_2,i_2,n5L_2,n8,n51_2),(n8L,n11_2,n35))).2):=by kernel_rfl
theorem aS.eq{R:Type}(b:Bs)(k:aZ→Option R):aS.A b k=
  aj (dH.call b) fun x4=>
  aj (bG.call x4) fun x6=>
  aj (aS.L0.call (b,x6.1,(0:Int),0,x6.2,([]:List gf))) fun x96=>
  aK (decide (0=0∧(0+x96.2.1)≤(List.length x96.2.2))) (
  aj (aO.call ((cut x96.2.2 0 x96.2.1),())) fun x106=>
  aK ((!x106)) (
   k (aS.out ((([]:List gf),()),false))) (
   aK (decide (0=0∧(0+x96.2.1)≤(List.length x96.2.2))) (
   aj (aE.call ((cut x96.2.2 0 x96.2.1),())) fun x107=>
   aj (bS.call (x107,x96.1)) fun x108=>
   aK ((!x108)) (
    k (aS.out ((([]:List gf),()),false))) (
    aK (decide (0=0∧(0+x96.2.1)≤(List.length x96.2.2))) (
    k (aS.out (((cut x96.2.2 0 x96.2.1),()),true))) none)) none)) none:=by kernel_rfl
theorem aS.L1.ok:aS.L1.Ok:=by
 refine aS.L1.aG (fun(b,n,i,t,j,m1,m2,x,r,ks,bs)=>(t - j).toNat) ?_
 rintro⟨b,n,i,t,j,m1,m2,x,r,ks,bs⟩ ⟨hr,hks,hm,k,c,rfl,rfl,hkc,hc,hmk⟩
 have hr:ir r:=hr
 have hks:ks.length=m2:=hks
 have hmk:m2=k:=hmk
 by_cases h:k < c
 ·left
  have e1:((c:Int) - (k:Int)).toNat=(c - (k+1))+1:=by omega
  have e2:((c:Int) - ((k+1:Nat):Int)).toNat=c - (k+1):=by omega
  refine⟨(b,n,i,(c:Int),((k+1:Nat):Int),m1,m2+1,x,(iC r).2,ks++ [(iC r).1],bs),⟨(qp hr).2,by rw[List.length_append];show ks.length+1=_;omega,by omega,k+1,c,rfl,rfl,by omega,hc,by omega⟩,by show((c:Int) - ((k+1:Nat):Int)).toNat < ((c:Int) - (k:Int)).toNat;omega,?_,fun kn kx=> ?_⟩
  ·simp only[aS.L1.add,aS.L1.F,e1,e2,iS,List.append_assoc,List.singleton_append]
   rw[show m2+1+(c - (k+1))=m2+(c - (k+1)+1) by omega]
  ·rw[aS.L1.step,bw (by omega),cl.run (d:=r) hr]
   simp only[ab,ax,cl.add,cl.F]
   rw[aQ (by omega),eF (by omega) (by omega),N.kk (by omega),List.take_of_length_le (by omega)]
   rfl
 ·right
  obtain rfl:k=c:=by omega
  intro R kn kx
  rw[aS.L1.step,bn (by omega),aw]
  simp only[aS.L1.add,aS.L1.F,Int.sub_self,Int.toNat_zero,iS,List.append_nil,Nat.add_zero]
theorem aS.L0.ok:aS.L0.Ok:=by
 refine aS.L0.aG (fun(b,n,i,m,r,bs)=>5 - i.toNat) ?_
 rintro⟨b,n,i,m,r,bs⟩ ⟨hr,hn,hbs,k,rfl,hk,hmk⟩
 have hr:ir r:=hr
 have hn:n≤9223372036854775807:=hn
 have hbs:bs.length=m:=hbs
 have hmk:m=k:=hmk
 have e0:5 - (k:Int).toNat=(4 - k)+1:=by rw[Int.toNat_natCast];omega
 have g1:=hM hr
 by_cases h:(k:Int) < n
 ·have hp:0 < n - (k:Int):=by omega
  by_cases hc:4 - k=0∨12 < (db r).1
  ·right
   intro R kn kx
   have eb:lK ((4 - k)+1) (n - (k:Int)) r=[]:=by rw[lK,if_pos hp,if_pos hc]
   rw[aS.L0.step,bw h,bG.run (d:=r) hr]
   simp only[ab,ax,bG.add,bG.F,aS.L0.add,aS.L0.F,e0,eb,List.length_nil,Nat.add_zero,List.append_nil]
   by_cases h4:(k:Int)=4
   ·rw[dm h4,ax]
   ·rw[eP h4,aw,dL (by omega),ax]
  ·left
   have h4:¬(k:Int)=4:=by omega
   have hkn:¬(db r).1 > 12:=by omega
   obtain⟨c,hcn⟩:∃c:Nat,(db r).1=c:=⟨(db r).1.toNat,by omega⟩
   have hbd:=yr c _ g1.2.2
   have gk:=uI c _ g1.2.2
   have ga:=hM gk.2.2
   have gd:=hM ga.2.2
   have eb:lK ((4 - k)+1) (n - (k:Int)) r=(lJ c (db r).2).1::lK (4 - k) (n - (k:Int) - 1) (lJ c (db r).2).2:=by
    rw[lK,if_pos hp,if_neg hc,hcn,Int.toNat_natCast]
   have e1:5 - ((k+1:Nat):Int).toNat=4 - k:=by rw[Int.toNat_natCast];omega
   refine⟨(b,n,((k+1:Nat):Int),m+1,(lJ c (db r).2).2,bs++ [(lJ c (db r).2).1]),⟨hbd.2.2,hn,by rw[List.length_append];show bs.length+1=_;omega,k+1,rfl,by omega,by omega⟩,by simp only[Int.toNat_natCast];omega,?_,fun kn kx=> ?_⟩
   ·simp only[aS.L0.add,aS.L0.F,e0,e1,eb,List.append_assoc,List.singleton_append,List.length_cons]
    rw[show n - ((k+1:Nat):Int)=n - (k:Int) - 1 by omega,show m+1+(lK (4 - k) (n - (k:Int) - 1) (lJ c (db r).2).2).length=m+((lK (4 - k) (n - (k:Int) - 1) (lJ c (db r).2).2).length+1) by omega]
   ·rw[aS.L0.step,bw h,bG.run (d:=r) hr]
    simp only[ab,ax,bG.add,bG.F]
    rw[eP h4,aw,dC hkn,aw,hcn,aS.L1.run (d:=(b,n,(k:Int),(c:Int),0,m,0,(0,0,0,()),(db r).2,[],bs)) ⟨g1.2.2,rfl,by decide,0,c,rfl,rfl,Nat.zero_le _,by omega,rfl⟩]
    simp only[ab,aS.L1.add,aS.L1.F,Int.sub_zero,Int.toNat_natCast,Nat.zero_add,List.nil_append]
    rw[bG.run (d:=(iS c (db r).2).2) gk.2.2]
    simp only[ab,bG.add,bG.F]
    rw[bG.run (d:=(db (iS c (db r).2).2).2) ga.2.2]
    simp only[ab,bG.add,bG.F]
    rw[cl.run (d:=(db (db (iS c (db r).2).2).2).2) gd.2.2]
    simp only[ab,cl.add,cl.F]
    rw[aQ ⟨by trivial,by rw[gk.2.1];exact Nat.le_refl _⟩,aQ (by omega),eF (by omega) (by omega),N.kk (by omega),List.take_of_length_le (by omega),fc gk.2.1]
    rfl
 ·right
  intro R kn kx
  have eb:lK ((4 - k)+1) (n - (k:Int)) r=[]:=by rw[lK,if_neg (by omega)]
  rw[aS.L0.step,bn h,aw]
  simp only[aS.L0.add,aS.L0.F,e0,eb,List.length_nil,Nat.add_zero,List.append_nil]
theorem aS.ok:aS.Ok:=by
 rintro b ⟨hb,hl⟩
 have hb:Bytes b:=hb
 have hl:b.length≤1000000000:=hl
 have g0:=xT hb hl (false,())
 have g1:=hM g0
 have gu:=yT hb hl
 rw[aS.eq,dH.run (d:=b) hl]
 simp only[ab,dH.add,dH.F]
 rw[bG.run (d:=(b,false,())) g0]
 simp only[ab,bG.add,bG.F]
 rw[aS.L0.run (d:=(b,(db (b,false,())).1,0,0,(db (b,false,())).2,[])) ⟨g1.2.2,g1.2.1,rfl,0,rfl,by decide,rfl⟩]
 simp only[ab,aS.L0.add,aS.L0.F,Int.toNat_zero,Nat.sub_zero,Int.sub_zero,Nat.zero_add,List.nil_append,Nat.le_refl,and_self,decide_true,ax,fc]
 rw[show lK 5 (db (b,false,())).1 (db (b,false,())).2=iV b from rfl]
 have hL1:((iV b,()):Lk).1.length≤1000000000:=by show(iV b).length≤_;omega
 rw[aO.run (d:=(iV b,())) ⟨gu.1,hL1⟩]
 simp only[ab,aO.add,aO.F,aS.add,aS.F,mE]
 cases hok:iN (iV b,())
 ·rw[if_neg (by rintro⟨x,_⟩;cases x)];rfl
 ·rw[aE.run (d:=(iV b,())) ⟨gu.1,hL1⟩]
  simp only[Bool.not_true,aw,ab,aE.add,aE.F]
  rw[bS.run (d:=(pd (iV b,()),b)) (by show(pd _).length≤_;have:=nP (iV b,());omega)]
  simp only[ab,bS.add,bS.F]
  by_cases hx:pd (iV b,())=b
  ·rw[aQ hx,if_pos ⟨by trivial,hx⟩];rfl
  ·rw[aM hx,if_neg (fun y=>hx y.2)];rfl
noncomputable def aS.E:=Entry.ct [some tB] aS.st aS.aC aS.add aS.F aS.out
noncomputable def aS.call:aS.D→Option aS.X:=bH aS.E aS.st
theorem aS.run:bD aS.call aS.aC aS.add aS.F:=cO (cM [.d tB] fun _=>by kernel_rfl)
noncomputable def aS.sg:SG Tryz.prog:=⟨11,aV,aS.E,.fn 2 (by kernel_rfl) aS.ok (And.intro (.ct aS.L0.ok (by kernel_rfl)) (And.intro (.ct aS.L1.ok (by kernel_rfl)) trivial))⟩
set_option synthInstance.maxSize 5000
def ng(r:eN):List Int×eN:=((gw 32 r).1++List.drop (gw 32 r).1.length (List.replicate 32 (0:Int)),(gw 32 r).2)
def mL(r:eN):List Int×eN:=if(db r).2.2.1=true then([],(db r).2) else gw (db r).1.toNat (db r).2
def kU(most:Int)(r:eN):Int×eN:=(if(db r).1 > most then -1 else(db r).1,(db r).2)
def CE(r:eN):j8×eN:=(((ng r).1,(db (ng r).2).1,()),(db (ng r).2).2)
def lR:Nat→eN→List j8×eN
 | 0,r=>([],r)
 |k+1,r=>((CE r).1::(lR k (CE r).2).1,(lR k (CE r).2).2)
def rX(r:eN):fM×eN:=(((db r).1,(mE (mL (db r).2).1).1,()),(mL (db r).2).2)
def mD:Nat→eN→Option (List fM×eN)
 | 0,r=>some ([],r)
 |k+1,r=>if(mE (mL (db r).2).1).2=true then(match mD k (rX r).2 with
  |some x=>some ((rX r).1::x.1,x.2)
  |none=>none) else none
def CH(r:eN):Sg×eN:=(((iC r).1,(iC (iC r).2).1,()),(iC (iC r).2).2)
def mr:Nat→eN→List Sg×eN
 | 0,r=>([],r)
 |k+1,r=>((CH r).1::(mr k (CH r).2).1,(mr k (CH r).2).2)
def jE(r:eN):List Sg×eN:=mr (kU 12 (db r).2).1.toNat (kU 12 (db r).2).2
def yi(r:eN):Option (lW×eN):=if(kU 12 (db r).2).1 < 0 then none else some (((db r).1,(jE r).1,(iC (jE r).2).1,()),(iC (jE r).2).2)
def mI:List j8→eN→Option (List eU×eN)
 |[],r=>some ([],r)
 |o::l,r=>match yi r with
  |none=>none
  |some w=>match mI l w.2 with
   |none=>none
   |some x=>some ((o,w.1,())::x.1,x.2)
def A4:eH×Bool:=(([],[],0,()),false)
def vF(n m:Int)(t:eH)(r:eN):eH×Bool:=if n < 0∨m < 0∨r.2.1=true∨0 < r.1.length∨fC t=false then A4 else(t,true)
def wc(n m:Int)(ops:List j8)(os:List fM)(r:eN):eH×Bool:=match mI ops (db r).2 with
 |none=>A4
 |some x=>vF n m (x.1,os,(db r).1,()) x.2
def g7(b:List Int):eH×Bool:=
 let n:=kU 64 (b,false,())
 let ops:=lR n.1.toNat n.2
 let m:=kU 64 ops.2
 match mD m.1.toNat m.2 with
 |none=>A4
 |some x=>wc n.1 m.1 ops.1 x.1 x.2
def xh(o:j8):List Int:=o.1++fj o.2.1
def lS(o:fM):List Int:=fj o.1++(fj (pd o.2.1).length++pd o.2.1)
def Ac(s:Sg):List Int:=fL s.1++fL s.2.1
def lC(w:lW):List Int:=fj w.1++(fj w.2.1.length++(w.2.1.flatMap Ac++fL w.2.2.1))
def Dz(t:eH):List Int:=fj t.1.length++(t.1.flatMap (fun x=>xh x.1)++(fj t.2.1.length++(t.2.1.flatMap lS++(fj t.2.2.1++t.1.flatMap fun x=>lC x.2.1))))
theorem lO{α:Type}(f:List Int→α→List Int)(w:α→List Int):∀(l:List α) (b:List Int),(∀x∈l,∀b,f b x=b++w x)→l.foldl f b=b++l.flatMap w
 |[],b,_=>by simp
 |x::l,b,h=>by
  rw[List.foldl_cons,h x List.mem_cons_self,lO f w l _ fun y hy=>h y (List.mem_cons_of_mem _ hy),List.flatMap_cons,List.append_assoc]
theorem kP(b:List Int){n:Int}(h:0≤n):ea b n=b++fj n:=by unfold ea;rw[if_neg (by omega)]
theorem u7{t:eH}(hok:fC t=true):sL t=Dz t:=by
 obtain⟨⟨_,a2,a3,a4⟩,b1,b2⟩:=im hok
 have e1:∀b,t.1.foldl qZ b=b++t.1.flatMap fun x=>xh x.1:=fun b=>lO _ _ _ _ fun x hx b=>by
  have:=kG (gp _ _ b1 x hx)
  unfold qZ xh
  rw[kP _ this.1,List.append_assoc]
 have e2:∀b,t.2.1.foldl qR b=b++t.2.1.flatMap lS:=fun b=>lO _ _ _ _ fun o ho b=>by
  have:=(iP _ _ b2 o ho).1
  unfold qR lS
  rw[kP _ this.1,List.append_assoc]
 have e3:∀(l:List Sg) b,l.foldl sx b=b++l.flatMap Ac:=fun l b=>lO _ _ _ _ fun s _ b=>by
  unfold sx Ac
  rw[List.append_assoc]
 have e4:∀b,t.1.foldl yh b=b++t.1.flatMap fun x=>lC x.2.1:=fun b=>lO _ _ _ _ fun x hx b=>by
  have:=kG (gp _ _ b1 x hx)
  unfold yh lC
  rw[e3,kP _ this.2.2.1,kP _ (by omega)]
  simp only[List.append_assoc]
 unfold sL ka Dz
 rw[if_pos hok,e4,kP _ a4,e2,kP _ (by omega),e1,kP _ (by omega),List.nil_append]
 simp only[List.append_assoc]
theorem tS{n:Nat}(a rest:List Int)(h:a.length=n):gw n (a++rest,false,())=(a,(rest,false,())):=by
 unfold gw
 rw[if_neg (by
  intro x
  rcases x with x | x
  ·cases x
  ·have x:(a++rest).length < n:=x
   rw[List.length_append]at x
   omega)]
 show((a++rest).take n,((a++rest).drop n,false,()))=_
 rw[List.take_left' h,List.drop_left' h]
theorem zu(a rest:List Int)(h:a.length=32):ng (a++rest,false,())=(a,(rest,false,())):=by
 unfold ng
 rw[tS a rest h]
 simp only[h]
 rw[show List.drop 32 (List.replicate 32 (0:Int))=[] from rfl,List.append_nil]
theorem lQ(n:Int)(h:mK n)(rest:List Int):db (fj n++rest,false,())=(n,(rest,false,())):=nu n h rest _
theorem At(a rest:List Int)(h:a.length≤1000000000):mL (fj a.length++(a++rest),false,())=(a,(rest,false,())):=by
 unfold mL
 rw[lQ _ (jg (by omega))]
 simp only[Bool.false_eq_true,if_false,Int.toNat_natCast]
 exact tS a rest rfl
theorem va{n m:Int}(h:mK n)(hm:n≤m)(rest:List Int):kU m (fj n++rest,false,())=(n,(rest,false,())):=by
 unfold kU
 rw[lQ n h]
 simp only[if_neg (show ¬n > m by omega)]
theorem wA:∀(l:List j8) (rest:List Int),(∀o∈l,o.1.length=32∧mK o.2.1)→lR l.length (l.flatMap xh++rest,false,())=(l,(rest,false,()))
 |[],rest,_=>rfl
 |o::l,rest,h=>by
  obtain⟨h1,h2⟩:=h o List.mem_cons_self
  have e:CE ((o::l).flatMap xh++rest,false,())=(o,(l.flatMap xh++rest,false,())):=by
   unfold CE xh
   rw[List.flatMap_cons,List.append_assoc,List.append_assoc,zu _ _ h1]
   simp only[]
   rw[lQ _ h2]
  rw[List.length_cons,lR,e,wA l rest fun x hx=>h x (List.mem_cons_of_mem _ hx)]
theorem tF:∀(l:List fM) (rest:List Int),(∀o∈l,mK o.1∧iN o.2.1=true∧yk o.2.1)→mD l.length (l.flatMap lS++rest,false,())=some (l,(rest,false,()))
 |[],rest,_=>rfl
 |o::l,rest,h=>by
  obtain⟨h1,h2,h3⟩:=h o List.mem_cons_self
  have hl:=nP o.2.1
  have e0:db ((o::l).flatMap lS++rest,false,())=(o.1,(fj (pd o.2.1).length++(pd o.2.1++(l.flatMap lS++rest)),false,())):=by
   rw[List.flatMap_cons]
   unfold lS
   simp only[List.append_assoc]
   exact lQ _ h1 _
  have e1:mL (db ((o::l).flatMap lS++rest,false,())).2=(pd o.2.1,(l.flatMap lS++rest,false,())):=by rw[e0];exact At _ _ (by omega)
  have e2:rX ((o::l).flatMap lS++rest,false,())=(o,(l.flatMap lS++rest,false,())):=by
   unfold rX
   rw[e1,e0,tI h3 h2]
  rw[List.length_cons,mD,e1,tI h3 h2,if_pos rfl,e2,tF l rest fun x hx=>h x (List.mem_cons_of_mem _ hx)]
theorem wO:∀(l:List Sg) (rest:List Int),(∀s∈l,g9 s.1∧g9 s.2.1)→mr l.length (l.flatMap Ac++rest,false,())=(l,(rest,false,()))
 |[],rest,_=>rfl
 |s::l,rest,h=>by
  obtain⟨h1,h2⟩:=h s List.mem_cons_self
  have e:CH ((s::l).flatMap Ac++rest,false,())=(s,(l.flatMap Ac++rest,false,())):=by
   unfold CH Ac
   rw[List.flatMap_cons,List.append_assoc,List.append_assoc,nG _ h1]
   simp only[]
   rw[nG _ h2]
  rw[List.length_cons,mr,e,wO l rest fun x hx=>h x (List.mem_cons_of_mem _ hx)]
theorem BC(w:lW)(rest:List Int)(hw:qM w)(hb:mK w.1)(h12:w.2.1.length≤12):yi (lC w++rest,false,())=some (w,(rest,false,())):=by
 have e0:db (lC w++rest,false,())=(w.1,(fj w.2.1.length++(w.2.1.flatMap Ac++(fL w.2.2.1++rest)),false,())):=by
  unfold lC
  simp only[List.append_assoc]
  exact lQ _ hb _
 have e1:kU 12 (db (lC w++rest,false,())).2=((w.2.1.length:Int),(w.2.1.flatMap Ac++(fL w.2.2.1++rest),false,())):=by
  rw[e0]
  exact va (jg (by omega)) (by omega) _
 have e2:jE (lC w++rest,false,())=(w.2.1,(fL w.2.2.1++rest,false,())):=by
  unfold jE
  rw[e1]
  exact wO _ _ hw.1
 unfold yi
 rw[e1,if_neg (by show ¬(w.2.1.length:Int) < 0;omega),e2,e0]
 simp only[]
 rw[nG _ hw.2]
theorem tZ:∀(l:List eU) (rest:List Int),(∀x∈l,qM x.2.1∧mK x.2.1.1∧x.2.1.2.1.length≤12)→mI (l.map (·.1)) (l.flatMap (fun x=>lC x.2.1)++rest,false,())=some (l,(rest,false,()))
 |[],rest,_=>rfl
 |x::l,rest,h=>by
  obtain⟨h1,h2,h3⟩:=h x List.mem_cons_self
  rw[List.flatMap_cons,List.append_assoc,List.map_cons,mI,BC _ _ h1 h2 h3]
  simp only[]
  rw[tZ l rest fun y hy=>h y (List.mem_cons_of_mem _ hy)]
theorem oH{t:eH}(hv:qL t)(hok:fC t=true):g7 (sL t)=(t,true):=by
 obtain⟨⟨a1,a2,a3,a4⟩,b1,b2⟩:=im hok
 have hin:∀x∈t.1,_:=fun x hx=>kG (gp _ _ b1 x hx)
 have hnt:=hv.2.2
 rw[u7 hok]
 have e1:=va (n:=(t.1.length:Int)) (m:=64) (jg (by omega)) (by omega) (t.1.flatMap (fun x=>xh x.1)++(fj t.2.1.length++(t.2.1.flatMap lS++(fj t.2.2.1++t.1.flatMap fun x=>lC x.2.1))))
 have ef:t.1.flatMap (fun x=>xh x.1)=(t.1.map (·.1)).flatMap xh:=by rw[List.flatMap_map]
 have e2:=wA (t.1.map (·.1)) (fj t.2.1.length++(t.2.1.flatMap lS++(fj t.2.2.1++t.1.flatMap fun x=>lC x.2.1))) fun o ho=>by
  obtain⟨x,hx,rfl⟩:=List.mem_map.1 ho
  exact⟨(hv.2.1 x hx).1.1,(hin x hx).1,by have:=(hin x hx).2.1;omega⟩
 rw[←ef,List.length_map]at e2
 have e3:=va (n:=(t.2.1.length:Int)) (m:=64) (jg (by omega)) (by omega) (t.2.1.flatMap lS++(fj t.2.2.1++t.1.flatMap fun x=>lC x.2.1))
 have e4:=tF t.2.1 (fj t.2.2.1++t.1.flatMap fun x=>lC x.2.1) fun o ho=>by
  have:=iP _ _ b2 o ho
  exact⟨⟨this.1.1,by omega⟩,this.2,(hv.1.1 o ho).1⟩
 have e5:=lQ t.2.2.1 ⟨a4,hnt⟩ (t.1.flatMap fun x=>lC x.2.1)
 have e6:=tZ t.1 [] fun x hx=>⟨(hv.2.1 x hx).2.1,⟨(hin x hx).2.2.1,by have:=(hin x hx).2.2.2.1;omega⟩,(hin x hx).2.2.2.2⟩
 rw[List.append_nil]at e6
 unfold g7 Dz
 simp only[e1,Int.toNat_natCast,e2,e3,e4]
 unfold wc
 simp only[e5,e6]
 unfold vF
 rw[if_neg]
 rintro(x | x | x | x | x)
 ·omega
 ·omega
 ·cases x
 ·simp at x
 ·rw[show((t.1,t.2.1,t.2.2.1,()):eH)=t from rfl,hok]at x
  cases x
def ja(r:eN):Prop:=ir r∧(r.2.1=true→r.1=[])
def Ov(r r':eN)(e:List Int):Prop:=ja r'∧(r'.2.1=false→r.2.1=false∧r.1=e++r'.1)
theorem Ov.trans{r r1 r2:eN}{e1 e2:List Int}(h1:Ov r r1 e1)(h2:Ov r1 r2 e2):Ov r r2 (e1++e2):=
 ⟨h2.1,fun h=>⟨(h1.2 (h2.2 h).1).1,by rw[(h1.2 (h2.2 h).1).2,(h2.2 h).2,List.append_assoc]⟩⟩
theorem Ov.of{r r':eN}{e e':List Int}(h:Ov r r' e)(he:r'.2.1=false→e=e'):Ov r r' e':=⟨h.1,fun h'=>by rw[←he h'];exact h.2 h'⟩
theorem Ov.refl{r:eN}(h:ja r):Ov r r []:=⟨h,fun h'=>⟨h',rfl⟩⟩
theorem BU:ja oZ:=⟨uv,fun _=>rfl⟩
theorem vJ(r:eN)(e:List Int):Ov r oZ e:=⟨BU,fun h=>by cases h⟩
theorem yS{b:List Int}(hb:Bytes b)(hl:b.length≤1000000000):ja (b,false,()):=⟨xT hb hl (false,()),fun h=>by cases h⟩
theorem sG{r:eN}(h:ja r)(n:Nat):Ov r (gw n r).2 (gw n r).1∧((gw n r).2.2.1=false→(gw n r).1.length=n):=by
 have hb:=(kB (n:=n) h.1).2.2
 revert hb
 unfold gw
 split
 ·exact fun _=>⟨vJ _ _,fun h=>by cases h⟩
 ·rename_i hc
  intro hb
  have h1:r.2.1=false:=by cases hr:r.2.1 with | false=>rfl | true=>exact absurd (Or.inl hr) hc
  have h2:¬r.1.length < n:=fun x=>hc (Or.inr x)
  exact⟨⟨⟨hb,fun(hx:r.2.1=true)=>by rw[h1]at hx;cases hx⟩,fun _=>⟨h1,(List.take_append_drop n r.1).symm⟩⟩,fun _=>by show(r.1.take n).length=n;rw[List.length_take];omega⟩
theorem sq(f:Nat){d:Int}(h:d < 128):eZ f d=([],d):=by
 cases f with
 |zero=>rfl
 |succ f=>rw[eZ,if_neg (by omega)]
theorem wu:∀(l:List Int) (a:Nat) (n:Int) (v:Int×Nat),Bytes l→a≤9→kN l a n= .inl v→
  ∃w rest,v.1=n+w*128^a∧0≤w∧(a=0∨0 < w)∧w < 128^(9 - a)∧l=(eZ (8 - a) w).1++(eZ (8 - a) w).2::rest∧v.2=a+(eZ (8 - a) w).1.length+1
 |[],a,n,v,_,_,h=>by cases h
 |d::l,a,n,v,hb,ha,h=>by
  obtain⟨x1,x2⟩:=hb d List.mem_cons_self
  rw[kN]at h
  split at h
  ·cases h
  rename_i hc
  have ha8:a≤8:=by omega
  have e9:(128:Int)^(9 - a)=128^(8 - a)*128:=by rw[show 9 - a=(8 - a)+1 by omega];exact Int.pow_succ 128 (8 - a)
  have p8:(0:Int) < 128^(8 - a):=Int.pow_pos (by decide)
  split at h
  ·rename_i hd
   cases h
   refine⟨d,l,by rw[Int.emod_eq_of_lt x1 hd],x1,by omega,by omega,?_,?_⟩
   ·rw[sq _ hd];rfl
   ·rw[sq _ hd];rfl
  ·rename_i hd
   obtain⟨w,rest,e1,w0,w1,w2,e2,e3⟩:=wu l (a+1) _ v (fun x hx=>hb x (List.mem_cons_of_mem _ hx)) (by omega) h
   have w1:0 < w:=by omega
   rw[show 9 - (a+1)=8 - a by omega]at w2
   have ha7:a≤7:=by
    by_cases h8:a=8
    ·rw[h8]at w2
     have:(128:Int)^(8 - 8)=1:=rfl
     omega
    ·omega
   have er:eZ (8 - a) (d%128+128*w)=((d%128+128)::(eZ (8 - (a+1)) w).1,(eZ (8 - (a+1)) w).2):=by
    rw[show 8 - a=(8 - (a+1))+1 by omega,eZ,if_pos (by omega),show(d%128+128*w)%128=d%128 by omega,show(d%128+128*w) / 128=w by omega]
   refine⟨d%128+128*w,rest,?_,by omega,by omega,by omega,?_,?_⟩
   ·rw[e1,Int.pow_succ,Int.add_mul,Int.add_assoc,Int.mul_comm 128 w,Int.mul_assoc w,Int.mul_comm 128]
   ·rw[er,e2,show d%128+128=d by omega];rfl
   ·rw[er,e3];simp only[List.length_cons];omega
theorem hP{r:eN}(h:ja r):Ov r (db r).2 (fj (db r).1)∧((db r).2.2.1=false→mK (db r).1):=by
 have hk:=hM h.1
 revert hk
 unfold db
 cases hf:kN r.1 0 0 with
 |inr _=>exact fun _=>⟨vJ _ _,fun h=>by cases h⟩
 |inl v=>
  intro hk
  obtain⟨w,rest,e1,w0,_,w2,e2,e3⟩:=wu r.1 0 0 v h.1.2 (by decide) hf
  have h1:r.2.1=false:=by
   cases hr:r.2.1 with
   |false=>rfl
   |true=>rw[h.2 hr]at hf;cases hf
  have ew:v.1=w:=by rw[e1,Int.pow_zero];omega
  have e9:(128:Int)^(9 - 0)=9223372036854775808:=rfl
  have e8:(128:Int)^(8+1)=9223372036854775808:=rfl
  have e10:(128:Int)^(10+1)=151115727451828646838272:=rfl
  have er:eZ 10 w=eZ 8 w:=nS 10 8 w (by rw[e10];omega) (by rw[e8];omega)
  have en:fj v.1=(eZ 8 w).1++ [(eZ 8 w).2]:=by rw[ew];unfold fj;rw[er]
  refine⟨⟨⟨hk.2.2,fun(hx:r.2.1=true)=>by rw[h1]at hx;cases hx⟩,fun _=>⟨h1,?_⟩⟩,fun _=>⟨hk.1,hk.2.1⟩⟩
  show r.1=fj v.1++r.1.drop v.2
  rw[en,e3,List.append_assoc]
  conv=>rhs;rw[e2]
  rw[List.append_cons,Nat.zero_add,List.drop_left' (by rw[List.length_append];rfl)]
  exact e2
theorem Al{l:List Int}(h:l.length=8)(hb:Bytes l):fL (oF l)=l:=by
 match l,h with
 |[a,b,c,d,e,f,g,i],_=>
  have h0:=hb a (by simp)
  have h1:=hb b (by simp)
  have h2:=hb c (by simp)
  have h3:=hb d (by simp)
  have h4:=hb e (by simp)
  have h5:=hb f (by simp)
  have h6:=hb g (by simp)
  have h7:=hb i (by simp)
  unfold ua at h0 h1 h2 h3 h4 h5 h6 h7
  unfold fL oF
  simp only[List.foldl_cons,List.foldl_nil]
  congr 1
  ·omega
  congr 1
  ·omega
  congr 1
  ·omega
  congr 1
  ·omega
  congr 1
  ·omega
  congr 1
  ·omega
  congr 1
  ·omega
  congr 1
  omega
theorem nU{r:eN}(h:ja r):Ov r (iC r).2 (fL (iC r).1):=by
 have e:=sG h 8
 exact e.1.of fun hk=>(Al (e.2 hk) (kB h.1).2.1).symm
theorem vQ{r:eN}(h:ja r):Ov r (ng r).2 (ng r).1:=by
 have e:=sG h 32
 refine e.1.of fun hk=> ?_
 unfold ng
 simp only[e.2 hk]
 rw[show List.drop 32 (List.replicate 32 (0:Int))=[] from rfl,List.append_nil]
theorem AL{r:eN}(h:ir r):Sm (ng r).1:=by
 have e:=kB (n:=32) h
 refine⟨?_,eO e.2.1 fun x hx=> ?_⟩
 ·show((gw 32 r).1++List.drop (gw 32 r).1.length (List.replicate 32 (0:Int))).length=32
  rw[List.length_append,List.length_drop,List.length_replicate]
  have:=e.1
  omega
 ·obtain rfl:=(List.mem_replicate.1 (List.mem_of_mem_drop hx)).2
  exact⟨by decide,by decide⟩
theorem uk{r:eN}(h:ja r):Ov r (mL r).2 (fj (mL r).1.length++(mL r).1)∧Bytes (mL r).1∧(mL r).1.length≤1000000000:=by
 have e:=hP h
 unfold mL
 split
 ·rename_i hc
  exact⟨⟨e.1.1,fun hk=>by rw[hc]at hk;cases hk⟩,fun x hx=>(by cases hx),Nat.zero_le _⟩
 ·rename_i hc
  have hc:(db r).2.2.1=false:=by simpa using hc
  have t:=sG e.1.1 (db r).1.toNat
  have tb:=kB (n:=(db r).1.toNat) e.1.1.1
  have n0:=(e.2 hc).1
  refine⟨(e.1.trans t.1).of fun hk=> ?_,tb.2.1,?_⟩
  ·rw[t.2 hk,Int.toNat_of_nonneg n0]
  ·have hl:(gw (db r).1.toNat (db r).2).1.length≤(db r).2.1.length:=by
    unfold gw
    split
    ·exact Nat.zero_le _
    ·show((db r).2.1.take _).length≤_
     rw[List.length_take];omega
   have:=e.1.1.1.1
   omega
theorem yf{r:eN}(h:ja r){m:Int}(h0:0≤(kU m r).1):Ov r (kU m r).2 (fj (kU m r).1)∧(kU m r).1≤m:=by
 have e:=hP h
 unfold kU at h0 ⊢
 by_cases hc:(db r).1 > m
 ·simp only[if_pos hc]at h0
  omega
 ·simp only[if_neg hc]
  exact⟨e.1,by omega⟩
theorem tY{r:eN}(h:ja r)(m:Int):ja (kU m r).2:=(hP h).1.1
theorem y4{r:eN}(h:ir r){m:Int}(hm:0≤m): -1≤(kU m r).1∧(kU m r).1≤m:=by
 have:=(hM h).1
 unfold kU
 split
 ·exact⟨by omega,by show(-1:Int)≤m;omega⟩
 ·rename_i hc
  have hc:¬(db r).1 > m:=hc
  exact⟨by show -1≤(db r).1;omega,by show(db r).1≤m;omega⟩
theorem uS:∀(k:Nat) {r:eN},ja r→Ov r (lR k r).2 ((lR k r).1.flatMap xh)∧(lR k r).1.length=k∧∀o∈(lR k r).1,Sm o.1
 | 0,r,h=>⟨Ov.refl h,rfl,fun x hx=>by cases hx⟩
 |k+1,r,h=>by
  have e1:=vQ h
  have e2:=hP e1.1
  have ih:=uS k (r:=(CE r).2) e2.1.1
  refine⟨?_,by rw[lR,List.length_cons,ih.2.1],fun o ho=> ?_⟩
  ·have:=(e1.trans e2.1).trans ih.1
   rw[lR,List.flatMap_cons]
   exact this
  ·rcases List.mem_cons.1 ho with rfl | ho
   ·exact AL h.1
   ·exact ih.2.2 o ho
theorem Db{r:eN}(h:ja r):ja (rX r).2:=(uk (hP h).1.1).1.1
theorem rY:∀(k:Nat) {r:eN} {x:List fM×eN},ja r→mD k r=some x→Ov r x.2 (x.1.flatMap lS)∧x.1.length=k∧∀o∈x.1,o.1≤9223372036854775807∧iN o.2.1=true∧CJ o.2.1
 | 0,r,x,h,hx=>by
  cases hx
  exact⟨Ov.refl h,rfl,fun x hx=>by cases hx⟩
 |k+1,r,x,h,hx=>by
  rw[mD]at hx
  split at hx
  ·rename_i hr
   split at hx
   ·rename_i y hy
    cases hx
    have e1:=hP h
    have e2:=uk e1.1.1
    have ih:=rY k (Db h) hy
    obtain⟨l,hl,hlb,he,hle⟩:=Bh hr
    have hu:=yT e2.2.1 e2.2.2
    have el:(rX r).1.2.1=l:=by show(mE (mL (db r).2).1).1=l;rw[he]
    refine⟨?_,by rw[List.length_cons,ih.2.1],fun o ho=> ?_⟩
    ·have:=(e1.1.trans e2.1).trans ih.1
     rw[List.flatMap_cons]
     unfold lS
     rw[el,hlb]
     exact this
    ·rcases List.mem_cons.1 ho with rfl | ho
     ·refine⟨(hM h.1).2.1,by rw[el];exact hl,?_⟩
      rw[el,hle]
      exact⟨hu.1,by show(iV _).length≤_;omega⟩
     ·exact ih.2.2 o ho
   ·cases hx
  ·cases hx
theorem uV:∀(k:Nat) {r:eN},ja r→Ov r (mr k r).2 ((mr k r).1.flatMap Ac)∧(mr k r).1.length=k∧∀s∈(mr k r).1,CK s
 | 0,r,h=>⟨Ov.refl h,rfl,fun x hx=>by cases hx⟩
 |k+1,r,h=>by
  have e1:=nU h
  have e2:=nU e1.1
  have ih:=uV k (r:=(CH r).2) e2.1
  refine⟨?_,by rw[mr,List.length_cons,ih.2.1],fun o ho=> ?_⟩
  ·have:=(e1.trans e2).trans ih.1
   rw[mr,List.flatMap_cons]
   exact this
  ·rcases List.mem_cons.1 ho with rfl | ho
   ·exact⟨(qp h.1).1,(qp e1.1.1).1⟩
   ·exact ih.2.2 o ho
theorem y5{r:eN}(h:ja r):ja (jE r).2∧(jE r).1.length≤12∧∀s∈(jE r).1,CK s:=by
 have e1:=hP h
 have ih:=uV (kU 12 (db r).2).1.toNat (tY e1.1.1 12)
 have:=y4 e1.1.1.1 (m:=12) (by decide)
 exact⟨ih.1.1,by show(mr _ _).1.length≤12;rw[ih.2.1];omega,ih.2.2⟩
theorem Cm{r:eN}{w:lW×eN}(h:ja r)(hw:yi r=some w):Ov r w.2 (lC w.1)∧qM w.1∧w.1.2.1.length≤12:=by
 unfold yi at hw
 split at hw
 ·cases hw
 ·rename_i hc
  cases hw
  have e1:=hP h
  have hc:0≤(kU 12 (db r).2).1:=by omega
  have e2:=yf e1.1.1 hc
  have e3:=uV (kU 12 (db r).2).1.toNat e2.1.1
  have g:=y5 h
  have e4:=nU g.1
  have hl:((jE r).1.length:Int)=(kU 12 (db r).2).1:=by
   show((mr _ _).1.length:Int)=_
   rw[e3.2.1];omega
  have:=((e1.1.trans e2.1).trans e3.1).trans e4
  refine⟨this.of fun _=> ?_,⟨g.2.2,(qp g.1.1).1⟩,g.2.1⟩
  unfold lC
  simp only[hl,List.append_assoc]
  rfl
theorem sM:∀(l:List j8) {r:eN} {x:List eU×eN},ja r→mI l r=some x→Ov r x.2 (x.1.flatMap fun y=>lC y.2.1)∧x.1.map (·.1)=l∧∀y∈x.1,qM y.2.1∧y.2.1.2.1.length≤12
 |[],r,x,h,hx=>by
  cases hx
  exact⟨Ov.refl h,rfl,fun x hx=>by cases hx⟩
 |o::l,r,x,h,hx=>by
  rw[mI]at hx
  split at hx
  ·cases hx
  ·rename_i w hw
   have e:=Cm h hw
   split at hx
   ·cases hx
   ·rename_i y hy
    cases hx
    have ih:=sM l e.1.1 hy
    refine⟨?_,by rw[List.map_cons,ih.2.1],fun z hz=> ?_⟩
    ·have:=e.1.trans ih.1
     rw[List.flatMap_cons]
     exact this
    ·rcases List.mem_cons.1 hz with rfl | hz
     ·exact e.2
     ·exact ih.2.2 z hz
theorem zS{b:List Int}(h:(g7 b).2=false):g7 b=A4:=by
 revert h
 unfold g7
 simp only[]
 split
 ·exact fun _=>rfl
 ·unfold wc
  split
  ·exact fun _=>rfl
  ·unfold vF
   split
   ·exact fun _=>rfl
   ·intro h;cases h
theorem zR{b:List Int}(hb:Bytes b)(hl:b.length≤1000000000)(h:(g7 b).2=true):∃t,g7 b=(t,true)∧fC t=true∧qL t∧sL t=b:=by
 have k0:=yS hb hl
 have k1:=tY k0 64
 have o2:=uS (kU 64 (b,false,())).1.toNat k1
 have k3:=tY o2.1.1 64
 revert h
 unfold g7
 simp only[]
 split
 ·intro h;cases h
 rename_i x hx
 have o4:=rY _ k3 hx
 have o5:=hP o4.1.1
 unfold wc
 split
 ·intro h;cases h
 rename_i y hy
 have o6:=sM _ o5.1.1 hy
 unfold vF
 split
 ·intro h;cases h
 rename_i hc
 intro _
 have c1:0≤(kU 64 (b,false,())).1:=by
  have:¬(kU 64 (b,false,())).1 < 0:=fun z=>hc (Or.inl z)
  omega
 have c2:0≤(kU 64 (lR (kU 64 (b,false,())).1.toNat (kU 64 (b,false,())).2).2).1:=by
  have:¬(kU 64 (lR (kU 64 (b,false,())).1.toNat (kU 64 (b,false,())).2).2).1 < 0:=fun z=>hc (Or.inr (Or.inl z))
  omega
 have c3:y.2.2.1=false:=by cases hz:y.2.2.1 with | false=>rfl | true=>exact absurd (Or.inr (Or.inr (Or.inl hz))) hc
 have c4:y.2.1=[]:=List.eq_nil_of_length_eq_zero (by
  have:¬0 < y.2.1.length:=fun z=>hc (Or.inr (Or.inr (Or.inr (Or.inl z))))
  omega)
 have c5:fC (y.1,x.1,(db x.2).1,())=true:=by
  cases hz:fC (y.1,x.1,(db x.2).1,()) with
  |true=>rfl
  |false=>exact absurd (Or.inr (Or.inr (Or.inr (Or.inr hz)))) hc
 have u1:=yf k0 c1
 have u3:=yf o2.1.1 c2
 have all:=((((u1.1.trans o2.1).trans u3.1).trans o4.1).trans o5.1).trans o6.1
 have hb2:b=_:=(all.2 c3).2
 rw[c4,List.append_nil]at hb2
 have l1:y.1.length=(kU 64 (b,false,())).1.toNat:=by rw[←o2.2.1,←o6.2.1,List.length_map]
 have n1:(y.1.length:Int)=(kU 64 (b,false,())).1:=by omega
 have n2:(x.1.length:Int)=(kU 64 (lR (kU 64 (b,false,())).1.toNat (kU 64 (b,false,())).2).2).1:=by rw[o4.2.1];omega
 have hm:∀z∈y.1,z.1∈(lR (kU 64 (b,false,())).1.toNat (kU 64 (b,false,())).2).1:=fun z hz=>by rw[←o6.2.1];exact List.mem_map_of_mem hz
 refine⟨_,rfl,c5,⟨⟨fun o ho=>(o4.2.2 o ho).2.2,by show y.1.length≤_;omega,by show x.1.length≤_;omega⟩,fun z hz=>⟨o2.2.2 _ (hm z hz),(o6.2.2 z hz).1,by have:=(o6.2.2 z hz).2;omega⟩,(hM o4.1.1.1).2.1⟩,?_⟩
 rw[u7 c5]
 unfold Dz
 simp only[n1,n2]
 rw[←List.flatMap_map (f:=fun z:eU=>z.1) (g:=xh),o6.2.1]
 simp only[List.append_assoc]at hb2
 exact hb2.symm
set_option synthInstance.maxSize 5000
def BH(o:j8):jR:=(o,(0,none,0,()),())
def Eh(x:eU):jR:=(x.1,(x.2.1.1,some x.2.1.2.1,x.2.1.2.2),())
def EP(x:jR):eU:=(x.1,(x.2.1.1,x.2.1.2.1.getD [],x.2.1.2.2),())
theorem CW(l:List jR):Dv (.slice iB) (.slice eg) l=l.map EP:=by kernel_rfl
theorem Dq(l:List eU):(l.map Eh).map EP=l:=by
 rw[List.map_map]
 have:(EP∘Eh)=id:=rfl
 rw[this,List.map_id]
theorem yL{t:Ty}{l:List t.den}{k:Nat}{y:t.den}(h:k < l.length):nth t (l.set k y) k=y:=by simp[nth,h]
theorem Cb{t:Ty}{a b:List t.den}{k:Nat}{y:t.den}(h:a.length=k):nth t (a++y::b) k=y:=by subst h;simp[nth]
theorem Cg{α:Type}{a b:List α}{k:Nat}{y z:α}(h:a.length=k):(a++y::b).set k z=a++z::b:=by subst h;simp
theorem z5{α:Type}{l:List α}{k:Nat}{y:α}:(l.set k y).take k=l.take k:=by rw[List.take_set,List.set_eq_of_length_le (by rw[List.length_take];omega)]
theorem zo{α:Type}{l:List α}{k:Nat}{y:α}:(l.set k y).drop (k+1)=l.drop (k+1):=List.drop_set_of_lt (by omega)
abbrev dY.D:=eN
def dY.st:dY.D→SA:=fun o0=>([.ptr (.fE 0) 0 [] 0],[.obj 0 false (.d iY o0)])
abbrev dY.Y:=Bs×eN
abbrev dY.X:=Bs×eN
def dY.out:dY.X→aZ:=fun x=>⟨.d tH x.1,[.obj 0 false (.d iY x.2)],[]⟩
def dY.add:dY.D→dY.Y→dY.X:=fun o0 y=>y
def dY.aC:dY.D→Prop:=fun r=>ir r
def dY.F:dY.D→dY.Y:=fun r=>ng r
noncomputable def dY.G:dQ:=eR (P:=Tryz.prog) [du.sg]
noncomputable def dY.an:eC:= {}
noncomputable def dY.A:= @cH Tryz.prog dY.G dY.an 0 Tryz.f77 _ dY.st
abbrev dY.Ok:=cI @dY.A dY.aC dY.add dY.F dY.out
theorem dY.eq{R:Type}(o0:eN)(k:aZ→Option R):dY.A o0 k=
 aj (du.call ((32:Int),o0)) fun x1=>
 aK (decide ((List.length x1.1)≤32)) (
 k (dY.out ((x1.1++(List.drop (List.length x1.1) (List.replicate 32 (0:Int)))),x1.2))) none:=by kernel_rfl
theorem dY.ok:dY.Ok:=by
 intro r h
 have h:ir r:=h
 have e:=(kB (n:=32) h).1
 rw[dY.eq,du.run (d:=(32,r)) ⟨by decide,h.1⟩]
 simp only[ab,du.add,du.F]
 rw[show Int.toNat 32=32 from rfl,aQ e]
 rfl
noncomputable def dY.E:=Entry.ct [none] dY.st dY.aC dY.add dY.F dY.out
noncomputable def dY.call:dY.D→Option dY.X:=bH dY.E dY.st
theorem dY.run:bD dY.call dY.aC dY.add dY.F:=cO (cM [.d iY] fun _=>by kernel_rfl)
noncomputable def dY.sg:SG Tryz.prog:=⟨77,aV,dY.E,.fn 0 (by kernel_rfl) dY.ok trivial⟩
abbrev c9.D:=eN
def c9.st:c9.D→SA:=fun o0=>([.ptr (.fE 0) 0 [] 0],[.obj 0 false (.d iY o0)])
abbrev c9.Y:=Bs×eN
abbrev c9.X:=Bs×eN
def c9.out:c9.X→aZ:=fun x=>⟨.d tB x.1,[.obj 0 false (.d iY x.2)],[]⟩
def c9.add:c9.D→c9.Y→c9.X:=fun o0 y=>y
def c9.aC:c9.D→Prop:=fun r=>ir r
def c9.F:c9.D→c9.Y:=fun r=>mL r
noncomputable def c9.G:dQ:=eR (P:=Tryz.prog) [bG.sg,du.sg]
noncomputable def c9.an:eC:= {res:=[some tB],sR:=[⟨0,[.arr],iY⟩]}
noncomputable def c9.A:= @cH Tryz.prog c9.G c9.an 0 Tryz.f78 _ c9.st
abbrev c9.Ok:=cI @c9.A c9.aC c9.add c9.F c9.out
theorem c9.eq{R:Type}(o0:eN)(k:aZ→Option R):c9.A o0 k=
  aj (bG.call o0) fun x1=>
  aK (x1.2.2.1) (
   k (c9.out (([]:List Int),x1.2))) (
   aj (du.call (x1.1,x1.2)) fun x2=>
   k (c9.out (x2.1,x2.2))):=by kernel_rfl
theorem c9.ok:c9.Ok:=by
 intro r h
 have h:ir r:=h
 have e:=hM h
 rw[c9.eq,bG.run (d:=r) h]
 simp only[ab,bG.add,bG.F,c9.add,c9.F,mL]
 cases hc:(db r).2.2.1
 ·rw[aw,du.run (d:=((db r).1,(db r).2)) ⟨e.1,e.2.2.1⟩]
  rfl
 ·rfl
noncomputable def c9.E:=Entry.ct [none] c9.st c9.aC c9.add c9.F c9.out
noncomputable def c9.call:c9.D→Option c9.X:=bH c9.E c9.st
theorem c9.run:bD c9.call c9.aC c9.add c9.F:=cO (cM [.d iY] fun _=>by kernel_rfl)
noncomputable def c9.sg:SG Tryz.prog:=⟨78,aV,c9.E,.fn 0 (by kernel_rfl) c9.ok trivial⟩
abbrev dv.D:=Int×eN
def dv.st:dv.D→SA:=fun(most,o1)=>([.d ti most,.ptr (.fE 0) 0 [] 0],[.obj 0 false (.ptr (.fE 1) 0 [] 0),.obj 0 false (.d iY o1)])
abbrev dv.Y:=Int×eN
abbrev dv.X:=Int×eN
def dv.out:dv.X→aZ:=fun x=>⟨.d ti x.1,[.obj 0 false (.ptr (.fE 1) 0 [] 0),.obj 0 false (.d iY x.2)],[]⟩
def dv.add:dv.D→dv.Y→dv.X:=fun(most,o1) y=>y
def dv.aC:dv.D→Prop:=fun(m,r)=>ir r
def dv.F:dv.D→dv.Y:=fun(m,r)=>kU m r
noncomputable def dv.G:dQ:=eR (P:=Tryz.prog) [bG.sg]
noncomputable def dv.an:eC:= {}
noncomputable def dv.A:= @cH Tryz.prog dv.G dv.an 0 Tryz.f76 _ dv.st
abbrev dv.Ok:=cI @dv.A dv.aC dv.add dv.F dv.out
theorem dv.eq{R:Type}(most:Int)(o1:eN)(k:aZ→Option R):dv.A (most,o1) k=
  aj (bG.call o1) fun x1=>
  aK ((mN x1.1 most)) (
   k (dv.out ((-1:Int),x1.2))) (
   k (dv.out (x1.1,x1.2))):=by kernel_rfl
theorem dv.ok:dv.Ok:=by
 rintro⟨m,r⟩ h
 have h:ir r:=h
 rw[dv.eq,bG.run (d:=r) h]
 simp only[ab,bG.add,bG.F,dv.add,dv.F,kU]
 by_cases hc:(db r).1 > m
 ·rw[dL hc,if_pos hc];rfl
 ·rw[dC hc,if_neg hc];rfl
noncomputable def dv.E:=Entry.ct [some ti,none] dv.st dv.aC dv.add dv.F dv.out
noncomputable def dv.call:dv.D→Option dv.X:=bH dv.E dv.st
theorem dv.run:bD dv.call dv.aC dv.add dv.F:=cO (cM [.d ti,.d iY] fun _=>by kernel_rfl)
noncomputable def dv.sg:SG Tryz.prog:=⟨76,aV,dv.E,.fn 0 (by kernel_rfl) dv.ok trivial⟩
abbrev aq.L0.D:=Int×Int×Int×(Int×Unit)×Nat×(Int×Unit)×eN×(List jR)
def aq.L0.st:aq.L0.D→AS:=fun(n,t20,t21,n2,n4L,n4,n16,n32)=>⟨([.undef,.undef,.ptr (.new 2 0) 0 [] 0,.undef,.ptr (.new 4 0) 0 [] 0,.ptr (.new 5 0) 0 [] 0,.fn 76 (.cons (.ptr (.new 5 0) 0 [] 0) (.nil)),.d ti n]++a9 12 ([.d ti t20,.d ti t21]++a9 110 [])),[],([[],[],[.obj 0 false (.pr (.cV) (.pr (.cV) (.d (.pair ti .unit) n2)))],[],[.obj 0 false (.pr (.cf (.new 32 0) 0 [] 0 0 n4L) (.pr (.cV) (.d (.pair ti .unit) n4)))],[.obj 0 false (.ptr (.new 16 0) 0 [] 0)]]++bJ 10 ([[.obj 0 false (.d iY n16)]]++bJ 15 ([[.obj 0 false (.vec 57 iB n32)]]++bJ 99 [])))⟩
abbrev aq.L0.Y0:=Nat×eN×(List jR)
abbrev aq.L0.X0:=(Int×(Int×Unit)×(Int×Unit))×(Nat×eN×(List jR))
def aq.L0.bq:aq.L0.X0→Exit×AS:=fun x=>(.exit 0,⟨([.undef,.undef,.ptr (.new 2 0) 0 [] 0,.undef,.ptr (.new 4 0) 0 [] 0,.ptr (.new 5 0) 0 [] 0,.fn 76 (.cons (.ptr (.new 5 0) 0 [] 0) (.nil)),.d ti x.1.1]++a9 124 []),[],([[],[],[.obj 0 false (.pr (.cV) (.pr (.cV) (.d (.pair ti .unit) x.1.2.1)))],[],[.obj 0 false (.pr (.cf (.new 32 0) 0 [] 0 0 x.2.1) (.pr (.cV) (.d (.pair ti .unit) x.1.2.2)))],[.obj 0 false (.ptr (.new 16 0) 0 [] 0)]]++bJ 10 ([[.obj 0 false (.d iY x.2.2.1)]]++bJ 15 ([[.obj 0 false (.vec 57 iB x.2.2.2)]]++bJ 99 [])))⟩)
abbrev aq.L0.X:=aq.L0.X0
abbrev aq.L0.Y:=aq.L0.Y0
def aq.L0.out:aq.L0.X→Out (Exit×AS):=fun x=> .ok (aq.L0.bq x)
def aq.L0.add:aq.L0.D→aq.L0.Y→aq.L0.X:=fun(n,t20,t21,n2,n4L,n4,n16,n32) y=>((n,n2,n4),y)
abbrev aq.L1.D:=Int×Int×Int×Int×(Int×Unit)×Nat×Nat×(Int×Unit)×eN×(List jR)×(List fM)
def aq.L1.st:aq.L1.D→AS:=fun(n_2,m,t37,t38,n2_2,n4L_2,n4L_3,n4_2,n16_2,n32_2,n58)=>⟨([.undef,.undef,.ptr (.new 2 0) 0 [] 0,.undef,.ptr (.new 4 0) 0 [] 0,.ptr (.new 5 0) 0 [] 0,.fn 76 (.cons (.ptr (.new 5 0) 0 [] 0) (.nil)),.d ti n_2,.d ti m]++a9 28 ([.d ti t37,.d ti t38]++a9 93 [])),[],([[],[],[.obj 0 false (.pr (.cV) (.pr (.cV) (.d (.pair ti .unit) n2_2)))],[],[.obj 0 false (.pr (.cf (.new 32 0) 0 [] 0 0 n4L_2) (.pr (.cf (.new 58 0) 0 [] 0 0 n4L_3) (.d (.pair ti .unit) n4_2)))],[.obj 0 false (.ptr (.new 16 0) 0 [] 0)]]++bJ 10 ([[.obj 0 false (.d iY n16_2)]]++bJ 15 ([[.obj 0 false (.vec 57 iB n32_2)]]++bJ 25 ([[.obj 0 false (.vec 62 eV n58)]]++bJ 73 []))))⟩
abbrev aq.L1.Y0:=(Int×Unit)
abbrev aq.L1.X0:=(Int×Unit)
def aq.L1.bq:aq.L1.X0→Exit×AS:=fun x=>(.ret,⟨([.undef,.undef,.ptr (.new 2 0) 0 [] 0,.d .bool false]++a9 128 []),[],([[],[],[.obj 0 false (.pr (.cV) (.pr (.cV) (.d (.pair ti .unit) x)))]]++bJ 129 [])⟩)
abbrev aq.L1.Y1:=Nat×eN×(List fM)
abbrev aq.L1.X1:=(Int×Int×(Int×Unit)×Nat×(Int×Unit)×(List jR))×(Nat×eN×(List fM))
def aq.L1.eM:aq.L1.X1→Exit×AS:=fun x=>(.exit 2,⟨([.undef,.undef,.ptr (.new 2 0) 0 [] 0,.undef,.ptr (.new 4 0) 0 [] 0,.ptr (.new 5 0) 0 [] 0,.fn 76 (.cons (.ptr (.new 5 0) 0 [] 0) (.nil)),.d ti x.1.1,.d ti x.1.2.1]++a9 123 []),[],([[],[],[.obj 0 false (.pr (.cV) (.pr (.cV) (.d (.pair ti .unit) x.1.2.2.1)))],[],[.obj 0 false (.pr (.cf (.new 32 0) 0 [] 0 0 x.1.2.2.2.1) (.pr (.cf (.new 58 0) 0 [] 0 0 x.2.1) (.d (.pair ti .unit) x.1.2.2.2.2.1)))],[.obj 0 false (.ptr (.new 16 0) 0 [] 0)]]++bJ 10 ([[.obj 0 false (.d iY x.2.2.1)]]++bJ 15 ([[.obj 0 false (.vec 57 iB x.1.2.2.2.2.2)]]++bJ 25 ([[.obj 0 false (.vec 62 eV x.2.2.2)]]++bJ 73 []))))⟩)
abbrev aq.L1.X:=(aq.L1.X0)⊕(aq.L1.X1)
abbrev aq.L1.Y:=(aq.L1.Y0)⊕(aq.L1.Y1)
def aq.L1.out:aq.L1.X→Out (Exit×AS):=fun x=> .br x.isLeft (.get x.getLeft? fun a=> .ok (aq.L1.bq a)) (.get x.getRight? fun b=> .ok (aq.L1.eM b))
def aq.L1.add:aq.L1.D→aq.L1.Y→aq.L1.X:=fun(n_2,m,t37,t38,n2_2,n4L_2,n4L_3,n4_2,n16_2,n32_2,n58) y=>match y with | .inl y=> .inl y | .inr z=> .inr (((n_2,m,n2_2,n4L_2,n4_2,n32_2),z))
abbrev aq.L2.D:=Int×Int×Int×Int×(Int×Unit)×Nat×Nat×(Int×Unit)×eN×(List jR)×(List fM)
def aq.L2.st:aq.L2.D→AS:=fun(n_3,m_2,t66,t67,n2_3,n4L_4,n4L_5,n4_3,n16_3,n32_3,n58_2)=>⟨([.undef,.undef,.ptr (.new 2 0) 0 [] 0,.undef,.ptr (.new 4 0) 0 [] 0,.ptr (.new 5 0) 0 [] 0,.fn 76 (.cons (.ptr (.new 5 0) 0 [] 0) (.nil)),.d ti n_3,.d ti m_2]++a9 57 ([.d ti t66,.d ti t67]++a9 64 [])),[],([[],[],[.obj 0 false (.pr (.cV) (.pr (.cV) (.d (.pair ti .unit) n2_3)))],[],[.obj 0 false (.pr (.cf (.new 32 0) 0 [] 0 0 n4L_4) (.pr (.cf (.new 58 0) 0 [] 0 0 n4L_5) (.d (.pair ti .unit) n4_3)))],[.obj 0 false (.ptr (.new 16 0) 0 [] 0)]]++bJ 10 ([[.obj 0 false (.d iY n16_3)]]++bJ 15 ([[.obj 0 false (.vec 57 iB n32_3)]]++bJ 25 ([[.obj 0 false (.vec 62 eV n58_2)]]++bJ 73 []))))⟩
abbrev aq.L2.Y0:=(Int×Unit)
abbrev aq.L2.X0:=(Int×Unit)
def aq.L2.bq:aq.L2.X0→Exit×AS:=fun x=>(.ret,⟨([.undef,.undef,.ptr (.new 2 0) 0 [] 0,.d .bool false]++a9 128 []),[],([[],[],[.obj 0 false (.pr (.cV) (.pr (.cV) (.d (.pair ti .unit) x)))]]++bJ 129 [])⟩)
abbrev aq.L2.Y1:=Int×Int×(Int×Unit)×Nat×Nat×(Int×Unit)×eN×(List jR)×(List fM)
abbrev aq.L2.X1:=Int×Int×(Int×Unit)×Nat×Nat×(Int×Unit)×eN×(List jR)×(List fM)
def aq.L2.eM:aq.L2.X1→Exit×AS:=fun x=>(.exit 4,⟨([.undef,.undef,.ptr (.new 2 0) 0 [] 0,.undef,.ptr (.new 4 0) 0 [] 0,.ptr (.new 5 0) 0 [] 0,.undef,.d ti x.1,.d ti x.2.1]++a9 123 []),[],([[],[],[.obj 0 false (.pr (.cV) (.pr (.cV) (.d (.pair ti .unit) x.2.2.1)))],[],[.obj 0 false (.pr (.cf (.new 32 0) 0 [] 0 0 x.2.2.2.1) (.pr (.cf (.new 58 0) 0 [] 0 0 x.2.2.2.2.1) (.d (.pair ti .unit) x.2.2.2.2.2.1)))],[.obj 0 false (.ptr (.new 16 0) 0 [] 0)]]++bJ 10 ([[.obj 0 false (.d iY x.2.2.2.2.2.2.1)]]++bJ 15 ([[.obj 0 false (.vec 57 iB x.2.2.2.2.2.2.2.1)]]++bJ 25 ([[.obj 0 false (.vec 62 eV x.2.2.2.2.2.2.2.2)]]++bJ 73 []))))⟩)
abbrev aq.L2.X:=(aq.L2.X0)⊕(aq.L2.X1)
abbrev aq.L2.Y:=(aq.L2.Y0)⊕(aq.L2.Y1)
def aq.L2.out:aq.L2.X→Out (Exit×AS):=fun x=> .br x.isLeft (.get x.getLeft? fun a=> .ok (aq.L2.bq a)) (.get x.getRight? fun b=> .ok (aq.L2.eM b))
def aq.L2.add:aq.L2.D→aq.L2.Y→aq.L2.X:=fun(n_3,m_2,t66,t67,n2_3,n4L_4,n4L_5,n4_3,n16_3,n32_3,n58_2) y=>match y with | .inl y=> .inl y | .inr z=> .inr (z)
abbrev aq.L3.D:=Int×Int×Int×Int×Int×Int×(Int×Unit)×Nat×Nat×(Int×Unit)×eN×(List jR)×j8×Int×Nat×(Int×Unit)×(List jR)×(List fM)×(List Sg)
def aq.L3.st:aq.L3.D→AS:=fun(n_4,m_3,t66_2,t67_2,t85,t86,n2_4,n4L_6,n4L_7,n4_4,n16_4,n32_4,n32_5,n32_6,n32L,n32_7,n32_8,n58_3,n99)=>⟨([.undef,.undef,.ptr (.new 2 0) 0 [] 0,.undef,.ptr (.new 4 0) 0 [] 0,.ptr (.new 5 0) 0 [] 0,.fn 76 (.cons (.ptr (.new 5 0) 0 [] 0) (.nil)),.d ti n_4,.d ti m_3]++a9 4 ([.ptr (.new 32 0) 0 [.snd,.fst,.snd,.fst] ((0+((Int.toNat t67_2)*36))+33)]++a9 52 ([.d ti t66_2,.d ti t67_2]++a9 17 ([.d ti t85,.d ti t86]++a9 45 [])))),[],([[],[],[.obj 0 false (.pr (.cV) (.pr (.cV) (.d (.pair ti .unit) n2_4)))],[],[.obj 0 false (.pr (.cf (.new 32 0) 0 [] 0 0 n4L_6) (.pr (.cf (.new 58 0) 0 [] 0 0 n4L_7) (.d (.pair ti .unit) n4_4)))],[.obj 0 false (.ptr (.new 16 0) 0 [] 0)]]++bJ 10 ([[.obj 0 false (.d iY n16_4)]]++bJ 15 ([[.obj 0 false (.bx 57 36 (.pr (.d (.arr (0+(Int.toNat t67_2)) iB) n32_4) (.pr (.pr (.d kA n32_5) (.pr (.pr (.d ti n32_6) (.pr (.cf (.new 99 0) 0 [] 0 0 n32L) (.d (.pair tu .unit) n32_7))) (.d .unit ()))) (.d (.arr (List.length n32_8) iB) n32_8))))]]++bJ 25 ([[.obj 0 false (.vec 62 eV n58_3)]]++bJ 40 ([[.obj 0 false (.vec 60 iQ n99)]]++bJ 32 [])))))⟩
abbrev aq.L3.Y0:=eN×(List jR)×(List Sg)
abbrev aq.L3.X0:=(Int×Int×Int×Int×(Int×Unit)×Nat×Nat×(Int×Unit)×(List fM))×(eN×(List jR)×(List Sg))
def aq.L3.bq:aq.L3.X0→Exit×AS:=fun x=>(.exit 6,⟨([.undef,.undef,.ptr (.new 2 0) 0 [] 0,.undef,.ptr (.new 4 0) 0 [] 0,.ptr (.new 5 0) 0 [] 0,.fn 76 (.cons (.ptr (.new 5 0) 0 [] 0) (.nil)),.d ti x.1.1,.d ti x.1.2.1]++a9 4 ([.ptr (.new 32 0) 0 [.idx (0+(Int.toNat x.1.2.2.2.1)),.snd,.fst] ((0+((Int.toNat x.1.2.2.2.1)*36))+33)]++a9 52 ([.d ti x.1.2.2.1,.d ti x.1.2.2.2.1]++a9 64 []))),[],([[],[],[.obj 0 false (.pr (.cV) (.pr (.cV) (.d (.pair ti .unit) x.1.2.2.2.2.1)))],[],[.obj 0 false (.pr (.cf (.new 32 0) 0 [] 0 0 x.1.2.2.2.2.2.1) (.pr (.cf (.new 58 0) 0 [] 0 0 x.1.2.2.2.2.2.2.1) (.d (.pair ti .unit) x.1.2.2.2.2.2.2.2.1)))],[.obj 0 false (.ptr (.new 16 0) 0 [] 0)]]++bJ 10 ([[.obj 0 false (.d iY x.2.1)]]++bJ 15 ([[.obj 0 false (.vec 57 iB x.2.2.1)]]++bJ 25 ([[.obj 0 false (.vec 62 eV x.1.2.2.2.2.2.2.2.2)]]++bJ 40 ([[.obj 0 true (.vec 60 iQ x.2.2.2)]]++bJ 32 [])))))⟩)
abbrev aq.L3.X:=aq.L3.X0
abbrev aq.L3.Y:=aq.L3.Y0
def aq.L3.out:aq.L3.X→Out (Exit×AS):=fun x=> .ok (aq.L3.bq x)
def aq.L3.add:aq.L3.D→aq.L3.Y→aq.L3.X:=fun(n_4,m_3,t66_2,t67_2,t85,t86,n2_4,n4L_6,n4L_7,n4_4,n16_4,n32_4,n32_5,n32_6,n32L,n32_7,n32_8,n58_3,n99) y=>((n_4,m_3,t66_2,t67_2,n2_4,n4L_6,n4L_7,n4_4,n58_3),y)
abbrev aq.D:=Bs
def aq.st:aq.D→SA:=fun b=>([.d tB b],[])
abbrev aq.Y:=eH×Bool
abbrev aq.X:=eH×Bool
def aq.out:aq.X→aZ:=fun x=>⟨.cons (.d fD x.1) (.cons (.d .bool x.2) (.nil)),[],[]⟩
def aq.add:aq.D→aq.Y→aq.X:=fun b y=>y
def aq.L0.aC:aq.L0.D→Prop:=fun(n,m,i,u,L,v,r,l)=>ja r∧m≤64∧∃k:Nat,i=k∧k≤64∧L=l.length∧l.length=k
def aq.L0.F:aq.L0.D→aq.L0.Y:=fun(n,m,i,u,L,v,r,l)=>(L+(m - i).toNat,(lR (m - i).toNat r).2,l++(lR (m - i).toNat r).1.map BH)
def aq.L1.aC:aq.L1.D→Prop:=fun(n,m1,m,i,u,L,L2,v,r,l,os)=>ja r∧m≤64∧∃k:Nat,i=k∧k≤64∧L2=os.length∧os.length=k
def aq.L1.F:aq.L1.D→aq.L1.Y:=fun(n,m1,m,i,u,L,L2,v,r,l,os)=>match mD (m - i).toNat r with | none=> .inl (0,()) | some x=> .inr (L2+x.1.length,x.2,os++x.1)
def aq.L3.aC:aq.L3.D→Prop:=fun(n,m1,mo,io,m,i,u,L,L2,v,r,la,op,br,Ls,sc,lb,os,sg)=>ja r∧m≤12∧∃k:Nat,i=k∧k≤12∧Ls=sg.length∧sg.length=k
def aq.L3.F:aq.L3.D→aq.L3.Y:=fun(n,m1,mo,io,m,i,u,L,L2,v,r,la,op,br,Ls,sc,lb,os,sg)=>((mr (m - i).toNat r).2,la++(op,(br,some (sg++(mr (m - i).toNat r).1),sc),())::lb,sg++(mr (m - i).toNat r).1)
def aq.L2.aC:aq.L2.D→Prop:=fun(n,m1,m,i,u,L,L2,v,r,l,os)=>ja r∧l.length≤64∧∃k:Nat,i=k∧k≤l.length∧m=l.length∧L=l.length∧∀x∈l.drop k,x=BH x.1
def aq.L2.F:aq.L2.D→aq.L2.Y:=fun(n,m1,m,i,u,L,L2,v,r,l,os)=>match mI ((l.drop i.toNat).map (·.1)) r with | none=> .inl (0,()) | some x=> .inr (n,m1,u,L,L2,v,x.2,l.take i.toNat++x.1.map Eh,os)
def aq.aC:aq.D→Prop:=fun b=>Bytes b∧b.length≤1000000000
def aq.F:aq.D→aq.Y:=fun b=>g7 b
noncomputable def aq.G:dQ:=eR (P:=Tryz.prog) [dH.sg,dv.sg,dY.sg,bG.sg,c9.sg,aS.sg,cl.sg,fw.sg,dZ.sg,al.sg]
noncomputable def aq.L0.E:=bN.ct aq.L0.st aq.L0.aC aq.L0.add aq.L0.F aq.L0.out
noncomputable def aq.L0.call:aq.L0.D→Option aq.L0.X:=dh aq.L0.E aq.L0.st
noncomputable def aq.L1.E:=bN.ct aq.L1.st aq.L1.aC aq.L1.add aq.L1.F aq.L1.out
noncomputable def aq.L1.call:aq.L1.D→Option aq.L1.X:=dh aq.L1.E aq.L1.st
noncomputable def aq.L2.E:=bN.ct aq.L2.st aq.L2.aC aq.L2.add aq.L2.F aq.L2.out
noncomputable def aq.L2.call:aq.L2.D→Option aq.L2.X:=dh aq.L2.E aq.L2.st
noncomputable def aq.L3.E:=bN.ct aq.L3.st aq.L3.aC aq.L3.add aq.L3.F aq.L3.out
noncomputable def aq.L3.call:aq.L3.D→Option aq.L3.X:=dh aq.L3.E aq.L3.st
noncomputable def aq.an:eC:= {bI:=[100031,100032],loops:=jJ [(6,{bm:=[2,4,5,6,7,20,21],sites:=[2,4,5,16,32],ix:=[⟨4,[.fst],32,100036⟩]}),(11,{bm:=[2,4,5,6,7,8,37,38],sites:=[2,4,5,16,32,58],ix:=[⟨4,[.snd,.fst],58,37⟩]}),(21,{bm:=[2,4,5,6,7,8,66,67],sites:=[2,4,5,16,32,58]}),(29,{bm:=[2,4,5,6,7,8,13,66,67,85,86],sites:=[2,4,5,16,32,58,99],ix:=[⟨13,[.snd,.fst],99,51⟩],EW:=[13]})],outs:=jI [(6,{bm:=[2,4,5,6,7],sites:=[2,4,5,16,32]},{bm:=[2,3]}),(11,{bm:=[2,4,5,6,7,8],sites:=[2,4,5,16,32,58]},{bm:=[2,3],sites:=[2]}),(21,{bm:=[2,4,5,7,8],sites:=[2,4,5,16,32,58]},{bm:=[2,3],sites:=[2]}),(29,{bm:=[2,4,5,6,7,8,13,66,67],sites:=[2,4,5,16,32,58,99],E2:=[13]},{bm:=[2,3]})],fG:=kh [(6,aq.L0.E),(11,aq.L1.E),(21,aq.L2.E),(29,aq.L3.E)],res:=[some fD,none]}
noncomputable def aq.A:= @cH Tryz.prog aq.G aq.an 0 Tryz.f24 _ aq.st
abbrev aq.Ok:=cI @aq.A aq.aC aq.add aq.F aq.out
noncomputable def aq.L0.R:= @bX Tryz.prog aq.G aq.an 0 Tryz.f24 0 _ aq.L0.st
abbrev aq.L0.Ok:=eA Tryz.prog aq.G aq.an 0 Tryz.f24 0 aq.L0.st aq.L0.aC aq.L0.add aq.L0.F aq.L0.out
noncomputable def aq.L1.R:= @bX Tryz.prog aq.G aq.an 0 Tryz.f24 1 _ aq.L1.st
abbrev aq.L1.Ok:=eA Tryz.prog aq.G aq.an 0 Tryz.f24 1 aq.L1.st aq.L1.aC aq.L1.add aq.L1.F aq.L1.out
noncomputable def aq.L2.R:= @bX Tryz.prog aq.G aq.an 0 Tryz.f24 2 _ aq.L2.st
abbrev aq.L2.Ok:=eA Tryz.prog aq.G aq.an 0 Tryz.f24 2 aq.L2.st aq.L2.aC aq.L2.add aq.L2.F aq.L2.out
noncomputable def aq.L3.R:= @bX Tryz.prog aq.G aq.an 0 Tryz.f24 3 _ aq.L3.st
abbrev aq.L3.Ok:=eA Tryz.prog aq.G aq.an 0 Tryz.f24 3 aq.L3.st aq.L3.aC aq.L3.add aq.L3.F aq.L3.out
theorem aq.L0.run:bD aq.L0.call aq.L0.aC aq.L0.add aq.L0.F:=eG (eE [.d ti,.d ti,.d ti,.d (.pair ti .unit),.n,.d (.pair ti .unit),.d iY,.d (.slice iB)] fun _=>by kernel_rfl)
theorem aq.L0.aG:fR @aq.L0.R aq.L0.st aq.L0.aC aq.L0.add aq.L0.F aq.L0.bq aq.L0.Ok:=fU
theorem aq.L0.step{R:Type}(n:Int)(t20:Int)(t21:Int)(n2:(Int×Unit))(n4L:Nat)(n4:(Int×Unit))(n16:eN)(n32:(List jR))(kn:AS→Option R)(kx:Exit→AS→Option R):aq.L0.R (n,t20,t21,n2,n4L,n4,n16,n32) kn kx=
  aK ((gb t21 t20)) (
   aj (dY.call n16) fun x7=>
   aj (bG.call x7.2) fun x8=>
   aK (decide (n4L≤(List.length n32))) (
   aK (dj (n4L+1) 80) (
   kn (aq.L0.st (n,t20,(bK .i64 t21 (1:Int)),n2,(n4L+1),n4,x8.2,((List.take n4L n32)++ [((x7.1,(x8.1,())),(((0:Int),(none,((0:Int),()))),()))])))) none) none) (
   kx (aq.L0.bq ((n,n2,n4),(n4L,n16,n32))).1 (aq.L0.bq ((n,n2,n4),(n4L,n16,n32))).2):=by kernel_rfl
theorem aq.L1.run:bD aq.L1.call aq.L1.aC aq.L1.add aq.L1.F:=eG (eE [.d ti,.d ti,.d ti,.d ti,.d (.pair ti .unit),.n,.n,.d (.pair ti .unit),.d iY,.d (.slice iB),.d (.slice eV)] fun _=>by kernel_rfl)
theorem aq.L1.aG:iZ @aq.L1.R aq.L1.st aq.L1.aC aq.L1.add aq.L1.F aq.L1.out aq.L1.Ok:=jm
theorem aq.L1.step{R:Type}(n_2:Int)(m:Int)(t37:Int)(t38:Int)(n2_2:(Int×Unit))(n4L_2:Nat)(n4L_3:Nat)(n4_2:(Int×Unit))(n16_2:eN)(n32_2:(List jR))(n58:(List fM))(kn:AS→Option R)(kx:Exit→AS→Option R):aq.L1.R (n_2,m,t37,t38,n2_2,n4L_2,n4L_3,n4_2,n16_2,n32_2,n58) kn kx=
  aK ((gb t38 t37)) (
   aj (bG.call n16_2) fun x16=>
   aj (c9.call x16.2) fun x23=>
   aj (aS.call x23.1) fun x24=>
   aK ((!x24.2)) (
    kx (aq.L1.bq ((0:Int),())).1 (aq.L1.bq ((0:Int),())).2) (
    aK (decide (n4L_3≤(List.length n58))) (
    aK (dj (n4L_3+1) 32) (
    kn (aq.L1.st (n_2,m,t37,(bK .i64 t38 (1:Int)),n2_2,n4L_2,(n4L_3+1),n4_2,x23.2,n32_2,((List.take n4L_3 n58)++ [(x16.1,(x24.1,()))])))) none) none)) (
   kx (aq.L1.eM ((n_2,m,n2_2,n4L_2,n4_2,n32_2),(n4L_3,n16_2,n58))).1 (aq.L1.eM ((n_2,m,n2_2,n4L_2,n4_2,n32_2),(n4L_3,n16_2,n58))).2):=by kernel_rfl
theorem aq.L2.run:bD aq.L2.call aq.L2.aC aq.L2.add aq.L2.F:=eG (eE [.d ti,.d ti,.d ti,.d ti,.d (.pair ti .unit),.n,.n,.d (.pair ti .unit),.d iY,.d (.slice iB),.d (.slice eV)] fun _=>by kernel_rfl)
theorem aq.L2.aG:iZ @aq.L2.R aq.L2.st aq.L2.aC aq.L2.add aq.L2.F aq.L2.out aq.L2.Ok:=jm
theorem aq.L2.step{R:Type}(n_3:Int)(m_2:Int)(t66:Int)(t67:Int)(n2_3:(Int×Unit))(n4L_4:Nat)(n4L_5:Nat)(n4_3:(Int×Unit))(n16_3:eN)(n32_3:(List jR))(n58_2:(List fM))(kn:AS→Option R)(kx:Exit→AS→Option R):aq.L2.R (n_3,m_2,t66,t67,n2_3,n4L_4,n4L_5,n4_3,n16_3,n32_3,n58_2) kn kx=
  aK ((gb t67 t66)) (
   aK (eh t67 ((n4L_4:Nat):Int)) (
   aj (bG.call n16_3) fun x16=>
   aK (decide ((0+(Int.toNat t67)) < (List.length n32_3))) (
   aK (decide ((((0+(Int.toNat t67))*36)+33)=(((0+((Int.toNat t67)*36))+33)+0))) (
   aK (decide ((0+(Int.toNat t67)) < (List.length n32_3))) (
   aj (dv.call ((12:Int),x16.2)) fun x20=>
   aK ((gb x20.1 (0:Int))) (
    kx (aq.L2.bq ((0:Int),())).1 (aq.L2.bq ((0:Int),())).2) (
    aK (decide ((0+(Int.toNat t67)) < (List.length (List.set n32_3 (0+(Int.toNat t67)) ((nth iB n32_3 (0+(Int.toNat t67))).1,((x16.1,(nth iB n32_3 (0+(Int.toNat t67))).2.1.2),(nth iB n32_3 (0+(Int.toNat t67))).2.2)))))) (
    aK ((Option.isNone (nth iB (List.set n32_3 (0+(Int.toNat t67)) ((nth iB n32_3 (0+(Int.toNat t67))).1,((x16.1,(nth iB n32_3 (0+(Int.toNat t67))).2.1.2),(nth iB n32_3 (0+(Int.toNat t67))).2.2))) (0+(Int.toNat t67))).2.1.2.1)) (
    aj (aq.L3.call (n_3,m_2,t66,t67,x20.1,(0:Int),n2_3,n4L_4,n4L_5,n4_3,x20.2,(List.take (0+(Int.toNat t67)) (List.set n32_3 (0+(Int.toNat t67)) ((nth iB n32_3 (0+(Int.toNat t67))).1,((x16.1,(nth iB n32_3 (0+(Int.toNat t67))).2.1.2),(nth iB n32_3 (0+(Int.toNat t67))).2.2)))),((nth iB (List.set n32_3 (0+(Int.toNat t67)) ((nth iB n32_3 (0+(Int.toNat t67))).1,((x16.1,(nth iB n32_3 (0+(Int.toNat t67))).2.1.2),(nth iB n32_3 (0+(Int.toNat t67))).2.2))) (0+(Int.toNat t67))).1.1,((nth iB (List.set n32_3 (0+(Int.toNat t67)) ((nth iB n32_3 (0+(Int.toNat t67))).1,((x16.1,(nth iB n32_3 (0+(Int.toNat t67))).2.1.2),(nth iB n32_3 (0+(Int.toNat t67))).2.2))) (0+(Int.toNat t67))).1.2.1,(nth iB (List.set n32_3 (0+(Int.toNat t67)) ((nth iB n32_3 (0+(Int.toNat t67))).1,((x16.1,(nth iB n32_3 (0+(Int.toNat t67))).2.1.2),(nth iB n32_3 (0+(Int.toNat t67))).2.2))) (0+(Int.toNat t67))).1.2.2)),(nth iB (List.set n32_3 (0+(Int.toNat t67)) ((nth iB n32_3 (0+(Int.toNat t67))).1,((x16.1,(nth iB n32_3 (0+(Int.toNat t67))).2.1.2),(nth iB n32_3 (0+(Int.toNat t67))).2.2))) (0+(Int.toNat t67))).2.1.1,0,((nth iB (List.set n32_3 (0+(Int.toNat t67)) ((nth iB n32_3 (0+(Int.toNat t67))).1,((x16.1,(nth iB n32_3 (0+(Int.toNat t67))).2.1.2),(nth iB n32_3 (0+(Int.toNat t67))).2.2))) (0+(Int.toNat t67))).2.1.2.2.1,(nth iB (List.set n32_3 (0+(Int.toNat t67)) ((nth iB n32_3 (0+(Int.toNat t67))).1,((x16.1,(nth iB n32_3 (0+(Int.toNat t67))).2.1.2),(nth iB n32_3 (0+(Int.toNat t67))).2.2))) (0+(Int.toNat t67))).2.1.2.2.2),(List.drop ((0+(Int.toNat t67))+1) (List.set n32_3 (0+(Int.toNat t67)) ((nth iB n32_3 (0+(Int.toNat t67))).1,((x16.1,(nth iB n32_3 (0+(Int.toNat t67))).2.1.2),(nth iB n32_3 (0+(Int.toNat t67))).2.2)))),n58_2,([]:List Sg))) fun x22=>
    aj (cl.call x22.2.1) fun x24=>
    aK (decide ((0+(Int.toNat x22.1.2.2.2.1)) < (List.length x22.2.2.1))) (
    aK (decide ((((0+(Int.toNat x22.1.2.2.2.1))*36)+35)=(((0+((Int.toNat x22.1.2.2.2.1)*36))+33)+2))) (
    aK (decide ((0+(Int.toNat x22.1.2.2.2.1)) < (List.length x22.2.2.1))) (
    kn (aq.L2.st (x22.1.1,x22.1.2.1,x22.1.2.2.1,(bK .i64 x22.1.2.2.2.1 (1:Int)),x22.1.2.2.2.2.1,x22.1.2.2.2.2.2.1,x22.1.2.2.2.2.2.2.1,x22.1.2.2.2.2.2.2.2.1,x24.2,(List.set x22.2.2.1 (0+(Int.toNat x22.1.2.2.2.1)) ((nth iB x22.2.2.1 (0+(Int.toNat x22.1.2.2.2.1))).1,(((nth iB x22.2.2.1 (0+(Int.toNat x22.1.2.2.2.1))).2.1.1,((nth iB x22.2.2.1 (0+(Int.toNat x22.1.2.2.2.1))).2.1.2.1,(x24.1,(nth iB x22.2.2.1 (0+(Int.toNat x22.1.2.2.2.1))).2.1.2.2.2))),(nth iB x22.2.2.1 (0+(Int.toNat x22.1.2.2.2.1))).2.2))),x22.1.2.2.2.2.2.2.2.2))) none) none) none) none) none)) none) none) none) none) (
   kx (aq.L2.eM (n_3,m_2,n2_3,n4L_4,n4L_5,n4_3,n16_3,n32_3,n58_2)).1 (aq.L2.eM (n_3,m_2,n2_3,n4L_4,n4L_5,n4_3,n16_3,n32_3,n58_2)).2):=by kernel_rfl
theorem aq.L3.run:bD aq.L3.call aq.L3.aC aq.L3.add aq.L3.F:=eG (eE [.d ti,.d ti,.d ti,.d ti,.d ti,.d ti,.d (.pair ti .unit),.n,.n,.d (.pair ti .unit),.d iY,.d (.slice iB),.d kA,.d ti,.n,.d (.pair tu .unit),.d (.slice iB),.d (.slice eV),.d (.slice iQ)] fun _=>by kernel_rfl)
theorem aq.L3.aG:fR @aq.L3.R aq.L3.st aq.L3.aC aq.L3.add aq.L3.F aq.L3.bq aq.L3.Ok:=fU
theorem aq.L3.step{R:Type}(n_4:Int)(m_3:Int)(t66_2:Int)(t67_2:Int)(t85:Int)(t86:Int)(n2_4:(Int×Unit))(n4L_6:Nat)(n4L_7:Nat)(n4_4:(Int×Unit))(n16_4:eN)(n32_4:(List jR))(n32_5:j8)(n32_6:Int)(n32L:Nat)(n32_7:(Int×Unit))(n32_8:(List jR))(n58_3:(List fM))(n99:(List Sg))(kn:AS→Option R)(kx:Exit→AS→Option R):aq.L3.R (n_4,m_3,t66_2,t67_2,t85,t86,n2_4,n4L_6,n4L_7,n4_4,n16_4,n32_4,n32_5,n32_6,n32L,n32_7,n32_8,n58_3,n99) kn kx=
  aK ((gb t86 t85)) (
   aK (decide ((((0+(Int.toNat t67_2))*36)+34)=(((0+((Int.toNat t67_2)*36))+33)+1))) (
   aj (cl.call n16_4) fun x7=>
   aj (cl.call x7.2) fun x8=>
   aK (decide (n32L≤(List.length n99))) (
   aK (dj (n32L+1) 16) (
   aK (decide ((((0+(Int.toNat t67_2))*36)+34)=(((0+((Int.toNat t67_2)*36))+33)+1))) (
   kn (aq.L3.st (n_4,m_3,t66_2,t67_2,t85,(bK .i64 t86 (1:Int)),n2_4,n4L_6,n4L_7,n4_4,x8.2,n32_4,n32_5,n32_6,(n32L+1),n32_7,n32_8,n58_3,((List.take n32L n99)++ [(x7.1,(x8.1,()))])))) none) none) none) none) (
   aK (decide (0=0∧(0+n32L)≤(List.length n99))) (
   kx (aq.L3.bq ((n_4,m_3,t66_2,t67_2,n2_4,n4L_6,n4L_7,n4_4,n58_3),(n16_4,(n32_4++(n32_5,((n32_6,((some (cut n99 0 n32L)),n32_7)),()))::n32_8),n99))).1 (aq.L3.bq ((n_4,m_3,t66_2,t67_2,n2_4,n4L_6,n4L_7,n4_4,n58_3),(n16_4,(n32_4++(n32_5,((n32_6,((some (cut n99 0 n32L)),n32_7)),()))::n32_8),n99))).2) none):=by kernel_rfl
theorem aq.eq{R:Type}(b:Bs)(k:aZ→Option R):aq.A b k=
  aj (dH.call b) fun x4=>
  aj (dv.call ((64:Int),x4)) fun x8=>
  aj (aq.L0.call (x8.1,x8.1,(0:Int),((0:Int),()),0,((0:Int),()),x8.2,([]:List jR))) fun x26=>
  aj (dv.call ((64:Int),x26.2.2.1)) fun x30=>
  aj (aq.L1.call (x26.1.1,x30.1,x30.1,(0:Int),x26.1.2.1,x26.2.1,0,x26.1.2.2,x30.2,x26.2.2.2,([]:List fM))) fun x82=>
  aK (x82.isLeft) (
   aj (x82.getLeft?) fun a83=>
   k (aq.out ((([]:List eU),(([]:List fM),a83)),false))) (
   aj (x82.getRight?) fun b84=>
   aj (bG.call b84.2.2.1) fun x88=>
   aj (aq.L2.call (b84.1.1,b84.1.2.1,((b84.1.2.2.2.1:Nat):Int),(0:Int),b84.1.2.2.1,b84.1.2.2.2.1,b84.2.1,(x88.1,b84.1.2.2.2.2.1.2),x88.2,b84.1.2.2.2.2.2,b84.2.2.2)) fun x124=>
   aK (x124.isLeft) (
    aj (x124.getLeft?) fun a125=>
    k (aq.out ((([]:List eU),(([]:List fM),a125)),false))) (
    aj (x124.getRight?) fun b126=>
    aK ((gb b126.1 (0:Int))) (
     k (aq.out ((([]:List eU),(([]:List fM),((0:Int),()))),false))) (
     aK ((gb b126.2.1 (0:Int))) (
      k (aq.out ((([]:List eU),(([]:List fM),((0:Int),()))),false))) (
      aj (fw.call b126.2.2.2.2.2.2.1) fun x136=>
      aK ((!x136.2)) (
       k (aq.out ((([]:List eU),(([]:List fM),((0:Int),()))),false))) (
       aj (dZ.call x136.1) fun x137=>
       aK ((mN x137.2 (0:Int))) (
        k (aq.out ((([]:List eU),(([]:List fM),((0:Int),()))),false))) (
        aK (decide (0=0∧(0+b126.2.2.2.1)≤(List.length b126.2.2.2.2.2.2.2.1))) (
        aK (decide (0=0∧(0+b126.2.2.2.2.1)≤(List.length b126.2.2.2.2.2.2.2.2))) (
        aj (al.call ((Dv (.slice iB) (.slice eg) (cut b126.2.2.2.2.2.2.2.1 0 b126.2.2.2.1)),((cut b126.2.2.2.2.2.2.2.2 0 b126.2.2.2.2.1),b126.2.2.2.2.2.1))) fun x138=>
        aK ((!x138)) (
         k (aq.out ((([]:List eU),(([]:List fM),((0:Int),()))),false))) (
         aK (decide (0=0∧(0+b126.2.2.2.1)≤(List.length b126.2.2.2.2.2.2.2.1))) (
         aK (decide (0=0∧(0+b126.2.2.2.2.1)≤(List.length b126.2.2.2.2.2.2.2.2))) (
         k (aq.out (((Dv (.slice iB) (.slice eg) (cut b126.2.2.2.2.2.2.2.1 0 b126.2.2.2.1)),((cut b126.2.2.2.2.2.2.2.2 0 b126.2.2.2.2.1),b126.2.2.2.2.2.1)),true))) none) none)) none) none)))))):=by kernel_rfl
theorem aq.L0.ok:aq.L0.Ok:=by
 refine aq.L0.aG (fun(n,m,i,u,L,v,r,l)=>(m - i).toNat) ?_
 rintro⟨n,m,i,u,L,v,r,l⟩ ⟨hr,hm,k,rfl,hk,rfl,hlk⟩
 have hr:ja r:=hr
 have hm:m≤64:=hm
 have hlk:l.length=k:=hlk
 by_cases h:(k:Int) < m
 ·left
  have e1:(m - (k:Int)).toNat=(m - ((k+1:Nat):Int)).toNat+1:=by omega
  have h1:=vQ hr
  refine⟨(n,m,((k+1:Nat):Int),u,l.length+1,v,(CE r).2,l++ [BH (CE r).1]),⟨(hP h1.1).1.1,hm,k+1,rfl,by omega,by rw[List.length_append];rfl,by rw[List.length_append];show l.length+1=_;omega⟩,by show(m - ((k+1:Nat):Int)).toNat < (m - (k:Int)).toNat;omega,?_,fun kn kx=> ?_⟩
  ·simp only[aq.L0.add,aq.L0.F,e1,lR,List.map_cons,List.append_assoc,List.singleton_append]
   rw[show ∀a c:Nat,a+1+c=a+(c+1) from fun a c=>by omega]
  ·rw[aq.L0.step,bw h,dY.run (d:=r) hr.1]
   simp only[ax,ab,dY.add,dY.F]
   rw[bG.run (d:=(ng r).2) h1.1.1]
   simp only[ab,bG.add,bG.F]
   rw[aQ (Nat.le_refl _),eF (by omega) (by omega),N.kk (by omega),List.take_length]
   rfl
 ·right
  intro R kn kx
  have e1:(m - (k:Int)).toNat=0:=by omega
  rw[aq.L0.step,bn h,aw]
  simp only[aq.L0.add,aq.L0.F,e1,lR,List.map_nil,List.append_nil,Nat.add_zero]
theorem aq.L1.ok:aq.L1.Ok:=by
 refine aq.L1.aG (fun(n,m1,m,i,u,L,L2,v,r,l,os)=>(m - i).toNat) ?_
 rintro⟨n,m1,m,i,u,L,L2,v,r,l,os⟩ ⟨hr,hm,k,rfl,hk,rfl,hlk⟩
 have hr:ja r:=hr
 have hm:m≤64:=hm
 have hlk:os.length=k:=hlk
 by_cases h:(k:Int) < m
 ·have e1:(m - (k:Int)).toNat=(m - ((k+1:Nat):Int)).toNat+1:=by omega
  have h1:=hP hr
  have h2:=uk h1.1.1
  have step:∀ {R:Type} (kn:AS→Option R) (kx:Exit→AS→Option R),aq.L1.R (n,m1,m,(k:Int),u,L,os.length,v,r,l,os) kn kx=aK (!(mE (mL (db r).2).1).2) (kx (aq.L1.bq (0,())).1 (aq.L1.bq (0,())).2) (kn (aq.L1.st (n,m1,m,((k+1:Nat):Int),u,L,os.length+1,v,(rX r).2,l,os++ [(rX r).1]))):=by
   intro R kn kx
   rw[aq.L1.step,bw h,bG.run (d:=r) hr.1]
   simp only[ax,ab,bG.add,bG.F]
   rw[c9.run (d:=(db r).2) h1.1.1.1]
   simp only[ab,c9.add,c9.F]
   rw[aS.run (d:=(mL (db r).2).1) ⟨h2.2.1,h2.2.2⟩]
   simp only[ab,aS.add,aS.F]
   rw[aQ (Nat.le_refl _),eF (by omega) (by omega),N.kk (by omega),List.take_length]
   rfl
  cases hp:(mE (mL (db r).2).1).2
  ·right
   refine⟨aq.L1.bq (0,()),?_,fun kn kx=> ?_⟩
   ·simp only[aq.L1.add,aq.L1.F,e1,mD,hp,Bool.false_eq_true,if_false]
    rfl
   ·rw[step,hp];rfl
  ·left
   refine⟨(n,m1,m,((k+1:Nat):Int),u,L,os.length+1,v,(rX r).2,l,os++ [(rX r).1]),⟨h2.1.1,hm,k+1,rfl,by omega,by rw[List.length_append];rfl,by rw[List.length_append];show os.length+1=_;omega⟩,by show(m - ((k+1:Nat):Int)).toNat < (m - (k:Int)).toNat;omega,?_,fun kn kx=> ?_⟩
   ·simp only[aq.L1.add,aq.L1.F,e1,mD,hp,if_true]
    cases mD (m - ((k+1:Nat):Int)).toNat (rX r).2 with
    |none=>rfl
    |some x=>
     simp only[List.length_cons,List.append_assoc,List.singleton_append]
     rw[show ∀a c:Nat,a+1+c=a+(c+1) from fun a c=>by omega]
   ·rw[step,hp];rfl
 ·right
  have e1:(m - (k:Int)).toNat=0:=by omega
  refine⟨aq.L1.eM ((n,m1,u,L,v,l),(os.length,r,os)),?_,fun kn kx=> ?_⟩
  ·simp only[aq.L1.add,aq.L1.F,e1,mD,List.length_nil,Nat.add_zero,List.append_nil]
   rfl
  ·rw[aq.L1.step,bn h,aw]
theorem aq.L3.ok:aq.L3.Ok:=by
 refine aq.L3.aG (fun(n,m1,mo,io,m,i,u,L,L2,v,r,la,op,br,Ls,sc,lb,os,sg)=>(m - i).toNat) ?_
 rintro⟨n,m1,mo,io,m,i,u,L,L2,v,r,la,op,br,Ls,sc,lb,os,sg⟩ ⟨hr,hm,k,rfl,hk,rfl,hlk⟩
 have hr:ja r:=hr
 have hm:m≤12:=hm
 have hlk:sg.length=k:=hlk
 by_cases h:(k:Int) < m
 ·left
  have e1:(m - (k:Int)).toNat=(m - ((k+1:Nat):Int)).toNat+1:=by omega
  have h1:=nU hr
  have h2:=nU h1.1
  refine⟨(n,m1,mo,io,m,((k+1:Nat):Int),u,L,L2,v,(CH r).2,la,op,br,sg.length+1,sc,lb,os,sg++ [(CH r).1]),⟨h2.1,hm,k+1,rfl,by omega,by rw[List.length_append];rfl,by rw[List.length_append];show sg.length+1=_;omega⟩,by show(m - ((k+1:Nat):Int)).toNat < (m - (k:Int)).toNat;omega,?_,fun kn kx=> ?_⟩
  ·simp only[aq.L3.add,aq.L3.F,e1,mr,List.append_assoc,List.singleton_append]
  ·rw[aq.L3.step,bw h,aQ (by omega),cl.run (d:=r) hr.1]
   simp only[ax,ab,cl.add,cl.F]
   rw[cl.run (d:=(iC r).2) h1.1.1]
   simp only[ab,cl.add,cl.F]
   rw[aQ (Nat.le_refl _),eF (by omega) (by omega),N.kk (by omega),List.take_length]
   rfl
 ·right
  intro R kn kx
  have e1:(m - (k:Int)).toNat=0:=by omega
  rw[aq.L3.step,bn h,aw]
  simp only[aq.L3.add,aq.L3.F,e1,mr,List.append_nil,Nat.zero_add,Nat.le_refl,and_self,decide_true,ax,fc]
theorem aq.L2.ok:aq.L2.Ok:=by
 refine aq.L2.aG (fun(n,m1,m,i,u,L,L2,v,r,l,os)=>l.length - i.toNat) ?_
 rintro⟨n,m1,m,i,u,L,L2,v,r,l,os⟩ ⟨hr,hl,k,rfl,hk,rfl,rfl,hg⟩
 have hr:ja r:=hr
 have hl:l.length≤64:=hl
 have hk:k≤l.length:=hk
 by_cases h:k < l.length
 ·have n1:nth iB l k=l[k]:=cj (t:=iB) h
  have hd:l.drop k=l[k]::l.drop (k+1):=List.drop_eq_getElem_cons h
  have hop:l[k]=BH l[k].1:=hg _ (by rw[hd];exact List.mem_cons_self)
  obtain⟨op,hop2⟩:∃op,l[k].1=op:=⟨_,rfl⟩
  rw[hop2]at hop
  have h1:=hP hr
  have h2:=tY h1.1.1 12
  have h3:=y4 h1.1.1.1 (m:=12) (by decide)
  have hw:=y5 hr
  have hu:=nU hw.1
  have hat:(l.take k).length=k:=by rw[List.length_take];omega
  have step:∀ {R:Type} (kn:AS→Option R) (kx:Exit→AS→Option R),aq.L2.R (n,m1,(l.length:Int),(k:Int),u,l.length,L2,v,r,l,os) kn kx=aK (gb (kU 12 (db r).2).1 0) (kx (aq.L2.bq (0,())).1 (aq.L2.bq (0,())).2) (kn (aq.L2.st (n,m1,(l.length:Int),((k+1:Nat):Int),u,l.length,L2,v,(iC (jE r).2).2,l.take k++(op,((db r).1,some (jE r).1,(iC (jE r).2).1,()),())::l.drop (k+1),os))):=by
   intro R kn kx
   rw[aq.L2.step,bw (by omega),bh (by omega) (by omega),bG.run (d:=r) hr.1]
   have ns:∀y:jR,nth iB (l.set k y) k=y:=fun y=>yL (t:=iB) h
   have nm:∀(y:jR) (b:List jR),nth iB (l.take k++y::b) k=y:=fun y b=>Cb (t:=iB) hat
   simp only[ax,ab,bG.add,bG.F,Int.toNat_natCast,Nat.zero_add,Nat.add_zero,n1,hop,aQ h,decide_true]
   rw[dv.run (d:=(12,(db r).2)) h1.1.1.1]
   simp only[ax,ab,dv.add,dv.F]
   refine congrArg (fun z=>aK _ _ z) ?_
   simp only[List.length_set,aQ h,ax,BH,ns,z5,zo,Option.isNone_none]
   rw[aq.L3.run (d:=(n,m1,(l.length:Int),(k:Int),(kU 12 (db r).2).1,0,u,l.length,L2,v,(kU 12 (db r).2).2,l.take k,op,(db r).1,0,(0,()),l.drop (k+1),os,[])) ⟨h2,h3.2,0,rfl,by decide,rfl,rfl⟩]
   simp only[ab,aq.L3.add,aq.L3.F,Int.sub_zero,List.nil_append]
   rw[show mr (kU 12 (db r).2).1.toNat (kU 12 (db r).2).2=jE r from rfl,cl.run (d:=(jE r).2) hw.1.1]
   simp only[ab,cl.add,cl.F,Int.toNat_natCast,nm,Cg hat,aQ (show k < (l.take k++(op,((db r).1,some (jE r).1,0,()),())::l.drop (k+1)).length by rw[List.length_append,List.length_cons];omega),Nat.add_assoc,Nat.reduceAdd,decide_true,ax]
   rw[N.kk (by omega)]
  by_cases hp:(kU 12 (db r).2).1 < 0
  ·right
   refine⟨aq.L2.bq (0,()),?_,fun kn kx=> ?_⟩
   ·simp only[aq.L2.add,aq.L2.F,Int.toNat_natCast,hd,List.map_cons,mI,yi,if_pos hp]
    rfl
   ·rw[step,bw hp,ax]
  ·left
   have hl2:(l.take k++(op,((db r).1,some (jE r).1,(iC (jE r).2).1,()),())::l.drop (k+1)).length=l.length:=by
    rw[List.length_append,List.length_cons,List.length_drop];omega
   have hd2:(l.take k++(op,((db r).1,some (jE r).1,(iC (jE r).2).1,()),())::l.drop (k+1)).drop (k+1)=l.drop (k+1):=by
    rw[List.append_cons,List.drop_left' (by rw[List.length_append];show(l.take k).length+1=_;omega)]
   have ht2:(l.take k++(op,((db r).1,some (jE r).1,(iC (jE r).2).1,()),())::l.drop (k+1)).take (k+1)=l.take k++ [(op,((db r).1,some (jE r).1,(iC (jE r).2).1,()),())]:=by
    rw[List.append_cons,List.take_left' (by rw[List.length_append];show(l.take k).length+1=_;omega)]
   refine⟨(n,m1,(l.length:Int),((k+1:Nat):Int),u,l.length,L2,v,(iC (jE r).2).2,l.take k++(op,((db r).1,some (jE r).1,(iC (jE r).2).1,()),())::l.drop (k+1),os),⟨hu.1,by rw[hl2];exact hl,k+1,rfl,by rw[hl2];omega,by rw[hl2],by rw[hl2],by rw[hd2];exact fun x hx=>hg x (by rw[hd];exact List.mem_cons_of_mem _ hx)⟩,by simp only[Int.toNat_natCast,hl2];omega,?_,fun kn kx=> ?_⟩
   ·simp only[aq.L2.add,aq.L2.F,Int.toNat_natCast,hd2,ht2,hd,List.map_cons,mI,yi,if_neg hp,hop2]
    cases mI ((l.drop (k+1)).map (·.1)) (iC (jE r).2).2 with
    |none=>rfl
    |some x=>
     simp only[List.map_cons,List.append_assoc,List.singleton_append]
     rfl
   ·rw[step,bn hp,aw]
 ·right
  obtain rfl:k=l.length:=by omega
  refine⟨aq.L2.eM (n,m1,u,l.length,L2,v,r,l,os),?_,fun kn kx=> ?_⟩
  ·simp only[aq.L2.add,aq.L2.F,Int.toNat_natCast,List.drop_length,List.map_nil,mI,List.take_length,List.append_nil]
   rfl
  ·rw[aq.L2.step,bn (by omega),aw]
theorem B7(l:List j8):(l.map BH).map (·.1)=l:=by
 rw[List.map_map]
 have:((fun x:jR=>x.1)∘BH)=id:=rfl
 rw[this,List.map_id]
theorem aq.ok:aq.Ok:=by
 rintro b ⟨hb,hl⟩
 have hb:Bytes b:=hb
 have hl:b.length≤1000000000:=hl
 have k0:=yS hb hl
 have k1:=tY k0 64
 have u1:=y4 k0.1 (m:=64) (by decide)
 rw[aq.eq,dH.run (d:=b) hl]
 simp only[ab,dH.add,dH.F,aq.add,aq.F,g7]
 rw[dv.run (d:=(64,(b,false,()))) k0.1]
 simp only[ab,dv.add,dv.F]
 generalize kU 64 (b,false,())=n at*
 have o2:=uS n.1.toNat k1
 rw[aq.L0.run (d:=(n.1,n.1,0,(0,()),0,(0,()),n.2,[])) ⟨k1,u1.2,0,rfl,by decide,rfl,rfl⟩]
 simp only[ab,aq.L0.add,aq.L0.F,Int.sub_zero,List.nil_append,Nat.zero_add]
 generalize lR n.1.toNat n.2=ops at*
 have k3:=tY o2.1.1 64
 have u3:=y4 o2.1.1.1 (m:=64) (by decide)
 rw[dv.run (d:=(64,ops.2)) o2.1.1.1]
 simp only[ab,dv.add,dv.F]
 generalize kU 64 ops.2=m at*
 rw[aq.L1.run (d:=(n.1,m.1,m.1,0,(0,()),n.1.toNat,0,(0,()),m.2,ops.1.map BH,[])) ⟨k3,u3.2,0,rfl,by decide,rfl,rfl⟩]
 simp only[ab,aq.L1.add,aq.L1.F,Int.sub_zero,List.nil_append,Nat.zero_add]
 cases hx:mD m.1.toNat m.2 with
 |none=>rfl
 |some x=>
  have o4:=rY _ k3 hx
  have o5:=hP o4.1.1
  have ol:(ops.1.map BH).length=n.1.toNat:=by rw[List.length_map];exact o2.2.1
  simp only[Sum.isLeft_inr,Sum.getRight?_inr,aw,ab]
  rw[bG.run (d:=x.2) o4.1.1.1]
  simp only[ab,bG.add,bG.F]
  rw[aq.L2.run (d:=(n.1,m.1,(n.1.toNat:Int),0,(0,()),n.1.toNat,x.1.length,((db x.2).1,()),(db x.2).2,ops.1.map BH,x.1)) ⟨o5.1.1,by rw[ol];omega,0,rfl,Nat.zero_le _,by rw[ol],by rw[ol],fun z hz=>by
   rw[List.drop_zero]at hz
   obtain⟨o,_,rfl⟩:=List.mem_map.1 hz
   rfl⟩]
  simp only[ab,aq.L2.add,aq.L2.F,Int.toNat_zero,List.drop_zero,List.take_zero,List.nil_append,B7,wc]
  cases hy:mI ops.1 (db x.2).2 with
  |none=>rfl
  |some y=>
   have o6:=sM _ o5.1.1 hy
   have yl:y.1.length=n.1.toNat:=by rw[←o2.2.1,←o6.2.1,List.length_map]
   have yl2:(y.1.map Eh).length=n.1.toNat:=by rw[List.length_map];exact yl
   simp only[Sum.isLeft_inr,Sum.getRight?_inr,aw,ab,vF]
   by_cases c1:n.1 < 0
   ·rw[bw c1,ax,if_pos (Or.inl c1)];rfl
   rw[bn c1,aw]
   by_cases c2:m.1 < 0
   ·rw[bw c2,ax,if_pos (Or.inr (Or.inl c2))];rfl
   rw[bn c2,aw,fw.run (d:=y.2) trivial]
   simp only[ab,fw.add,fw.F,Bool.not_not]
   cases c3:y.2.2.1
   ·rw[aw,dZ.run (d:=y.2) trivial]
    simp only[ab,dZ.add,dZ.F]
    by_cases c4:0 < y.2.1.length
    ·rw[dL (by omega),ax,if_pos (Or.inr (Or.inr (Or.inr (Or.inl c4))))];rfl
    ·rw[dC (by omega),aw,aQ ⟨by trivial,by omega⟩,aQ ⟨by trivial,by omega⟩,fc yl2,fc rfl,CW,Dq]
     simp only[ax]
     rw[al.run (d:=(y.1,x.1,(db x.2).1,())) ⟨fun o ho=>(o4.2.2 o ho).2.2,by show y.1.length≤_;omega,by show x.1.length≤_;have:=o4.2.1;omega⟩]
     simp only[ab,al.add,al.F]
     cases c5:fC (y.1,x.1,(db x.2).1,())
     ·rw[if_pos (Or.inr (Or.inr (Or.inr (Or.inr (by trivial)))))];rfl
     ·rw[if_neg (by
       rintro(z | z | z | z | z)
       ·exact c1 z
       ·exact c2 z
       ·cases z
       ·exact c4 z
       ·cases z)]
      rfl
   ·rw[ax,if_pos (Or.inr (Or.inr (Or.inl (by trivial))))];rfl
noncomputable def aq.E:=Entry.ct [some tB] aq.st aq.aC aq.add aq.F aq.out
noncomputable def aq.call:aq.D→Option aq.X:=bH aq.E aq.st
theorem aq.run:bD aq.call aq.aC aq.add aq.F:=cO (cM [.d tB] fun _=>by kernel_rfl)
noncomputable def aq.sg:SG Tryz.prog:=⟨24,aV,aq.E,.fn 4 (by kernel_rfl) aq.ok (And.intro (.ct aq.L0.ok (by kernel_rfl)) (And.intro (.ct aq.L1.ok (by kernel_rfl)) (And.intro (.ct aq.L2.ok (by kernel_rfl)) (And.intro (.ct aq.L3.ok (by kernel_rfl)) trivial))))⟩
set_option synthInstance.maxSize 5000
theorem sw(k:Int)(m:List Int):CK (gv k m):=by
 unfold gv
 split
 ·exact⟨(Cj _).u,(yn _ _).u⟩
 ·exact⟨⟨Int.le_refl 0,by decide⟩,Int.le_refl 0,by decide⟩
theorem vK:∀(l l':List eU) (b:List Int),l.map (·.1)=l'.map (·.1)→l.foldl qZ b=l'.foldl qZ b
 |[],[],_,_=>rfl
 |[],_::_,_,h=>by cases h
 |_::_,[],_,h=>by cases h
 |x::l,y::l',b,h=>by
  rw[List.map_cons,List.map_cons,List.cons.injEq]at h
  have e:qZ b x=qZ b y:=by unfold qZ;rw[h.1]
  rw[List.foldl_cons,List.foldl_cons,e,vK l l' _ h.2]
theorem zP{l l':List eU}(t:List fM×Int×Unit)(h:l.map (·.1)=l'.map (·.1)):ka (l,t)=ka (l',t):=by
 have hl:l.length=l'.length:=by have:=congrArg List.length h;simpa using this
 unfold ka
 simp only[hl]
 rw[vK l l' _ h]
theorem vT:∀(l l':List eU) (m:List (j8×Bool)),l.map (·.1)=l'.map (·.1)→qP m l=true→(∀x∈l',lV x.2.1=true)→qP m l'=true
 |[],[],_,_,_,_=>rfl
 |[],_::_,_,h,_,_=>by cases h
 |_::_,[],_,h,_,_=>by cases h
 |x::l,y::l',m,h,hi,hw=>by
  rw[List.map_cons,List.map_cons,List.cons.injEq]at h
  rw[qP,Bool.and_eq_true,Bool.and_eq_true]at hi ⊢
  have hx:=hi.1.2
  unfold rN at hx
  rw[Bool.and_eq_true]at hx
  refine⟨⟨?_,?_⟩,?_⟩
  ·have:=hi.1.1
   unfold rL at this ⊢
   rw[←h.1]
   exact this
  ·unfold rN
   rw[←h.1,hx.1,hw y List.mem_cons_self]
   rfl
  ·rw[←h.1]
   exact vT l l' _ h.2 hi.2 fun z hz=>hw z (List.mem_cons_of_mem _ hz)
theorem Bv{l l':List eU}{t:List fM×Int×Unit}(h:l.map (·.1)=l'.map (·.1))(hok:fC (l,t)=true)(hw:∀x∈l',lV x.2.1=true):fC (l',t)=true:=by
 have hl:l.length=l'.length:=by have:=congrArg List.length h;simpa using this
 unfold fC u9 at hok ⊢
 rw[Bool.and_eq_true,Bool.and_eq_true]at hok ⊢
 simp only[hl]at hok
 exact⟨hok.1,vT l l' _ h hok.2.1 hw,hok.2.2⟩
theorem y2{l l':List eU}{t:List fM×Int×Unit}(h:l.map (·.1)=l'.map (·.1))(h1:fC (l,t)=true)(h2:fC (l',t)=true):qI (l',t)=qI (l,t):=by
 unfold qI
 rw[h1,h2,zP t h]
theorem xW{l l':List eU}{t:List fM×Int×Unit}(h:l.map (·.1)=l'.map (·.1))(h1:fC (l,t)=true)(h2:fC (l',t)=true):gU (l',t)=gU (l,t):=by
 unfold gU
 rw[h1,h2]
 exact h.symm
theorem A0{l l':List eU}{t:List fM×Int×Unit}(h:l.map (·.1)=l'.map (·.1))(h1:fC (l,t)=true)(h2:fC (l',t)=true):ld (l',t)=ld (l,t):=by
 unfold ld
 rw[h1,h2,y2 h h1 h2]
def nC(t:eH)(k:Nat)(w:lW):eH:=(t.1.set k ((nth eg t.1 k).1,w,()),t.2)
theorem pE(l:List eU)(k:Nat)(w:lW)(h:k < l.length):l.map (·.1)=(l.set k ((nth eg l k).1,w,())).map (·.1):=by
 have n1:nth eg l k=l[k]:=cj (t:=eg) h
 rw[n1,List.map_set]
 have e:(l[k].1:j8)=(l.map (·.1))[k]'(by rw[List.length_map];exact h):=by rw[List.getElem_map]
 show _=(l.map (·.1)).set k l[k].1
 rw[e,List.set_getElem_self]
theorem wN{l:List eU}{k:Nat}{w:lW}{x:eU}(h:k < l.length)(hx:x∈l.set k ((nth eg l k).1,w,())):x∈l∨(x.1=l[k].1∧x.2.1=w):=by
 have n1:nth eg l k=l[k]:=cj (t:=eg) h
 rw[n1]at hx
 rcases List.mem_or_eq_of_mem_set hx with h1 | h1
 ·exact .inl h1
 ·exact .inr ⟨by rw[h1],by rw[h1]⟩
theorem pF{t:eH}{k:Nat}{w:lW}(h:k < t.1.length)(hok:fC t=true)(hw:lV w=true):fC (nC t k w)=true:=by
 obtain⟨_,b1,_⟩:=im hok
 refine Bv (l:=t.1) (pE t.1 k w h) hok fun x hx=> ?_
 rcases wN h hx with h1 | h1
 ·have:=gp _ _ b1 x h1
  unfold rN at this
  rw[Bool.and_eq_true]at this
  exact this.2
 ·rw[h1.2];exact hw
theorem De{t:eH}{k:Nat}{w:lW}(h:k < t.1.length)(hv:qL t)(hu:qM w)(hl:w.2.1.length≤1000000000):qL (nC t k w):=by
 refine⟨⟨hv.1.1,by show(t.1.set k _).length≤_;rw[List.length_set];exact hv.1.2.1,hv.1.2.2⟩,fun x hx=> ?_,hv.2.2⟩
 rcases wN h hx with h1 | h1
 ·exact hv.2.1 x h1
 ·refine⟨?_,by rw[h1.2];exact hu,by rw[h1.2];exact hl⟩
  rw[h1.1]
  exact(hv.2.1 _ (List.getElem_mem h)).1
theorem Cf{t:eH}{k:Nat}{w:lW}(h:k < t.1.length)(hok:fC t=true)(hw:lV w=true):qI (nC t k w)=qI t∧gU (nC t k w)=gU t∧ld (nC t k w)=ld t:=
 ⟨y2 (l:=t.1) (pE t.1 k w h) hok (pF h hok hw),xW (l:=t.1) (pE t.1 k w h) hok (pF h hok hw),A0 (l:=t.1) (pE t.1 k w h) hok (pF h hok hw)⟩
theorem yX{t:eH}{k:Nat}{w:lW}(h:k < t.1.length):nth eg (nC t k w).1 k=((nth eg t.1 k).1,w,()):=yL (t:=eg) h
theorem wM(t:eH)(k:Nat)(w:lW):(nC t k w).1.length=t.1.length:=List.length_set
def jA(t:eH)(br:Int)(ks:List Int)(sc:Int):lW:=(br,ks.map (fun k=>gv k (qI t)),sc,())
theorem nD(t:eH)(i br:Int)(ks:List Int)(sc:Int):Bm t i br ks sc=if jB t i br ks then(nC t i.toNat (jA t br ks sc),0) else(([],[],0,()),1):=rfl
theorem sy{t:eH}{i br:Int}{ks:List Int}(h:jB t i br ks=true):fC t=true∧(0≤i∧i < t.1.length∧0≤br∧br < 4∧ks.length≤12)∧∀k∈ks,k < 2305843009213688669∧k≠0:=by
 unfold jB at h
 simp only[Bool.and_eq_true,decide_eq_true_eq,Bool.not_eq_true']at h
 refine⟨h.1,h.2.1,fun k hk=> ?_⟩
 have:=h.2.2
 rw[List.any_eq_false]at this
 have:=this k hk
 unfold oW at this
 simpa using this
theorem uW{t:eH}{i br:Int}{ks:List Int}(sc:Int)(h:jB t i br ks=true):lV (jA t br ks sc)=true:=by
 have e:=(sy h).2.1
 unfold lV jA
 rw[aQ ⟨e.2.2.1,e.2.2.2.1⟩,aQ (by rw[List.length_map];exact e.2.2.2.2)]
 rfl
theorem Di(t:eH)(br:Int)(ks:List Int){sc:Int}(h:g9 sc):qM (jA t br ks sc):=⟨fun s hs=>by
  obtain⟨k,_,rfl⟩:=List.mem_map.1 (show s∈ks.map fun k=>gv k (qI t) from hs)
  exact sw k _,h⟩
theorem sz{t:eH}{i br sc:Int}{ks:List Int}(hv:qL t)(h:jB t i br ks=true)(hs:g9 sc):
  fC (nC t i.toNat (jA t br ks sc))=true∧qL (nC t i.toNat (jA t br ks sc))∧qI (nC t i.toNat (jA t br ks sc))=qI t∧gU (nC t i.toNat (jA t br ks sc))=gU t∧ld (nC t i.toNat (jA t br ks sc))=ld t:=by
 obtain⟨hok,e,_⟩:=sy h
 have hk:i.toNat < t.1.length:=by omega
 have hw:=uW sc h
 exact⟨pF hk hok hw,De hk hv (Di t br ks hs) (by show(ks.map _).length≤_;rw[List.length_map];omega),Cf hk hok hw⟩
def Ed(t:eH):Prop:=(∀x∈t.1,Sm x.1.1∧qM x.2.1)∧(∀o∈t.2.1,yk o.2.1)∧t.2.2.1≤9223372036854775807
theorem pI{t:eH}(h:oJ t=true):t.1.length≤66∧t.2.1.length≤66∧(∀x∈t.1,x.2.1.2.1.length≤14)∧∀o∈t.2.1,o.2.1.1.length≤6∧∀b∈o.2.1.1,b.1.length≤14:=by
 unfold oJ at h
 simp only[Bool.and_eq_true,decide_eq_true_eq,List.all_eq_true]at h
 refine⟨h.1.1,h.1.2,fun x hx=> ?_,fun o ho=> ?_⟩
 ·have:=h.2.1 x hx
  unfold jP at this
  simpa using this
 ·have:=h.2.2 o ho
  unfold iA at this
  simp only[Bool.and_eq_true,decide_eq_true_eq,List.all_eq_true]at this
  refine⟨this.1,fun b hb=> ?_⟩
  have:=this.2 b hb
  unfold jO at this
  simpa using this
theorem wX{t:eH}(hg:Ed t)(h:oJ t=true):qL t∧oe t∧Cq t:=by
 obtain⟨h1,h2,h3,h4⟩:=pI h
 refine⟨⟨⟨fun o ho=>⟨hg.2.1 o ho,by have:=(h4 o ho).1;omega⟩,by omega,by omega⟩,fun x hx=>⟨(hg.1 x hx).1,(hg.1 x hx).2,by have:=h3 x hx;omega⟩,hg.2.2⟩,⟨⟨by omega,fun x hx=>by have:=h3 x hx;omega⟩,by omega,fun o ho=>⟨by have:=(h4 o ho).1;omega,fun b hb=>by have:=(h4 o ho).2 b hb;omega⟩⟩,⟨by omega,fun x hx=>by have:=h3 x hx;omega⟩,by omega,fun o ho=>⟨by have:=(h4 o ho).1;omega,fun b hb=>by have:=(h4 o ho).2 b hb;omega⟩⟩
theorem wP{t:eH}(h:fC t=true):oe t:=by
 obtain⟨⟨_,a2,a3,_⟩,b1,b2⟩:=im h
 exact⟨⟨by omega,fun x hx=>by have:=kG (gp _ _ b1 x hx);omega⟩,by omega,fun o ho=>by
  have:=AY (iP _ _ b2 o ho).2
  exact⟨by omega,fun b hb=>by have:=this.2 b hb;omega⟩⟩
theorem l6{α:Type}{f:α→List Int}{l:List α}(h:∀x∈l,Bytes (f x)):Bytes (l.flatMap f):=fun b hb=>by
 obtain⟨x,hx,hb⟩:=List.mem_flatMap.1 hb
 exact h x hx b hb
theorem nj{α:Type}{f:α→List Int}{n:Nat}:∀ {l:List α},(∀x∈l,(f x).length≤n)→(l.flatMap f).length≤n*l.length
 |[],_=>Nat.zero_le _
 |x::l,h=>by
  rw[List.flatMap_cons,List.length_append,List.length_cons,Nat.mul_add,Nat.mul_one]
  have h1:=h x List.mem_cons_self
  have h2:=nj (l:=l) fun y hy=>h y (List.mem_cons_of_mem _ hy)
  omega
theorem tT{t:eH}(hv:qL t):Bytes (sL t)∧(sL t).length≤1000000:=by
 cases hok:fC t
 ·unfold sL
  rw[hok]
  exact⟨fun x hx=>(by cases hx),Nat.zero_le _⟩
 obtain⟨⟨a1,a2,a3,a4⟩,b1,b2⟩:=im hok
 have hin:∀x∈t.1,_:=fun x hx=>kG (gp _ _ b1 x hx)
 rw[u7 hok]
 have n0:∀ {n:Nat},n≤1000→mK (n:Int):=fun h=>jg (by omega)
 have e1:∀x∈t.1,Bytes (xh x.1)∧(xh x.1).length≤43:=fun x hx=>by
  have hi:=hin x hx
  have hr:=gJ x.1.2.1
  have hs:=(hv.2.1 x hx).1
  exact⟨eO hs.2 (gg ⟨hi.1,by omega⟩),by unfold xh;rw[List.length_append,hs.1];omega⟩
 have e2:∀o∈t.2.1,Bytes (lS o)∧(lS o).length≤1022:=fun o ho=>by
  have hi:=(iP _ _ b2 o ho).1
  have hr:=gJ o.1
  have hr2:=gJ (pd o.2.1).length
  have hl:=nP o.2.1
  exact⟨eO (gg ⟨hi.1,by omega⟩) (eO (gg (n0 hl)) (zC _)),by unfold lS;rw[List.length_append,List.length_append];omega⟩
 have e3:∀x∈t.1,Bytes (lC x.2.1)∧(lC x.2.1).length≤300:=fun x hx=>by
  have hi:=hin x hx
  have hr:=gJ x.2.1.1
  have hr2:=gJ x.2.1.2.1.length
  have hf:=nj (f:=Ac) (n:=16) (l:=x.2.1.2.1) fun s _=>by unfold Ac;rw[List.length_append,bO,bO];omega
  refine⟨eO (gg ⟨hi.2.2.1,by omega⟩) (eO (gg (n0 (by omega))) (eO (l6 fun s _=>eO (lM _) (lM _)) (lM _))),?_⟩
  unfold lC
  simp only[List.length_append,bO]
  omega
 have f1:=nj (f:=fun x:eU=>xh x.1) (n:=43) (l:=t.1) fun x hx=>(e1 x hx).2
 have f2:=nj (f:=lS) (n:=1022) (l:=t.2.1) fun x hx=>(e2 x hx).2
 have f3:=nj (f:=fun x:eU=>lC x.2.1) (n:=300) (l:=t.1) fun x hx=>(e3 x hx).2
 have r1:=gJ t.1.length
 have r2:=gJ t.2.1.length
 have r3:=gJ t.2.2.1
 refine⟨eO (gg (n0 (by omega))) (eO (l6 fun x hx=>(e1 x hx).1) (eO (gg (n0 (by omega))) (eO (l6 fun x hx=>(e2 x hx).1) (eO (gg ⟨a4,hv.2.2⟩) (l6 fun x hx=>(e3 x hx).1))))),?_⟩
 unfold Dz
 simp only[List.length_append]
 omega
theorem y1{t:eH}(h:fC t=true):0 < (sL t).length:=by
 rw[u7 h]
 unfold Dz
 rw[List.length_append]
 have:0 < (fj (t.1.length:Int)).length:=by unfold fj;rw[List.length_append];exact Nat.succ_pos _
 omega
theorem yd{t:eH}(h:fC t=false):sL t=[]:=by unfold sL;rw[h];rfl
set_option synthInstance.maxSize 5000
def DT:ByteArray:=⟨#[107,101,121]⟩
abbrev di.D:=Bs
def di.st:di.D→SA:=fun seed=>([.d tH seed],[])
abbrev di.Y:=Int
abbrev di.X:=Int
def di.out:di.X→aZ:=fun x=>⟨.d tu x,[],[]⟩
def di.add:di.D→di.Y→di.X:=fun seed y=>y
def di.aC:di.D→Prop:=fun s=>s.length=32
def di.F:di.D→di.Y:=fun s=>nf (w5 DT [s])
noncomputable def di.G:dQ:=eR (P:=Tryz.prog) [bR.sg,bz.sg]
noncomputable def di.an:eC:= {}
noncomputable def di.A:= @cH Tryz.prog di.G di.an 0 Tryz.f74 _ di.st
abbrev di.Ok:=cI @di.A di.aC di.add di.F di.out
theorem di.eq{R:Type}(seed:Bs)(k:aZ→Option R):di.A seed k=
 aj (bR.call ((⟨#[107,101,121]⟩:ByteArray),[(cut seed 0 32)])) fun x1=>
 aj (bz.call x1) fun x2=>
 k (di.out x2):=by kernel_rfl
theorem di.ok:di.Ok:=by
 intro s h
 have h:s.length=32:=h
 rw[di.eq,fc h]
 rw[bR.run (d:=((⟨#[107,101,121]⟩:ByteArray),[s])) (sE (by decide) (by omega))]
 simp only[ab,bR.add,bR.F]
 rw[bz.run (d:=tag (bg (⟨#[107,101,121]⟩:ByteArray)) [s]) (uZ _ _)]
 rfl
noncomputable def di.E:=Entry.ct [some tH] di.st di.aC di.add di.F di.out
noncomputable def di.call:di.D→Option di.X:=bH di.E di.st
theorem di.run:bD di.call di.aC di.add di.F:=cO (cM [.d tB] fun _=>by kernel_rfl)
noncomputable def di.sg:SG Tryz.prog:=⟨74,aV,di.E,.fn 0 (by kernel_rfl) di.ok trivial⟩
abbrev dg.D:=Int
def dg.st:dg.D→SA:=fun p=>([.d tu p],[])
abbrev dg.Y:=Lk
abbrev dg.X:=Lk
def dg.out:dg.X→aZ:=fun x=>⟨.d j7 x,[],[]⟩
def dg.add:dg.D→dg.Y→dg.X:=fun p y=>y
def dg.aC:dg.D→Prop:=fun _=>True
def dg.F:dg.D→dg.Y:=fun p=>(([([p],0,0,0,())],()):Lk)
noncomputable def dg.G:dQ:=eR (P:=Tryz.prog) []
noncomputable def dg.an:eC:= {}
noncomputable def dg.A:= @cH Tryz.prog dg.G dg.an 0 Tryz.f75 _ dg.st
abbrev dg.Ok:=cI @dg.A dg.aC dg.add dg.F dg.out
theorem dg.eq{R:Type}(p:Int)(k:aZ→Option R):dg.A p k=
 k (dg.out ([([p],((0:Int),((0:Int),((0:Int),()))))],())):=by kernel_rfl
theorem dg.ok:dg.Ok:=by
 intro p _
 rw[dg.eq]
 rfl
noncomputable def dg.E:=Entry.ct [some tu] dg.st dg.aC dg.add dg.F dg.out
noncomputable def dg.call:dg.D→Option dg.X:=bH dg.E dg.st
theorem dg.run:bD dg.call dg.aC dg.add dg.F:=cO (cM [.d tu] fun _=>by kernel_rfl)
noncomputable def dg.sg:SG Tryz.prog:=⟨75,aV,dg.E,.fn 0 (by kernel_rfl) dg.ok trivial⟩
def kK:Int:=2280522697135155589
def pK:Int:=261844167819670384
theorem Eu:nf (w5 DT [1::List.replicate 31 0])=kK:=by decide+kernel
theorem Aj:gA kK=pK:=by decide+kernel
def Cz:Lk:=([([pK],0,0,0,())],())
def kY(n:Int):eU:=((List.replicate 32 0,n,()),(0,[],0,()),())
def t13:eH:=([kY 3,kY 4],[(5,Cz,()),(0,Cz,()),(0,Cz,())],300,())
def xy:eH:=([],[],0,())
def El:eH:=([kY 0,kY 0],[],0,())
theorem A9:fC t13=true:=by decide+kernel
theorem CD:fC xy=false:=by decide+kernel
theorem DY:fC El=false:=by decide+kernel
theorem D2:jB t13 1 2 [kK]=true:=by decide+kernel
theorem D3:jB t13 2 2 [kK]=false:=by decide+kernel
theorem D4:jB t13 1 2 [0]=false:=by decide+kernel
theorem AP(n:Int):ET (kY n):=⟨⟨by show(List.replicate 32 (0:Int)).length=32;rw[List.length_replicate],fun x hx=>by obtain rfl:=(List.mem_replicate.1 hx).2;exact⟨by decide,by decide⟩⟩,⟨fun s hs=>(by cases hs),by show(0:Int)≤0;decide,by show(0:Int) < 18446744073709551616;decide⟩,Nat.zero_le _⟩
theorem DS:CJ Cz:=⟨fun b hb=>by
 have hb:b∈ [(([pK],(0:Int),(0:Int),(0:Int),()):gf)]:=hb
 rw[List.mem_singleton]at hb
 subst hb
 exact⟨fun x hx=>by
  have hx:x∈ [pK]:=hx
  rw[List.mem_singleton]at hx
  subst hx
  exact⟨by decide,by decide⟩,by decide,by decide⟩,by decide⟩
theorem Cl:qL t13:=⟨⟨fun o ho=>by
  have ho:o∈ [((5:Int),Cz,()),(0,Cz,()),(0,Cz,())]:=ho
  simp only[List.mem_cons,List.not_mem_nil,or_false]at ho
  rcases ho with rfl | rfl | rfl <;> exact DS,by decide,by decide⟩,fun x hx=>by
  have hx:x∈ [kY 3,kY 4]:=hx
  simp only[List.mem_cons,List.not_mem_nil,or_false]at hx
  rcases hx with rfl | rfl <;> exact AP _,by decide⟩
theorem D8:qL xy:=⟨⟨fun o ho=>(by cases ho),by decide,by decide⟩,fun x hx=>(by cases hx),by decide⟩
theorem ER:qL El:=⟨⟨fun o ho=>(by cases ho),by decide,by decide⟩,fun x hx=>by
  have hx:x∈ [kY 0,kY 0]:=hx
  simp only[List.mem_cons,List.not_mem_nil,or_false]at hx
  rcases hx with rfl | rfl <;> exact AP _,by decide⟩
theorem vp(k:Int):g9 (gA k):=(wH _ _).u
theorem D6:g9 7:=⟨by decide,by decide⟩
theorem DQ:∀x∈ [kK],g9 x:=fun x hx=>by
 rw[List.mem_singleton]at hx
 subst hx
 exact⟨by decide,by decide⟩
theorem s8:∃(m:List Int) (u:eH) (s:Sg) (bs:List Int),tid.call t13=some m∧bk.call (t13,1,2,[kK],7)=some (u,0)∧bk.call (t13,2,2,[kK],7)=some (xy,1)∧bk.call (t13,1,2,[0],7)=some (xy,1)∧
  aF.call u=some bs∧aq.call bs=some (u,true)∧al.call El=some false∧bu.call t13=some [(m,0,()),(m,1,()),(m,2,())]∧aP.call t13=some [(kY 3).1,(kY 4).1]∧u.1.length=2∧(nth eg u.1 1).2.1=(2,[s],7,())∧
  al.call t13=some true∧tid.call u=some m∧bQ.call (pK,m,s)=some true∧aL.call t13=some 54∧aL.call u=some 66∧dx.call (u,u)=some true∧dx.call (t13,u)=some false∧tid.call xy=some (List.replicate 32 0)∧al.call xy=some false:=by
 have all:=sz Cl D2 D6
 obtain⟨u,hu⟩:∃u,nC t13 (Int.toNat 1) (jA t13 2 [kK] 7)=u:=⟨_,rfl⟩
 have hat:nth eg u.1 1=((nth eg t13.1 1).1,jA t13 2 [kK] 7,()):=by rw[←hu];exact yX (by decide)
 have hlen:u.1.length=2:=by rw[←hu,wM];rfl
 have ho:u.2.1.length=3:=by rw[←hu];rfl
 have hf:u.1=[kY 3,((kY 4).1,jA t13 2 [kK] 7,())]:=by rw[←hu];rfl
 rw[hu]at all
 obtain⟨a1,a2,a3,a4,a5⟩:=all
 have hne:t13≠u:=fun e=>by
  have e1:t13.1=u.1:=by rw[←e]
  rw[hf]at e1
  have e2: [kY 3,kY 4]=[kY 3,((kY 4).1,jA t13 2 [kK] 7,())]:=e1
  rw[List.cons.injEq,List.cons.injEq]at e2
  have e3:(kY 4).2.1.1=(jA t13 2 [kK] 7).1:=by rw[e2.2.1]
  cases e3
 obtain⟨m,hm⟩:∃m,qI t13=m:=⟨_,rfl⟩
 have bl:=tT a2
 refine⟨m,u,gv kK m,sL u,?_,?_,?_,?_,aF.run (d:=u) a2,?_,?_,?_,?_,hlen,?_,?_,?_,?_,?_,?_,?_,?_,?_,?_⟩
 ·rw[←hm];exact tid.run (d:=t13) Cl
 ·rw[bk.run (d:=(t13,1,2,[kK],7)) ⟨Cl,DQ,by decide⟩,←hu]
  simp only[bk.add,bk.F,nD,D2,if_true]
 ·rw[bk.run (d:=(t13,2,2,[kK],7)) ⟨Cl,DQ,by decide⟩]
  simp only[bk.add,bk.F,nD,D3,Bool.false_eq_true,if_false]
  rfl
 ·rw[bk.run (d:=(t13,1,2,[0],7)) ⟨Cl,fun x hx=>by rw[List.mem_singleton]at hx;subst hx;exact⟨by decide,by decide⟩,by decide⟩]
  simp only[bk.add,bk.F,nD,D4,Bool.false_eq_true,if_false]
  rfl
 ·rw[aq.run (d:=sL u) ⟨bl.1,by show(sL u).length≤_;have:=bl.2;omega⟩]
  simp only[aq.add,aq.F,oH a2 a1]
 ·rw[al.run (d:=El) ER.1]
  simp only[al.add,al.F,DY]
 ·rw[bu.run (d:=t13) Cl]
  simp only[bu.add,bu.F]
  unfold ld
  rw[A9,hm]
  rfl
 ·rw[aP.run (d:=t13) Cl.1]
  simp only[aP.add,aP.F]
  unfold gU
  rw[A9]
  rfl
 ·rw[hat]
  show jA t13 2 [kK] 7=_
  unfold jA
  rw[hm]
  rfl
 ·rw[al.run (d:=t13) Cl.1]
  simp only[al.add,al.F,A9]
 ·rw[tid.run (d:=u) a2]
  simp only[tid.add,tid.F,a3,hm]
 ·rw[bQ.run (d:=(pK,m,gv kK m)) ⟨by rw[←Aj];exact vp _,by rw[←hm];exact ye,sw _ _⟩]
  simp only[bQ.add,bQ.F,←Aj]
  rw[yY kK m (by decide) (by decide)]
 ·rw[aL.run (d:=t13) Cl]
  simp only[aL.add,aL.F]
  unfold lB
  rw[A9]
  rfl
 ·rw[aL.run (d:=u) a2]
  simp only[aL.add,aL.F]
  unfold lB
  rw[a1,hf,ho]
  rfl
 ·rw[dx.run (d:=(u,u)) (wP a1)]
  simp only[dx.add,dx.F,decide_true]
 ·rw[dx.run (d:=(t13,u)) (wP A9)]
  simp only[dx.add,dx.F,decide_eq_false hne]
 ·rw[tid.run (d:=xy) D8]
  simp only[tid.add,tid.F]
  unfold qI
  rw[CD]
  rfl
 ·rw[al.run (d:=xy) D8.1]
  simp only[al.add,al.F,CD]
theorem CQ(m:List Int):Ty.beq tH m m=true:=mV tH m rfl
abbrev bC.D:=Unit
def bC.st:bC.D→SA:=fun _=>([],[])
abbrev bC.Y:=Bool
abbrev bC.X:=Bool
def bC.out:bC.X→aZ:=fun x=>⟨.d .bool x,[],[]⟩
def bC.add:bC.D→bC.Y→bC.X:=fun _ y=>y
def bC.aC:bC.D→Prop:=fun _=>True
def bC.F:bC.D→bC.Y:=fun _=>true
noncomputable def bC.G:dQ:=eR (P:=Tryz.prog) [di.sg,df.sg,dg.sg,bk.sg,aF.sg,aq.sg,al.sg,bu.sg,aP.sg,tid.sg,bQ.sg,aL.sg,dx.sg]
noncomputable def bC.an:eC:= {}
noncomputable def bC.A:= @cH Tryz.prog bC.G bC.an 0 Tryz.f21 _ bC.st
abbrev bC.Ok:=cI @bC.A bC.aC bC.add bC.F bC.out
theorem bC.eq{R:Type}(k:aZ→Option R):bC.A () k=
  aj (di.call [(1:Int),(0:Int),(0:Int),(0:Int),(0:Int),(0:Int),(0:Int),(0:Int),(0:Int),(0:Int),(0:Int),(0:Int),(0:Int),(0:Int),(0:Int),(0:Int),(0:Int),(0:Int),(0:Int),(0:Int),(0:Int),(0:Int),(0:Int),(0:Int),(0:Int),(0:Int),(0:Int),(0:Int),(0:Int),(0:Int),(0:Int),(0:Int)]) fun x4=>
  aj (df.call x4) fun x8=>
  aj (dg.call x8) fun x18=>
  aj (dg.call x8) fun x19=>
  aj (dg.call x8) fun x20=>
  aj (bk.call (([(((List.replicate 32 (0:Int)),((3:Int),())),(((0:Int),(([]:List Sg),((0:Int),()))),())),(((List.replicate 32 (0:Int)),((4:Int),())),(((0:Int),(([]:List Sg),((0:Int),()))),()))],([((5:Int),(x18,())),((0:Int),(x19,())),((0:Int),(x20,()))],((300:Int),()))),(1:Int),(2:Int),[x4],(7:Int))) fun x24=>
  aj (bk.call (([(((List.replicate 32 (0:Int)),((3:Int),())),(((0:Int),(([]:List Sg),((0:Int),()))),())),(((List.replicate 32 (0:Int)),((4:Int),())),(((0:Int),(([]:List Sg),((0:Int),()))),()))],([((5:Int),(x18,())),((0:Int),(x19,())),((0:Int),(x20,()))],((300:Int),()))),(2:Int),(2:Int),[x4],(7:Int))) fun x28=>
  aj (bk.call (([(((List.replicate 32 (0:Int)),((3:Int),())),(((0:Int),(([]:List Sg),((0:Int),()))),())),(((List.replicate 32 (0:Int)),((4:Int),())),(((0:Int),(([]:List Sg),((0:Int),()))),()))],([((5:Int),(x18,())),((0:Int),(x19,())),((0:Int),(x20,()))],((300:Int),()))),(1:Int),(2:Int),[(0:Int)],(7:Int))) fun x32=>
  aj (aF.call x24.1) fun x39=>
  aj (aq.call x39) fun x40=>
  aj (al.call ([(((List.replicate 32 (0:Int)),((0:Int),())),(((0:Int),(([]:List Sg),((0:Int),()))),())),(((List.replicate 32 (0:Int)),((0:Int),())),(((0:Int),(([]:List Sg),((0:Int),()))),()))],(([]:List fM),((0:Int),())))) fun x44=>
  aj (bu.call ([(((List.replicate 32 (0:Int)),((3:Int),())),(((0:Int),(([]:List Sg),((0:Int),()))),())),(((List.replicate 32 (0:Int)),((4:Int),())),(((0:Int),(([]:List Sg),((0:Int),()))),()))],([((5:Int),(x18,())),((0:Int),(x19,())),((0:Int),(x20,()))],((300:Int),())))) fun x48=>
  aj (aP.call ([(((List.replicate 32 (0:Int)),((3:Int),())),(((0:Int),(([]:List Sg),((0:Int),()))),())),(((List.replicate 32 (0:Int)),((4:Int),())),(((0:Int),(([]:List Sg),((0:Int),()))),()))],([((5:Int),(x18,())),((0:Int),(x19,())),((0:Int),(x20,()))],((300:Int),())))) fun x52=>
  aK ((jn x24.2 (0:Int))) (
   k (bC.out false)) (
   aK ((jn (((List.length x24.1.1):Nat):Int) (2:Int))) (
    k (bC.out false)) (
    aK (eh (1:Int) (((List.length x24.1.1):Nat):Int)) (
    aK ((jn (((List.length (nth eg x24.1.1 1).2.1.2.1):Nat):Int) (1:Int))) (
     k (bC.out false)) (
     aK ((jn (((List.length x48):Nat):Int) (3:Int))) (
      k (bC.out false)) (
      aK ((jn (((List.length x52):Nat):Int) (2:Int))) (
       k (bC.out false)) (
       aK (eh (1:Int) (((List.length x24.1.1):Nat):Int)) (
       aj (al.call ([(((List.replicate 32 (0:Int)),((3:Int),())),(((0:Int),(([]:List Sg),((0:Int),()))),())),(((List.replicate 32 (0:Int)),((4:Int),())),(((0:Int),(([]:List Sg),((0:Int),()))),()))],([((5:Int),(x18,())),((0:Int),(x19,())),((0:Int),(x20,()))],((300:Int),())))) fun x65=>
       aK (x65) (
        aK ((mM x28.2 (1:Int))) (
         aK ((mM x32.2 (1:Int))) (
          aj (tid.call x24.1) fun x66=>
          aj (tid.call ([(((List.replicate 32 (0:Int)),((3:Int),())),(((0:Int),(([]:List Sg),((0:Int),()))),())),(((List.replicate 32 (0:Int)),((4:Int),())),(((0:Int),(([]:List Sg),((0:Int),()))),()))],([((5:Int),(x18,())),((0:Int),(x19,())),((0:Int),(x20,()))],((300:Int),())))) fun x67=>
          aK ((Ty.beq tH x66 x67)) (
           aj (tid.call ([(((List.replicate 32 (0:Int)),((3:Int),())),(((0:Int),(([]:List Sg),((0:Int),()))),())),(((List.replicate 32 (0:Int)),((4:Int),())),(((0:Int),(([]:List Sg),((0:Int),()))),()))],([((5:Int),(x18,())),((0:Int),(x19,())),((0:Int),(x20,()))],((300:Int),())))) fun x68=>
           aK (eh (0:Int) (((List.length (nth eg x24.1.1 1).2.1.2.1):Nat):Int)) (
           aj (bQ.call (x8,x68,(nth iQ (nth eg x24.1.1 1).2.1.2.1 0))) fun x69=>
           aK (x69) (
            aK ((mM (nth eg x24.1.1 1).2.1.1 (2:Int))) (
             aK ((mM (nth eg x24.1.1 1).2.1.2.2.1 (7:Int))) (
              aj (aL.call ([(((List.replicate 32 (0:Int)),((3:Int),())),(((0:Int),(([]:List Sg),((0:Int),()))),())),(((List.replicate 32 (0:Int)),((4:Int),())),(((0:Int),(([]:List Sg),((0:Int),()))),()))],([((5:Int),(x18,())),((0:Int),(x19,())),((0:Int),(x20,()))],((300:Int),())))) fun x70=>
              aK ((mM x70 (54:Int))) (
               aj (aL.call x24.1) fun x71=>
               aK ((mM x71 (66:Int))) (
                aK (x40.2) (
                 aj (dx.call (x40.1,x24.1)) fun x72=>
                 aK (x72) (
                  aj (dx.call (([(((List.replicate 32 (0:Int)),((3:Int),())),(((0:Int),(([]:List Sg),((0:Int),()))),())),(((List.replicate 32 (0:Int)),((4:Int),())),(((0:Int),(([]:List Sg),((0:Int),()))),()))],([((5:Int),(x18,())),((0:Int),(x19,())),((0:Int),(x20,()))],((300:Int),()))),x24.1)) fun x73=>
                  aK ((!x73)) (
                   aK ((!x44)) (
                    aK (eh (2:Int) (((List.length x48):Nat):Int)) (
                    aj (tid.call ([(((List.replicate 32 (0:Int)),((3:Int),())),(((0:Int),(([]:List Sg),((0:Int),()))),())),(((List.replicate 32 (0:Int)),((4:Int),())),(((0:Int),(([]:List Sg),((0:Int),()))),()))],([((5:Int),(x18,())),((0:Int),(x19,())),((0:Int),(x20,()))],((300:Int),())))) fun x74=>
                    aK ((Ty.beq kA (nth kA x48 2) (x74,((2:Int),())))) (
                     aK (eh (1:Int) (((List.length x52):Nat):Int)) (
                     aK ((Ty.beq kA (nth kA x52 1) ((List.replicate 32 (0:Int)),((4:Int),())))) (
                      aj (tid.call (([]:List eU),(([]:List fM),((0:Int),())))) fun x75=>
                      aK ((Ty.beq tH x75 (List.replicate 32 (0:Int)))) (
                       aj (al.call (([]:List eU),(([]:List fM),((0:Int),())))) fun x76=>
                       k (bC.out (!x76))) (
                       k (bC.out false))) (
                      k (bC.out false))) none) (
                     k (bC.out false))) none) (
                    k (bC.out false))) (
                   k (bC.out false))) (
                  k (bC.out false))) (
                 k (bC.out false))) (
                k (bC.out false))) (
               k (bC.out false))) (
              k (bC.out false))) (
             k (bC.out false))) (
            k (bC.out false))) none) (
           k (bC.out false))) (
          k (bC.out false))) (
         k (bC.out false))) (
        k (bC.out false))) none)))) none)):=by kernel_rfl
theorem bC.ok:bC.Ok:=by
 rintro⟨⟩ _
 obtain⟨m,u,s,bs,f1,f2,f3,f4,f5,f6,f7,f8,f9,f10,f11,f12,f13,f14,f15,f16,f17,f18,f19,f20⟩:=s8
 have c1:di.call (1::List.replicate 31 0)=some kK:=by rw[←Eu];exact di.run (d:=1::List.replicate 31 0) (by show(1::List.replicate 31 (0:Int)).length=32;rw[List.length_cons,List.length_replicate])
 have c2:df.call kK=some pK:=by rw[←Aj];exact df.run (d:=kK) ⟨by decide,by decide⟩
 have c3:dg.call pK=some Cz:=dg.run (d:=pK) trivial
 rw[bC.eq]
 refine(congrArg (fun z=>aj z _) c1).trans ?_
 rw[ab,c2,ab,c3]
 simp only[ab]
 refine(congrArg (fun z=>aj z _) f2).trans ?_
 rw[ab]
 refine(congrArg (fun z=>aj z _) f3).trans ?_
 rw[ab]
 refine(congrArg (fun z=>aj z _) f4).trans ?_
 rw[ab]
 simp only[f5,f6,ab,f10,f11]
 refine(congrArg (fun z=>aj z _) f7).trans ?_
 rw[ab]
 refine(congrArg (fun z=>aj z _) f8).trans ?_
 rw[ab]
 refine(congrArg (fun z=>aj z _) f9).trans ?_
 rw[ab]
 rw[show jn ((2:Nat):Int) 2=false from rfl,bh (by decide) (by decide),show jn (([s].length:Nat):Int) 1=false from rfl,show jn (([(m,(0:Int),()),(m,1,()),(m,2,())].length:Nat):Int) 3=false from rfl,show jn (([(kY 3).1,(kY 4).1].length:Nat):Int) 2=false from rfl]
 simp only[aw,ax,show jn (0:Int) 0=false from rfl]
 refine(congrArg (fun z=>aj z _) f12).trans ?_
 rw[ab,ax,dm rfl,ax,ax,f13,ab]
 refine(congrArg (fun z=>aj z _) f1).trans ?_
 rw[ab,CQ,ax]
 refine(congrArg (fun z=>aj z _) f1).trans ?_
 rw[ab,show eh 0 (([s].length:Nat):Int)=true from rfl,ax]
 refine(congrArg (fun z=>aj z _) f14).trans ?_
 rw[ab,ax,dm rfl,ax,dm rfl,ax]
 refine(congrArg (fun z=>aj z _) f15).trans ?_
 rw[ab,dm rfl,ax,f16,ab,dm rfl,ax,f17,ab,ax]
 refine(congrArg (fun z=>aj z _) f18).trans ?_
 rw[ab]
 simp only[Bool.not_false,ax]
 rw[show eh 2 (([(m,(0:Int),()),(m,1,()),(m,2,())].length:Nat):Int)=true from rfl,ax]
 refine(congrArg (fun z=>aj z _) f1).trans ?_
 rw[ab,rq]
 refine(congrArg (fun z=>aK z _ _) (aQ (p:=((m,(2:Int),()):j8)=(m,2,())) rfl)).trans ?_
 rw[ax,show eh 1 (([(kY 3).1,(kY 4).1].length:Nat):Int)=true from rfl,ax,rq]
 refine(congrArg (fun z=>aK z _ _) (aQ (p:=((List.replicate 32 (0:Int),(4:Int),()):j8)=(List.replicate 32 0,4,())) rfl)).trans ?_
 rw[ax]
 refine(congrArg (fun z=>aj z _) f19).trans ?_
 rw[ab,CQ,ax]
 refine(congrArg (fun z=>aj z _) f20).trans ?_
 rfl
noncomputable def bC.E:=Entry.ct [] bC.st bC.aC bC.add bC.F bC.out
noncomputable def bC.call:bC.D→Option bC.X:=bH bC.E bC.st
theorem bC.run:bD bC.call bC.aC bC.add bC.F:=cO (cM [] fun _=>by kernel_rfl)
noncomputable def bC.sg:SG Tryz.prog:=⟨21,aV,bC.E,.fn 0 (by kernel_rfl) bC.ok trivial⟩
set_option synthInstance.maxSize 5000
abbrev ch.D:=eH×Bs
def ch.st:ch.D→SA:=fun(t,b)=>([.d fD t,.d tB b],[])
abbrev ch.Y:=Bool
abbrev ch.X:=Bool
def ch.out:ch.X→aZ:=fun x=>⟨.d .bool x,[],[]⟩
def ch.add:ch.D→ch.Y→ch.X:=fun(t,b) y=>y
def ch.aC:ch.D→Prop:=fun(t,b)=>Ed t∧Bytes b
def ch.F:ch.D→ch.Y:=fun _=>true
theorem yW(s:ByteArray):seq s s=true:=by simp[seq]
theorem se:g7 []=A4:=by rfl
theorem tO:oe xy:=⟨⟨Nat.zero_le _,fun x hx=>(by cases hx)⟩,Nat.zero_le _,fun x hx=>(by cases hx)⟩
noncomputable def ch.G:dQ:=eR (P:=Tryz.prog) [bC.sg,aa.sg,aF.sg,aq.sg,al.sg,ah.sg]
noncomputable def ch.an:eC:= {}
noncomputable def ch.A:= @cH Tryz.prog ch.G ch.an 0 Tryz.f5 _ ch.st
abbrev ch.Ok:=cI @ch.A ch.aC ch.add ch.F ch.out
theorem ch.eq{R:Type}(t:eH)(b:Bs)(k:aZ→Option R):ch.A (t,b) k=
  aj (bC.call ()) fun x4=>
  aj (aa.call t) fun x8=>
  aK ((!x8)) (
   k (ch.out x4)) (
   aK ((mN (((List.length b):Nat):Int) (5000:Int))) (
    k (ch.out x4)) (
    aj (aF.call t) fun x12=>
    aj (aq.call x12) fun x16=>
    aj (al.call t) fun x23=>
    aK ((!(Ty.beq .bool x23 (mN (((List.length x12):Nat):Int) (0:Int))))) (
     k (ch.out false)) (
     aK ((!(Ty.beq .bool x16.2 (mN (((List.length x12):Nat):Int) (0:Int))))) (
      k (ch.out false)) (
      aK (x16.2) (
       aj (ah.call (x16.1,t)) fun x24=>
       aK ((!x24)) (
        k (ch.out false)) (
        aj (aq.call b) fun x28=>
        aK (x4) (
         aK (x28.2) (
          aj (al.call x28.1) fun x34=>
          aK (x34) (
           aj (aF.call x28.1) fun x35=>
           aK ((seq (fY x35) (fY b))) (
            k (ch.out true)) (
            aK ((!x28.2)) (
             aj (ah.call (x28.1,(([]:List eU),(([]:List fM),((0:Int),()))))) fun x36=>
             k (ch.out x36)) (
             k (ch.out false)))) (
           aK ((!x28.2)) (
            aj (ah.call (x28.1,(([]:List eU),(([]:List fM),((0:Int),()))))) fun x37=>
            k (ch.out x37)) (
            k (ch.out false)))) (
          aK ((!x28.2)) (
           aj (ah.call (x28.1,(([]:List eU),(([]:List fM),((0:Int),()))))) fun x38=>
           k (ch.out x38)) (
           k (ch.out false)))) (
         k (ch.out false)))) (
       aj (aq.call b) fun x42=>
       aK (x4) (
        aK (x42.2) (
         aj (al.call x42.1) fun x48=>
         aK (x48) (
          aj (aF.call x42.1) fun x49=>
          aK ((seq (fY x49) (fY b))) (
           k (ch.out true)) (
           aK ((!x42.2)) (
            aj (ah.call (x42.1,(([]:List eU),(([]:List fM),((0:Int),()))))) fun x50=>
            k (ch.out x50)) (
            k (ch.out false)))) (
          aK ((!x42.2)) (
           aj (ah.call (x42.1,(([]:List eU),(([]:List fM),((0:Int),()))))) fun x51=>
           k (ch.out x51)) (
           k (ch.out false)))) (
         aK ((!x42.2)) (
          aj (ah.call (x42.1,(([]:List eU),(([]:List fM),((0:Int),()))))) fun x52=>
          k (ch.out x52)) (
          k (ch.out false)))) (
        k (ch.out false))))))):=by kernel_rfl
theorem ch.ok:ch.Ok:=by
 intro(t,b) ⟨hg,hb⟩
 rw[ch.eq,bC.run (d:=()) trivial]
 simp only[ab]
 rw[aa.run (d:=t) trivial]
 simp only[ab,aa.add,aa.F,bC.add,bC.F,ch.add,ch.F]
 cases hs:oJ t
 ·rfl
 obtain⟨hv,hsh,_⟩:=wX hg hs
 simp only[Bool.not_true,aw]
 by_cases hl:b.length≤5000
 case neg=>rw[dL (by omega),ax]
 rw[dC (by omega),aw,aF.run (d:=t) hv]
 simp only[ab,aF.add,aF.F]
 have bl:=tT hv
 have c2:aq.call (sL t)=some (g7 (sL t)):=aq.run (d:=sL t) ⟨bl.1,by have:=bl.2;omega⟩
 have c3:al.call t=some (fC t):=al.run (d:=t) hv.1
 have c4:aq.call b=some (g7 b):=aq.run (d:=b) ⟨hb,by omega⟩
 have c5:ah.call (t,t)=some true:=by
  rw[ah.run (d:=(t,t)) hsh]
  simp only[ah.add,ah.F,decide_true]
 have e1:Ty.beq .bool (fC t) (mN (((sL t).length:Nat):Int) 0)=true:=by
  cases hok:fC t
  ·rw[yd hok];rfl
  ·rw[dL (by have:=y1 hok;omega)];rfl
 have e2:Ty.beq .bool (g7 (sL t)).2 (mN (((sL t).length:Nat):Int) 0)=true:=by
  cases hok:fC t
  ·rw[yd hok,se];rfl
  ·rw[oH hv hok,dL (by have:=y1 hok;omega)];rfl
 rw[c2,c3]
 simp only[ab,e1,e2,Bool.not_true,aw]
 have c6:ah.call (xy,xy)=some true:=by
  rw[ah.run (d:=(xy,xy)) tO]
  simp only[ah.add,ah.F,decide_true]
 have c7:ah.call ((([]:List eU),(([]:List fM),((0:Int),()))),(([]:List eU),(([]:List fM),((0:Int),()))))=some true:=c6
 have hT:aq.call b=some ((([]:List eU),(([]:List fM),((0:Int),()))),false)∨∃u,aq.call b=some (u,true)∧al.call u=some true∧aF.call u=some b:=by
  cases hr:(g7 b).2
  ·left
   rw[c4,zS hr]
   rfl
  ·right
   obtain⟨u,e,hok,hu,hbb⟩:=zR hb (by omega) hr
   refine⟨u,by rw[c4,e],?_,?_⟩
   ·rw[al.run (d:=u) hu.1]
    simp only[al.add,al.F,hok]
   ·rw[aF.run (d:=u) hu]
    simp only[aF.add,aF.F,hbb]
 have hU:(g7 (sL t)).2=false∨g7 (sL t)=(t,true):=by
  cases hok:fC t
  ·left
   rw[yd hok,se]
   rfl
  ·exact .inr (oH hv hok)
 rcases hU with h1 | h1 <;> rcases hT with h2 | ⟨u,h2,h3,h4⟩
 ·rw[h1,h2]
  simp only[ab,ax,aw,c7,Bool.not_false]
 ·rw[h1,h2]
  simp only[ab,ax,aw,h3,h4,yW]
 ·rw[h1,h2]
  simp only[ab,ax,aw,c5,c7,Bool.not_false,Bool.not_true]
 ·rw[h1,h2]
  simp only[ab,ax,aw,c5,h3,h4,yW,Bool.not_true]
noncomputable def ch.E:=Entry.ct [some fD,some tB] ch.st ch.aC ch.add ch.F ch.out
noncomputable def ch.call:ch.D→Option ch.X:=bH ch.E ch.st
theorem ch.run:bD ch.call ch.aC ch.add ch.F:=cO (cM [.d fD,.d tB] fun _=>by kernel_rfl)
noncomputable def ch.sg:SG Tryz.prog:=⟨5,aV,ch.E,.fn 0 (by kernel_rfl) ch.ok trivial⟩
set_option synthInstance.maxSize 5000
abbrev ak.L0.D:=Int×Bs×Int×eH×Bool×Int×eH×lW
def ak.L0.st:ak.L0.D→AS:=fun(inv_2,keys_2,secret_2,t_2,head,i,n13,n15)=>⟨([.undef,.d ti inv_2,.undef,.d tU keys_2,.d tu secret_2,.eB fD t_2]++a9 5 ([.d .bool head,.undef,.ptr (.new 13 0) 0 [] 0,.undef,.ptr (.new 15 0) 0 [] 0,.d ti i]++a9 182 [])),[],(bJ 13 ([[.obj 0 false (.d fD n13)],[],[.obj 0 false (.d ri n15)]]++bJ 183 []))⟩
abbrev ak.L0.Y0:=Unit
abbrev ak.L0.X0:=Unit
def ak.L0.bq:ak.L0.X0→Exit×AS:=fun x=>(.ret,⟨(a9 10 ([.d .bool false]++a9 188 [])),[],(List.replicate 199 [])⟩)
abbrev ak.L0.Y1:=Unit
abbrev ak.L0.X1:=Int×Bs×Int×eH×Bool×eH
def ak.L0.eM:ak.L0.X1→Exit×AS:=fun x=>(.exit 0,⟨([.undef,.d ti x.1,.undef,.d tU x.2.1,.d tu x.2.2.1,.eB fD x.2.2.2.1]++a9 5 ([.d .bool x.2.2.2.2.1,.undef,.ptr (.new 13 0) 0 [] 0]++a9 185 [])),[],(bJ 13 ([[.obj 0 false (.d fD x.2.2.2.2.2)]]++bJ 185 []))⟩)
abbrev ak.L0.X:=(ak.L0.X0)⊕(ak.L0.X1)
abbrev ak.L0.Y:=(ak.L0.Y0)⊕(ak.L0.Y1)
def ak.L0.out:ak.L0.X→Out (Exit×AS):=fun x=> .br x.isLeft (.get x.getLeft? fun a=> .ok (ak.L0.bq a)) (.get x.getRight? fun b=> .ok (ak.L0.eM b))
def ak.L0.add:ak.L0.D→ak.L0.Y→ak.L0.X:=fun(inv_2,keys_2,secret_2,t_2,head,i,n13,n15) y=>match y with | .inl y=> .inl y | .inr z=> .inr ((inv_2,keys_2,secret_2,t_2,head,n13))
abbrev ak.L1.D:=Int×Bs×Int×eH×Bool×Int×eH
def ak.L1.st:ak.L1.D→AS:=fun(inv_3,keys_3,secret_3,t_3,head_2,i_2,n13_2)=>⟨([.undef,.d ti inv_3,.undef,.d tU keys_3,.d tu secret_3,.eB fD t_3]++a9 5 ([.d .bool head_2,.undef,.ptr (.new 13 0) 0 [] 0,.undef,.undef,.undef,.d ti i_2]++a9 181 [])),[],(bJ 13 ([[.obj 0 false (.d fD n13_2)]]++bJ 185 []))⟩
abbrev ak.L1.Y0:=Unit
abbrev ak.L1.X0:=Unit
def ak.L1.bq:ak.L1.X0→Exit×AS:=fun x=>(.ret,⟨(a9 10 ([.d .bool false]++a9 188 [])),[],(List.replicate 199 [])⟩)
abbrev ak.L1.Y1:=Unit
abbrev ak.L1.X1:=Int×Bs×Int×eH×Bool×eH
def ak.L1.eM:ak.L1.X1→Exit×AS:=fun x=>(.exit 2,⟨([.undef,.d ti x.1,.undef,.d tU x.2.1,.d tu x.2.2.1,.eB fD x.2.2.2.1]++a9 5 ([.d .bool x.2.2.2.2.1,.undef,.ptr (.new 13 0) 0 [] 0]++a9 185 [])),[],(bJ 13 ([[.obj 0 false (.d fD x.2.2.2.2.2)]]++bJ 185 []))⟩)
abbrev ak.L1.X:=(ak.L1.X0)⊕(ak.L1.X1)
abbrev ak.L1.Y:=(ak.L1.Y0)⊕(ak.L1.Y1)
def ak.L1.out:ak.L1.X→Out (Exit×AS):=fun x=> .br x.isLeft (.get x.getLeft? fun a=> .ok (ak.L1.bq a)) (.get x.getRight? fun b=> .ok (ak.L1.eM b))
def ak.L1.add:ak.L1.D→ak.L1.Y→ak.L1.X:=fun(inv_3,keys_3,secret_3,t_3,head_2,i_2,n13_2) y=>match y with | .inl y=> .inl y | .inr z=> .inr ((inv_3,keys_3,secret_3,t_3,head_2,n13_2))
abbrev ak.mJ.X:=Bool×Int×Int×eH×eH
def ak.mJ.st:ak.mJ.X→AS:=fun(head,f,n,n13,n18)=>⟨(a9 11 ([.d .bool head,.undef,.ptr (.new 13 0) 0 [] 0]++a9 4 ([.ptr (.new 18 0) 0 [] 0,.d ti f,.d ti n]++a9 178 []))),[],(bJ 13 ([[.obj 0 false (.d fD n13)]]++bJ 4 ([[.obj 0 false (.d fD n18)]]++bJ 180 [])))⟩
noncomputable def ak.mJ.J:rj:=rj.of {bm:=[11,13,18,19,20],sites:=[13,18]} ak.mJ.st
noncomputable def ak.mJ.fin:ak.mJ.X→Option ak.mJ.X:=fun x=>(ak.mJ.J).Dx .normal (ak.mJ.st x)
theorem ak.mJ.xE(x:ak.mJ.X):ak.mJ.fin x=some x:=rj.Da (eE [.d .bool,.d ti,.d ti,.d fD,.d fD] fun _=>by kernel_rfl) x
abbrev ak.D:=eH×Int×Int×Bs×Int
def ak.st:ak.D→SA:=fun(t,inv,branch,keys,secret)=>([.d fD t,.d ti inv,.d ti branch,.d tU keys,.d tu secret],[])
abbrev ak.Y:=Bool
abbrev ak.X:=Bool
def ak.out:ak.X→aZ:=fun x=>⟨.d .bool x,[],[]⟩
def ak.add:ak.D→ak.Y→ak.X:=fun(t,inv,branch,keys,secret) y=>y
def ak.L0.aC:ak.L0.D→Prop:=fun(inv,ks,sc,t,hd,i,u,w)=>qL t∧ks.length≤14∧(∀x∈ks,0 < x∧x < 2305843009213688669)∧w.2.1=ks.map (fun k=>gv k (qI t))∧∃k:Nat,k≤ks.length∧i=k
def ak.L0.F:ak.L0.D→ak.L0.Y:=fun _=> .inr ()
def ak.L1.aC:ak.L1.D→Prop:=fun(inv,ks,sc,t,hd,i,u)=>t.1.length≤1000∧u.1.length=t.1.length∧(∀x∈t.1,x.2.1.2.1.length≤1000000000)∧(∀k:Nat,(k:Int)≠inv→nth eg u.1 k=nth eg t.1 k)∧∃k:Nat,k≤t.1.length∧i=k
def ak.L1.F:ak.L1.D→ak.L1.Y:=fun _=> .inr ()
def ak.aC:ak.D→Prop:=fun(t,inv,br,ks,sc)=>Ed t∧(∀x∈ks,g9 x)∧g9 sc
def ak.F:ak.D→ak.Y:=fun _=>true
def tc(x:eU):Int:=(10+8*x.2.1.2.1.length)+(if x.2.1.2.2.1=0 then 0 else 4)
def wS:List eU→Int
 |[]=>0
 |x::l=>tc x+wS l
theorem yy:∀(l:List eU) (n:Int),l.foldl my n=n+wS l
 |[],n=>by rw[wS];exact(Int.add_zero n).symm
 |x::l,n=>by
  have e:my n x=n+tc x:=by unfold my tc;omega
  rw[List.foldl_cons,yy l,e,wS]
  omega
theorem BA:∀(l:List eU) (k:Nat) (x:eU) (h:k < l.length),wS (l.set k x)=wS l - tc l[k]+tc x
 |y::l,0,x,_=>by
  show tc x+wS l=tc y+wS l - tc y+tc x
  omega
 |y::l,k+1,x,h=>by
  have h':k < l.length:=by rw[List.length_cons]at h;omega
  have e:=BA l k x h'
  show tc y+wS (l.set k x)=tc y+wS l - tc l[k]+tc x
  omega
theorem ES(x:eU):0≤tc x∧tc x≤14+8*x.2.1.2.1.length:=by unfold tc;split <;> omega
theorem D9:∀(l:List eU),(∀x∈l,x.2.1.2.1.length≤12)→0≤wS l∧wS l≤200*l.length
 |[],_=>⟨Int.le_refl 0,Int.le_refl 0⟩
 |x::l,h=>by
  have h1:=h x List.mem_cons_self
  have h2:=D9 l fun y hy=>h y (List.mem_cons_of_mem _ hy)
  have h3:=ES x
  rw[wS,List.length_cons]
  omega
theorem qs{t:eH}(h:fC t=true):lB t=10+8*t.2.1.length+wS t.1:=by
 unfold lB
 rw[h]
 exact yy t.1 _
theorem xd{t:eH}(h:fC t=true):0≤lB t∧lB t≤100000:=by
 obtain⟨⟨_,a2,a3,_⟩,b1,b2⟩:=im h
 have:=D9 t.1 fun x hx=>(kG (gp _ _ b1 x hx)).2.2.2.2
 rw[qs h]
 omega
theorem qG{t:eH}{k:Nat}{w:lW}(h:k < t.1.length)(hok:fC t=true)(hw:lV w=true):lB (nC t k w)=lB t - tc t.1[k]+((10+8*w.2.1.length)+(if w.2.2.1=0 then 0 else 4)):=by
 rw[qs (pF h hok hw),qs hok]
 have:=BA t.1 k ((nth eg t.1 k).1,w,()) h
 show 10+8*(t.2.1.length:Int)+wS (t.1.set k ((nth eg t.1 k).1,w,()))=_
 rw[this]
 show _=10+8*(t.2.1.length:Int)+wS t.1 - tc t.1[k]+tc ((nth eg t.1 k).1,w,())
 omega
noncomputable def ak.G:dQ:=eR (P:=Tryz.prog) [bC.sg,aa.sg,bk.sg,ah.sg,tid.sg,al.sg,aP.sg,ay.sg,bu.sg,df.sg,bQ.sg,aT.sg,aL.sg]
noncomputable def ak.L0.E:=bN.ct ak.L0.st ak.L0.aC ak.L0.add ak.L0.F ak.L0.out
noncomputable def ak.L0.call:ak.L0.D→Option ak.L0.X:=dh ak.L0.E ak.L0.st
noncomputable def ak.L1.E:=bN.ct ak.L1.st ak.L1.aC ak.L1.add ak.L1.F ak.L1.out
noncomputable def ak.L1.call:ak.L1.D→Option ak.L1.X:=dh ak.L1.E ak.L1.st
noncomputable def ak.an:eC:= {loops:=jJ [(14,{bm:=[1,3,4,5,11,13,15,16],sites:=[13,15]}),(19,{bm:=[1,3,4,5,11,13,17],sites:=[13]})],outs:=jI [(14,{bm:=[1,3,4,5,11,13],sites:=[13]},{bm:=[10]}),(19,{bm:=[1,3,4,5,11,13],sites:=[13]},{bm:=[10]})],fG:=kh [(14,ak.L0.E),(19,ak.L1.E)],Cy:=kh [(27,ak.mJ.J)]}
noncomputable def ak.A:= @cH Tryz.prog ak.G ak.an 0 Tryz.f6 _ ak.st
abbrev ak.Ok:=cI @ak.A ak.aC ak.add ak.F ak.out
noncomputable def ak.L0.R:= @bX Tryz.prog ak.G ak.an 0 Tryz.f6 0 _ ak.L0.st
abbrev ak.L0.Ok:=eA Tryz.prog ak.G ak.an 0 Tryz.f6 0 ak.L0.st ak.L0.aC ak.L0.add ak.L0.F ak.L0.out
noncomputable def ak.L1.R:= @bX Tryz.prog ak.G ak.an 0 Tryz.f6 1 _ ak.L1.st
abbrev ak.L1.Ok:=eA Tryz.prog ak.G ak.an 0 Tryz.f6 1 ak.L1.st ak.L1.aC ak.L1.add ak.L1.F ak.L1.out
theorem ak.L0.run:bD ak.L0.call ak.L0.aC ak.L0.add ak.L0.F:=eG (eE [.d ti,.d tU,.d tu,.d fD,.d .bool,.d ti,.d fD,.d ri] fun _=>by kernel_rfl)
theorem ak.L0.aG:iZ @ak.L0.R ak.L0.st ak.L0.aC ak.L0.add ak.L0.F ak.L0.out ak.L0.Ok:=jm
theorem ak.L0.step{R:Type}(inv_2:Int)(keys_2:Bs)(secret_2:Int)(t_2:eH)(head:Bool)(i:Int)(n13:eH)(n15:lW)(kn:AS→Option R)(kx:Exit→AS→Option R):ak.L0.R (inv_2,keys_2,secret_2,t_2,head,i,n13,n15) kn kx=
  aK ((gb i (((List.length keys_2):Nat):Int))) (
   aK (eh i (((List.length keys_2):Nat):Int)) (
   aj (df.call (nth tu keys_2 (Int.toNat i))) fun x10=>
   aj (tid.call t_2) fun x11=>
   aK (eh i (((List.length n15.2.1):Nat):Int)) (
   aj (bQ.call (x10,x11,(nth iQ n15.2.1 (Int.toNat i)))) fun x12=>
   aK ((!x12)) (
    kx (ak.L0.bq ()).1 (ak.L0.bq ()).2) (
    kn (ak.L0.st (inv_2,keys_2,secret_2,t_2,head,(bK .i64 i (1:Int)),n13,n15)))) none) none) (
   kx (ak.L0.eM (inv_2,keys_2,secret_2,t_2,head,n13)).1 (ak.L0.eM (inv_2,keys_2,secret_2,t_2,head,n13)).2):=by kernel_rfl
theorem ak.L1.run:bD ak.L1.call ak.L1.aC ak.L1.add ak.L1.F:=eG (eE [.d ti,.d tU,.d tu,.d fD,.d .bool,.d ti,.d fD] fun _=>by kernel_rfl)
theorem ak.L1.aG:iZ @ak.L1.R ak.L1.st ak.L1.aC ak.L1.add ak.L1.F ak.L1.out ak.L1.Ok:=jm
theorem ak.L1.step{R:Type}(inv_3:Int)(keys_3:Bs)(secret_3:Int)(t_3:eH)(head_2:Bool)(i_2:Int)(n13_2:eH)(kn:AS→Option R)(kx:Exit→AS→Option R):ak.L1.R (inv_3,keys_3,secret_3,t_3,head_2,i_2,n13_2) kn kx=
  aK ((gb i_2 (((List.length t_3.1):Nat):Int))) (
   aK ((jn i_2 inv_3)) (
    aK (eh i_2 (((List.length t_3.1):Nat):Int)) (
    aK (eh i_2 (((List.length n13_2.1):Nat):Int)) (
    aj (aT.call ((nth eg t_3.1 (Int.toNat i_2)).2.1,(nth eg n13_2.1 (Int.toNat i_2)).2.1)) fun x4=>
    aK ((!x4)) (
     kx (ak.L1.bq ()).1 (ak.L1.bq ()).2) (
     kn (ak.L1.st (inv_3,keys_3,secret_3,t_3,head_2,(bK .i64 i_2 (1:Int)),n13_2)))) none) none) (
    kn (ak.L1.st (inv_3,keys_3,secret_3,t_3,head_2,(bK .i64 i_2 (1:Int)),n13_2)))) (
   kx (ak.L1.eM (inv_3,keys_3,secret_3,t_3,head_2,n13_2)).1 (ak.L1.eM (inv_3,keys_3,secret_3,t_3,head_2,n13_2)).2):=by kernel_rfl
theorem ak.eq{R:Type}(t:eH)(inv:Int)(branch:Int)(keys:Bs)(secret:Int)(k:aZ→Option R):ak.A (t,inv,branch,keys,secret) k=
  aj (bC.call ()) fun x4=>
  aj (aa.call t) fun x8=>
  aK ((!x8)) (
   k (ak.out x4)) (
   aK ((mN (((List.length keys):Nat):Int) (14:Int))) (
    k (ak.out x4)) (
    aj (bk.call (t,inv,branch,keys,secret)) fun x12=>
    aK ((jn x12.2 (0:Int))) (
     aK (x4) (
      aj (ah.call (x12.1,(([]:List eU),(([]:List fM),((0:Int),()))))) fun x16=>
      k (ak.out x16)) (
      k (ak.out false))) (
     aK ((jn (((List.length x12.1.1):Nat):Int) (((List.length t.1):Nat):Int))) (
      k (ak.out false)) (
      aK ((gb inv (0:Int))) (
       k (ak.out false)) (
       aK ((mO inv (((List.length t.1):Nat):Int))) (
        k (ak.out false)) (
        aj (tid.call x12.1) fun x44=>
        aj (tid.call t) fun x45=>
        aK ((!(Ty.beq tH x44 x45))) (
         k (ak.out false)) (
         aj (al.call x12.1) fun x46=>
         aK ((!x46)) (
          k (ak.out false)) (
          aj (aP.call x12.1) fun x47=>
          aj (aP.call t) fun x48=>
          aj (ay.call (x47,x48)) fun x49=>
          aK ((!x49)) (
           k (ak.out false)) (
           aj (bu.call x12.1) fun x50=>
           aj (bu.call t) fun x51=>
           aj (ay.call (x50,x51)) fun x52=>
           aK ((!x52)) (
            k (ak.out false)) (
            aK (eh inv (((List.length x12.1.1):Nat):Int)) (
            aK ((jn (nth eg x12.1.1 (Int.toNat inv)).2.1.1 branch)) (
             k (ak.out false)) (
             aK ((jn (nth eg x12.1.1 (Int.toNat inv)).2.1.2.2.1 secret)) (
              k (ak.out false)) (
              aK ((jn (((List.length (nth eg x12.1.1 (Int.toNat inv)).2.1.2.1):Nat):Int) (((List.length keys):Nat):Int))) (
               k (ak.out false)) (
               aj (ak.L0.call (inv,keys,secret,t,x4,(0:Int),x12.1,(nth eg x12.1.1 (Int.toNat inv)).2.1)) fun x68=>
               aK (x68.isLeft) (
                aj (x68.getLeft?) fun a69=>
                k (ak.out false)) (
                aj (x68.getRight?) fun b70=>
                aj (ak.L1.call (b70.1,b70.2.1,b70.2.2.1,b70.2.2.2.1,b70.2.2.2.2.1,(0:Int),b70.2.2.2.2.2)) fun x78=>
                aK (x78.isLeft) (
                 aj (x78.getLeft?) fun a79=>
                 k (ak.out false)) (
                 aj (x78.getRight?) fun b80=>
                 aK (eh b80.1 (((List.length b80.2.2.2.1.1):Nat):Int)) (
                 aj (bk.call (b80.2.2.2.2.2,b80.1,(nth eg b80.2.2.2.1.1 (Int.toNat b80.1)).2.1.1,([]:List Int),(0:Int))) fun x84=>
                 aj (
                  aK ((jn b80.2.2.1 (0:Int))) (
                   ak.mJ.fin (b80.2.2.2.2.1,x84.2,(bK .i64 (eS .i64 (8:Int) (((List.length b80.2.1):Nat):Int)) (4:Int)),b80.2.2.2.2.2,x84.1)) (
                   ak.mJ.fin (b80.2.2.2.2.1,x84.2,(eS .i64 (8:Int) (((List.length b80.2.1):Nat):Int)),b80.2.2.2.2.2,x84.1))) fun x85=>
                 aK (x85.1) (
                  aK ((mM x85.2.1 (0:Int))) (
                   aj (aL.call x85.2.2.2.1) fun x88=>
                   aj (aL.call x85.2.2.2.2) fun x89=>
                   k (ak.out (mM x88 (bK .i64 x89 x85.2.2.1)))) (
                   k (ak.out false))) (
                  k (ak.out false))) none)))))) none)))))))))):=by kernel_rfl
theorem ak.L0.ok:ak.L0.Ok:=by
 refine ak.L0.aG (fun(inv,ks,sc,t,hd,i,u,w)=>ks.length - i.toNat) ?_
 rintro⟨inv,ks,sc,t,hd,i,u,w⟩ ⟨hv,hl,hk,hw,k,hkl,rfl⟩
 have hl:ks.length≤14:=hl
 have hkl:k≤ks.length:=hkl
 have hw:w.2.1=ks.map (fun k=>gv k (qI t)):=hw
 have hwl:w.2.1.length=ks.length:=by rw[hw,List.length_map]
 by_cases h:k < ks.length
 ·left
  have n1:nth tu ks k=ks[k]:=cj (t:=tu) h
  have n2:nth iQ w.2.1 k=gv ks[k] (qI t):=by
   rw[show nth iQ w.2.1 k=w.2.1[k]'(by omega) from cj (t:=iQ) (by omega)]
   simp only[hw,List.getElem_map]
  have e:=hk _ (List.getElem_mem h)
  refine⟨(inv,ks,sc,t,hd,((k+1:Nat):Int),u,w),⟨hv,hl,hk,hw,k+1,by omega,rfl⟩,by simp only[Int.toNat_natCast];omega,rfl,fun kn kx=> ?_⟩
  rw[ak.L0.step,bw (by omega),bh (by omega) (by omega),bh (by omega) (by omega),Int.toNat_natCast,n1,n2,N.kk (by omega)]
  rw[df.run (d:=ks[k]) ⟨by omega,by omega⟩,tid.run (d:=t) hv]
  simp only[ax,ab,df.add,df.F,tid.add,tid.F]
  rw[bQ.run (d:=(gA ks[k],qI t,gv ks[k] (qI t))) ⟨vp _,ye,sw _ _⟩]
  simp only[ab,bQ.add,bQ.F]
  rw[yY ks[k] (qI t) e.1 e.2]
  rfl
 ·right
  refine⟨_,rfl,fun kn kx=> ?_⟩
  rw[ak.L0.step,bn (by omega),aw]
theorem ak.L1.ok:ak.L1.Ok:=by
 refine ak.L1.aG (fun(inv,ks,sc,t,hd,i,u)=>t.1.length - i.toNat) ?_
 rintro⟨inv,ks,sc,t,hd,i,u⟩ ⟨hl,hul,hx,hs,k,hkl,rfl⟩
 have hl:t.1.length≤1000:=hl
 have hkl:k≤t.1.length:=hkl
 have hul:u.1.length=t.1.length:=hul
 by_cases h:k < t.1.length
 ·left
  have n1:nth eg t.1 k=t.1[k]:=cj (t:=eg) h
  refine⟨(inv,ks,sc,t,hd,((k+1:Nat):Int),u),⟨hl,hul,hx,hs,k+1,by omega,rfl⟩,by simp only[Int.toNat_natCast];omega,rfl,fun kn kx=> ?_⟩
  rw[ak.L1.step,bw (by omega),N.kk (by omega),ax]
  by_cases hi:(k:Int)=inv
  ·rw[bP hi,aw]
  ·rw[dw hi,ax,bh (by omega) (by omega),ax,bh (by omega) (by omega),ax,Int.toNat_natCast,hs k hi,n1]
   rw[aT.run (d:=(t.1[k].2.1,t.1[k].2.1)) (hx _ (List.getElem_mem h))]
   simp only[ab,aT.add,aT.F,decide_true,Bool.not_true,aw]
 ·right
  refine⟨_,rfl,fun kn kx=> ?_⟩
  rw[ak.L1.step,bn (by omega),aw]
theorem ak.ok:ak.Ok:=by
 intro(t,inv,br,ks,sc) ⟨hg,hk,hsc⟩
 have hk:∀x∈ks,g9 x:=hk
 rw[ak.eq,bC.run (d:=()) trivial]
 simp only[ab]
 rw[aa.run (d:=t) trivial]
 simp only[ab,aa.add,aa.F,bC.add,bC.F,ak.add,ak.F]
 cases hs:oJ t
 ·rfl
 obtain⟨hv,hsh,_⟩:=wX hg hs
 simp only[Bool.not_true,aw]
 by_cases hl:ks.length≤14
 case neg=>rw[dL (by omega),ax]
 rw[dC (by omega),aw,bk.run (d:=(t,inv,br,ks,sc)) ⟨hv,hk,by omega⟩]
 simp only[ab,bk.add,bk.F,nD]
 cases ho:jB t inv br ks
 ·have c6:ah.call ((([]:List eU),(([]:List fM),((0:Int),()))),(([]:List eU),(([]:List fM),((0:Int),()))))=some true:=by
   refine(ah.run (d:=(xy,xy)) tO).trans ?_
   simp only[ah.add,ah.F,decide_true]
  simp only[Bool.false_eq_true,if_false,show jn (1:Int) 0=true from rfl,ax]
  rw[c6,ab]
 obtain⟨hok,hb,hks⟩:=sy ho
 obtain⟨a1,a2,a3,a4,a5⟩:=sz hv ho hsc
 obtain⟨k,rfl⟩:∃k:Nat,inv=k:=⟨inv.toNat,by omega⟩
 have hkl:k < t.1.length:=by omega
 have hn:=(pI hs).1
 have hwk:=uW sc ho
 have hwt:=qG hkl hok hwk
 simp only[if_true,show jn (0:Int) 0=false from rfl,aw,Int.toNat_natCast]at a1 a2 a3 a4 a5 ⊢
 obtain⟨u,hu⟩:∃u,nC t k (jA t br ks sc)=u:=⟨_,rfl⟩
 have hat:nth eg u.1 k=((nth eg t.1 k).1,jA t br ks sc,()):=by rw[←hu];exact yX hkl
 have hul:u.1.length=t.1.length:=by rw[←hu,wM]
 have hat':u.1[k]'(by omega)=((nth eg t.1 k).1,jA t br ks sc,()):=by rw[←hat];exact(cj (t:=eg) (by omega)).symm
 have hoth:∀j:Nat,(j:Int)≠k→nth eg u.1 j=nth eg t.1 j:=fun j hj=>by
  rw[←hu]
  show nth eg (t.1.set k _) j=_
  unfold nth
  rw[List.getD_eq_getElem?_getD,List.getElem?_set_ne (by omega),List.getD_eq_getElem?_getD]
 rw[hu]at a1 a2 a3 a4 a5 hwt ⊢
 rw[bP (by omega),aw,bn (by omega),aw,eI (by omega),aw,tid.run (d:=u) a2,tid.run (d:=t) hv]
 simp only[ab,tid.add,tid.F,a3,CQ,Bool.not_true,aw]
 rw[al.run (d:=u) a2.1,aP.run (d:=u) a2.1,aP.run (d:=t) hv.1]
 simp only[ab,al.add,al.F,a1,Bool.not_true,aw,aP.add,aP.F,a4]
 rw[ay.run (d:=(gU t,gU t)) (by show(gU t).length≤_;unfold gU;rw[hok,if_pos rfl,List.length_map];omega)]
 simp only[ab,ay.add,ay.F,decide_true,Bool.not_true,aw]
 rw[bu.run (d:=u) a2,bu.run (d:=t) hv]
 simp only[ab,bu.add,bu.F,a5]
 rw[ay.run (d:=(ld t,ld t)) (by show(ld t).length≤_;unfold ld pf;rw[hok,if_pos rfl,List.length_map,List.length_range'];have:=(im hok).1.2.2.1;omega)]
 simp only[ab,ay.add,ay.F,decide_true,Bool.not_true,aw]
 rw[bh (by omega) (by omega),ax,hat]
 have w1:(jA t br ks sc).1=br:=rfl
 have w2:(jA t br ks sc).2.2.1=sc:=rfl
 have w3:(jA t br ks sc).2.1.length=ks.length:=List.length_map _
 simp only[w1,w2,w3]
 rw[bP rfl,bP rfl,bP rfl]
 simp only[aw]
 rw[ak.L0.run (d:=((k:Int),ks,sc,t,true,0,u,jA t br ks sc)) ⟨hv,hl,fun x hx=>⟨by have:=(hk x hx).1;have:=(hks x hx).2;omega,(hks x hx).1⟩,rfl,0,Nat.zero_le _,rfl⟩]
 simp only[ab,ak.L0.add,ak.L0.F,Sum.isLeft_inr,aw,Sum.getRight?_inr]
 rw[ak.L1.run (d:=((k:Int),ks,sc,t,true,0,u)) ⟨by have:=(pI hs).1;show t.1.length≤_;omega,hul,fun x hx=>by have:=(pI hs).2.2.1 x hx;omega,hoth,0,Nat.zero_le _,rfl⟩]
 simp only[ab,ak.L1.add,ak.L1.F,Sum.isLeft_inr,aw,Sum.getRight?_inr]
 have n1:nth eg t.1 k=t.1[k]:=cj (t:=eg) hkl
 have hbr:=kG (gp _ _ (im hok).2.1 _ (List.getElem_mem hkl))
 have hoV:jB u (k:Int) t.1[k].2.1.1 []=true:=by
  unfold jB
  rw[a1,aQ ⟨by omega,by omega,hbr.2.2.1,hbr.2.2.2.1,Nat.zero_le _⟩]
  rfl
 rw[bh (by omega) (by omega),ax,Int.toNat_natCast,n1,bk.run (d:=(u,(k:Int),t.1[k].2.1.1,[],0)) ⟨a2,fun x hx=>(by cases hx),Nat.zero_le _⟩]
 simp only[ab,bk.add,bk.F,nD,hoV,if_true,Int.toNat_natCast]
 have b:=sz a2 hoV ⟨Int.le_refl 0,by decide⟩
 simp only[Int.toNat_natCast]at b
 have hwv:=qG (w:=jA u t.1[k].2.1.1 [] 0) (show k < u.1.length by omega) a1 (uW 0 hoV)
 obtain⟨v,hvv⟩:∃v,nC u k (jA u t.1[k].2.1.1 [] 0)=v:=⟨_,rfl⟩
 rw[hvv]at b hwv ⊢
 have e2:tc u.1[k]=10+8*ks.length+(if sc=0 then 0 else 4):=by
  rw[hat']
  unfold tc
  simp only[w2,w3]
 have e3:(jA u t.1[k].2.1.1 [] 0).2.1.length=0:=rfl
 have e4:(jA u t.1[k].2.1.1 [] 0).2.2.1=0:=rfl
 rw[e2,e3,e4,if_pos rfl]at hwv
 have c1:=xd a1
 have c2:=xd b.1
 rw[N.Dy (by omega),fW (by omega) (by omega)]
 simp only[ak.mJ.xE,ab]
 by_cases hz:sc=0
 ·rw[bP hz,aw]
  simp only[ak.mJ.xE,ab,ax,show mM (0:Int) 0=true from rfl]
  rw[aL.run (d:=u) a2,aL.run (d:=v) b.2.1]
  simp only[ab,aL.add,aL.F]
  rw[if_pos hz]at hwv
  rw[fW (by omega) (by omega),dm (by omega)]
 ·rw[dw hz,ax]
  simp only[ak.mJ.xE,ab,ax,show mM (0:Int) 0=true from rfl]
  rw[aL.run (d:=u) a2,aL.run (d:=v) b.2.1]
  simp only[ab,aL.add,aL.F]
  rw[if_neg hz]at hwv
  rw[fW (by omega) (by omega),dm (by omega)]
noncomputable def ak.E:=Entry.ct [some fD,some ti,some ti,some tU,some tu] ak.st ak.aC ak.add ak.F ak.out
noncomputable def ak.call:ak.D→Option ak.X:=bH ak.E ak.st
theorem ak.run:bD ak.call ak.aC ak.add ak.F:=cO (cM [.d fD,.d ti,.d ti,.d tU,.d tu] fun _=>by kernel_rfl)
noncomputable def ak.sg:SG Tryz.prog:=⟨6,aV,ak.E,.fn 2 (by kernel_rfl) ak.ok (And.intro (.ct ak.L0.ok (by kernel_rfl)) (And.intro (.ct ak.L1.ok (by kernel_rfl)) trivial))⟩
end Go.Ab
