/-
  Made short by a program of mine (wip/tools/mini.py).
-/
import Derived.Test.YtglpcfdjdabdnaaGreatS9x4
set_option linter.unusedVariables false
set_option linter.unusedSimpArgs false
namespace Go.Ab
open Go.Proofs
set_option maxRecDepth 100000
set_option linter.unusedVariables false
set_option linter.unusedSimpArgs false
set_option synthInstance.maxSize 5000
theorem eO{a b:List Int}(ha:Bytes a)(hb:Bytes b):Bytes (a++b):=fun x hx=>by
 rcases List.mem_append.1 hx with h | h
 ·exact ha x h
 ·exact hb x h
theorem sJ:∀(f:Nat) (n:Int),0≤n→n < 128^(f+1)→Bytes (eZ f n).1∧uz (eZ f n).2
 | 0,n,h0,h1=>by have h1:n < 128:=h1;exact⟨fun x hx=>(by cases hx),h0,by show n < 256;omega⟩
 |f+1,n,h0,h1=>by
  have e:(128:Int)^(f+1+1)=128^(f+1)*128:=Int.pow_succ 128 (f+1)
  rw[eZ]
  split
  ·have ih:=sJ f (n / 128) (by omega) (by omega)
   refine⟨fun x hx=> ?_,ih.2⟩
   rcases List.mem_cons.1 hx with rfl | hx
   ·exact⟨by omega,by omega⟩
   ·exact ih.1 x hx
  ·exact⟨fun x hx=>(by cases hx),h0,by show n < 256;omega⟩
theorem gf{n:Int}(h:mR n):Bytes (fB n):=by
 have e10:(128:Int)^(10+1)=151115727451828646838272:=rfl
 obtain⟨h0,h1⟩:=h
 have:=sJ 10 n h0 (by rw[e10];omega)
 unfold fB
 exact eO this.1 fun x hx=>by rw[List.mem_singleton]at hx;subst hx;exact this.2
theorem wm:∀(ks:List Int) (o:List Int),js o ks=o++ks.flatMap fM
 |[],o=>by rw[List.flatMap_nil,List.append_nil];rfl
 |k::ks,o=>by
  show js (o++fM k) ks=_
  rw[wm ks,List.flatMap_cons,List.append_assoc]
theorem yc(ks:List Int):Bytes (ks.flatMap fM):=fun x hx=>by
 obtain⟨k,_,hk⟩:=List.mem_flatMap.1 hx
 exact lS k x hk
def B7(b:fU):List Int:=fB b.1.length++(b.1.flatMap fM++(fB b.2.1++(fB b.2.2.1++fM b.2.2.2.1)))
theorem rF(o:List Int){n:Int}(h:0≤n):ee o n=o++fB n:=by rw[ee,if_neg (by omega)]
structure De(b:fU):Prop where
 len:b.1.length≤12
 af:mR b.2.1
 dl:mR b.2.2.1
theorem Dn{b:fU}(h:lQ b=true):De b:=by
 unfold lQ pk at h
 simp only[Bool.and_eq_true,decide_eq_true_eq]at h
 obtain⟨h1,_,h2,h3,_⟩:=h
 exact⟨h1,⟨h2.1,by omega⟩,⟨h3.1,by omega⟩⟩
theorem jh{n:Nat}(h:n≤1000000000):mR (n:Int):=⟨by omega,by omega⟩
theorem Dl(o:List Int){b:fU}(h:De b):B6 o b=o++B7 b:=by
 unfold B6 B7
 rw[rF _ (Int.natCast_nonneg _),wm,rF _ h.af.1,rF _ h.dl.1]
 simp only[List.append_assoc]
theorem yP:∀(bs:List fU) (o:List Int),(∀b∈bs,De b)→bs.foldl B6 o=o++bs.flatMap B7
 |[],o,_=>by rw[List.flatMap_nil,List.append_nil];rfl
 |b::bs,o,h=>by
  rw[List.foldl_cons,Dl o (h b List.mem_cons_self),yP bs _ fun x hx=>h x (List.mem_cons_of_mem _ hx),List.flatMap_cons,List.append_assoc]
theorem ye{l:Lk}(h:gb l=true):(∀b∈l.1,De b)∧0 < l.1.length∧l.1.length≤4:=by
 unfold gb at h
 simp only[Bool.and_eq_true,List.all_eq_true,decide_eq_true_eq]at h
 exact⟨fun b hb=>Dn (h.1 b hb),h.2⟩
theorem Bh{l:Lk}(h:gb l=true):oc l=fB l.1.length++l.1.flatMap B7:=by
 unfold oc
 rw[if_pos h,yP _ _ (ye h).1,rF _ (Int.natCast_nonneg _),List.nil_append]
theorem zB{b:fU}(h:De b):Bytes (B7 b):=
 have h12:=h.len
 eO (gf (jh (by omega))) (eO (yc _) (eO (gf h.af) (eO (gf h.dl) (lS _))))
theorem zV(l:Lk):Bytes (oc l):=by
 cases h:gb l
 ·unfold oc
  rw[h,if_neg (by decide)]
  exact fun x hx=>(by cases hx)
 ·have hk:=ye h
  rw[Bh h]
  refine eO (gf (jh (by omega))) fun x hx=> ?_
  obtain⟨b,hb,hx⟩:=List.mem_flatMap.1 hx
  exact zB (hk.1 b hb) x hx
theorem yq{b:List Int}(h:Bytes b)(hl:b.length≤1000000000)(u:Bool×Unit):ir (b,u):=⟨hl,h⟩
set_option synthInstance.maxSize 5000
def iU:Nat→eN→List Int×eN
 | 0,r=>([],r)
 |k+1,r=>((iC r).1::(iU k (iC r).2).1,(iU k (iC r).2).2)
def lP(k:Nat)(r:eN):fU×eN:=
 (((iU k r).1,(dh (iU k r).2).1,(dh (dh (iU k r).2).2).1,(iC (dh (dh (iU k r).2).2).2).1,()),(iC (dh (dh (iU k r).2).2).2).2)
def lR:Nat→Int→eN→List fU
 | 0,_,_=> []
 |f+1,n,r=>if 0 < n then(if f=0∨12 < (dh r).1 then [] else(lP (dh r).1.toNat (dh r).2).1::lR f (n - 1) (lP (dh r).1.toNat (dh r).2).2) else []
def iX(b:List Int):List fU:=lR 5 (dh (b,false,())).1 (dh (b,false,())).2
theorem u9:∀(k:Nat) (r:eN),ir r→iS (iU k r).1∧(iU k r).1.length=k∧ir (iU k r).2
 | 0,r,h=>⟨fun x hx=>(by cases hx),rfl,h⟩
 |k+1,r,h=>by
  have e:=qI h
  have ih:=u9 k _ e.2
  refine⟨fun x hx=> ?_,by rw[iU,List.length_cons,ih.2.1],ih.2.2⟩
  rcases List.mem_cons.1 hx with rfl | hx
  ·exact e.1
  ·exact ih.1 x hx
theorem yM(k:Nat)(r:eN)(h:ir r):CS (lP k r).1∧(lP k r).1.1.length=k∧ir (lP k r).2:=by
 have h1:=u9 k r h
 have h2:=iF h1.2.2
 have h3:=iF h2.2.2
 have h4:=qI h3.2.2
 exact⟨⟨h1.1,h4.1⟩,h1.2.1,h4.2⟩
theorem AM:∀(f:Nat) (n:Int) (r:eN),ir r→(∀b∈lR f n r,CS b)∧(lR f n r).length≤f
 | 0,n,r,h=>⟨fun x hx=>(by cases hx),Nat.le_refl _⟩
 |f+1,n,r,h=>by
  have h1:=iF h
  have h2:=yM (dh r).1.toNat _ h1.2.2
  have ih:=AM f (n - 1) _ h2.2.2
  rw[lR]
  split
  ·split
   ·exact⟨fun x hx=>(by cases hx),Nat.zero_le _⟩
   ·refine⟨fun x hx=> ?_,by rw[List.length_cons];omega⟩
    rcases List.mem_cons.1 hx with rfl | hx
    ·exact h2.1
    ·exact ih.1 x hx
  ·exact⟨fun x hx=>(by cases hx),Nat.zero_le _⟩
theorem ze{b:List Int}(h:Bytes b)(hl:b.length≤1000000000):qd (iX b,())∧(iX b).length≤5:=by
 have e:=AM 5 (dh (b,false,())).1 _ (iF (yq h hl (false,()))).2.2
 exact⟨e.1,e.2⟩
theorem tV:∀(ks:List Int) (rest:List Int),iS ks→iU ks.length (ks.flatMap fM++rest,false,())=(ks,(rest,false,()))
 |[],rest,_=>rfl
 |k::ks,rest,h=>by
  have e:iC ((k::ks).flatMap fM++rest,false,())=(k,(ks.flatMap fM++rest,false,())):=by
   rw[List.flatMap_cons,List.append_assoc]
   exact nL k (h k List.mem_cons_self) _
  have ih:=tV ks rest fun x hx=>h x (List.mem_cons_of_mem _ hx)
  rw[List.length_cons,iU,e,ih]
theorem zx(b:fU)(hb:CS b)(hk:De b)(rest:List Int):lP b.1.length (b.1.flatMap fM++(fB b.2.1++(fB b.2.2.1++(fM b.2.2.2.1++rest))),false,())=(b,(rest,false,())):=by
 unfold lP
 rw[tV _ _ hb.1]
 simp only[]
 rw[nE _ hk.af,nE _ hk.dl,nL _ hb.2]
theorem AL(b:fU)(rest:List Int):B7 b++rest=fB b.1.length++(b.1.flatMap fM++(fB b.2.1++(fB b.2.2.1++(fM b.2.2.2.1++rest)))):=by
 unfold B7
 simp only[List.append_assoc]
theorem vU:∀(bs:List fU) (f:Nat) (rest:List Int),(∀b∈bs,CS b)→(∀b∈bs,De b)→bs.length+1≤f→lR f bs.length (bs.flatMap B7++rest,false,())=bs
 |[],0,rest,_,_,h=>absurd h (by simp)
 |[],f+1,rest,_,_,_=>by
  rw[lR,if_neg (by show ¬(0:Int) < ((0:Nat):Int);omega)]
 |b::bs,0,rest,_,_,h=>absurd h (by simp)
 |b::bs,f+1,rest,hu,hk,h=>by
  have ub:=hu b List.mem_cons_self
  have kb:=hk b List.mem_cons_self
  have h:bs.length+1+1≤f+1:=h
  have e:(b::bs).flatMap B7++rest=fB b.1.length++(b.1.flatMap fM++(fB b.2.1++(fB b.2.2.1++(fM b.2.2.2.1++(bs.flatMap B7++rest))))):=by rw[List.flatMap_cons,List.append_assoc,AL]
  have h12:=kb.len
  rw[lR,if_pos (by rw[List.length_cons];omega),e,nE _ (jh (by omega))]
  simp only[Int.toNat_natCast]
  rw[if_neg (by omega),zx b ub kb]
  simp only[]
  rw[show((b::bs).length:Int) - 1=(bs.length:Int) by rw[List.length_cons];omega,vU bs f rest (fun x hx=>hu x (List.mem_cons_of_mem _ hx)) (fun x hx=>hk x (List.mem_cons_of_mem _ hx)) (by omega)]
theorem Af{l:Lk}(hu:qd l)(hok:gb l=true)(rest:List Int):iX (oc l++rest)=l.1:=by
 have hk:=ye hok
 unfold iX
 rw[Bh hok,List.append_assoc,nE _ (jh (by omega))]
 exact vU l.1 5 rest hu hk.1 (by omega)
def mK(b:List Int):Lk×Bool:=if gb (iX b,())=true∧oc (iX b,())=b then((iX b,()),true) else(([],()),false)
theorem uf{l:Lk}(hu:qd l)(hok:gb l=true):mK (oc l)=(l,true):=by
 have e:iX (oc l)=l.1:=by have e:=Af hu hok [];rw[List.append_nil]at e;exact e
 unfold mK
 rw[e]
 have e2:((l.1,()):Lk)=l:=rfl
 rw[e2,if_pos ⟨hok,rfl⟩]
theorem BE{b:List Int}(h:(mK b).2=true):∃l:Lk,gb l=true∧oc l=b∧mK b=(l,true)∧l=(iX b,()):=by
 unfold mK at h ⊢
 split at h
 ·rename_i hc
  exact⟨(iX b,()),hc.1,hc.2,by rw[if_pos hc],rfl⟩
 ·cases h
set_option synthInstance.maxSize 5000
abbrev aS.L0.D:=Bs×Int×Int×Nat×eN×(List fU)
def aS.L0.st:aS.L0.D→AS:=fun(b_2,n,i,n5L,n11,n51)=>⟨([.d tB b_2,.undef,.ptr (.new 2 0) 0 [] 0,.undef,.ptr (.new 11 0) 0 [] 0,.ptr (.new 5 0) 0 [] 0,.d ti n,.d ti i]++bg 57 []),[],([[],[],[.obj 0 false (.pr (.cY) (.d .unit ()))],[],[],[.obj 0 false (.pr (.cf (.new 51 0) 0 [] 0 0 n5L) (.d .unit ()))]]++bN 5 ([[.obj 0 false (.d ja n11)]]++bN 39 ([[.obj 0 false (.vec 85 fk n51)]]++bN 13 [])))⟩
abbrev aS.L0.Y0:=Bs×Nat×(List fU)
abbrev aS.L0.X0:=Bs×Nat×(List fU)
def aS.L0.bt:aS.L0.X0→Exit×AS:=fun x=>(.exit 0,⟨([.d tB x.1,.undef,.ptr (.new 2 0) 0 [] 0,.undef,.undef,.ptr (.new 5 0) 0 [] 0]++bg 59 []),[],([[],[],[.obj 0 false (.pr (.cY) (.d .unit ()))],[],[],[.obj 0 false (.pr (.cf (.new 51 0) 0 [] 0 0 x.2.1) (.d .unit ()))]]++bN 45 ([[.obj 0 false (.vec 85 fk x.2.2)]]++bN 13 []))⟩)
abbrev aS.L0.X:=aS.L0.X0
abbrev aS.L0.Y:=aS.L0.Y0
def aS.L0.out:aS.L0.X→Out (Exit×AS):=fun x=> .ok (aS.L0.bt x)
def aS.L0.add:aS.L0.D→aS.L0.Y→aS.L0.X:=fun(b_2,n,i,n5L,n11,n51) y=>y
abbrev aS.L1.D:=Bs×Int×Int×Int×Int×Nat×Nat×(Int×(Int×(Int×Unit)))×eN×(List Int)×(List fU)
def aS.L1.st:aS.L1.D→AS:=fun(b_3,n_2,i_2,t27,t28,n5L_2,n8L,n8,n11_2,n35,n51_2)=>⟨([.d tB b_3,.undef,.ptr (.new 2 0) 0 [] 0,.undef,.ptr (.new 11 0) 0 [] 0,.ptr (.new 5 0) 0 [] 0,.d ti n_2,.d ti i_2,.ptr (.new 8 0) 0 [] 0]++bg 18 ([.d ti t27,.d ti t28]++bg 36 [])),[],([[],[],[.obj 0 false (.pr (.cY) (.d .unit ()))],[],[],[.obj 0 false (.pr (.cf (.new 51 0) 0 [] 0 0 n5L_2) (.d .unit ()))],[],[],[.obj 0 false (.pr (.cf (.new 35 0) 0 [] 0 0 n8L) (.d (.pair ti (.pair ti (.pair tu .unit))) n8))],[],[],[.obj 0 false (.d ja n11_2)]]++bN 23 ([[.obj 0 false (.vec 58 tu n35)]]++bN 15 ([[.obj 0 false (.vec 85 fk n51_2)]]++bN 13 [])))⟩
abbrev aS.L1.Y0:=Nat×eN×(List Int)
abbrev aS.L1.X0:=(Bs×Int×Int×Nat×(Int×(Int×(Int×Unit)))×(List fU))×(Nat×eN×(List Int))
def aS.L1.bt:aS.L1.X0→Exit×AS:=fun x=>(.exit 2,⟨([.d tB x.1.1,.undef,.ptr (.new 2 0) 0 [] 0,.undef,.ptr (.new 11 0) 0 [] 0,.ptr (.new 5 0) 0 [] 0,.d ti x.1.2.1,.d ti x.1.2.2.1,.ptr (.new 8 0) 0 [] 0]++bg 56 []),[],([[],[],[.obj 0 false (.pr (.cY) (.d .unit ()))],[],[],[.obj 0 false (.pr (.cf (.new 51 0) 0 [] 0 0 x.1.2.2.2.1) (.d .unit ()))],[],[],[.obj 0 false (.pr (.cf (.new 35 0) 0 [] 0 0 x.2.1) (.d (.pair ti (.pair ti (.pair tu .unit))) x.1.2.2.2.2.1))],[],[],[.obj 0 false (.d ja x.2.2.1)]]++bN 23 ([[.obj 0 false (.vec 58 tu x.2.2.2)]]++bN 15 ([[.obj 0 false (.vec 85 fk x.1.2.2.2.2.2)]]++bN 13 [])))⟩)
abbrev aS.L1.X:=aS.L1.X0
abbrev aS.L1.Y:=aS.L1.Y0
def aS.L1.out:aS.L1.X→Out (Exit×AS):=fun x=> .ok (aS.L1.bt x)
def aS.L1.add:aS.L1.D→aS.L1.Y→aS.L1.X:=fun(b_3,n_2,i_2,t27,t28,n5L_2,n8L,n8,n11_2,n35,n51_2) y=>((b_3,n_2,i_2,n5L_2,n8,n51_2),y)
abbrev aS.D:=Bs
def aS.st:aS.D→SA:=fun b=>([.d tB b],[])
abbrev aS.Y:=Lk×Bool
abbrev aS.X:=Lk×Bool
def aS.out:aS.X→a9:=fun x=>⟨.cons (.d jo x.1) (.cons (.d .bool x.2) (.nil)),[],[]⟩
def aS.add:aS.D→aS.Y→aS.X:=fun b y=>y
def aS.L1.aB:aS.L1.D→Prop:=fun(b,n,i,t,j,m1,m2,x,r,ks,bs)=>ir r∧ks.length=m2∧m2≤1000∧∃k c:Nat,j=k∧t=c∧k≤c∧c≤12∧m2=k
def aS.L1.F:aS.L1.D→aS.L1.Y:=fun(b,n,i,t,j,m1,m2,x,r,ks,bs)=>(m2+(t - j).toNat,(iU (t - j).toNat r).2,ks++(iU (t - j).toNat r).1)
def aS.L0.aB:aS.L0.D→Prop:=fun(b,n,i,m,r,bs)=>ir r∧n≤9223372036854775807∧bs.length=m∧∃k:Nat,i=k∧k≤4∧m=k
def aS.L0.F:aS.L0.D→aS.L0.Y:=fun(b,n,i,m,r,bs)=>(b,m+(lR (5 - i.toNat) (n - i) r).length,bs++lR (5 - i.toNat) (n - i) r)
def aS.aB:aS.D→Prop:=fun b=>Bytes b∧b.length≤1000000000
def aS.F:aS.D→aS.Y:=fun b=>mK b
noncomputable def aS.G:dS:=eR (P:=Tryz.prog) [dI.sg,bF.sg,ck.sg,aK.sg,aD.sg,bT.sg]
noncomputable def aS.L0.E:=bO.cz aS.L0.st aS.L0.aB aS.L0.add aS.L0.F aS.L0.out
noncomputable def aS.L0.call:aS.L0.D→Option aS.L0.X:=dk aS.L0.E aS.L0.st
noncomputable def aS.L1.E:=bO.cz aS.L1.st aS.L1.aB aS.L1.add aS.L1.F aS.L1.out
noncomputable def aS.L1.call:aS.L1.D→Option aS.L1.X:=dk aS.L1.E aS.L1.st
noncomputable def aS.an:eA:= {loops:=jY [(5,{bm:=[0,2,4,5,6,7],sites:=[2,5,11,51],ix:=[⟨5,[.fst],51,22⟩]}),(11,{bm:=[0,2,4,5,6,7,8,27,28],sites:=[2,5,8,11,35,51],ix:=[⟨8,[.fst],35,83⟩]})],outs:=jX [(5,{bm:=[0,2,5],sites:=[2,5,51]},{bm:=[2,3]}),(11,{bm:=[0,2,4,5,6,7,8],sites:=[2,5,8,11,35,51]},{bm:=[2,3]})],fJ:=kF [(5,aS.L0.E),(11,aS.L1.E)],res:=[some jo,none]}
noncomputable def aS.A:= @cJ Tryz.prog aS.G aS.an 0 Tryz.f11 _ aS.st
abbrev aS.Ok:=cK @aS.A aS.aB aS.add aS.F aS.out
noncomputable def aS.L0.R:= @cg Tryz.prog aS.G aS.an 0 Tryz.f11 0 _ aS.L0.st
abbrev aS.L0.Ok:=eB Tryz.prog aS.G aS.an 0 Tryz.f11 0 aS.L0.st aS.L0.aB aS.L0.add aS.L0.F aS.L0.out
noncomputable def aS.L1.R:= @cg Tryz.prog aS.G aS.an 0 Tryz.f11 1 _ aS.L1.st
abbrev aS.L1.Ok:=eB Tryz.prog aS.G aS.an 0 Tryz.f11 1 aS.L1.st aS.L1.aB aS.L1.add aS.L1.F aS.L1.out
theorem aS.L0.run:bC aS.L0.call aS.L0.aB aS.L0.add aS.L0.F:=eI (eD [.d tB,.d ti,.d ti,.n,.d ja,.d (.slice fk)] fun _=>by kernel_rfl)
theorem aS.L0.aG:fR @aS.L0.R aS.L0.st aS.L0.aB aS.L0.add aS.L0.F aS.L0.bt aS.L0.Ok:=fV
theorem aS.L0.step{R:Type}(b_2:Bs)(n:Int)(i:Int)(n5L:Nat)(n11:eN)(n51:(List fU))(kn:AS→Option R)(kx:Exit→AS→Option R):aS.L0.R (b_2,n,i,n5L,n11,n51) kn kx=
  aJ ((fZ i n)) (
   ah (bF.call n11) fun x22=>
   aJ ((kI i (4:Int))) (
    kx (aS.L0.bt (b_2,n5L,n51)).1 (aS.L0.bt (b_2,n5L,n51)).2) (
    aJ ((oJ x22.1 (12:Int))) (
     kx (aS.L0.bt (b_2,n5L,n51)).1 (aS.L0.bt (b_2,n5L,n51)).2) (
     ah (aS.L1.call (b_2,n,i,x22.1,(0:Int),n5L,0,((0:Int),((0:Int),((0:Int),()))),x22.2,([]:List Int),n51)) fun x24=>
     ah (bF.call x24.2.2.1) fun x31=>
     ah (bF.call x31.2) fun x32=>
     ah (ck.call x32.2) fun x36=>
     aJ (decide (0=0∧(0+x24.2.1)≤(List.length x24.2.2.2))) (
     aJ (decide (x24.1.2.2.2.1≤(List.length x24.1.2.2.2.2.2))) (
     aJ (dm (x24.1.2.2.2.1+1) 48) (
     kn (aS.L0.st (x24.1.1,x24.1.2.1,(bM .i64 x24.1.2.2.1 (1:Int)),(x24.1.2.2.2.1+1),x36.2,((List.take x24.1.2.2.2.1 x24.1.2.2.2.2.2)++ [((cut x24.2.2.2 0 x24.2.1),(x31.1,(x32.1,(x36.1,x24.1.2.2.2.2.1.2.2.2))))])))) none) none) none))) (
   kx (aS.L0.bt (b_2,n5L,n51)).1 (aS.L0.bt (b_2,n5L,n51)).2):=by kernel_rfl
theorem aS.L1.run:bC aS.L1.call aS.L1.aB aS.L1.add aS.L1.F:=eI (eD [.d tB,.d ti,.d ti,.d ti,.d ti,.n,.n,.d (.pair ti (.pair ti (.pair tu .unit))),.d ja,.d tU,.d (.slice fk)] fun _=>by kernel_rfl)
theorem aS.L1.aG:fR @aS.L1.R aS.L1.st aS.L1.aB aS.L1.add aS.L1.F aS.L1.bt aS.L1.Ok:=fV
theorem aS.L1.step{R:Type}(b_3:Bs)(n_2:Int)(i_2:Int)(t27:Int)(t28:Int)(n5L_2:Nat)(n8L:Nat)(n8:(Int×(Int×(Int×Unit))))(n11_2:eN)(n35:(List Int))(n51_2:(List fU))(kn:AS→Option R)(kx:Exit→AS→Option R):aS.L1.R (b_3,n_2,i_2,t27,t28,n5L_2,n8L,n8,n11_2,n35,n51_2) kn kx=
  aJ ((fZ t28 t27)) (
   ah (ck.call n11_2) fun x4=>
   aJ (decide (n8L≤(List.length n35))) (
   aJ (dm (n8L+1) 8) (
   kn (aS.L1.st (b_3,n_2,i_2,t27,(bM .i64 t28 (1:Int)),n5L_2,(n8L+1),n8,x4.2,((List.take n8L n35)++ [x4.1]),n51_2))) none) none) (
   kx (aS.L1.bt ((b_3,n_2,i_2,n5L_2,n8,n51_2),(n8L,n11_2,n35))).1 (aS.L1.bt ((b_3,n_2,i_2,n5L_2,n8,n51_2),(n8L,n11_2,n35))).2):=by kernel_rfl
theorem aS.eq{R:Type}(b:Bs)(k:a9→Option R):aS.A b k=
  ah (dI.call b) fun x4=>
  ah (bF.call x4) fun x6=>
  ah (aS.L0.call (b,x6.1,(0:Int),0,x6.2,([]:List fU))) fun x96=>
  aJ (decide (0=0∧(0+x96.2.1)≤(List.length x96.2.2))) (
  ah (aK.call ((cut x96.2.2 0 x96.2.1),())) fun x106=>
  aJ ((!x106)) (
   k (aS.out ((([]:List fU),()),false))) (
   aJ (decide (0=0∧(0+x96.2.1)≤(List.length x96.2.2))) (
   ah (aD.call ((cut x96.2.2 0 x96.2.1),())) fun x107=>
   ah (bT.call (x107,x96.1)) fun x108=>
   aJ ((!x108)) (
    k (aS.out ((([]:List fU),()),false))) (
    aJ (decide (0=0∧(0+x96.2.1)≤(List.length x96.2.2))) (
    k (aS.out (((cut x96.2.2 0 x96.2.1),()),true))) none)) none)) none:=by kernel_rfl
theorem aS.L1.ok:aS.L1.Ok:=by
 refine aS.L1.aG (fun(b,n,i,t,j,m1,m2,x,r,ks,bs)=>(t - j).toNat) ?_
 rintro⟨b,n,i,t,j,m1,m2,x,r,ks,bs⟩ ⟨hr,hks,hm,k,c,rfl,rfl,hkc,hc,hmk⟩
 have hr:ir r:=hr
 have hks:ks.length=m2:=hks
 have hmk:m2=k:=hmk
 by_cases h:k < c
 ·left
  have e1:((c:Int) - (k:Int)).toNat=(c - (k+1))+1:=by omega
  have e2:((c:Int) - ((k+1:Nat):Int)).toNat=c - (k+1):=by omega
  refine⟨(b,n,i,(c:Int),((k+1:Nat):Int),m1,m2+1,x,(iC r).2,ks++ [(iC r).1],bs),⟨(qI hr).2,by rw[List.length_append];show ks.length+1=_;omega,by omega,k+1,c,rfl,rfl,by omega,hc,by omega⟩,by show((c:Int) - ((k+1:Nat):Int)).toNat < ((c:Int) - (k:Int)).toNat;omega,?_,fun kn kx=> ?_⟩
  ·simp only[aS.L1.add,aS.L1.F,e1,e2,iU,List.append_assoc,List.singleton_append]
   rw[show m2+1+(c - (k+1))=m2+(c - (k+1)+1) by omega]
  ·rw[aS.L1.step,bu (by omega),ck.run (d:=r) hr]
   simp only[aa,av,ck.add,ck.F]
   rw[aO (by omega),eE (by omega) (by omega),N.kM (by omega),List.take_of_length_le (by omega)]
   rfl
 ·right
  obtain rfl:k=c:=by omega
  intro R kn kx
  rw[aS.L1.step,bj (by omega),ay]
  simp only[aS.L1.add,aS.L1.F,Int.sub_self,Int.toNat_zero,iU,List.append_nil,Nat.add_zero]
theorem aS.L0.ok:aS.L0.Ok:=by
 refine aS.L0.aG (fun(b,n,i,m,r,bs)=>5 - i.toNat) ?_
 rintro⟨b,n,i,m,r,bs⟩ ⟨hr,hn,hbs,k,rfl,hk,hmk⟩
 have hr:ir r:=hr
 have hn:n≤9223372036854775807:=hn
 have hbs:bs.length=m:=hbs
 have hmk:m=k:=hmk
 have e0:5 - (k:Int).toNat=(4 - k)+1:=by rw[Int.toNat_natCast];omega
 have g1:=iF hr
 by_cases h:(k:Int) < n
 ·have hp:0 < n - (k:Int):=by omega
  by_cases hc:4 - k=0∨12 < (dh r).1
  ·right
   intro R kn kx
   have eb:lR ((4 - k)+1) (n - (k:Int)) r=[]:=by rw[lR,if_pos hp,if_pos hc]
   rw[aS.L0.step,bu h,bF.run (d:=r) hr]
   simp only[aa,av,bF.add,bF.F,aS.L0.add,aS.L0.F,e0,eb,List.length_nil,Nat.add_zero,List.append_nil]
   by_cases h4:(k:Int)=4
   ·rw[cl h4,av]
   ·rw[eP h4,ay,ek (by omega),av]
  ·left
   have h4:¬(k:Int)=4:=by omega
   have hkn:¬(dh r).1 > 12:=by omega
   obtain⟨c,hcn⟩:∃c:Nat,(dh r).1=c:=⟨(dh r).1.toNat,by omega⟩
   have hbd:=yM c _ g1.2.2
   have gk:=u9 c _ g1.2.2
   have ga:=iF gk.2.2
   have gd:=iF ga.2.2
   have eb:lR ((4 - k)+1) (n - (k:Int)) r=(lP c (dh r).2).1::lR (4 - k) (n - (k:Int) - 1) (lP c (dh r).2).2:=by
    rw[lR,if_pos hp,if_neg hc,hcn,Int.toNat_natCast]
   have e1:5 - ((k+1:Nat):Int).toNat=4 - k:=by rw[Int.toNat_natCast];omega
   refine⟨(b,n,((k+1:Nat):Int),m+1,(lP c (dh r).2).2,bs++ [(lP c (dh r).2).1]),⟨hbd.2.2,hn,by rw[List.length_append];show bs.length+1=_;omega,k+1,rfl,by omega,by omega⟩,by simp only[Int.toNat_natCast];omega,?_,fun kn kx=> ?_⟩
   ·simp only[aS.L0.add,aS.L0.F,e0,e1,eb,List.append_assoc,List.singleton_append,List.length_cons]
    rw[show n - ((k+1:Nat):Int)=n - (k:Int) - 1 by omega,show m+1+(lR (4 - k) (n - (k:Int) - 1) (lP c (dh r).2).2).length=m+((lR (4 - k) (n - (k:Int) - 1) (lP c (dh r).2).2).length+1) by omega]
   ·rw[aS.L0.step,bu h,bF.run (d:=r) hr]
    simp only[aa,av,bF.add,bF.F]
    rw[eP h4,ay,dR hkn,ay,hcn,aS.L1.run (d:=(b,n,(k:Int),(c:Int),0,m,0,(0,0,0,()),(dh r).2,[],bs)) ⟨g1.2.2,rfl,by decide,0,c,rfl,rfl,Nat.zero_le _,by omega,rfl⟩]
    simp only[aa,aS.L1.add,aS.L1.F,Int.sub_zero,Int.toNat_natCast,Nat.zero_add,List.nil_append]
    rw[bF.run (d:=(iU c (dh r).2).2) gk.2.2]
    simp only[aa,bF.add,bF.F]
    rw[bF.run (d:=(dh (iU c (dh r).2).2).2) ga.2.2]
    simp only[aa,bF.add,bF.F]
    rw[ck.run (d:=(dh (dh (iU c (dh r).2).2).2).2) gd.2.2]
    simp only[aa,ck.add,ck.F]
    rw[aO ⟨by trivial,by rw[gk.2.1];exact Nat.le_refl _⟩,aO (by omega),eE (by omega) (by omega),N.kM (by omega),List.take_of_length_le (by omega),fg gk.2.1]
    rfl
 ·right
  intro R kn kx
  have eb:lR ((4 - k)+1) (n - (k:Int)) r=[]:=by rw[lR,if_neg (by omega)]
  rw[aS.L0.step,bj h,ay]
  simp only[aS.L0.add,aS.L0.F,e0,eb,List.length_nil,Nat.add_zero,List.append_nil]
theorem aS.ok:aS.Ok:=by
 rintro b ⟨hb,hl⟩
 have hb:Bytes b:=hb
 have hl:b.length≤1000000000:=hl
 have g0:=yq hb hl (false,())
 have g1:=iF g0
 have gu:=ze hb hl
 rw[aS.eq,dI.run (d:=b) hl]
 simp only[aa,dI.add,dI.F]
 rw[bF.run (d:=(b,false,())) g0]
 simp only[aa,bF.add,bF.F]
 rw[aS.L0.run (d:=(b,(dh (b,false,())).1,0,0,(dh (b,false,())).2,[])) ⟨g1.2.2,g1.2.1,rfl,0,rfl,by decide,rfl⟩]
 simp only[aa,aS.L0.add,aS.L0.F,Int.toNat_zero,Nat.sub_zero,Int.sub_zero,Nat.zero_add,List.nil_append,Nat.le_refl,and_self,decide_true,av,fg]
 rw[show lR 5 (dh (b,false,())).1 (dh (b,false,())).2=iX b from rfl]
 have hL1:((iX b,()):Lk).1.length≤1000000000:=by show(iX b).length≤_;omega
 rw[aK.run (d:=(iX b,())) ⟨gu.1,hL1⟩]
 simp only[aa,aK.add,aK.F,aS.add,aS.F,mK]
 cases hok:gb (iX b,())
 ·rw[if_neg (by rintro⟨x,_⟩;cases x)];rfl
 ·rw[aD.run (d:=(iX b,())) ⟨gu.1,hL1⟩]
  simp only[Bool.not_true,ay,aa,aD.add,aD.F]
  rw[bT.run (d:=(oc (iX b,()),b)) (by show(oc _).length≤_;have:=ml (iX b,());omega)]
  simp only[aa,bT.add,bT.F]
  by_cases hx:oc (iX b,())=b
  ·rw[aO hx,if_pos ⟨by trivial,hx⟩];rfl
  ·rw[aM hx,if_neg (fun y=>hx y.2)];rfl
noncomputable def aS.E:=Entry.cz [some tB] aS.st aS.aB aS.add aS.F aS.out
noncomputable def aS.call:aS.D→Option aS.X:=bH aS.E aS.st
theorem aS.run:bC aS.call aS.aB aS.add aS.F:=cQ (cP [.d tB] fun _=>by kernel_rfl)
noncomputable def aS.sg:SG Tryz.prog:=⟨11,aU,aS.E,.fn 2 (by kernel_rfl) aS.ok (And.intro (.cz aS.L0.ok (by kernel_rfl)) (And.intro (.cz aS.L1.ok (by kernel_rfl)) trivial))⟩
set_option synthInstance.maxSize 5000
def nr(r:eN):List Int×eN:=((gA 32 r).1++List.drop (gA 32 r).1.length (List.replicate 32 (0:Int)),(gA 32 r).2)
def mS(r:eN):List Int×eN:=if(dh r).2.2.1=true then([],(dh r).2) else gA (dh r).1.toNat (dh r).2
def oU(most:Int)(r:eN):Int×eN:=(if(dh r).1 > most then -1 else(dh r).1,(dh r).2)
def Db(r:eN):kg×eN:=(((nr r).1,(dh (nr r).2).1,()),(dh (nr r).2).2)
def od:Nat→eN→List kg×eN
 | 0,r=>([],r)
 |k+1,r=>((Db r).1::(od k (Db r).2).1,(od k (Db r).2).2)
def sA(r:eN):gh×eN:=(((dh r).1,(mK (mS (dh r).2).1).1,()),(mS (dh r).2).2)
def mJ:Nat→eN→Option (List gh×eN)
 | 0,r=>some ([],r)
 |k+1,r=>if(mK (mS (dh r).2).1).2=true then(match mJ k (sA r).2 with
  |some x=>some ((sA r).1::x.1,x.2)
  |none=>none) else none
def Dd(r:eN):Sg×eN:=(((iC r).1,(iC (iC r).2).1,()),(iC (iC r).2).2)
def mB:Nat→eN→List Sg×eN
 | 0,r=>([],r)
 |k+1,r=>((Dd r).1::(mB k (Dd r).2).1,(mB k (Dd r).2).2)
def jH(r:eN):List Sg×eN:=mB (oU 12 (dh r).2).1.toNat (oU 12 (dh r).2).2
def yF(r:eN):Option (l7×eN):=if(oU 12 (dh r).2).1 < 0 then none else some (((dh r).1,(jH r).1,(iC (jH r).2).1,()),(iC (jH r).2).2)
def mP:List kg→eN→Option (List fD×eN)
 |[],r=>some ([],r)
 |o::l,r=>match yF r with
  |none=>none
  |some w=>match mP l w.2 with
   |none=>none
   |some x=>some ((o,w.1,())::x.1,x.2)
def DD:fb×Bool:=(([],[],0,()),false)
def AX(n m:Int)(t:fb)(r:eN):fb×Bool:=if n < 0∨m < 0∨r.2.1=true∨0 < r.1.length∨gn t=false then DD else(t,true)
def Bn(n m:Int)(ops:List kg)(os:List gh)(r:eN):fb×Bool:=match mP ops (dh r).2 with
 |none=>DD
 |some x=>AX n m (x.1,os,(dh r).1,()) x.2
def vm(b:List Int):fb×Bool:=
 let n:=oU 64 (b,false,())
 let ops:=od n.1.toNat n.2
 let m:=oU 64 ops.2
 match mJ m.1.toNat m.2 with
 |none=>DD
 |some x=>Bn n.1 m.1 ops.1 x.1 x.2
def yj(o:kg):List Int:=o.1++fB o.2.1
def lY(o:gh):List Int:=fB o.1++(fB (oc o.2.1).length++oc o.2.1)
def Aw(s:Sg):List Int:=fM s.1++fM s.2.1
def lH(w:l7):List Int:=fB w.1++(fB w.2.1.length++(w.2.1.flatMap Aw++fM w.2.2.1))
def EM(t:fb):List Int:=fB t.1.length++(t.1.flatMap (fun x=>yj x.1)++(fB t.2.1.length++(t.2.1.flatMap lY++(fB t.2.2.1++t.1.flatMap fun x=>lH x.2.1))))
theorem lU{α:Type}(f:List Int→α→List Int)(w:α→List Int):∀(l:List α) (b:List Int),(∀x∈l,∀b,f b x=b++w x)→l.foldl f b=b++l.flatMap w
 |[],b,_=>by simp
 |x::l,b,h=>by
  rw[List.foldl_cons,h x List.mem_cons_self,lU f w l _ fun y hy=>h y (List.mem_cons_of_mem _ hy),List.flatMap_cons,List.append_assoc]
theorem kX(b:List Int){n:Int}(h:0≤n):ee b n=b++fB n:=by unfold ee;rw[if_neg (by omega)]
theorem BX{t:fb}(hok:gn t=true):BW t=EM t:=by
 obtain⟨⟨_,a2,a3,a4⟩,b1,b2⟩:=jE hok
 have e1:∀b,t.1.foldl rv b=b++t.1.flatMap fun x=>yj x.1:=fun b=>lU _ _ _ _ fun x hx b=>by
  have:=mj (g8 _ _ b1 x hx)
  unfold rv yj
  rw[kX _ this.1,List.append_assoc]
 have e2:∀b,t.2.1.foldl ri b=b++t.2.1.flatMap lY:=fun b=>lU _ _ _ _ fun o ho b=>by
  have:=(iR _ _ b2 o ho).1
  unfold ri lY
  rw[kX _ this.1,List.append_assoc]
 have e3:∀(l:List Sg) b,l.foldl sN b=b++l.flatMap Aw:=fun l b=>lU _ _ _ _ fun s _ b=>by
  unfold sN Aw
  rw[List.append_assoc]
 have e4:∀b,t.1.foldl yE b=b++t.1.flatMap fun x=>lH x.2.1:=fun b=>lU _ _ _ _ fun x hx b=>by
  have:=mj (g8 _ _ b1 x hx)
  unfold yE lH
  rw[e3,kX _ this.2.2.1,kX _ (by omega)]
  simp only[List.append_assoc]
 unfold BW ki EM
 rw[if_pos hok,e4,kX _ a4,e2,kX _ (by omega),e1,kX _ (by omega),List.nil_append]
 simp only[List.append_assoc]
theorem uq{n:Nat}(a rest:List Int)(h:a.length=n):gA n (a++rest,false,())=(a,(rest,false,())):=by
 unfold gA
 rw[if_neg (by
  intro x
  rcases x with x | x
  ·cases x
  ·have x:(a++rest).length < n:=x
   rw[List.length_append]at x
   omega)]
 show((a++rest).take n,((a++rest).drop n,false,()))=_
 rw[List.take_left' h,List.drop_left' h]
theorem zO(a rest:List Int)(h:a.length=32):nr (a++rest,false,())=(a,(rest,false,())):=by
 unfold nr
 rw[uq a rest h]
 simp only[h]
 rw[show List.drop 32 (List.replicate 32 (0:Int))=[] from rfl,List.append_nil]
theorem lX(n:Int)(h:mR n)(rest:List Int):dh (fB n++rest,false,())=(n,(rest,false,())):=nE n h rest _
theorem AO(a rest:List Int)(h:a.length≤1000000000):mS (fB a.length++(a++rest),false,())=(a,(rest,false,())):=by
 unfold mS
 rw[lX _ (jh (by omega))]
 simp only[Bool.false_eq_true,if_false,Int.toNat_natCast]
 exact uq a rest rfl
theorem vA{n m:Int}(h:mR n)(hm:n≤m)(rest:List Int):oU m (fB n++rest,false,())=(n,(rest,false,())):=by
 unfold oU
 rw[lX n h]
 simp only[if_neg (show ¬n > m by omega)]
theorem wT:∀(l:List kg) (rest:List Int),(∀o∈l,o.1.length=32∧mR o.2.1)→od l.length (l.flatMap yj++rest,false,())=(l,(rest,false,()))
 |[],rest,_=>rfl
 |o::l,rest,h=>by
  obtain⟨h1,h2⟩:=h o List.mem_cons_self
  have e:Db ((o::l).flatMap yj++rest,false,())=(o,(l.flatMap yj++rest,false,())):=by
   unfold Db yj
   rw[List.flatMap_cons,List.append_assoc,List.append_assoc,zO _ _ h1]
   simp only[]
   rw[lX _ h2]
  rw[List.length_cons,od,e,wT l rest fun x hx=>h x (List.mem_cons_of_mem _ hx)]
theorem uc:∀(l:List gh) (rest:List Int),(∀o∈l,mR o.1∧gb o.2.1=true∧qd o.2.1)→mJ l.length (l.flatMap lY++rest,false,())=some (l,(rest,false,()))
 |[],rest,_=>rfl
 |o::l,rest,h=>by
  obtain⟨h1,h2,h3⟩:=h o List.mem_cons_self
  have hl:=ml o.2.1
  have e0:dh ((o::l).flatMap lY++rest,false,())=(o.1,(fB (oc o.2.1).length++(oc o.2.1++(l.flatMap lY++rest)),false,())):=by
   rw[List.flatMap_cons]
   unfold lY
   simp only[List.append_assoc]
   exact lX _ h1 _
  have e1:mS (dh ((o::l).flatMap lY++rest,false,())).2=(oc o.2.1,(l.flatMap lY++rest,false,())):=by rw[e0];exact AO _ _ (by omega)
  have e2:sA ((o::l).flatMap lY++rest,false,())=(o,(l.flatMap lY++rest,false,())):=by
   unfold sA
   rw[e1,e0,uf h3 h2]
  rw[List.length_cons,mJ,e1,uf h3 h2,if_pos rfl,e2,uc l rest fun x hx=>h x (List.mem_cons_of_mem _ hx)]
theorem xh:∀(l:List Sg) (rest:List Int),(∀s∈l,gm s.1∧gm s.2.1)→mB l.length (l.flatMap Aw++rest,false,())=(l,(rest,false,()))
 |[],rest,_=>rfl
 |s::l,rest,h=>by
  obtain⟨h1,h2⟩:=h s List.mem_cons_self
  have e:Dd ((s::l).flatMap Aw++rest,false,())=(s,(l.flatMap Aw++rest,false,())):=by
   unfold Dd Aw
   rw[List.flatMap_cons,List.append_assoc,List.append_assoc,nL _ h1]
   simp only[]
   rw[nL _ h2]
  rw[List.length_cons,mB,e,xh l rest fun x hx=>h x (List.mem_cons_of_mem _ hx)]
theorem B4(w:l7)(rest:List Int)(hw:l9 w)(hb:mR w.1)(h12:w.2.1.length≤12):yF (lH w++rest,false,())=some (w,(rest,false,())):=by
 have e0:dh (lH w++rest,false,())=(w.1,(fB w.2.1.length++(w.2.1.flatMap Aw++(fM w.2.2.1++rest)),false,())):=by
  unfold lH
  simp only[List.append_assoc]
  exact lX _ hb _
 have e1:oU 12 (dh (lH w++rest,false,())).2=((w.2.1.length:Int),(w.2.1.flatMap Aw++(fM w.2.2.1++rest),false,())):=by
  rw[e0]
  exact vA (jh (by omega)) (by omega) _
 have e2:jH (lH w++rest,false,())=(w.2.1,(fM w.2.2.1++rest,false,())):=by
  unfold jH
  rw[e1]
  exact xh _ _ hw.1
 unfold yF
 rw[e1,if_neg (by show ¬(w.2.1.length:Int) < 0;omega),e2,e0]
 simp only[]
 rw[nL _ hw.2]
theorem uw:∀(l:List fD) (rest:List Int),(∀x∈l,l9 x.2.1∧mR x.2.1.1∧x.2.1.2.1.length≤12)→mP (l.map (·.1)) (l.flatMap (fun x=>lH x.2.1)++rest,false,())=some (l,(rest,false,()))
 |[],rest,_=>rfl
 |x::l,rest,h=>by
  obtain⟨h1,h2,h3⟩:=h x List.mem_cons_self
  rw[List.flatMap_cons,List.append_assoc,List.map_cons,mP,B4 _ _ h1 h2 h3]
  simp only[]
  rw[uw l rest fun y hy=>h y (List.mem_cons_of_mem _ hy)]
theorem yr{t:fb}(hv:rH t)(hok:gn t=true):vm (BW t)=(t,true):=by
 obtain⟨⟨a1,a2,a3,a4⟩,b1,b2⟩:=jE hok
 have hin:∀x∈t.1,_:=fun x hx=>mj (g8 _ _ b1 x hx)
 have hnt:=hv.2.2
 rw[BX hok]
 have e1:=vA (n:=(t.1.length:Int)) (m:=64) (jh (by omega)) (by omega) (t.1.flatMap (fun x=>yj x.1)++(fB t.2.1.length++(t.2.1.flatMap lY++(fB t.2.2.1++t.1.flatMap fun x=>lH x.2.1))))
 have ef:t.1.flatMap (fun x=>yj x.1)=(t.1.map (·.1)).flatMap yj:=by rw[List.flatMap_map]
 have e2:=wT (t.1.map (·.1)) (fB t.2.1.length++(t.2.1.flatMap lY++(fB t.2.2.1++t.1.flatMap fun x=>lH x.2.1))) fun o ho=>by
  obtain⟨x,hx,rfl⟩:=List.mem_map.1 ho
  exact⟨(hv.2.1 x hx).1.1,(hin x hx).1,by have:=(hin x hx).2.1;omega⟩
 rw[←ef,List.length_map]at e2
 have e3:=vA (n:=(t.2.1.length:Int)) (m:=64) (jh (by omega)) (by omega) (t.2.1.flatMap lY++(fB t.2.2.1++t.1.flatMap fun x=>lH x.2.1))
 have e4:=uc t.2.1 (fB t.2.2.1++t.1.flatMap fun x=>lH x.2.1) fun o ho=>by
  have:=iR _ _ b2 o ho
  exact⟨⟨this.1.1,by omega⟩,this.2,(hv.1.1 o ho).1⟩
 have e5:=lX t.2.2.1 ⟨a4,hnt⟩ (t.1.flatMap fun x=>lH x.2.1)
 have e6:=uw t.1 [] fun x hx=>⟨(hv.2.1 x hx).2.1,⟨(hin x hx).2.2.1,by have:=(hin x hx).2.2.2.1;omega⟩,(hin x hx).2.2.2.2⟩
 rw[List.append_nil]at e6
 unfold vm EM
 simp only[e1,Int.toNat_natCast,e2,e3,e4]
 unfold Bn
 simp only[e5,e6]
 unfold AX
 rw[if_neg]
 rintro(x | x | x | x | x)
 ·omega
 ·omega
 ·cases x
 ·simp at x
 ·rw[show((t.1,t.2.1,t.2.2.1,()):fb)=t from rfl,hok]at x
  cases x
def jb(r:eN):Prop:=ir r∧(r.2.1=true→r.1=[])
def Ov(r r':eN)(e:List Int):Prop:=jb r'∧(r'.2.1=false→r.2.1=false∧r.1=e++r'.1)
theorem Ov.trans{r r1 r2:eN}{e1 e2:List Int}(h1:Ov r r1 e1)(h2:Ov r1 r2 e2):Ov r r2 (e1++e2):=
 ⟨h2.1,fun h=>⟨(h1.2 (h2.2 h).1).1,by rw[(h1.2 (h2.2 h).1).2,(h2.2 h).2,List.append_assoc]⟩⟩
theorem Ov.of{r r':eN}{e e':List Int}(h:Ov r r' e)(he:r'.2.1=false→e=e'):Ov r r' e':=⟨h.1,fun h'=>by rw[←he h'];exact h.2 h'⟩
theorem Ov.refl{r:eN}(h:jb r):Ov r r []:=⟨h,fun h'=>⟨h',rfl⟩⟩
theorem Cl:jb ph:=⟨uR,fun _=>rfl⟩
theorem v9(r:eN)(e:List Int):Ov r ph e:=⟨Cl,fun h=>by cases h⟩
theorem CF{b:List Int}(hb:Bytes b)(hl:b.length≤1000000000):jb (b,false,()):=⟨yq hb hl (false,()),fun h=>by cases h⟩
theorem sU{r:eN}(h:jb r)(n:Nat):Ov r (gA n r).2 (gA n r).1∧((gA n r).2.2.1=false→(gA n r).1.length=n):=by
 have hb:=(kH (n:=n) h.1).2.2
 revert hb
 unfold gA
 split
 ·exact fun _=>⟨v9 _ _,fun h=>by cases h⟩
 ·rename_i hc
  intro hb
  have h1:r.2.1=false:=by cases hr:r.2.1 with | false=>rfl | true=>exact absurd (Or.inl hr) hc
  have h2:¬r.1.length < n:=fun x=>hc (Or.inr x)
  exact⟨⟨⟨hb,fun(hx:r.2.1=true)=>by rw[h1]at hx;cases hx⟩,fun _=>⟨h1,(List.take_append_drop n r.1).symm⟩⟩,fun _=>by show(r.1.take n).length=n;rw[List.length_take];omega⟩
theorem sL(f:Nat){d:Int}(h:d < 128):eZ f d=([],d):=by
 cases f with
 |zero=>rfl
 |succ f=>rw[eZ,if_neg (by omega)]
theorem wP:∀(l:List Int) (a:Nat) (n:Int) (v:Int×Nat),Bytes l→a≤9→kV l a n= .inl v→
  ∃w rest,v.1=n+w*128^a∧0≤w∧(a=0∨0 < w)∧w < 128^(9 - a)∧l=(eZ (8 - a) w).1++(eZ (8 - a) w).2::rest∧v.2=a+(eZ (8 - a) w).1.length+1
 |[],a,n,v,_,_,h=>by cases h
 |d::l,a,n,v,hb,ha,h=>by
  obtain⟨x1,x2⟩:=hb d List.mem_cons_self
  rw[kV]at h
  split at h
  ·cases h
  rename_i hc
  have ha8:a≤8:=by omega
  have e9:(128:Int)^(9 - a)=128^(8 - a)*128:=by rw[show 9 - a=(8 - a)+1 by omega];exact Int.pow_succ 128 (8 - a)
  have p8:(0:Int) < 128^(8 - a):=Int.pow_pos (by decide)
  split at h
  ·rename_i hd
   cases h
   refine⟨d,l,by rw[Int.emod_eq_of_lt x1 hd],x1,by omega,by omega,?_,?_⟩
   ·rw[sL _ hd];rfl
   ·rw[sL _ hd];rfl
  ·rename_i hd
   obtain⟨w,rest,e1,w0,w1,w2,e2,e3⟩:=wP l (a+1) _ v (fun x hx=>hb x (List.mem_cons_of_mem _ hx)) (by omega) h
   have w1:0 < w:=by omega
   rw[show 9 - (a+1)=8 - a by omega]at w2
   have ha7:a≤7:=by
    by_cases h8:a=8
    ·rw[h8]at w2
     have:(128:Int)^(8 - 8)=1:=rfl
     omega
    ·omega
   have er:eZ (8 - a) (d%128+128*w)=((d%128+128)::(eZ (8 - (a+1)) w).1,(eZ (8 - (a+1)) w).2):=by
    rw[show 8 - a=(8 - (a+1))+1 by omega,eZ,if_pos (by omega),show(d%128+128*w)%128=d%128 by omega,show(d%128+128*w) / 128=w by omega]
   refine⟨d%128+128*w,rest,?_,by omega,by omega,by omega,?_,?_⟩
   ·rw[e1,Int.pow_succ,Int.add_mul,Int.add_assoc,Int.mul_comm 128 w,Int.mul_assoc w,Int.mul_comm 128]
   ·rw[er,e2,show d%128+128=d by omega];rfl
   ·rw[er,e3];simp only[List.length_cons];omega
theorem iG{r:eN}(h:jb r):Ov r (dh r).2 (fB (dh r).1)∧((dh r).2.2.1=false→mR (dh r).1):=by
 have hk:=iF h.1
 revert hk
 unfold dh
 cases hf:kV r.1 0 0 with
 |inr _=>exact fun _=>⟨v9 _ _,fun h=>by cases h⟩
 |inl v=>
  intro hk
  obtain⟨w,rest,e1,w0,_,w2,e2,e3⟩:=wP r.1 0 0 v h.1.2 (by decide) hf
  have h1:r.2.1=false:=by
   cases hr:r.2.1 with
   |false=>rfl
   |true=>rw[h.2 hr]at hf;cases hf
  have ew:v.1=w:=by rw[e1,Int.pow_zero];omega
  have e9:(128:Int)^(9 - 0)=9223372036854775808:=rfl
  have e8:(128:Int)^(8+1)=9223372036854775808:=rfl
  have e10:(128:Int)^(10+1)=151115727451828646838272:=rfl
  have er:eZ 10 w=eZ 8 w:=nW 10 8 w (by rw[e10];omega) (by rw[e8];omega)
  have en:fB v.1=(eZ 8 w).1++ [(eZ 8 w).2]:=by rw[ew];unfold fB;rw[er]
  refine⟨⟨⟨hk.2.2,fun(hx:r.2.1=true)=>by rw[h1]at hx;cases hx⟩,fun _=>⟨h1,?_⟩⟩,fun _=>⟨hk.1,hk.2.1⟩⟩
  show r.1=fB v.1++r.1.drop v.2
  rw[en,e3,List.append_assoc]
  conv=>rhs;rw[e2]
  rw[List.append_cons,Nat.zero_add,List.drop_left' (by rw[List.length_append];rfl)]
  exact e2
theorem AG{l:List Int}(h:l.length=8)(hb:Bytes l):fM (oN l)=l:=by
 match l,h with
 |[a,b,c,d,e,f,g,i],_=>
  have h0:=hb a (by simp)
  have h1:=hb b (by simp)
  have h2:=hb c (by simp)
  have h3:=hb d (by simp)
  have h4:=hb e (by simp)
  have h5:=hb f (by simp)
  have h6:=hb g (by simp)
  have h7:=hb i (by simp)
  unfold uz at h0 h1 h2 h3 h4 h5 h6 h7
  unfold fM oN
  simp only[List.foldl_cons,List.foldl_nil]
  congr 1
  ·omega
  congr 1
  ·omega
  congr 1
  ·omega
  congr 1
  ·omega
  congr 1
  ·omega
  congr 1
  ·omega
  congr 1
  ·omega
  congr 1
  omega
theorem nY{r:eN}(h:jb r):Ov r (iC r).2 (fM (iC r).1):=by
 have e:=sU h 8
 exact e.1.of fun hk=>(AG (e.2 hk) (kH h.1).2.1).symm
theorem wh{r:eN}(h:jb r):Ov r (nr r).2 (nr r).1:=by
 have e:=sU h 32
 refine e.1.of fun hk=> ?_
 unfold nr
 simp only[e.2 hk]
 rw[show List.drop 32 (List.replicate 32 (0:Int))=[] from rfl,List.append_nil]
theorem A7{r:eN}(h:ir r):Sm (nr r).1:=by
 have e:=kH (n:=32) h
 refine⟨?_,eO e.2.1 fun x hx=> ?_⟩
 ·show((gA 32 r).1++List.drop (gA 32 r).1.length (List.replicate 32 (0:Int))).length=32
  rw[List.length_append,List.length_drop,List.length_replicate]
  have:=e.1
  omega
 ·obtain rfl:=(List.mem_replicate.1 (List.mem_of_mem_drop hx)).2
  exact⟨by decide,by decide⟩
theorem uL{r:eN}(h:jb r):Ov r (mS r).2 (fB (mS r).1.length++(mS r).1)∧Bytes (mS r).1∧(mS r).1.length≤1000000000:=by
 have e:=iG h
 unfold mS
 split
 ·rename_i hc
  exact⟨⟨e.1.1,fun hk=>by rw[hc]at hk;cases hk⟩,fun x hx=>(by cases hx),Nat.zero_le _⟩
 ·rename_i hc
  have hc:(dh r).2.2.1=false:=by simpa using hc
  have t:=sU e.1.1 (dh r).1.toNat
  have tb:=kH (n:=(dh r).1.toNat) e.1.1.1
  have n0:=(e.2 hc).1
  refine⟨(e.1.trans t.1).of fun hk=> ?_,tb.2.1,?_⟩
  ·rw[t.2 hk,Int.toNat_of_nonneg n0]
  ·have hl:(gA (dh r).1.toNat (dh r).2).1.length≤(dh r).2.1.length:=by
    unfold gA
    split
    ·exact Nat.zero_le _
    ·show((dh r).2.1.take _).length≤_
     rw[List.length_take];omega
   have:=e.1.1.1.1
   omega
theorem DS{r:eN}(h:jb r){m:Int}(h0:0≤(oU m r).1):Ov r (oU m r).2 (fB (oU m r).1)∧(oU m r).1≤m:=by
 have e:=iG h
 unfold oU at h0 ⊢
 by_cases hc:(dh r).1 > m
 ·simp only[if_pos hc]at h0
  omega
 ·simp only[if_neg hc]
  exact⟨e.1,by omega⟩
theorem zp{r:eN}(h:jb r)(m:Int):jb (oU m r).2:=(iG h).1.1
theorem zo{r:eN}(h:ir r){m:Int}(hm:0≤m): -1≤(oU m r).1∧(oU m r).1≤m:=by
 have:=(iF h).1
 unfold oU
 split
 ·exact⟨by omega,by show(-1:Int)≤m;omega⟩
 ·rename_i hc
  have hc:¬(dh r).1 > m:=hc
  exact⟨by show -1≤(dh r).1;omega,by show(dh r).1≤m;omega⟩
theorem y7:∀(k:Nat) {r:eN},jb r→Ov r (od k r).2 ((od k r).1.flatMap yj)∧(od k r).1.length=k∧∀o∈(od k r).1,Sm o.1
 | 0,r,h=>⟨Ov.refl h,rfl,fun x hx=>by cases hx⟩
 |k+1,r,h=>by
  have e1:=wh h
  have e2:=iG e1.1
  have ih:=y7 k (r:=(Db r).2) e2.1.1
  refine⟨?_,by rw[od,List.length_cons,ih.2.1],fun o ho=> ?_⟩
  ·have:=(e1.trans e2.1).trans ih.1
   rw[od,List.flatMap_cons]
   exact this
  ·rcases List.mem_cons.1 ho with rfl | ho
   ·exact A7 h.1
   ·exact ih.2.2 o ho
theorem DG{r:eN}(h:jb r):jb (sA r).2:=(uL (iG h).1.1).1.1
theorem wV:∀(k:Nat) {r:eN} {x:List gh×eN},jb r→mJ k r=some x→Ov r x.2 (x.1.flatMap lY)∧x.1.length=k∧∀o∈x.1,o.1≤9223372036854775807∧gb o.2.1=true∧Df o.2.1
 | 0,r,x,h,hx=>by
  cases hx
  exact⟨Ov.refl h,rfl,fun x hx=>by cases hx⟩
 |k+1,r,x,h,hx=>by
  rw[mJ]at hx
  split at hx
  ·rename_i hr
   split at hx
   ·rename_i y hy
    cases hx
    have e1:=iG h
    have e2:=uL e1.1.1
    have ih:=wV k (DG h) hy
    obtain⟨l,hl,hlb,he,hle⟩:=BE hr
    have hu:=ze e2.2.1 e2.2.2
    have el:(sA r).1.2.1=l:=by show(mK (mS (dh r).2).1).1=l;rw[he]
    refine⟨?_,by rw[List.length_cons,ih.2.1],fun o ho=> ?_⟩
    ·have:=(e1.1.trans e2.1).trans ih.1
     rw[List.flatMap_cons]
     unfold lY
     rw[el,hlb]
     exact this
    ·rcases List.mem_cons.1 ho with rfl | ho
     ·refine⟨(iF h.1).2.1,by rw[el];exact hl,?_⟩
      rw[el,hle]
      exact⟨hu.1,by show(iX _).length≤_;omega⟩
     ·exact ih.2.2 o ho
   ·cases hx
  ·cases hx
theorem vo:∀(k:Nat) {r:eN},jb r→Ov r (mB k r).2 ((mB k r).1.flatMap Aw)∧(mB k r).1.length=k∧∀s∈(mB k r).1,CU s
 | 0,r,h=>⟨Ov.refl h,rfl,fun x hx=>by cases hx⟩
 |k+1,r,h=>by
  have e1:=nY h
  have e2:=nY e1.1
  have ih:=vo k (r:=(Dd r).2) e2.1
  refine⟨?_,by rw[mB,List.length_cons,ih.2.1],fun o ho=> ?_⟩
  ·have:=(e1.trans e2).trans ih.1
   rw[mB,List.flatMap_cons]
   exact this
  ·rcases List.mem_cons.1 ho with rfl | ho
   ·exact⟨(qI h.1).1,(qI e1.1.1).1⟩
   ·exact ih.2.2 o ho
theorem zq{r:eN}(h:jb r):jb (jH r).2∧(jH r).1.length≤12∧∀s∈(jH r).1,CU s:=by
 have e1:=iG h
 have ih:=vo (oU 12 (dh r).2).1.toNat (zp e1.1.1 12)
 have:=zo e1.1.1.1 (m:=12) (by decide)
 exact⟨ih.1.1,by show(mB _ _).1.length≤12;rw[ih.2.1];omega,ih.2.2⟩
theorem CP{r:eN}{w:l7×eN}(h:jb r)(hw:yF r=some w):Ov r w.2 (lH w.1)∧l9 w.1∧w.1.2.1.length≤12:=by
 unfold yF at hw
 split at hw
 ·cases hw
 ·rename_i hc
  cases hw
  have e1:=iG h
  have hc:0≤(oU 12 (dh r).2).1:=by omega
  have e2:=DS e1.1.1 hc
  have e3:=vo (oU 12 (dh r).2).1.toNat e2.1.1
  have g:=zq h
  have e4:=nY g.1
  have hl:((jH r).1.length:Int)=(oU 12 (dh r).2).1:=by
   show((mB _ _).1.length:Int)=_
   rw[e3.2.1];omega
  have:=((e1.1.trans e2.1).trans e3.1).trans e4
  refine⟨this.of fun _=> ?_,⟨g.2.2,(qI g.1.1).1⟩,g.2.1⟩
  unfold lH
  simp only[hl,List.append_assoc]
  rfl
theorem xz:∀(l:List kg) {r:eN} {x:List fD×eN},jb r→mP l r=some x→Ov r x.2 (x.1.flatMap fun y=>lH y.2.1)∧x.1.map (·.1)=l∧∀y∈x.1,l9 y.2.1∧y.2.1.2.1.length≤12
 |[],r,x,h,hx=>by
  cases hx
  exact⟨Ov.refl h,rfl,fun x hx=>by cases hx⟩
 |o::l,r,x,h,hx=>by
  rw[mP]at hx
  split at hx
  ·cases hx
  ·rename_i w hw
   have e:=CP h hw
   split at hx
   ·cases hx
   ·rename_i y hy
    cases hx
    have ih:=xz l e.1.1 hy
    refine⟨?_,by rw[List.map_cons,ih.2.1],fun z hz=> ?_⟩
    ·have:=e.1.trans ih.1
     rw[List.flatMap_cons]
     exact this
    ·rcases List.mem_cons.1 hz with rfl | hz
     ·exact e.2
     ·exact ih.2.2 z hz
set_option synthInstance.maxSize 5000
def B9(o:kg):jU:=(o,(0,none,0,()),())
def EJ(x:fD):jU:=(x.1,(x.2.1.1,some x.2.1.2.1,x.2.1.2.2),())
def Fp(x:jU):fD:=(x.1,(x.2.1.1,x.2.1.2.1.getD [],x.2.1.2.2),())
theorem Dq(l:List jU):DY (.slice iB) (.slice eH) l=l.map Fp:=by kernel_rfl
theorem DR(l:List fD):(l.map EJ).map Fp=l:=by
 rw[List.map_map]
 have:(Fp∘EJ)=id:=rfl
 rw[this,List.map_id]
theorem y4{t:Ty}{l:List t.den}{k:Nat}{y:t.den}(h:k < l.length):nth t (l.set k y) k=y:=by simp[nth,h]
theorem CC{t:Ty}{a b:List t.den}{k:Nat}{y:t.den}(h:a.length=k):nth t (a++y::b) k=y:=by subst h;simp[nth]
theorem CI{α:Type}{a b:List α}{k:Nat}{y z:α}(h:a.length=k):(a++y::b).set k z=a++z::b:=by subst h;simp
theorem Ap{α:Type}{l:List α}{k:Nat}{y:α}:(l.set k y).take k=l.take k:=by rw[List.take_set,List.set_eq_of_length_le (by rw[List.length_take];omega)]
theorem zI{α:Type}{l:List α}{k:Nat}{y:α}:(l.set k y).drop (k+1)=l.drop (k+1):=List.drop_set_of_lt (by omega)
abbrev ea.D:=eN
def ea.st:ea.D→SA:=fun o0=>([.ptr (.fG 0) 0 [] 0],[.obj 0 false (.d ja o0)])
abbrev ea.Y:=Bs×eN
abbrev ea.X:=Bs×eN
def ea.out:ea.X→a9:=fun x=>⟨.d tH x.1,[.obj 0 false (.d ja x.2)],[]⟩
def ea.add:ea.D→ea.Y→ea.X:=fun o0 y=>y
def ea.aB:ea.D→Prop:=fun r=>ir r
def ea.F:ea.D→ea.Y:=fun r=>nr r
noncomputable def ea.G:dS:=eR (P:=Tryz.prog) [dv.sg]
noncomputable def ea.an:eA:= {}
noncomputable def ea.A:= @cJ Tryz.prog ea.G ea.an 0 Tryz.f77 _ ea.st
abbrev ea.Ok:=cK @ea.A ea.aB ea.add ea.F ea.out
theorem ea.eq{R:Type}(o0:eN)(k:a9→Option R):ea.A o0 k=
 ah (dv.call ((32:Int),o0)) fun x1=>
 aJ (decide ((List.length x1.1)≤32)) (
 k (ea.out ((x1.1++(List.drop (List.length x1.1) (List.replicate 32 (0:Int)))),x1.2))) none:=by kernel_rfl
theorem ea.ok:ea.Ok:=by
 intro r h
 have h:ir r:=h
 have e:=(kH (n:=32) h).1
 rw[ea.eq,dv.run (d:=(32,r)) ⟨by decide,h.1⟩]
 simp only[aa,dv.add,dv.F]
 rw[show Int.toNat 32=32 from rfl,aO e]
 rfl
noncomputable def ea.E:=Entry.cz [none] ea.st ea.aB ea.add ea.F ea.out
noncomputable def ea.call:ea.D→Option ea.X:=bH ea.E ea.st
theorem ea.run:bC ea.call ea.aB ea.add ea.F:=cQ (cP [.d ja] fun _=>by kernel_rfl)
noncomputable def ea.sg:SG Tryz.prog:=⟨77,aU,ea.E,.fn 0 (by kernel_rfl) ea.ok trivial⟩
abbrev dd.D:=eN
def dd.st:dd.D→SA:=fun o0=>([.ptr (.fG 0) 0 [] 0],[.obj 0 false (.d ja o0)])
abbrev dd.Y:=Bs×eN
abbrev dd.X:=Bs×eN
def dd.out:dd.X→a9:=fun x=>⟨.d tB x.1,[.obj 0 false (.d ja x.2)],[]⟩
def dd.add:dd.D→dd.Y→dd.X:=fun o0 y=>y
def dd.aB:dd.D→Prop:=fun r=>ir r
def dd.F:dd.D→dd.Y:=fun r=>mS r
noncomputable def dd.G:dS:=eR (P:=Tryz.prog) [bF.sg,dv.sg]
noncomputable def dd.an:eA:= {res:=[some tB],td:=[⟨0,[.arr],ja⟩]}
noncomputable def dd.A:= @cJ Tryz.prog dd.G dd.an 0 Tryz.f78 _ dd.st
abbrev dd.Ok:=cK @dd.A dd.aB dd.add dd.F dd.out
theorem dd.eq{R:Type}(o0:eN)(k:a9→Option R):dd.A o0 k=
  ah (bF.call o0) fun x1=>
  aJ (x1.2.2.1) (
   k (dd.out (([]:List Int),x1.2))) (
   ah (dv.call (x1.1,x1.2)) fun x2=>
   k (dd.out (x2.1,x2.2))):=by kernel_rfl
theorem dd.ok:dd.Ok:=by
 intro r h
 have h:ir r:=h
 have e:=iF h
 rw[dd.eq,bF.run (d:=r) h]
 simp only[aa,bF.add,bF.F,dd.add,dd.F,mS]
 cases hc:(dh r).2.2.1
 ·rw[ay,dv.run (d:=((dh r).1,(dh r).2)) ⟨e.1,e.2.2.1⟩]
  rfl
 ·rfl
noncomputable def dd.E:=Entry.cz [none] dd.st dd.aB dd.add dd.F dd.out
noncomputable def dd.call:dd.D→Option dd.X:=bH dd.E dd.st
theorem dd.run:bC dd.call dd.aB dd.add dd.F:=cQ (cP [.d ja] fun _=>by kernel_rfl)
noncomputable def dd.sg:SG Tryz.prog:=⟨78,aU,dd.E,.fn 0 (by kernel_rfl) dd.ok trivial⟩
abbrev dw.D:=Int×eN
def dw.st:dw.D→SA:=fun(most,o1)=>([.d ti most,.ptr (.fG 0) 0 [] 0],[.obj 0 false (.ptr (.fG 1) 0 [] 0),.obj 0 false (.d ja o1)])
abbrev dw.Y:=Int×eN
abbrev dw.X:=Int×eN
def dw.out:dw.X→a9:=fun x=>⟨.d ti x.1,[.obj 0 false (.ptr (.fG 1) 0 [] 0),.obj 0 false (.d ja x.2)],[]⟩
def dw.add:dw.D→dw.Y→dw.X:=fun(most,o1) y=>y
def dw.aB:dw.D→Prop:=fun(m,r)=>ir r
def dw.F:dw.D→dw.Y:=fun(m,r)=>oU m r
noncomputable def dw.G:dS:=eR (P:=Tryz.prog) [bF.sg]
noncomputable def dw.an:eA:= {}
noncomputable def dw.A:= @cJ Tryz.prog dw.G dw.an 0 Tryz.f76 _ dw.st
abbrev dw.Ok:=cK @dw.A dw.aB dw.add dw.F dw.out
theorem dw.eq{R:Type}(most:Int)(o1:eN)(k:a9→Option R):dw.A (most,o1) k=
  ah (bF.call o1) fun x1=>
  aJ ((oJ x1.1 most)) (
   k (dw.out ((-1:Int),x1.2))) (
   k (dw.out (x1.1,x1.2))):=by kernel_rfl
theorem dw.ok:dw.Ok:=by
 rintro⟨m,r⟩ h
 have h:ir r:=h
 rw[dw.eq,bF.run (d:=r) h]
 simp only[aa,bF.add,bF.F,dw.add,dw.F,oU]
 by_cases hc:(dh r).1 > m
 ·rw[ek hc,if_pos hc];rfl
 ·rw[dR hc,if_neg hc];rfl
noncomputable def dw.E:=Entry.cz [some ti,none] dw.st dw.aB dw.add dw.F dw.out
noncomputable def dw.call:dw.D→Option dw.X:=bH dw.E dw.st
theorem dw.run:bC dw.call dw.aB dw.add dw.F:=cQ (cP [.d ti,.d ja] fun _=>by kernel_rfl)
noncomputable def dw.sg:SG Tryz.prog:=⟨76,aU,dw.E,.fn 0 (by kernel_rfl) dw.ok trivial⟩
abbrev ao.L0.D:=Int×Int×Int×(Int×Unit)×Nat×(Int×Unit)×eN×(List jU)
def ao.L0.st:ao.L0.D→AS:=fun(n,t20,t21,n2,n4L,n4,n16,n32)=>⟨([.undef,.undef,.ptr (.new 2 0) 0 [] 0,.undef,.ptr (.new 4 0) 0 [] 0,.ptr (.new 5 0) 0 [] 0,.fn 76 (.cons (.ptr (.new 5 0) 0 [] 0) (.nil)),.d ti n]++bg 12 ([.d ti t20,.d ti t21]++bg 110 [])),[],([[],[],[.obj 0 false (.pr (.cY) (.pr (.cY) (.d (.pair ti .unit) n2)))],[],[.obj 0 false (.pr (.cf (.new 32 0) 0 [] 0 0 n4L) (.pr (.cY) (.d (.pair ti .unit) n4)))],[.obj 0 false (.ptr (.new 16 0) 0 [] 0)]]++bN 10 ([[.obj 0 false (.d ja n16)]]++bN 15 ([[.obj 0 false (.vec 57 iB n32)]]++bN 99 [])))⟩
abbrev ao.L0.Y0:=Nat×eN×(List jU)
abbrev ao.L0.X0:=(Int×(Int×Unit)×(Int×Unit))×(Nat×eN×(List jU))
def ao.L0.bt:ao.L0.X0→Exit×AS:=fun x=>(.exit 0,⟨([.undef,.undef,.ptr (.new 2 0) 0 [] 0,.undef,.ptr (.new 4 0) 0 [] 0,.ptr (.new 5 0) 0 [] 0,.fn 76 (.cons (.ptr (.new 5 0) 0 [] 0) (.nil)),.d ti x.1.1]++bg 124 []),[],([[],[],[.obj 0 false (.pr (.cY) (.pr (.cY) (.d (.pair ti .unit) x.1.2.1)))],[],[.obj 0 false (.pr (.cf (.new 32 0) 0 [] 0 0 x.2.1) (.pr (.cY) (.d (.pair ti .unit) x.1.2.2)))],[.obj 0 false (.ptr (.new 16 0) 0 [] 0)]]++bN 10 ([[.obj 0 false (.d ja x.2.2.1)]]++bN 15 ([[.obj 0 false (.vec 57 iB x.2.2.2)]]++bN 99 [])))⟩)
abbrev ao.L0.X:=ao.L0.X0
abbrev ao.L0.Y:=ao.L0.Y0
def ao.L0.out:ao.L0.X→Out (Exit×AS):=fun x=> .ok (ao.L0.bt x)
def ao.L0.add:ao.L0.D→ao.L0.Y→ao.L0.X:=fun(n,t20,t21,n2,n4L,n4,n16,n32) y=>((n,n2,n4),y)
abbrev ao.L1.D:=Int×Int×Int×Int×(Int×Unit)×Nat×Nat×(Int×Unit)×eN×(List jU)×(List gh)
def ao.L1.st:ao.L1.D→AS:=fun(n_2,m,t37,t38,n2_2,n4L_2,n4L_3,n4_2,n16_2,n32_2,n58)=>⟨([.undef,.undef,.ptr (.new 2 0) 0 [] 0,.undef,.ptr (.new 4 0) 0 [] 0,.ptr (.new 5 0) 0 [] 0,.fn 76 (.cons (.ptr (.new 5 0) 0 [] 0) (.nil)),.d ti n_2,.d ti m]++bg 28 ([.d ti t37,.d ti t38]++bg 93 [])),[],([[],[],[.obj 0 false (.pr (.cY) (.pr (.cY) (.d (.pair ti .unit) n2_2)))],[],[.obj 0 false (.pr (.cf (.new 32 0) 0 [] 0 0 n4L_2) (.pr (.cf (.new 58 0) 0 [] 0 0 n4L_3) (.d (.pair ti .unit) n4_2)))],[.obj 0 false (.ptr (.new 16 0) 0 [] 0)]]++bN 10 ([[.obj 0 false (.d ja n16_2)]]++bN 15 ([[.obj 0 false (.vec 57 iB n32_2)]]++bN 25 ([[.obj 0 false (.vec 62 eU n58)]]++bN 73 []))))⟩
abbrev ao.L1.Y0:=(Int×Unit)
abbrev ao.L1.X0:=(Int×Unit)
def ao.L1.bt:ao.L1.X0→Exit×AS:=fun x=>(.ret,⟨([.undef,.undef,.ptr (.new 2 0) 0 [] 0,.d .bool false]++bg 128 []),[],([[],[],[.obj 0 false (.pr (.cY) (.pr (.cY) (.d (.pair ti .unit) x)))]]++bN 129 [])⟩)
abbrev ao.L1.Y1:=Nat×eN×(List gh)
abbrev ao.L1.X1:=(Int×Int×(Int×Unit)×Nat×(Int×Unit)×(List jU))×(Nat×eN×(List gh))
def ao.L1.eS:ao.L1.X1→Exit×AS:=fun x=>(.exit 2,⟨([.undef,.undef,.ptr (.new 2 0) 0 [] 0,.undef,.ptr (.new 4 0) 0 [] 0,.ptr (.new 5 0) 0 [] 0,.fn 76 (.cons (.ptr (.new 5 0) 0 [] 0) (.nil)),.d ti x.1.1,.d ti x.1.2.1]++bg 123 []),[],([[],[],[.obj 0 false (.pr (.cY) (.pr (.cY) (.d (.pair ti .unit) x.1.2.2.1)))],[],[.obj 0 false (.pr (.cf (.new 32 0) 0 [] 0 0 x.1.2.2.2.1) (.pr (.cf (.new 58 0) 0 [] 0 0 x.2.1) (.d (.pair ti .unit) x.1.2.2.2.2.1)))],[.obj 0 false (.ptr (.new 16 0) 0 [] 0)]]++bN 10 ([[.obj 0 false (.d ja x.2.2.1)]]++bN 15 ([[.obj 0 false (.vec 57 iB x.1.2.2.2.2.2)]]++bN 25 ([[.obj 0 false (.vec 62 eU x.2.2.2)]]++bN 73 []))))⟩)
abbrev ao.L1.X:=(ao.L1.X0)⊕(ao.L1.X1)
abbrev ao.L1.Y:=(ao.L1.Y0)⊕(ao.L1.Y1)
def ao.L1.out:ao.L1.X→Out (Exit×AS):=fun x=> .br x.isLeft (.get x.getLeft? fun a=> .ok (ao.L1.bt a)) (.get x.getRight? fun b=> .ok (ao.L1.eS b))
def ao.L1.add:ao.L1.D→ao.L1.Y→ao.L1.X:=fun(n_2,m,t37,t38,n2_2,n4L_2,n4L_3,n4_2,n16_2,n32_2,n58) y=>match y with | .inl y=> .inl y | .inr z=> .inr (((n_2,m,n2_2,n4L_2,n4_2,n32_2),z))
abbrev ao.L2.D:=Int×Int×Int×Int×(Int×Unit)×Nat×Nat×(Int×Unit)×eN×(List jU)×(List gh)
def ao.L2.st:ao.L2.D→AS:=fun(n_3,m_2,t66,t67,n2_3,n4L_4,n4L_5,n4_3,n16_3,n32_3,n58_2)=>⟨([.undef,.undef,.ptr (.new 2 0) 0 [] 0,.undef,.ptr (.new 4 0) 0 [] 0,.ptr (.new 5 0) 0 [] 0,.fn 76 (.cons (.ptr (.new 5 0) 0 [] 0) (.nil)),.d ti n_3,.d ti m_2]++bg 57 ([.d ti t66,.d ti t67]++bg 64 [])),[],([[],[],[.obj 0 false (.pr (.cY) (.pr (.cY) (.d (.pair ti .unit) n2_3)))],[],[.obj 0 false (.pr (.cf (.new 32 0) 0 [] 0 0 n4L_4) (.pr (.cf (.new 58 0) 0 [] 0 0 n4L_5) (.d (.pair ti .unit) n4_3)))],[.obj 0 false (.ptr (.new 16 0) 0 [] 0)]]++bN 10 ([[.obj 0 false (.d ja n16_3)]]++bN 15 ([[.obj 0 false (.vec 57 iB n32_3)]]++bN 25 ([[.obj 0 false (.vec 62 eU n58_2)]]++bN 73 []))))⟩
abbrev ao.L2.Y0:=(Int×Unit)
abbrev ao.L2.X0:=(Int×Unit)
def ao.L2.bt:ao.L2.X0→Exit×AS:=fun x=>(.ret,⟨([.undef,.undef,.ptr (.new 2 0) 0 [] 0,.d .bool false]++bg 128 []),[],([[],[],[.obj 0 false (.pr (.cY) (.pr (.cY) (.d (.pair ti .unit) x)))]]++bN 129 [])⟩)
abbrev ao.L2.Y1:=Int×Int×(Int×Unit)×Nat×Nat×(Int×Unit)×eN×(List jU)×(List gh)
abbrev ao.L2.X1:=Int×Int×(Int×Unit)×Nat×Nat×(Int×Unit)×eN×(List jU)×(List gh)
def ao.L2.eS:ao.L2.X1→Exit×AS:=fun x=>(.exit 4,⟨([.undef,.undef,.ptr (.new 2 0) 0 [] 0,.undef,.ptr (.new 4 0) 0 [] 0,.ptr (.new 5 0) 0 [] 0,.undef,.d ti x.1,.d ti x.2.1]++bg 123 []),[],([[],[],[.obj 0 false (.pr (.cY) (.pr (.cY) (.d (.pair ti .unit) x.2.2.1)))],[],[.obj 0 false (.pr (.cf (.new 32 0) 0 [] 0 0 x.2.2.2.1) (.pr (.cf (.new 58 0) 0 [] 0 0 x.2.2.2.2.1) (.d (.pair ti .unit) x.2.2.2.2.2.1)))],[.obj 0 false (.ptr (.new 16 0) 0 [] 0)]]++bN 10 ([[.obj 0 false (.d ja x.2.2.2.2.2.2.1)]]++bN 15 ([[.obj 0 false (.vec 57 iB x.2.2.2.2.2.2.2.1)]]++bN 25 ([[.obj 0 false (.vec 62 eU x.2.2.2.2.2.2.2.2)]]++bN 73 []))))⟩)
abbrev ao.L2.X:=(ao.L2.X0)⊕(ao.L2.X1)
abbrev ao.L2.Y:=(ao.L2.Y0)⊕(ao.L2.Y1)
def ao.L2.out:ao.L2.X→Out (Exit×AS):=fun x=> .br x.isLeft (.get x.getLeft? fun a=> .ok (ao.L2.bt a)) (.get x.getRight? fun b=> .ok (ao.L2.eS b))
def ao.L2.add:ao.L2.D→ao.L2.Y→ao.L2.X:=fun(n_3,m_2,t66,t67,n2_3,n4L_4,n4L_5,n4_3,n16_3,n32_3,n58_2) y=>match y with | .inl y=> .inl y | .inr z=> .inr (z)
abbrev ao.L3.D:=Int×Int×Int×Int×Int×Int×(Int×Unit)×Nat×Nat×(Int×Unit)×eN×(List jU)×kg×Int×Nat×(Int×Unit)×(List jU)×(List gh)×(List Sg)
def ao.L3.st:ao.L3.D→AS:=fun(n_4,m_3,t66_2,t67_2,t85,t86,n2_4,n4L_6,n4L_7,n4_4,n16_4,n32_4,n32_5,n32_6,n32L,n32_7,n32_8,n58_3,n99)=>⟨([.undef,.undef,.ptr (.new 2 0) 0 [] 0,.undef,.ptr (.new 4 0) 0 [] 0,.ptr (.new 5 0) 0 [] 0,.fn 76 (.cons (.ptr (.new 5 0) 0 [] 0) (.nil)),.d ti n_4,.d ti m_3]++bg 4 ([.ptr (.new 32 0) 0 [.snd,.fst,.snd,.fst] ((0+((Int.toNat t67_2)*36))+33)]++bg 52 ([.d ti t66_2,.d ti t67_2]++bg 17 ([.d ti t85,.d ti t86]++bg 45 [])))),[],([[],[],[.obj 0 false (.pr (.cY) (.pr (.cY) (.d (.pair ti .unit) n2_4)))],[],[.obj 0 false (.pr (.cf (.new 32 0) 0 [] 0 0 n4L_6) (.pr (.cf (.new 58 0) 0 [] 0 0 n4L_7) (.d (.pair ti .unit) n4_4)))],[.obj 0 false (.ptr (.new 16 0) 0 [] 0)]]++bN 10 ([[.obj 0 false (.d ja n16_4)]]++bN 15 ([[.obj 0 false (.bx 57 36 (.pr (.d (.arr (0+(Int.toNat t67_2)) iB) n32_4) (.pr (.pr (.d kG n32_5) (.pr (.pr (.d ti n32_6) (.pr (.cf (.new 99 0) 0 [] 0 0 n32L) (.d (.pair tu .unit) n32_7))) (.d .unit ()))) (.d (.arr (List.length n32_8) iB) n32_8))))]]++bN 25 ([[.obj 0 false (.vec 62 eU n58_3)]]++bN 40 ([[.obj 0 false (.vec 60 jm n99)]]++bN 32 [])))))⟩
abbrev ao.L3.Y0:=eN×(List jU)×(List Sg)
abbrev ao.L3.X0:=(Int×Int×Int×Int×(Int×Unit)×Nat×Nat×(Int×Unit)×(List gh))×(eN×(List jU)×(List Sg))
def ao.L3.bt:ao.L3.X0→Exit×AS:=fun x=>(.exit 6,⟨([.undef,.undef,.ptr (.new 2 0) 0 [] 0,.undef,.ptr (.new 4 0) 0 [] 0,.ptr (.new 5 0) 0 [] 0,.fn 76 (.cons (.ptr (.new 5 0) 0 [] 0) (.nil)),.d ti x.1.1,.d ti x.1.2.1]++bg 4 ([.ptr (.new 32 0) 0 [.idx (0+(Int.toNat x.1.2.2.2.1)),.snd,.fst] ((0+((Int.toNat x.1.2.2.2.1)*36))+33)]++bg 52 ([.d ti x.1.2.2.1,.d ti x.1.2.2.2.1]++bg 64 []))),[],([[],[],[.obj 0 false (.pr (.cY) (.pr (.cY) (.d (.pair ti .unit) x.1.2.2.2.2.1)))],[],[.obj 0 false (.pr (.cf (.new 32 0) 0 [] 0 0 x.1.2.2.2.2.2.1) (.pr (.cf (.new 58 0) 0 [] 0 0 x.1.2.2.2.2.2.2.1) (.d (.pair ti .unit) x.1.2.2.2.2.2.2.2.1)))],[.obj 0 false (.ptr (.new 16 0) 0 [] 0)]]++bN 10 ([[.obj 0 false (.d ja x.2.1)]]++bN 15 ([[.obj 0 false (.vec 57 iB x.2.2.1)]]++bN 25 ([[.obj 0 false (.vec 62 eU x.1.2.2.2.2.2.2.2.2)]]++bN 40 ([[.obj 0 true (.vec 60 jm x.2.2.2)]]++bN 32 [])))))⟩)
abbrev ao.L3.X:=ao.L3.X0
abbrev ao.L3.Y:=ao.L3.Y0
def ao.L3.out:ao.L3.X→Out (Exit×AS):=fun x=> .ok (ao.L3.bt x)
def ao.L3.add:ao.L3.D→ao.L3.Y→ao.L3.X:=fun(n_4,m_3,t66_2,t67_2,t85,t86,n2_4,n4L_6,n4L_7,n4_4,n16_4,n32_4,n32_5,n32_6,n32L,n32_7,n32_8,n58_3,n99) y=>((n_4,m_3,t66_2,t67_2,n2_4,n4L_6,n4L_7,n4_4,n58_3),y)
abbrev ao.D:=Bs
def ao.st:ao.D→SA:=fun b=>([.d tB b],[])
abbrev ao.Y:=fb×Bool
abbrev ao.X:=fb×Bool
def ao.out:ao.X→a9:=fun x=>⟨.cons (.d gg x.1) (.cons (.d .bool x.2) (.nil)),[],[]⟩
def ao.add:ao.D→ao.Y→ao.X:=fun b y=>y
def ao.L0.aB:ao.L0.D→Prop:=fun(n,m,i,u,L,v,r,l)=>jb r∧m≤64∧∃k:Nat,i=k∧k≤64∧L=l.length∧l.length=k
def ao.L0.F:ao.L0.D→ao.L0.Y:=fun(n,m,i,u,L,v,r,l)=>(L+(m - i).toNat,(od (m - i).toNat r).2,l++(od (m - i).toNat r).1.map B9)
def ao.L1.aB:ao.L1.D→Prop:=fun(n,m1,m,i,u,L,L2,v,r,l,os)=>jb r∧m≤64∧∃k:Nat,i=k∧k≤64∧L2=os.length∧os.length=k
def ao.L1.F:ao.L1.D→ao.L1.Y:=fun(n,m1,m,i,u,L,L2,v,r,l,os)=>match mJ (m - i).toNat r with | none=> .inl (0,()) | some x=> .inr (L2+x.1.length,x.2,os++x.1)
def ao.L3.aB:ao.L3.D→Prop:=fun(n,m1,mo,io,m,i,u,L,L2,v,r,la,op,br,Ls,sc,lb,os,sg)=>jb r∧m≤12∧∃k:Nat,i=k∧k≤12∧Ls=sg.length∧sg.length=k
def ao.L3.F:ao.L3.D→ao.L3.Y:=fun(n,m1,mo,io,m,i,u,L,L2,v,r,la,op,br,Ls,sc,lb,os,sg)=>((mB (m - i).toNat r).2,la++(op,(br,some (sg++(mB (m - i).toNat r).1),sc),())::lb,sg++(mB (m - i).toNat r).1)
def ao.L2.aB:ao.L2.D→Prop:=fun(n,m1,m,i,u,L,L2,v,r,l,os)=>jb r∧l.length≤64∧∃k:Nat,i=k∧k≤l.length∧m=l.length∧L=l.length∧∀x∈l.drop k,x=B9 x.1
def ao.L2.F:ao.L2.D→ao.L2.Y:=fun(n,m1,m,i,u,L,L2,v,r,l,os)=>match mP ((l.drop i.toNat).map (·.1)) r with | none=> .inl (0,()) | some x=> .inr (n,m1,u,L,L2,v,x.2,l.take i.toNat++x.1.map EJ,os)
def ao.aB:ao.D→Prop:=fun b=>Bytes b∧b.length≤1000000000
def ao.F:ao.D→ao.Y:=fun b=>vm b
noncomputable def ao.G:dS:=eR (P:=Tryz.prog) [dI.sg,dw.sg,ea.sg,bF.sg,dd.sg,aS.sg,ck.sg,fA.sg,ed.sg,aq.sg]
noncomputable def ao.L0.E:=bO.cz ao.L0.st ao.L0.aB ao.L0.add ao.L0.F ao.L0.out
noncomputable def ao.L0.call:ao.L0.D→Option ao.L0.X:=dk ao.L0.E ao.L0.st
noncomputable def ao.L1.E:=bO.cz ao.L1.st ao.L1.aB ao.L1.add ao.L1.F ao.L1.out
noncomputable def ao.L1.call:ao.L1.D→Option ao.L1.X:=dk ao.L1.E ao.L1.st
noncomputable def ao.L2.E:=bO.cz ao.L2.st ao.L2.aB ao.L2.add ao.L2.F ao.L2.out
noncomputable def ao.L2.call:ao.L2.D→Option ao.L2.X:=dk ao.L2.E ao.L2.st
noncomputable def ao.L3.E:=bO.cz ao.L3.st ao.L3.aB ao.L3.add ao.L3.F ao.L3.out
noncomputable def ao.L3.call:ao.L3.D→Option ao.L3.X:=dk ao.L3.E ao.L3.st
noncomputable def ao.an:eA:= {bI:=[100031,100032],loops:=jY [(6,{bm:=[2,4,5,6,7,20,21],sites:=[2,4,5,16,32],ix:=[⟨4,[.fst],32,100036⟩]}),(11,{bm:=[2,4,5,6,7,8,37,38],sites:=[2,4,5,16,32,58],ix:=[⟨4,[.snd,.fst],58,37⟩]}),(21,{bm:=[2,4,5,6,7,8,66,67],sites:=[2,4,5,16,32,58]}),(29,{bm:=[2,4,5,6,7,8,13,66,67,85,86],sites:=[2,4,5,16,32,58,99],ix:=[⟨13,[.snd,.fst],99,51⟩],Fv:=[13]})],outs:=jX [(6,{bm:=[2,4,5,6,7],sites:=[2,4,5,16,32]},{bm:=[2,3]}),(11,{bm:=[2,4,5,6,7,8],sites:=[2,4,5,16,32,58]},{bm:=[2,3],sites:=[2]}),(21,{bm:=[2,4,5,7,8],sites:=[2,4,5,16,32,58]},{bm:=[2,3],sites:=[2]}),(29,{bm:=[2,4,5,6,7,8,13,66,67],sites:=[2,4,5,16,32,58,99],FC:=[13]},{bm:=[2,3]})],fJ:=kF [(6,ao.L0.E),(11,ao.L1.E),(21,ao.L2.E),(29,ao.L3.E)],res:=[some gg,none]}
noncomputable def ao.A:= @cJ Tryz.prog ao.G ao.an 0 Tryz.f24 _ ao.st
abbrev ao.Ok:=cK @ao.A ao.aB ao.add ao.F ao.out
noncomputable def ao.L0.R:= @cg Tryz.prog ao.G ao.an 0 Tryz.f24 0 _ ao.L0.st
abbrev ao.L0.Ok:=eB Tryz.prog ao.G ao.an 0 Tryz.f24 0 ao.L0.st ao.L0.aB ao.L0.add ao.L0.F ao.L0.out
noncomputable def ao.L1.R:= @cg Tryz.prog ao.G ao.an 0 Tryz.f24 1 _ ao.L1.st
abbrev ao.L1.Ok:=eB Tryz.prog ao.G ao.an 0 Tryz.f24 1 ao.L1.st ao.L1.aB ao.L1.add ao.L1.F ao.L1.out
noncomputable def ao.L2.R:= @cg Tryz.prog ao.G ao.an 0 Tryz.f24 2 _ ao.L2.st
abbrev ao.L2.Ok:=eB Tryz.prog ao.G ao.an 0 Tryz.f24 2 ao.L2.st ao.L2.aB ao.L2.add ao.L2.F ao.L2.out
noncomputable def ao.L3.R:= @cg Tryz.prog ao.G ao.an 0 Tryz.f24 3 _ ao.L3.st
abbrev ao.L3.Ok:=eB Tryz.prog ao.G ao.an 0 Tryz.f24 3 ao.L3.st ao.L3.aB ao.L3.add ao.L3.F ao.L3.out
theorem ao.L0.run:bC ao.L0.call ao.L0.aB ao.L0.add ao.L0.F:=eI (eD [.d ti,.d ti,.d ti,.d (.pair ti .unit),.n,.d (.pair ti .unit),.d ja,.d (.slice iB)] fun _=>by kernel_rfl)
theorem ao.L0.aG:fR @ao.L0.R ao.L0.st ao.L0.aB ao.L0.add ao.L0.F ao.L0.bt ao.L0.Ok:=fV
theorem ao.L0.step{R:Type}(n:Int)(t20:Int)(t21:Int)(n2:(Int×Unit))(n4L:Nat)(n4:(Int×Unit))(n16:eN)(n32:(List jU))(kn:AS→Option R)(kx:Exit→AS→Option R):ao.L0.R (n,t20,t21,n2,n4L,n4,n16,n32) kn kx=
  aJ ((fZ t21 t20)) (
   ah (ea.call n16) fun x7=>
   ah (bF.call x7.2) fun x8=>
   aJ (decide (n4L≤(List.length n32))) (
   aJ (dm (n4L+1) 80) (
   kn (ao.L0.st (n,t20,(bM .i64 t21 (1:Int)),n2,(n4L+1),n4,x8.2,((List.take n4L n32)++ [((x7.1,(x8.1,())),(((0:Int),(none,((0:Int),()))),()))])))) none) none) (
   kx (ao.L0.bt ((n,n2,n4),(n4L,n16,n32))).1 (ao.L0.bt ((n,n2,n4),(n4L,n16,n32))).2):=by kernel_rfl
theorem ao.L1.run:bC ao.L1.call ao.L1.aB ao.L1.add ao.L1.F:=eI (eD [.d ti,.d ti,.d ti,.d ti,.d (.pair ti .unit),.n,.n,.d (.pair ti .unit),.d ja,.d (.slice iB),.d (.slice eU)] fun _=>by kernel_rfl)
theorem ao.L1.aG:jt @ao.L1.R ao.L1.st ao.L1.aB ao.L1.add ao.L1.F ao.L1.out ao.L1.Ok:=jV
theorem ao.L1.step{R:Type}(n_2:Int)(m:Int)(t37:Int)(t38:Int)(n2_2:(Int×Unit))(n4L_2:Nat)(n4L_3:Nat)(n4_2:(Int×Unit))(n16_2:eN)(n32_2:(List jU))(n58:(List gh))(kn:AS→Option R)(kx:Exit→AS→Option R):ao.L1.R (n_2,m,t37,t38,n2_2,n4L_2,n4L_3,n4_2,n16_2,n32_2,n58) kn kx=
  aJ ((fZ t38 t37)) (
   ah (bF.call n16_2) fun x16=>
   ah (dd.call x16.2) fun x23=>
   ah (aS.call x23.1) fun x24=>
   aJ ((!x24.2)) (
    kx (ao.L1.bt ((0:Int),())).1 (ao.L1.bt ((0:Int),())).2) (
    aJ (decide (n4L_3≤(List.length n58))) (
    aJ (dm (n4L_3+1) 32) (
    kn (ao.L1.st (n_2,m,t37,(bM .i64 t38 (1:Int)),n2_2,n4L_2,(n4L_3+1),n4_2,x23.2,n32_2,((List.take n4L_3 n58)++ [(x16.1,(x24.1,()))])))) none) none)) (
   kx (ao.L1.eS ((n_2,m,n2_2,n4L_2,n4_2,n32_2),(n4L_3,n16_2,n58))).1 (ao.L1.eS ((n_2,m,n2_2,n4L_2,n4_2,n32_2),(n4L_3,n16_2,n58))).2):=by kernel_rfl
theorem ao.L2.run:bC ao.L2.call ao.L2.aB ao.L2.add ao.L2.F:=eI (eD [.d ti,.d ti,.d ti,.d ti,.d (.pair ti .unit),.n,.n,.d (.pair ti .unit),.d ja,.d (.slice iB),.d (.slice eU)] fun _=>by kernel_rfl)
theorem ao.L2.aG:jt @ao.L2.R ao.L2.st ao.L2.aB ao.L2.add ao.L2.F ao.L2.out ao.L2.Ok:=jV
theorem ao.L2.step{R:Type}(n_3:Int)(m_2:Int)(t66:Int)(t67:Int)(n2_3:(Int×Unit))(n4L_4:Nat)(n4L_5:Nat)(n4_3:(Int×Unit))(n16_3:eN)(n32_3:(List jU))(n58_2:(List gh))(kn:AS→Option R)(kx:Exit→AS→Option R):ao.L2.R (n_3,m_2,t66,t67,n2_3,n4L_4,n4L_5,n4_3,n16_3,n32_3,n58_2) kn kx=
  aJ ((fZ t67 t66)) (
   aJ (ei t67 ((n4L_4:Nat):Int)) (
   ah (bF.call n16_3) fun x16=>
   aJ (decide ((0+(Int.toNat t67)) < (List.length n32_3))) (
   aJ (decide ((((0+(Int.toNat t67))*36)+33)=(((0+((Int.toNat t67)*36))+33)+0))) (
   aJ (decide ((0+(Int.toNat t67)) < (List.length n32_3))) (
   ah (dw.call ((12:Int),x16.2)) fun x20=>
   aJ ((fZ x20.1 (0:Int))) (
    kx (ao.L2.bt ((0:Int),())).1 (ao.L2.bt ((0:Int),())).2) (
    aJ (decide ((0+(Int.toNat t67)) < (List.length (List.set n32_3 (0+(Int.toNat t67)) ((nth iB n32_3 (0+(Int.toNat t67))).1,((x16.1,(nth iB n32_3 (0+(Int.toNat t67))).2.1.2),(nth iB n32_3 (0+(Int.toNat t67))).2.2)))))) (
    aJ ((Option.isNone (nth iB (List.set n32_3 (0+(Int.toNat t67)) ((nth iB n32_3 (0+(Int.toNat t67))).1,((x16.1,(nth iB n32_3 (0+(Int.toNat t67))).2.1.2),(nth iB n32_3 (0+(Int.toNat t67))).2.2))) (0+(Int.toNat t67))).2.1.2.1)) (
    ah (ao.L3.call (n_3,m_2,t66,t67,x20.1,(0:Int),n2_3,n4L_4,n4L_5,n4_3,x20.2,(List.take (0+(Int.toNat t67)) (List.set n32_3 (0+(Int.toNat t67)) ((nth iB n32_3 (0+(Int.toNat t67))).1,((x16.1,(nth iB n32_3 (0+(Int.toNat t67))).2.1.2),(nth iB n32_3 (0+(Int.toNat t67))).2.2)))),((nth iB (List.set n32_3 (0+(Int.toNat t67)) ((nth iB n32_3 (0+(Int.toNat t67))).1,((x16.1,(nth iB n32_3 (0+(Int.toNat t67))).2.1.2),(nth iB n32_3 (0+(Int.toNat t67))).2.2))) (0+(Int.toNat t67))).1.1,((nth iB (List.set n32_3 (0+(Int.toNat t67)) ((nth iB n32_3 (0+(Int.toNat t67))).1,((x16.1,(nth iB n32_3 (0+(Int.toNat t67))).2.1.2),(nth iB n32_3 (0+(Int.toNat t67))).2.2))) (0+(Int.toNat t67))).1.2.1,(nth iB (List.set n32_3 (0+(Int.toNat t67)) ((nth iB n32_3 (0+(Int.toNat t67))).1,((x16.1,(nth iB n32_3 (0+(Int.toNat t67))).2.1.2),(nth iB n32_3 (0+(Int.toNat t67))).2.2))) (0+(Int.toNat t67))).1.2.2)),(nth iB (List.set n32_3 (0+(Int.toNat t67)) ((nth iB n32_3 (0+(Int.toNat t67))).1,((x16.1,(nth iB n32_3 (0+(Int.toNat t67))).2.1.2),(nth iB n32_3 (0+(Int.toNat t67))).2.2))) (0+(Int.toNat t67))).2.1.1,0,((nth iB (List.set n32_3 (0+(Int.toNat t67)) ((nth iB n32_3 (0+(Int.toNat t67))).1,((x16.1,(nth iB n32_3 (0+(Int.toNat t67))).2.1.2),(nth iB n32_3 (0+(Int.toNat t67))).2.2))) (0+(Int.toNat t67))).2.1.2.2.1,(nth iB (List.set n32_3 (0+(Int.toNat t67)) ((nth iB n32_3 (0+(Int.toNat t67))).1,((x16.1,(nth iB n32_3 (0+(Int.toNat t67))).2.1.2),(nth iB n32_3 (0+(Int.toNat t67))).2.2))) (0+(Int.toNat t67))).2.1.2.2.2),(List.drop ((0+(Int.toNat t67))+1) (List.set n32_3 (0+(Int.toNat t67)) ((nth iB n32_3 (0+(Int.toNat t67))).1,((x16.1,(nth iB n32_3 (0+(Int.toNat t67))).2.1.2),(nth iB n32_3 (0+(Int.toNat t67))).2.2)))),n58_2,([]:List Sg))) fun x22=>
    ah (ck.call x22.2.1) fun x24=>
    aJ (decide ((0+(Int.toNat x22.1.2.2.2.1)) < (List.length x22.2.2.1))) (
    aJ (decide ((((0+(Int.toNat x22.1.2.2.2.1))*36)+35)=(((0+((Int.toNat x22.1.2.2.2.1)*36))+33)+2))) (
    aJ (decide ((0+(Int.toNat x22.1.2.2.2.1)) < (List.length x22.2.2.1))) (
    kn (ao.L2.st (x22.1.1,x22.1.2.1,x22.1.2.2.1,(bM .i64 x22.1.2.2.2.1 (1:Int)),x22.1.2.2.2.2.1,x22.1.2.2.2.2.2.1,x22.1.2.2.2.2.2.2.1,x22.1.2.2.2.2.2.2.2.1,x24.2,(List.set x22.2.2.1 (0+(Int.toNat x22.1.2.2.2.1)) ((nth iB x22.2.2.1 (0+(Int.toNat x22.1.2.2.2.1))).1,(((nth iB x22.2.2.1 (0+(Int.toNat x22.1.2.2.2.1))).2.1.1,((nth iB x22.2.2.1 (0+(Int.toNat x22.1.2.2.2.1))).2.1.2.1,(x24.1,(nth iB x22.2.2.1 (0+(Int.toNat x22.1.2.2.2.1))).2.1.2.2.2))),(nth iB x22.2.2.1 (0+(Int.toNat x22.1.2.2.2.1))).2.2))),x22.1.2.2.2.2.2.2.2.2))) none) none) none) none) none)) none) none) none) none) (
   kx (ao.L2.eS (n_3,m_2,n2_3,n4L_4,n4L_5,n4_3,n16_3,n32_3,n58_2)).1 (ao.L2.eS (n_3,m_2,n2_3,n4L_4,n4L_5,n4_3,n16_3,n32_3,n58_2)).2):=by kernel_rfl
theorem ao.L3.run:bC ao.L3.call ao.L3.aB ao.L3.add ao.L3.F:=eI (eD [.d ti,.d ti,.d ti,.d ti,.d ti,.d ti,.d (.pair ti .unit),.n,.n,.d (.pair ti .unit),.d ja,.d (.slice iB),.d kG,.d ti,.n,.d (.pair tu .unit),.d (.slice iB),.d (.slice eU),.d (.slice jm)] fun _=>by kernel_rfl)
theorem ao.L3.aG:fR @ao.L3.R ao.L3.st ao.L3.aB ao.L3.add ao.L3.F ao.L3.bt ao.L3.Ok:=fV
theorem ao.L3.step{R:Type}(n_4:Int)(m_3:Int)(t66_2:Int)(t67_2:Int)(t85:Int)(t86:Int)(n2_4:(Int×Unit))(n4L_6:Nat)(n4L_7:Nat)(n4_4:(Int×Unit))(n16_4:eN)(n32_4:(List jU))(n32_5:kg)(n32_6:Int)(n32L:Nat)(n32_7:(Int×Unit))(n32_8:(List jU))(n58_3:(List gh))(n99:(List Sg))(kn:AS→Option R)(kx:Exit→AS→Option R):ao.L3.R (n_4,m_3,t66_2,t67_2,t85,t86,n2_4,n4L_6,n4L_7,n4_4,n16_4,n32_4,n32_5,n32_6,n32L,n32_7,n32_8,n58_3,n99) kn kx=
  aJ ((fZ t86 t85)) (
   aJ (decide ((((0+(Int.toNat t67_2))*36)+34)=(((0+((Int.toNat t67_2)*36))+33)+1))) (
   ah (ck.call n16_4) fun x7=>
   ah (ck.call x7.2) fun x8=>
   aJ (decide (n32L≤(List.length n99))) (
   aJ (dm (n32L+1) 16) (
   aJ (decide ((((0+(Int.toNat t67_2))*36)+34)=(((0+((Int.toNat t67_2)*36))+33)+1))) (
   kn (ao.L3.st (n_4,m_3,t66_2,t67_2,t85,(bM .i64 t86 (1:Int)),n2_4,n4L_6,n4L_7,n4_4,x8.2,n32_4,n32_5,n32_6,(n32L+1),n32_7,n32_8,n58_3,((List.take n32L n99)++ [(x7.1,(x8.1,()))])))) none) none) none) none) (
   aJ (decide (0=0∧(0+n32L)≤(List.length n99))) (
   kx (ao.L3.bt ((n_4,m_3,t66_2,t67_2,n2_4,n4L_6,n4L_7,n4_4,n58_3),(n16_4,(n32_4++(n32_5,((n32_6,((some (cut n99 0 n32L)),n32_7)),()))::n32_8),n99))).1 (ao.L3.bt ((n_4,m_3,t66_2,t67_2,n2_4,n4L_6,n4L_7,n4_4,n58_3),(n16_4,(n32_4++(n32_5,((n32_6,((some (cut n99 0 n32L)),n32_7)),()))::n32_8),n99))).2) none):=by kernel_rfl
theorem ao.eq{R:Type}(b:Bs)(k:a9→Option R):ao.A b k=
  ah (dI.call b) fun x4=>
  ah (dw.call ((64:Int),x4)) fun x8=>
  ah (ao.L0.call (x8.1,x8.1,(0:Int),((0:Int),()),0,((0:Int),()),x8.2,([]:List jU))) fun x26=>
  ah (dw.call ((64:Int),x26.2.2.1)) fun x30=>
  ah (ao.L1.call (x26.1.1,x30.1,x30.1,(0:Int),x26.1.2.1,x26.2.1,0,x26.1.2.2,x30.2,x26.2.2.2,([]:List gh))) fun x82=>
  aJ (x82.isLeft) (
   ah (x82.getLeft?) fun a83=>
   k (ao.out ((([]:List fD),(([]:List gh),a83)),false))) (
   ah (x82.getRight?) fun b84=>
   ah (bF.call b84.2.2.1) fun x88=>
   ah (ao.L2.call (b84.1.1,b84.1.2.1,((b84.1.2.2.2.1:Nat):Int),(0:Int),b84.1.2.2.1,b84.1.2.2.2.1,b84.2.1,(x88.1,b84.1.2.2.2.2.1.2),x88.2,b84.1.2.2.2.2.2,b84.2.2.2)) fun x124=>
   aJ (x124.isLeft) (
    ah (x124.getLeft?) fun a125=>
    k (ao.out ((([]:List fD),(([]:List gh),a125)),false))) (
    ah (x124.getRight?) fun b126=>
    aJ ((fZ b126.1 (0:Int))) (
     k (ao.out ((([]:List fD),(([]:List gh),((0:Int),()))),false))) (
     aJ ((fZ b126.2.1 (0:Int))) (
      k (ao.out ((([]:List fD),(([]:List gh),((0:Int),()))),false))) (
      ah (fA.call b126.2.2.2.2.2.2.1) fun x136=>
      aJ ((!x136.2)) (
       k (ao.out ((([]:List fD),(([]:List gh),((0:Int),()))),false))) (
       ah (ed.call x136.1) fun x137=>
       aJ ((oJ x137.2 (0:Int))) (
        k (ao.out ((([]:List fD),(([]:List gh),((0:Int),()))),false))) (
        aJ (decide (0=0∧(0+b126.2.2.2.1)≤(List.length b126.2.2.2.2.2.2.2.1))) (
        aJ (decide (0=0∧(0+b126.2.2.2.2.1)≤(List.length b126.2.2.2.2.2.2.2.2))) (
        ah (aq.call ((DY (.slice iB) (.slice eH) (cut b126.2.2.2.2.2.2.2.1 0 b126.2.2.2.1)),((cut b126.2.2.2.2.2.2.2.2 0 b126.2.2.2.2.1),b126.2.2.2.2.2.1))) fun x138=>
        aJ ((!x138)) (
         k (ao.out ((([]:List fD),(([]:List gh),((0:Int),()))),false))) (
         aJ (decide (0=0∧(0+b126.2.2.2.1)≤(List.length b126.2.2.2.2.2.2.2.1))) (
         aJ (decide (0=0∧(0+b126.2.2.2.2.1)≤(List.length b126.2.2.2.2.2.2.2.2))) (
         k (ao.out (((DY (.slice iB) (.slice eH) (cut b126.2.2.2.2.2.2.2.1 0 b126.2.2.2.1)),((cut b126.2.2.2.2.2.2.2.2 0 b126.2.2.2.2.1),b126.2.2.2.2.2.1)),true))) none) none)) none) none)))))):=by kernel_rfl
theorem ao.L0.ok:ao.L0.Ok:=by
 refine ao.L0.aG (fun(n,m,i,u,L,v,r,l)=>(m - i).toNat) ?_
 rintro⟨n,m,i,u,L,v,r,l⟩ ⟨hr,hm,k,rfl,hk,rfl,hlk⟩
 have hr:jb r:=hr
 have hm:m≤64:=hm
 have hlk:l.length=k:=hlk
 by_cases h:(k:Int) < m
 ·left
  have e1:(m - (k:Int)).toNat=(m - ((k+1:Nat):Int)).toNat+1:=by omega
  have h1:=wh hr
  refine⟨(n,m,((k+1:Nat):Int),u,l.length+1,v,(Db r).2,l++ [B9 (Db r).1]),⟨(iG h1.1).1.1,hm,k+1,rfl,by omega,by rw[List.length_append];rfl,by rw[List.length_append];show l.length+1=_;omega⟩,by show(m - ((k+1:Nat):Int)).toNat < (m - (k:Int)).toNat;omega,?_,fun kn kx=> ?_⟩
  ·simp only[ao.L0.add,ao.L0.F,e1,od,List.map_cons,List.append_assoc,List.singleton_append]
   rw[show ∀a c:Nat,a+1+c=a+(c+1) from fun a c=>by omega]
  ·rw[ao.L0.step,bu h,ea.run (d:=r) hr.1]
   simp only[av,aa,ea.add,ea.F]
   rw[bF.run (d:=(nr r).2) h1.1.1]
   simp only[aa,bF.add,bF.F]
   rw[aO (Nat.le_refl _),eE (by omega) (by omega),N.kM (by omega),List.take_length]
   rfl
 ·right
  intro R kn kx
  have e1:(m - (k:Int)).toNat=0:=by omega
  rw[ao.L0.step,bj h,ay]
  simp only[ao.L0.add,ao.L0.F,e1,od,List.map_nil,List.append_nil,Nat.add_zero]
theorem ao.L1.ok:ao.L1.Ok:=by
 refine ao.L1.aG (fun(n,m1,m,i,u,L,L2,v,r,l,os)=>(m - i).toNat) ?_
 rintro⟨n,m1,m,i,u,L,L2,v,r,l,os⟩ ⟨hr,hm,k,rfl,hk,rfl,hlk⟩
 have hr:jb r:=hr
 have hm:m≤64:=hm
 have hlk:os.length=k:=hlk
 by_cases h:(k:Int) < m
 ·have e1:(m - (k:Int)).toNat=(m - ((k+1:Nat):Int)).toNat+1:=by omega
  have h1:=iG hr
  have h2:=uL h1.1.1
  have step:∀ {R:Type} (kn:AS→Option R) (kx:Exit→AS→Option R),ao.L1.R (n,m1,m,(k:Int),u,L,os.length,v,r,l,os) kn kx=aJ (!(mK (mS (dh r).2).1).2) (kx (ao.L1.bt (0,())).1 (ao.L1.bt (0,())).2) (kn (ao.L1.st (n,m1,m,((k+1:Nat):Int),u,L,os.length+1,v,(sA r).2,l,os++ [(sA r).1]))):=by
   intro R kn kx
   rw[ao.L1.step,bu h,bF.run (d:=r) hr.1]
   simp only[av,aa,bF.add,bF.F]
   rw[dd.run (d:=(dh r).2) h1.1.1.1]
   simp only[aa,dd.add,dd.F]
   rw[aS.run (d:=(mS (dh r).2).1) ⟨h2.2.1,h2.2.2⟩]
   simp only[aa,aS.add,aS.F]
   rw[aO (Nat.le_refl _),eE (by omega) (by omega),N.kM (by omega),List.take_length]
   rfl
  cases hp:(mK (mS (dh r).2).1).2
  ·right
   refine⟨ao.L1.bt (0,()),?_,fun kn kx=> ?_⟩
   ·simp only[ao.L1.add,ao.L1.F,e1,mJ,hp,Bool.false_eq_true,if_false]
    rfl
   ·rw[step,hp];rfl
  ·left
   refine⟨(n,m1,m,((k+1:Nat):Int),u,L,os.length+1,v,(sA r).2,l,os++ [(sA r).1]),⟨h2.1.1,hm,k+1,rfl,by omega,by rw[List.length_append];rfl,by rw[List.length_append];show os.length+1=_;omega⟩,by show(m - ((k+1:Nat):Int)).toNat < (m - (k:Int)).toNat;omega,?_,fun kn kx=> ?_⟩
   ·simp only[ao.L1.add,ao.L1.F,e1,mJ,hp,if_true]
    cases mJ (m - ((k+1:Nat):Int)).toNat (sA r).2 with
    |none=>rfl
    |some x=>
     simp only[List.length_cons,List.append_assoc,List.singleton_append]
     rw[show ∀a c:Nat,a+1+c=a+(c+1) from fun a c=>by omega]
   ·rw[step,hp];rfl
 ·right
  have e1:(m - (k:Int)).toNat=0:=by omega
  refine⟨ao.L1.eS ((n,m1,u,L,v,l),(os.length,r,os)),?_,fun kn kx=> ?_⟩
  ·simp only[ao.L1.add,ao.L1.F,e1,mJ,List.length_nil,Nat.add_zero,List.append_nil]
   rfl
  ·rw[ao.L1.step,bj h,ay]
theorem ao.L3.ok:ao.L3.Ok:=by
 refine ao.L3.aG (fun(n,m1,mo,io,m,i,u,L,L2,v,r,la,op,br,Ls,sc,lb,os,sg)=>(m - i).toNat) ?_
 rintro⟨n,m1,mo,io,m,i,u,L,L2,v,r,la,op,br,Ls,sc,lb,os,sg⟩ ⟨hr,hm,k,rfl,hk,rfl,hlk⟩
 have hr:jb r:=hr
 have hm:m≤12:=hm
 have hlk:sg.length=k:=hlk
 by_cases h:(k:Int) < m
 ·left
  have e1:(m - (k:Int)).toNat=(m - ((k+1:Nat):Int)).toNat+1:=by omega
  have h1:=nY hr
  have h2:=nY h1.1
  refine⟨(n,m1,mo,io,m,((k+1:Nat):Int),u,L,L2,v,(Dd r).2,la,op,br,sg.length+1,sc,lb,os,sg++ [(Dd r).1]),⟨h2.1,hm,k+1,rfl,by omega,by rw[List.length_append];rfl,by rw[List.length_append];show sg.length+1=_;omega⟩,by show(m - ((k+1:Nat):Int)).toNat < (m - (k:Int)).toNat;omega,?_,fun kn kx=> ?_⟩
  ·simp only[ao.L3.add,ao.L3.F,e1,mB,List.append_assoc,List.singleton_append]
  ·rw[ao.L3.step,bu h,aO (by omega),ck.run (d:=r) hr.1]
   simp only[av,aa,ck.add,ck.F]
   rw[ck.run (d:=(iC r).2) h1.1.1]
   simp only[aa,ck.add,ck.F]
   rw[aO (Nat.le_refl _),eE (by omega) (by omega),N.kM (by omega),List.take_length]
   rfl
 ·right
  intro R kn kx
  have e1:(m - (k:Int)).toNat=0:=by omega
  rw[ao.L3.step,bj h,ay]
  simp only[ao.L3.add,ao.L3.F,e1,mB,List.append_nil,Nat.zero_add,Nat.le_refl,and_self,decide_true,av,fg]
theorem ao.L2.ok:ao.L2.Ok:=by
 refine ao.L2.aG (fun(n,m1,m,i,u,L,L2,v,r,l,os)=>l.length - i.toNat) ?_
 rintro⟨n,m1,m,i,u,L,L2,v,r,l,os⟩ ⟨hr,hl,k,rfl,hk,rfl,rfl,hg⟩
 have hr:jb r:=hr
 have hl:l.length≤64:=hl
 have hk:k≤l.length:=hk
 by_cases h:k < l.length
 ·have n1:nth iB l k=l[k]:=cC (t:=iB) h
  have hd:l.drop k=l[k]::l.drop (k+1):=List.drop_eq_getElem_cons h
  have hop:l[k]=B9 l[k].1:=hg _ (by rw[hd];exact List.mem_cons_self)
  obtain⟨op,hop2⟩:∃op,l[k].1=op:=⟨_,rfl⟩
  rw[hop2]at hop
  have h1:=iG hr
  have h2:=zp h1.1.1 12
  have h3:=zo h1.1.1.1 (m:=12) (by decide)
  have hw:=zq hr
  have hu:=nY hw.1
  have hat:(l.take k).length=k:=by rw[List.length_take];omega
  have step:∀ {R:Type} (kn:AS→Option R) (kx:Exit→AS→Option R),ao.L2.R (n,m1,(l.length:Int),(k:Int),u,l.length,L2,v,r,l,os) kn kx=aJ (fZ (oU 12 (dh r).2).1 0) (kx (ao.L2.bt (0,())).1 (ao.L2.bt (0,())).2) (kn (ao.L2.st (n,m1,(l.length:Int),((k+1:Nat):Int),u,l.length,L2,v,(iC (jH r).2).2,l.take k++(op,((dh r).1,some (jH r).1,(iC (jH r).2).1,()),())::l.drop (k+1),os))):=by
   intro R kn kx
   rw[ao.L2.step,bu (by omega),bo (by omega) (by omega),bF.run (d:=r) hr.1]
   have ns:∀y:jU,nth iB (l.set k y) k=y:=fun y=>y4 (t:=iB) h
   have nm:∀(y:jU) (b:List jU),nth iB (l.take k++y::b) k=y:=fun y b=>CC (t:=iB) hat
   simp only[av,aa,bF.add,bF.F,Int.toNat_natCast,Nat.zero_add,Nat.add_zero,n1,hop,aO h,decide_true]
   rw[dw.run (d:=(12,(dh r).2)) h1.1.1.1]
   simp only[av,aa,dw.add,dw.F]
   refine congrArg (fun z=>aJ _ _ z) ?_
   simp only[List.length_set,aO h,av,B9,ns,Ap,zI,Option.isNone_none]
   rw[ao.L3.run (d:=(n,m1,(l.length:Int),(k:Int),(oU 12 (dh r).2).1,0,u,l.length,L2,v,(oU 12 (dh r).2).2,l.take k,op,(dh r).1,0,(0,()),l.drop (k+1),os,[])) ⟨h2,h3.2,0,rfl,by decide,rfl,rfl⟩]
   simp only[aa,ao.L3.add,ao.L3.F,Int.sub_zero,List.nil_append]
   rw[show mB (oU 12 (dh r).2).1.toNat (oU 12 (dh r).2).2=jH r from rfl,ck.run (d:=(jH r).2) hw.1.1]
   simp only[aa,ck.add,ck.F,Int.toNat_natCast,nm,CI hat,aO (show k < (l.take k++(op,((dh r).1,some (jH r).1,0,()),())::l.drop (k+1)).length by rw[List.length_append,List.length_cons];omega),Nat.add_assoc,Nat.reduceAdd,decide_true,av]
   rw[N.kM (by omega)]
  by_cases hp:(oU 12 (dh r).2).1 < 0
  ·right
   refine⟨ao.L2.bt (0,()),?_,fun kn kx=> ?_⟩
   ·simp only[ao.L2.add,ao.L2.F,Int.toNat_natCast,hd,List.map_cons,mP,yF,if_pos hp]
    rfl
   ·rw[step,bu hp,av]
  ·left
   have hl2:(l.take k++(op,((dh r).1,some (jH r).1,(iC (jH r).2).1,()),())::l.drop (k+1)).length=l.length:=by
    rw[List.length_append,List.length_cons,List.length_drop];omega
   have hd2:(l.take k++(op,((dh r).1,some (jH r).1,(iC (jH r).2).1,()),())::l.drop (k+1)).drop (k+1)=l.drop (k+1):=by
    rw[List.append_cons,List.drop_left' (by rw[List.length_append];show(l.take k).length+1=_;omega)]
   have ht2:(l.take k++(op,((dh r).1,some (jH r).1,(iC (jH r).2).1,()),())::l.drop (k+1)).take (k+1)=l.take k++ [(op,((dh r).1,some (jH r).1,(iC (jH r).2).1,()),())]:=by
    rw[List.append_cons,List.take_left' (by rw[List.length_append];show(l.take k).length+1=_;omega)]
   refine⟨(n,m1,(l.length:Int),((k+1:Nat):Int),u,l.length,L2,v,(iC (jH r).2).2,l.take k++(op,((dh r).1,some (jH r).1,(iC (jH r).2).1,()),())::l.drop (k+1),os),⟨hu.1,by rw[hl2];exact hl,k+1,rfl,by rw[hl2];omega,by rw[hl2],by rw[hl2],by rw[hd2];exact fun x hx=>hg x (by rw[hd];exact List.mem_cons_of_mem _ hx)⟩,by simp only[Int.toNat_natCast,hl2];omega,?_,fun kn kx=> ?_⟩
   ·simp only[ao.L2.add,ao.L2.F,Int.toNat_natCast,hd2,ht2,hd,List.map_cons,mP,yF,if_neg hp,hop2]
    cases mP ((l.drop (k+1)).map (·.1)) (iC (jH r).2).2 with
    |none=>rfl
    |some x=>
     simp only[List.map_cons,List.append_assoc,List.singleton_append]
     rfl
   ·rw[step,bj hp,ay]
 ·right
  obtain rfl:k=l.length:=by omega
  refine⟨ao.L2.eS (n,m1,u,l.length,L2,v,r,l,os),?_,fun kn kx=> ?_⟩
  ·simp only[ao.L2.add,ao.L2.F,Int.toNat_natCast,List.drop_length,List.map_nil,mP,List.take_length,List.append_nil]
   rfl
  ·rw[ao.L2.step,bj (by omega),ay]
theorem Cy(l:List kg):(l.map B9).map (·.1)=l:=by
 rw[List.map_map]
 have:((fun x:jU=>x.1)∘B9)=id:=rfl
 rw[this,List.map_id]
theorem ao.ok:ao.Ok:=by
 rintro b ⟨hb,hl⟩
 have hb:Bytes b:=hb
 have hl:b.length≤1000000000:=hl
 have k0:=CF hb hl
 have k1:=zp k0 64
 have u1:=zo k0.1 (m:=64) (by decide)
 rw[ao.eq,dI.run (d:=b) hl]
 simp only[aa,dI.add,dI.F,ao.add,ao.F,vm]
 rw[dw.run (d:=(64,(b,false,()))) k0.1]
 simp only[aa,dw.add,dw.F]
 generalize oU 64 (b,false,())=n at*
 have o2:=y7 n.1.toNat k1
 rw[ao.L0.run (d:=(n.1,n.1,0,(0,()),0,(0,()),n.2,[])) ⟨k1,u1.2,0,rfl,by decide,rfl,rfl⟩]
 simp only[aa,ao.L0.add,ao.L0.F,Int.sub_zero,List.nil_append,Nat.zero_add]
 generalize od n.1.toNat n.2=ops at*
 have k3:=zp o2.1.1 64
 have u3:=zo o2.1.1.1 (m:=64) (by decide)
 rw[dw.run (d:=(64,ops.2)) o2.1.1.1]
 simp only[aa,dw.add,dw.F]
 generalize oU 64 ops.2=m at*
 rw[ao.L1.run (d:=(n.1,m.1,m.1,0,(0,()),n.1.toNat,0,(0,()),m.2,ops.1.map B9,[])) ⟨k3,u3.2,0,rfl,by decide,rfl,rfl⟩]
 simp only[aa,ao.L1.add,ao.L1.F,Int.sub_zero,List.nil_append,Nat.zero_add]
 cases hx:mJ m.1.toNat m.2 with
 |none=>rfl
 |some x=>
  have o4:=wV _ k3 hx
  have o5:=iG o4.1.1
  have ol:(ops.1.map B9).length=n.1.toNat:=by rw[List.length_map];exact o2.2.1
  simp only[Sum.isLeft_inr,Sum.getRight?_inr,ay,aa]
  rw[bF.run (d:=x.2) o4.1.1.1]
  simp only[aa,bF.add,bF.F]
  rw[ao.L2.run (d:=(n.1,m.1,(n.1.toNat:Int),0,(0,()),n.1.toNat,x.1.length,((dh x.2).1,()),(dh x.2).2,ops.1.map B9,x.1)) ⟨o5.1.1,by rw[ol];omega,0,rfl,Nat.zero_le _,by rw[ol],by rw[ol],fun z hz=>by
   rw[List.drop_zero]at hz
   obtain⟨o,_,rfl⟩:=List.mem_map.1 hz
   rfl⟩]
  simp only[aa,ao.L2.add,ao.L2.F,Int.toNat_zero,List.drop_zero,List.take_zero,List.nil_append,Cy,Bn]
  cases hy:mP ops.1 (dh x.2).2 with
  |none=>rfl
  |some y=>
   have o6:=xz _ o5.1.1 hy
   have yl:y.1.length=n.1.toNat:=by rw[←o2.2.1,←o6.2.1,List.length_map]
   have yl2:(y.1.map EJ).length=n.1.toNat:=by rw[List.length_map];exact yl
   simp only[Sum.isLeft_inr,Sum.getRight?_inr,ay,aa,AX]
   by_cases c1:n.1 < 0
   ·rw[bu c1,av,if_pos (Or.inl c1)];rfl
   rw[bj c1,ay]
   by_cases c2:m.1 < 0
   ·rw[bu c2,av,if_pos (Or.inr (Or.inl c2))];rfl
   rw[bj c2,ay,fA.run (d:=y.2) trivial]
   simp only[aa,fA.add,fA.F,Bool.not_not]
   cases c3:y.2.2.1
   ·rw[ay,ed.run (d:=y.2) trivial]
    simp only[aa,ed.add,ed.F]
    by_cases c4:0 < y.2.1.length
    ·rw[ek (by omega),av,if_pos (Or.inr (Or.inr (Or.inr (Or.inl c4))))];rfl
    ·rw[dR (by omega),ay,aO ⟨by trivial,by omega⟩,aO ⟨by trivial,by omega⟩,fg yl2,fg rfl,Dq,DR]
     simp only[av]
     rw[aq.run (d:=(y.1,x.1,(dh x.2).1,())) ⟨fun o ho=>(o4.2.2 o ho).2.2,by show y.1.length≤_;omega,by show x.1.length≤_;have:=o4.2.1;omega⟩]
     simp only[aa,aq.add,aq.F]
     cases c5:gn (y.1,x.1,(dh x.2).1,())
     ·rw[if_pos (Or.inr (Or.inr (Or.inr (Or.inr (by trivial)))))];rfl
     ·rw[if_neg (by
       rintro(z | z | z | z | z)
       ·exact c1 z
       ·exact c2 z
       ·cases z
       ·exact c4 z
       ·cases z)]
      rfl
   ·rw[av,if_pos (Or.inr (Or.inr (Or.inl (by trivial))))];rfl
noncomputable def ao.E:=Entry.cz [some tB] ao.st ao.aB ao.add ao.F ao.out
noncomputable def ao.call:ao.D→Option ao.X:=bH ao.E ao.st
theorem ao.run:bC ao.call ao.aB ao.add ao.F:=cQ (cP [.d tB] fun _=>by kernel_rfl)
noncomputable def ao.sg:SG Tryz.prog:=⟨24,aU,ao.E,.fn 4 (by kernel_rfl) ao.ok (And.intro (.cz ao.L0.ok (by kernel_rfl)) (And.intro (.cz ao.L1.ok (by kernel_rfl)) (And.intro (.cz ao.L2.ok (by kernel_rfl)) (And.intro (.cz ao.L3.ok (by kernel_rfl)) trivial))))⟩
set_option synthInstance.maxSize 5000
theorem xg(k:Int)(m:List Int):CU (eF k m):=by
 unfold eF
 split
 ·exact⟨(zk _).u,(uD _ _).u⟩
 ·exact⟨⟨Int.le_refl 0,by decide⟩,Int.le_refl 0,by decide⟩
theorem wa:∀(l l':List fD) (b:List Int),l.map (·.1)=l'.map (·.1)→l.foldl rv b=l'.foldl rv b
 |[],[],_,_=>rfl
 |[],_::_,_,h=>by cases h
 |_::_,[],_,h=>by cases h
 |x::l,y::l',b,h=>by
  rw[List.map_cons,List.map_cons,List.cons.injEq]at h
  have e:rv b x=rv b y:=by unfold rv;rw[h.1]
  rw[List.foldl_cons,List.foldl_cons,e,wa l l' _ h.2]
theorem Ae{l l':List fD}(t:List gh×Int×Unit)(h:l.map (·.1)=l'.map (·.1)):ki (l,t)=ki (l',t):=by
 have hl:l.length=l'.length:=by have:=congrArg List.length h;simpa using this
 unfold ki
 simp only[hl]
 rw[wa l l' _ h]
theorem wj:∀(l l':List fD) (m:List (kg×Bool)),l.map (·.1)=l'.map (·.1)→rf m l=true→(∀x∈l',mO x.2.1=true)→rf m l'=true
 |[],[],_,_,_,_=>rfl
 |[],_::_,_,h,_,_=>by cases h
 |_::_,[],_,h,_,_=>by cases h
 |x::l,y::l',m,h,hi,hw=>by
  rw[List.map_cons,List.map_cons,List.cons.injEq]at h
  rw[rf,Bool.and_eq_true,Bool.and_eq_true]at hi ⊢
  have hx:=hi.1.2
  unfold si at hx
  rw[Bool.and_eq_true]at hx
  refine⟨⟨?_,?_⟩,?_⟩
  ·have:=hi.1.1
   unfold se at this ⊢
   rw[←h.1]
   exact this
  ·unfold si
   rw[←h.1,hx.1,hw y List.mem_cons_self]
   rfl
  ·rw[←h.1]
   exact wj l l' _ h.2 hi.2 fun z hz=>hw z (List.mem_cons_of_mem _ hz)
theorem BY{l l':List fD}{t:List gh×Int×Unit}(h:l.map (·.1)=l'.map (·.1))(hok:gn (l,t)=true)(hw:∀x∈l',mO x.2.1=true):gn (l',t)=true:=by
 have hl:l.length=l'.length:=by have:=congrArg List.length h;simpa using this
 unfold gn vz at hok ⊢
 rw[Bool.and_eq_true,Bool.and_eq_true]at hok ⊢
 simp only[hl]at hok
 exact⟨hok.1,wj l l' _ h hok.2.1 hw,hok.2.2⟩
theorem zl{l l':List fD}{t:List gh×Int×Unit}(h:l.map (·.1)=l'.map (·.1))(h1:gn (l,t)=true)(h2:gn (l',t)=true):tx (l',t)=tx (l,t):=by
 unfold tx
 rw[h1,h2,Ae t h]
theorem yx{l l':List fD}{t:List gh×Int×Unit}(h:l.map (·.1)=l'.map (·.1))(h1:gn (l,t)=true)(h2:gn (l',t)=true):jS (l',t)=jS (l,t):=by
 unfold jS
 rw[h1,h2]
 exact h.symm
theorem Bm{l l':List fD}{t:List gh×Int×Unit}(h:l.map (·.1)=l'.map (·.1))(h1:gn (l,t)=true)(h2:gn (l',t)=true):om (l',t)=om (l,t):=by
 unfold om
 rw[h1,h2,zl h h1 h2]
def pT(t:fb)(k:Nat)(w:l7):fb:=(t.1.set k ((nth eH t.1 k).1,w,()),t.2)
theorem pU(l:List fD)(k:Nat)(w:l7)(h:k < l.length):l.map (·.1)=(l.set k ((nth eH l k).1,w,())).map (·.1):=by
 have n1:nth eH l k=l[k]:=cC (t:=eH) h
 rw[n1,List.map_set]
 have e:(l[k].1:kg)=(l.map (·.1))[k]'(by rw[List.length_map];exact h):=by rw[List.getElem_map]
 show _=(l.map (·.1)).set k l[k].1
 rw[e,List.set_getElem_self]
theorem xf{l:List fD}{k:Nat}{w:l7}{x:fD}(h:k < l.length)(hx:x∈l.set k ((nth eH l k).1,w,())):x∈l∨(x.1=l[k].1∧x.2.1=w):=by
 have n1:nth eH l k=l[k]:=cC (t:=eH) h
 rw[n1]at hx
 rcases List.mem_or_eq_of_mem_set hx with h1 | h1
 ·exact .inl h1
 ·exact .inr ⟨by rw[h1],by rw[h1]⟩
theorem rG{t:fb}{k:Nat}{w:l7}(h:k < t.1.length)(hok:gn t=true)(hw:mO w=true):gn (pT t k w)=true:=by
 obtain⟨_,b1,_⟩:=jE hok
 refine BY (l:=t.1) (pU t.1 k w h) hok fun x hx=> ?_
 rcases xf h hx with h1 | h1
 ·have:=g8 _ _ b1 x h1
  unfold si at this
  rw[Bool.and_eq_true]at this
  exact this.2
 ·rw[h1.2];exact hw
theorem DJ{t:fb}{k:Nat}{w:l7}(h:k < t.1.length)(hv:rH t)(hu:l9 w)(hl:w.2.1.length≤1000000000):rH (pT t k w):=by
 refine⟨⟨hv.1.1,by show(t.1.set k _).length≤_;rw[List.length_set];exact hv.1.2.1,hv.1.2.2⟩,fun x hx=> ?_,hv.2.2⟩
 rcases xf h hx with h1 | h1
 ·exact hv.2.1 x h1
 ·refine⟨?_,by rw[h1.2];exact hu,by rw[h1.2];exact hl⟩
  rw[h1.1]
  exact(hv.2.1 _ (List.getElem_mem h)).1
theorem CH{t:fb}{k:Nat}{w:l7}(h:k < t.1.length)(hok:gn t=true)(hw:mO w=true):tx (pT t k w)=tx t∧jS (pT t k w)=jS t∧om (pT t k w)=om t:=
 ⟨zl (l:=t.1) (pU t.1 k w h) hok (rG h hok hw),yx (l:=t.1) (pU t.1 k w h) hok (rG h hok hw),Bm (l:=t.1) (pU t.1 k w h) hok (rG h hok hw)⟩
theorem zh{t:fb}{k:Nat}{w:l7}(h:k < t.1.length):nth eH (pT t k w).1 k=((nth eH t.1 k).1,w,()):=y4 (t:=eH) h
theorem xe(t:fb)(k:Nat)(w:l7):(pT t k w).1.length=t.1.length:=List.length_set
def mV(t:fb)(br:Int)(ks:List Int)(sc:Int):l7:=(br,ks.map (fun k=>eF k (tx t)),sc,())
theorem pV(t:fb)(i br:Int)(ks:List Int)(sc:Int):BK t i br ks sc=if km t i br ks then(pT t i.toNat (mV t br ks sc),0) else(([],[],0,()),1):=rfl
theorem sO{t:fb}{i br:Int}{ks:List Int}(h:km t i br ks=true):gn t=true∧(0≤i∧i < t.1.length∧0≤br∧br < 4∧ks.length≤12)∧∀k∈ks,k < 2305843009213688669∧k≠0:=by
 unfold km at h
 simp only[Bool.and_eq_true,decide_eq_true_eq,Bool.not_eq_true']at h
 refine⟨h.1,h.2.1,fun k hk=> ?_⟩
 have:=h.2.2
 rw[List.any_eq_false]at this
 have:=this k hk
 unfold pe at this
 simpa using this
theorem CK{t:fb}{i br:Int}{ks:List Int}(sc:Int)(h:km t i br ks=true):mO (mV t br ks sc)=true:=by
 have e:=(sO h).2.1
 unfold mO mV
 rw[aO ⟨e.2.2.1,e.2.2.2.1⟩,aO (by rw[List.length_map];exact e.2.2.2.2)]
 rfl
theorem yu(t:fb)(br:Int)(ks:List Int){sc:Int}(h:gm sc):l9 (mV t br ks sc):=⟨fun s hs=>by
  obtain⟨k,_,rfl⟩:=List.mem_map.1 (show s∈ks.map fun k=>eF k (tx t) from hs)
  exact xg k _,h⟩
theorem BL{t:fb}{i br sc:Int}{ks:List Int}(hv:rH t)(h:km t i br ks=true)(hs:gm sc):
  gn (pT t i.toNat (mV t br ks sc))=true∧rH (pT t i.toNat (mV t br ks sc))∧tx (pT t i.toNat (mV t br ks sc))=tx t∧jS (pT t i.toNat (mV t br ks sc))=jS t∧om (pT t i.toNat (mV t br ks sc))=om t:=by
 obtain⟨hok,e,_⟩:=sO h
 have hk:i.toNat < t.1.length:=by omega
 have hw:=CK sc h
 exact⟨rG hk hok hw,DJ hk hv (yu t br ks hs) (by show(ks.map _).length≤_;rw[List.length_map];omega),CH hk hok hw⟩
def ER(t:fb):Prop:=(∀x∈t.1,Sm x.1.1∧l9 x.2.1)∧(∀o∈t.2.1,qd o.2.1)∧t.2.2.1≤9223372036854775807
theorem BP{t:fb}(h:qF t=true):t.1.length≤66∧t.2.1.length≤66∧(∀x∈t.1,x.2.1.2.1.length≤14)∧∀o∈t.2.1,o.2.1.1.length≤6∧∀b∈o.2.1.1,b.1.length≤14:=by
 unfold qF at h
 simp only[Bool.and_eq_true,decide_eq_true_eq,List.all_eq_true]at h
 refine⟨h.1.1,h.1.2,fun x hx=> ?_,fun o ho=> ?_⟩
 ·have:=h.2.1 x hx
  unfold jR at this
  simpa using this
 ·have:=h.2.2 o ho
  unfold iA at this
  simp only[Bool.and_eq_true,decide_eq_true_eq,List.all_eq_true]at this
  refine⟨this.1,fun b hb=> ?_⟩
  have:=this.2 b hb
  unfold jQ at this
  simpa using this
theorem BQ{t:fb}(hg:ER t)(h:qF t=true):rH t∧qe t∧CT t:=by
 obtain⟨h1,h2,h3,h4⟩:=BP h
 refine⟨⟨⟨fun o ho=>⟨hg.2.1 o ho,by have:=(h4 o ho).1;omega⟩,by omega,by omega⟩,fun x hx=>⟨(hg.1 x hx).1,(hg.1 x hx).2,by have:=h3 x hx;omega⟩,hg.2.2⟩,⟨⟨by omega,fun x hx=>by have:=h3 x hx;omega⟩,by omega,fun o ho=>⟨by have:=(h4 o ho).1;omega,fun b hb=>by have:=(h4 o ho).2 b hb;omega⟩⟩,⟨by omega,fun x hx=>by have:=h3 x hx;omega⟩,by omega,fun o ho=>⟨by have:=(h4 o ho).1;omega,fun b hb=>by have:=(h4 o ho).2 b hb;omega⟩⟩
theorem xi{t:fb}(h:gn t=true):qe t:=by
 obtain⟨⟨_,a2,a3,_⟩,b1,b2⟩:=jE h
 exact⟨⟨by omega,fun x hx=>by have:=mj (g8 _ _ b1 x hx);omega⟩,by omega,fun o ho=>by
  have:=Bj (iR _ _ b2 o ho).2
  exact⟨by omega,fun b hb=>by have:=this.2 b hb;omega⟩⟩
theorem mc{α:Type}{f:α→List Int}{l:List α}(h:∀x∈l,Bytes (f x)):Bytes (l.flatMap f):=fun b hb=>by
 obtain⟨x,hx,hb⟩:=List.mem_flatMap.1 hb
 exact h x hx b hb
theorem nw{α:Type}{f:α→List Int}{n:Nat}:∀ {l:List α},(∀x∈l,(f x).length≤n)→(l.flatMap f).length≤n*l.length
 |[],_=>Nat.zero_le _
 |x::l,h=>by
  rw[List.flatMap_cons,List.length_append,List.length_cons,Nat.mul_add,Nat.mul_one]
  have h1:=h x List.mem_cons_self
  have h2:=nw (l:=l) fun y hy=>h y (List.mem_cons_of_mem _ hy)
  omega
theorem Ar{t:fb}(hv:rH t):Bytes (BW t)∧(BW t).length≤1000000:=by
 cases hok:gn t
 ·unfold BW
  rw[hok]
  exact⟨fun x hx=>(by cases hx),Nat.zero_le _⟩
 obtain⟨⟨a1,a2,a3,a4⟩,b1,b2⟩:=jE hok
 have hin:∀x∈t.1,_:=fun x hx=>mj (g8 _ _ b1 x hx)
 rw[BX hok]
 have n0:∀ {n:Nat},n≤1000→mR (n:Int):=fun h=>jh (by omega)
 have e1:∀x∈t.1,Bytes (yj x.1)∧(yj x.1).length≤43:=fun x hx=>by
  have hi:=hin x hx
  have hr:=gN x.1.2.1
  have hs:=(hv.2.1 x hx).1
  exact⟨eO hs.2 (gf ⟨hi.1,by omega⟩),by unfold yj;rw[List.length_append,hs.1];omega⟩
 have e2:∀o∈t.2.1,Bytes (lY o)∧(lY o).length≤1022:=fun o ho=>by
  have hi:=(iR _ _ b2 o ho).1
  have hr:=gN o.1
  have hr2:=gN (oc o.2.1).length
  have hl:=ml o.2.1
  exact⟨eO (gf ⟨hi.1,by omega⟩) (eO (gf (n0 hl)) (zV _)),by unfold lY;rw[List.length_append,List.length_append];omega⟩
 have e3:∀x∈t.1,Bytes (lH x.2.1)∧(lH x.2.1).length≤300:=fun x hx=>by
  have hi:=hin x hx
  have hr:=gN x.2.1.1
  have hr2:=gN x.2.1.2.1.length
  have hf:=nw (f:=Aw) (n:=16) (l:=x.2.1.2.1) fun s _=>by unfold Aw;rw[List.length_append,bK,bK];omega
  refine⟨eO (gf ⟨hi.2.2.1,by omega⟩) (eO (gf (n0 (by omega))) (eO (mc fun s _=>eO (lS _) (lS _)) (lS _))),?_⟩
  unfold lH
  simp only[List.length_append,bK]
  omega
 have f1:=nw (f:=fun x:fD=>yj x.1) (n:=43) (l:=t.1) fun x hx=>(e1 x hx).2
 have f2:=nw (f:=lY) (n:=1022) (l:=t.2.1) fun x hx=>(e2 x hx).2
 have f3:=nw (f:=fun x:fD=>lH x.2.1) (n:=300) (l:=t.1) fun x hx=>(e3 x hx).2
 have r1:=gN t.1.length
 have r2:=gN t.2.1.length
 have r3:=gN t.2.2.1
 refine⟨eO (gf (n0 (by omega))) (eO (mc fun x hx=>(e1 x hx).1) (eO (gf (n0 (by omega))) (eO (mc fun x hx=>(e2 x hx).1) (eO (gf ⟨a4,hv.2.2⟩) (mc fun x hx=>(e3 x hx).1))))),?_⟩
 unfold EM
 simp only[List.length_append]
 omega
set_option synthInstance.maxSize 5000
def El:ByteArray:=⟨#[107,101,121]⟩
abbrev dj.D:=Bs
def dj.st:dj.D→SA:=fun seed=>([.d tH seed],[])
abbrev dj.Y:=Int
abbrev dj.X:=Int
def dj.out:dj.X→a9:=fun x=>⟨.d tu x,[],[]⟩
def dj.add:dj.D→dj.Y→dj.X:=fun seed y=>y
def dj.aB:dj.D→Prop:=fun s=>s.length=32
def dj.F:dj.D→dj.Y:=fun s=>nq (xt El [s])
noncomputable def dj.G:dS:=eR (P:=Tryz.prog) [bQ.sg,bw.sg]
noncomputable def dj.an:eA:= {}
noncomputable def dj.A:= @cJ Tryz.prog dj.G dj.an 0 Tryz.f74 _ dj.st
abbrev dj.Ok:=cK @dj.A dj.aB dj.add dj.F dj.out
theorem dj.eq{R:Type}(seed:Bs)(k:a9→Option R):dj.A seed k=
 ah (bQ.call ((⟨#[107,101,121]⟩:ByteArray),[(cut seed 0 32)])) fun x1=>
 ah (bw.call x1) fun x2=>
 k (dj.out x2):=by kernel_rfl
theorem dj.ok:dj.Ok:=by
 intro s h
 have h:s.length=32:=h
 rw[dj.eq,fg h]
 rw[bQ.run (d:=((⟨#[107,101,121]⟩:ByteArray),[s])) (pZ (by decide) (by omega))]
 simp only[aa,bQ.add,bQ.F]
 rw[bw.run (d:=tag (bh (⟨#[107,101,121]⟩:ByteArray)) [s]) (vr _ _)]
 rfl
noncomputable def dj.E:=Entry.cz [some tH] dj.st dj.aB dj.add dj.F dj.out
noncomputable def dj.call:dj.D→Option dj.X:=bH dj.E dj.st
theorem dj.run:bC dj.call dj.aB dj.add dj.F:=cQ (cP [.d tB] fun _=>by kernel_rfl)
noncomputable def dj.sg:SG Tryz.prog:=⟨74,aU,dj.E,.fn 0 (by kernel_rfl) dj.ok trivial⟩
abbrev di.D:=Int
def di.st:di.D→SA:=fun p=>([.d tu p],[])
abbrev di.Y:=Lk
abbrev di.X:=Lk
def di.out:di.X→a9:=fun x=>⟨.d jo x,[],[]⟩
def di.add:di.D→di.Y→di.X:=fun p y=>y
def di.aB:di.D→Prop:=fun _=>True
def di.F:di.D→di.Y:=fun p=>(([([p],0,0,0,())],()):Lk)
noncomputable def di.G:dS:=eR (P:=Tryz.prog) []
noncomputable def di.an:eA:= {}
noncomputable def di.A:= @cJ Tryz.prog di.G di.an 0 Tryz.f75 _ di.st
abbrev di.Ok:=cK @di.A di.aB di.add di.F di.out
theorem di.eq{R:Type}(p:Int)(k:a9→Option R):di.A p k=
 k (di.out ([([p],((0:Int),((0:Int),((0:Int),()))))],())):=by kernel_rfl
theorem di.ok:di.Ok:=by
 intro p _
 rw[di.eq]
 rfl
noncomputable def di.E:=Entry.cz [some tu] di.st di.aB di.add di.F di.out
noncomputable def di.call:di.D→Option di.X:=bH di.E di.st
theorem di.run:bC di.call di.aB di.add di.F:=cQ (cP [.d tu] fun _=>by kernel_rfl)
noncomputable def di.sg:SG Tryz.prog:=⟨75,aU,di.E,.fn 0 (by kernel_rfl) di.ok trivial⟩
def kK:Int:=2280522697135155589
def pK:Int:=261844167819670384
theorem E1:nq (xt El [1::List.replicate 31 0])=kK:=by decide+kernel
theorem AE:cS kK=pK:=by decide+kernel
def C6:Lk:=([([pK],0,0,0,())],())
def lg(n:Int):fD:=((List.replicate 32 0,n,()),(0,[],0,()),())
def t13:fb:=([lg 3,lg 4],[(5,C6,()),(0,C6,()),(0,C6,())],300,())
def CY:fb:=([],[],0,())
def EO:fb:=([lg 0,lg 0],[],0,())
theorem Bw:gn t13=true:=by decide+kernel
theorem Da:gn CY=false:=by decide+kernel
theorem Ep:gn EO=false:=by decide+kernel
theorem Ew:km t13 1 2 [kK]=true:=by decide+kernel
theorem Ex:km t13 2 2 [kK]=false:=by decide+kernel
theorem Ey:km t13 1 2 [0]=false:=by decide+kernel
theorem Bb(n:Int):Fs (lg n):=⟨⟨by show(List.replicate 32 (0:Int)).length=32;rw[List.length_replicate],fun x hx=>by obtain rfl:=(List.mem_replicate.1 hx).2;exact⟨by decide,by decide⟩⟩,⟨fun s hs=>(by cases hs),by show(0:Int)≤0;decide,by show(0:Int) < 18446744073709551616;decide⟩,Nat.zero_le _⟩
theorem Ei:Df C6:=⟨fun b hb=>by
 have hb:b∈ [(([pK],(0:Int),(0:Int),(0:Int),()):fU)]:=hb
 rw[List.mem_singleton]at hb
 subst hb
 exact⟨fun x hx=>by
  have hx:x∈ [pK]:=hx
  rw[List.mem_singleton]at hx
  subst hx
  exact⟨by decide,by decide⟩,by decide,by decide⟩,by decide⟩
theorem CO:rH t13:=⟨⟨fun o ho=>by
  have ho:o∈ [((5:Int),C6,()),(0,C6,()),(0,C6,())]:=ho
  simp only[List.mem_cons,List.not_mem_nil,or_false]at ho
  rcases ho with rfl | rfl | rfl <;> exact Ei,by decide,by decide⟩,fun x hx=>by
  have hx:x∈ [lg 3,lg 4]:=hx
  simp only[List.mem_cons,List.not_mem_nil,or_false]at hx
  rcases hx with rfl | rfl <;> exact Bb _,by decide⟩
theorem EC:rH CY:=⟨⟨fun o ho=>(by cases ho),by decide,by decide⟩,fun x hx=>(by cases hx),by decide⟩
theorem Fq:rH EO:=⟨⟨fun o ho=>(by cases ho),by decide,by decide⟩,fun x hx=>by
  have hx:x∈ [lg 0,lg 0]:=hx
  simp only[List.mem_cons,List.not_mem_nil,or_false]at hx
  rcases hx with rfl | rfl <;> exact Bb _,by decide⟩
theorem rL(k:Int):gm (cS k):=(ue _ _).u
theorem EA:gm 7:=⟨by decide,by decide⟩
theorem Eh:∀x∈ [kK],gm x:=fun x hx=>by
 rw[List.mem_singleton]at hx
 subst hx
 exact⟨by decide,by decide⟩
theorem tv:∃(m:List Int) (u:fb) (s:Sg) (bs:List Int),tid.call t13=some m∧bk.call (t13,1,2,[kK],7)=some (u,0)∧bk.call (t13,2,2,[kK],7)=some (CY,1)∧bk.call (t13,1,2,[0],7)=some (CY,1)∧
  aI.call u=some bs∧ao.call bs=some (u,true)∧aq.call EO=some false∧bA.call t13=some [(m,0,()),(m,1,()),(m,2,())]∧aP.call t13=some [(lg 3).1,(lg 4).1]∧u.1.length=2∧(nth eH u.1 1).2.1=(2,[s],7,())∧
  aq.call t13=some true∧tid.call u=some m∧bS.call (pK,m,s)=some true∧aN.call t13=some 54∧aN.call u=some 66∧dx.call (u,u)=some true∧dx.call (t13,u)=some false∧tid.call CY=some (List.replicate 32 0)∧aq.call CY=some false:=by
 have all:=BL CO Ew EA
 obtain⟨u,hu⟩:∃u,pT t13 (Int.toNat 1) (mV t13 2 [kK] 7)=u:=⟨_,rfl⟩
 have hat:nth eH u.1 1=((nth eH t13.1 1).1,mV t13 2 [kK] 7,()):=by rw[←hu];exact zh (by decide)
 have hlen:u.1.length=2:=by rw[←hu,xe];rfl
 have ho:u.2.1.length=3:=by rw[←hu];rfl
 have hf:u.1=[lg 3,((lg 4).1,mV t13 2 [kK] 7,())]:=by rw[←hu];rfl
 rw[hu]at all
 obtain⟨a1,a2,a3,a4,a5⟩:=all
 have hne:t13≠u:=fun e=>by
  have e1:t13.1=u.1:=by rw[←e]
  rw[hf]at e1
  have e2: [lg 3,lg 4]=[lg 3,((lg 4).1,mV t13 2 [kK] 7,())]:=e1
  rw[List.cons.injEq,List.cons.injEq]at e2
  have e3:(lg 4).2.1.1=(mV t13 2 [kK] 7).1:=by rw[e2.2.1]
  cases e3
 obtain⟨m,hm⟩:∃m,tx t13=m:=⟨_,rfl⟩
 have bl:=Ar a2
 refine⟨m,u,eF kK m,BW u,?_,?_,?_,?_,aI.run (d:=u) a2,?_,?_,?_,?_,hlen,?_,?_,?_,?_,?_,?_,?_,?_,?_,?_⟩
 ·rw[←hm];exact tid.run (d:=t13) CO
 ·rw[bk.run (d:=(t13,1,2,[kK],7)) ⟨CO,Eh,by decide⟩,←hu]
  simp only[bk.add,bk.F,pV,Ew,if_true]
 ·rw[bk.run (d:=(t13,2,2,[kK],7)) ⟨CO,Eh,by decide⟩]
  simp only[bk.add,bk.F,pV,Ex,Bool.false_eq_true,if_false]
  rfl
 ·rw[bk.run (d:=(t13,1,2,[0],7)) ⟨CO,fun x hx=>by rw[List.mem_singleton]at hx;subst hx;exact⟨by decide,by decide⟩,by decide⟩]
  simp only[bk.add,bk.F,pV,Ey,Bool.false_eq_true,if_false]
  rfl
 ·rw[ao.run (d:=BW u) ⟨bl.1,by show(BW u).length≤_;have:=bl.2;omega⟩]
  simp only[ao.add,ao.F,yr a2 a1]
 ·rw[aq.run (d:=EO) Fq.1]
  simp only[aq.add,aq.F,Ep]
 ·rw[bA.run (d:=t13) CO]
  simp only[bA.add,bA.F]
  unfold om
  rw[Bw,hm]
  rfl
 ·rw[aP.run (d:=t13) CO.1]
  simp only[aP.add,aP.F]
  unfold jS
  rw[Bw]
  rfl
 ·rw[hat]
  show mV t13 2 [kK] 7=_
  unfold mV
  rw[hm]
  rfl
 ·rw[aq.run (d:=t13) CO.1]
  simp only[aq.add,aq.F,Bw]
 ·rw[tid.run (d:=u) a2]
  simp only[tid.add,tid.F,a3,hm]
 ·rw[bS.run (d:=(pK,m,eF kK m)) ⟨by rw[←AE];exact rL _,by rw[←hm];exact yC,xg _ _⟩]
  simp only[bS.add,bS.F,←AE]
  rw[zi kK m (by decide) (by decide)]
 ·rw[aN.run (d:=t13) CO]
  simp only[aN.add,aN.F]
  unfold vB
  rw[Bw]
  rfl
 ·rw[aN.run (d:=u) a2]
  simp only[aN.add,aN.F]
  unfold vB
  rw[a1,hf,ho]
  rfl
 ·rw[dx.run (d:=(u,u)) (xi a1)]
  simp only[dx.add,dx.F,decide_true]
 ·rw[dx.run (d:=(t13,u)) (xi Bw)]
  simp only[dx.add,dx.F,decide_eq_false hne]
 ·rw[tid.run (d:=CY) EC]
  simp only[tid.add,tid.F]
  unfold tx
  rw[Da]
  rfl
 ·rw[aq.run (d:=CY) EC.1]
  simp only[aq.add,aq.F,Da]
theorem D4(m:List Int):Ty.beq tH m m=true:=na tH m rfl
abbrev bG.D:=Unit
def bG.st:bG.D→SA:=fun _=>([],[])
abbrev bG.Y:=Bool
abbrev bG.X:=Bool
def bG.out:bG.X→a9:=fun x=>⟨.d .bool x,[],[]⟩
def bG.add:bG.D→bG.Y→bG.X:=fun _ y=>y
def bG.aB:bG.D→Prop:=fun _=>True
def bG.F:bG.D→bG.Y:=fun _=>true
noncomputable def bG.G:dS:=eR (P:=Tryz.prog) [dj.sg,cH.sg,di.sg,bk.sg,aI.sg,ao.sg,aq.sg,bA.sg,aP.sg,tid.sg,bS.sg,aN.sg,dx.sg]
noncomputable def bG.an:eA:= {}
noncomputable def bG.A:= @cJ Tryz.prog bG.G bG.an 0 Tryz.f21 _ bG.st
abbrev bG.Ok:=cK @bG.A bG.aB bG.add bG.F bG.out
theorem bG.eq{R:Type}(k:a9→Option R):bG.A () k=
  ah (dj.call [(1:Int),(0:Int),(0:Int),(0:Int),(0:Int),(0:Int),(0:Int),(0:Int),(0:Int),(0:Int),(0:Int),(0:Int),(0:Int),(0:Int),(0:Int),(0:Int),(0:Int),(0:Int),(0:Int),(0:Int),(0:Int),(0:Int),(0:Int),(0:Int),(0:Int),(0:Int),(0:Int),(0:Int),(0:Int),(0:Int),(0:Int),(0:Int)]) fun x4=>
  ah (cH.call x4) fun x8=>
  ah (di.call x8) fun x18=>
  ah (di.call x8) fun x19=>
  ah (di.call x8) fun x20=>
  ah (bk.call (([(((List.replicate 32 (0:Int)),((3:Int),())),(((0:Int),(([]:List Sg),((0:Int),()))),())),(((List.replicate 32 (0:Int)),((4:Int),())),(((0:Int),(([]:List Sg),((0:Int),()))),()))],([((5:Int),(x18,())),((0:Int),(x19,())),((0:Int),(x20,()))],((300:Int),()))),(1:Int),(2:Int),[x4],(7:Int))) fun x24=>
  ah (bk.call (([(((List.replicate 32 (0:Int)),((3:Int),())),(((0:Int),(([]:List Sg),((0:Int),()))),())),(((List.replicate 32 (0:Int)),((4:Int),())),(((0:Int),(([]:List Sg),((0:Int),()))),()))],([((5:Int),(x18,())),((0:Int),(x19,())),((0:Int),(x20,()))],((300:Int),()))),(2:Int),(2:Int),[x4],(7:Int))) fun x28=>
  ah (bk.call (([(((List.replicate 32 (0:Int)),((3:Int),())),(((0:Int),(([]:List Sg),((0:Int),()))),())),(((List.replicate 32 (0:Int)),((4:Int),())),(((0:Int),(([]:List Sg),((0:Int),()))),()))],([((5:Int),(x18,())),((0:Int),(x19,())),((0:Int),(x20,()))],((300:Int),()))),(1:Int),(2:Int),[(0:Int)],(7:Int))) fun x32=>
  ah (aI.call x24.1) fun x39=>
  ah (ao.call x39) fun x40=>
  ah (aq.call ([(((List.replicate 32 (0:Int)),((0:Int),())),(((0:Int),(([]:List Sg),((0:Int),()))),())),(((List.replicate 32 (0:Int)),((0:Int),())),(((0:Int),(([]:List Sg),((0:Int),()))),()))],(([]:List gh),((0:Int),())))) fun x44=>
  ah (bA.call ([(((List.replicate 32 (0:Int)),((3:Int),())),(((0:Int),(([]:List Sg),((0:Int),()))),())),(((List.replicate 32 (0:Int)),((4:Int),())),(((0:Int),(([]:List Sg),((0:Int),()))),()))],([((5:Int),(x18,())),((0:Int),(x19,())),((0:Int),(x20,()))],((300:Int),())))) fun x48=>
  ah (aP.call ([(((List.replicate 32 (0:Int)),((3:Int),())),(((0:Int),(([]:List Sg),((0:Int),()))),())),(((List.replicate 32 (0:Int)),((4:Int),())),(((0:Int),(([]:List Sg),((0:Int),()))),()))],([((5:Int),(x18,())),((0:Int),(x19,())),((0:Int),(x20,()))],((300:Int),())))) fun x52=>
  aJ ((jw x24.2 (0:Int))) (
   k (bG.out false)) (
   aJ ((jw (((List.length x24.1.1):Nat):Int) (2:Int))) (
    k (bG.out false)) (
    aJ (ei (1:Int) (((List.length x24.1.1):Nat):Int)) (
    aJ ((jw (((List.length (nth eH x24.1.1 1).2.1.2.1):Nat):Int) (1:Int))) (
     k (bG.out false)) (
     aJ ((jw (((List.length x48):Nat):Int) (3:Int))) (
      k (bG.out false)) (
      aJ ((jw (((List.length x52):Nat):Int) (2:Int))) (
       k (bG.out false)) (
       aJ (ei (1:Int) (((List.length x24.1.1):Nat):Int)) (
       ah (aq.call ([(((List.replicate 32 (0:Int)),((3:Int),())),(((0:Int),(([]:List Sg),((0:Int),()))),())),(((List.replicate 32 (0:Int)),((4:Int),())),(((0:Int),(([]:List Sg),((0:Int),()))),()))],([((5:Int),(x18,())),((0:Int),(x19,())),((0:Int),(x20,()))],((300:Int),())))) fun x65=>
       aJ (x65) (
        aJ ((kI x28.2 (1:Int))) (
         aJ ((kI x32.2 (1:Int))) (
          ah (tid.call x24.1) fun x66=>
          ah (tid.call ([(((List.replicate 32 (0:Int)),((3:Int),())),(((0:Int),(([]:List Sg),((0:Int),()))),())),(((List.replicate 32 (0:Int)),((4:Int),())),(((0:Int),(([]:List Sg),((0:Int),()))),()))],([((5:Int),(x18,())),((0:Int),(x19,())),((0:Int),(x20,()))],((300:Int),())))) fun x67=>
          aJ ((Ty.beq tH x66 x67)) (
           ah (tid.call ([(((List.replicate 32 (0:Int)),((3:Int),())),(((0:Int),(([]:List Sg),((0:Int),()))),())),(((List.replicate 32 (0:Int)),((4:Int),())),(((0:Int),(([]:List Sg),((0:Int),()))),()))],([((5:Int),(x18,())),((0:Int),(x19,())),((0:Int),(x20,()))],((300:Int),())))) fun x68=>
           aJ (ei (0:Int) (((List.length (nth eH x24.1.1 1).2.1.2.1):Nat):Int)) (
           ah (bS.call (x8,x68,(nth jm (nth eH x24.1.1 1).2.1.2.1 0))) fun x69=>
           aJ (x69) (
            aJ ((kI (nth eH x24.1.1 1).2.1.1 (2:Int))) (
             aJ ((kI (nth eH x24.1.1 1).2.1.2.2.1 (7:Int))) (
              ah (aN.call ([(((List.replicate 32 (0:Int)),((3:Int),())),(((0:Int),(([]:List Sg),((0:Int),()))),())),(((List.replicate 32 (0:Int)),((4:Int),())),(((0:Int),(([]:List Sg),((0:Int),()))),()))],([((5:Int),(x18,())),((0:Int),(x19,())),((0:Int),(x20,()))],((300:Int),())))) fun x70=>
              aJ ((kI x70 (54:Int))) (
               ah (aN.call x24.1) fun x71=>
               aJ ((kI x71 (66:Int))) (
                aJ (x40.2) (
                 ah (dx.call (x40.1,x24.1)) fun x72=>
                 aJ (x72) (
                  ah (dx.call (([(((List.replicate 32 (0:Int)),((3:Int),())),(((0:Int),(([]:List Sg),((0:Int),()))),())),(((List.replicate 32 (0:Int)),((4:Int),())),(((0:Int),(([]:List Sg),((0:Int),()))),()))],([((5:Int),(x18,())),((0:Int),(x19,())),((0:Int),(x20,()))],((300:Int),()))),x24.1)) fun x73=>
                  aJ ((!x73)) (
                   aJ ((!x44)) (
                    aJ (ei (2:Int) (((List.length x48):Nat):Int)) (
                    ah (tid.call ([(((List.replicate 32 (0:Int)),((3:Int),())),(((0:Int),(([]:List Sg),((0:Int),()))),())),(((List.replicate 32 (0:Int)),((4:Int),())),(((0:Int),(([]:List Sg),((0:Int),()))),()))],([((5:Int),(x18,())),((0:Int),(x19,())),((0:Int),(x20,()))],((300:Int),())))) fun x74=>
                    aJ ((Ty.beq kG (nth kG x48 2) (x74,((2:Int),())))) (
                     aJ (ei (1:Int) (((List.length x52):Nat):Int)) (
                     aJ ((Ty.beq kG (nth kG x52 1) ((List.replicate 32 (0:Int)),((4:Int),())))) (
                      ah (tid.call (([]:List fD),(([]:List gh),((0:Int),())))) fun x75=>
                      aJ ((Ty.beq tH x75 (List.replicate 32 (0:Int)))) (
                       ah (aq.call (([]:List fD),(([]:List gh),((0:Int),())))) fun x76=>
                       k (bG.out (!x76))) (
                       k (bG.out false))) (
                      k (bG.out false))) none) (
                     k (bG.out false))) none) (
                    k (bG.out false))) (
                   k (bG.out false))) (
                  k (bG.out false))) (
                 k (bG.out false))) (
                k (bG.out false))) (
               k (bG.out false))) (
              k (bG.out false))) (
             k (bG.out false))) (
            k (bG.out false))) none) (
           k (bG.out false))) (
          k (bG.out false))) (
         k (bG.out false))) (
        k (bG.out false))) none)))) none)):=by kernel_rfl
theorem bG.ok:bG.Ok:=by
 rintro⟨⟩ _
 obtain⟨m,u,s,bs,f1,f2,f3,f4,f5,f6,f7,f8,f9,f10,f11,f12,f13,f14,f15,f16,f17,f18,f19,f20⟩:=tv
 have c1:dj.call (1::List.replicate 31 0)=some kK:=by rw[←E1];exact dj.run (d:=1::List.replicate 31 0) (by show(1::List.replicate 31 (0:Int)).length=32;rw[List.length_cons,List.length_replicate])
 have c2:cH.call kK=some pK:=by rw[←AE];exact cH.run (d:=kK) ⟨by decide,by decide⟩
 have c3:di.call pK=some C6:=di.run (d:=pK) trivial
 rw[bG.eq]
 refine(congrArg (fun z=>ah z _) c1).trans ?_
 rw[aa,c2,aa,c3]
 simp only[aa]
 refine(congrArg (fun z=>ah z _) f2).trans ?_
 rw[aa]
 refine(congrArg (fun z=>ah z _) f3).trans ?_
 rw[aa]
 refine(congrArg (fun z=>ah z _) f4).trans ?_
 rw[aa]
 simp only[f5,f6,aa,f10,f11]
 refine(congrArg (fun z=>ah z _) f7).trans ?_
 rw[aa]
 refine(congrArg (fun z=>ah z _) f8).trans ?_
 rw[aa]
 refine(congrArg (fun z=>ah z _) f9).trans ?_
 rw[aa]
 rw[show jw ((2:Nat):Int) 2=false from rfl,bo (by decide) (by decide),show jw (([s].length:Nat):Int) 1=false from rfl,show jw (([(m,(0:Int),()),(m,1,()),(m,2,())].length:Nat):Int) 3=false from rfl,show jw (([(lg 3).1,(lg 4).1].length:Nat):Int) 2=false from rfl]
 simp only[ay,av,show jw (0:Int) 0=false from rfl]
 refine(congrArg (fun z=>ah z _) f12).trans ?_
 rw[aa,av,cl rfl,av,av,f13,aa]
 refine(congrArg (fun z=>ah z _) f1).trans ?_
 rw[aa,D4,av]
 refine(congrArg (fun z=>ah z _) f1).trans ?_
 rw[aa,show ei 0 (([s].length:Nat):Int)=true from rfl,av]
 refine(congrArg (fun z=>ah z _) f14).trans ?_
 rw[aa,av,cl rfl,av,cl rfl,av]
 refine(congrArg (fun z=>ah z _) f15).trans ?_
 rw[aa,cl rfl,av,f16,aa,cl rfl,av,f17,aa,av]
 refine(congrArg (fun z=>ah z _) f18).trans ?_
 rw[aa]
 simp only[Bool.not_false,av]
 rw[show ei 2 (([(m,(0:Int),()),(m,1,()),(m,2,())].length:Nat):Int)=true from rfl,av]
 refine(congrArg (fun z=>ah z _) f1).trans ?_
 rw[aa,rM]
 refine(congrArg (fun z=>aJ z _ _) (aO (p:=((m,(2:Int),()):kg)=(m,2,())) rfl)).trans ?_
 rw[av,show ei 1 (([(lg 3).1,(lg 4).1].length:Nat):Int)=true from rfl,av,rM]
 refine(congrArg (fun z=>aJ z _ _) (aO (p:=((List.replicate 32 (0:Int),(4:Int),()):kg)=(List.replicate 32 0,4,())) rfl)).trans ?_
 rw[av]
 refine(congrArg (fun z=>ah z _) f19).trans ?_
 rw[aa,D4,av]
 refine(congrArg (fun z=>ah z _) f20).trans ?_
 rfl
noncomputable def bG.E:=Entry.cz [] bG.st bG.aB bG.add bG.F bG.out
noncomputable def bG.call:bG.D→Option bG.X:=bH bG.E bG.st
theorem bG.run:bC bG.call bG.aB bG.add bG.F:=cQ (cP [] fun _=>by kernel_rfl)
noncomputable def bG.sg:SG Tryz.prog:=⟨21,aU,bG.E,.fn 0 (by kernel_rfl) bG.ok trivial⟩
set_option synthInstance.maxSize 5000
theorem yK(k:Int):gm (cS k):=(ue _ _).u
theorem CL(k:Int)(m:List Int):CU (eF k m):=by
 unfold eF
 split
 ·exact⟨(zk _).u,(uD _ _).u⟩
 ·exact⟨⟨Int.le_refl 0,by decide⟩,Int.le_refl 0,by decide⟩
theorem Aj(br:Int)(ks:List Int)(m:List Int)(s:Int)(hs:gm s):l9 (e7 br ks m s):=
 ⟨fun x hx=>by
  have hx:x∈ks.map fun k=>eF k m:=hx
  obtain⟨k,_,rfl⟩:=List.mem_map.1 hx
  exact CL k m,hs⟩
def vF(a b:Int):Lk:=([([a,b],9,0,16,())],())
def oC:l7:=(1,[],0,())
def mT:List Int:=[152,45,158,62,185,150,245,89,230,51,244,209,148,222,243,118,29,144,159,90,59,100,125,26,133,31,234,214,124,50,201,209]
theorem Ek:CJ [116,101,120,116]=mT:=by decide+kernel
theorem EV:cS 3=64:=by decide+kernel
theorem EZ:cS 5=1024:=by decide+kernel
theorem s3:eF 3 mT=(2066670005889522986,1913675330412042729,()):=by decide+kernel
theorem s5:eF 5 mT=(1601457595092860225,1871270319440231866,()):=by decide+kernel
theorem W3(br s:Int):e7 br [3] mT s=(br,[(2066670005889522986,1913675330412042729,())],s,()):=by show(br,[eF 3 mT],s,())=_;rw[s3]
theorem W5(br s:Int):e7 br [5] mT s=(br,[(1601457595092860225,1871270319440231866,())],s,()):=by show(br,[eF 5 mT],s,())=_;rw[s5]
theorem ET(br s:Int):e7 br [3,5] mT s=(br,[(2066670005889522986,1913675330412042729,()),(1601457595092860225,1871270319440231866,())],s,()):=by show(br,[eF 3 mT,eF 5 mT],s,())=_;rw[s3,s5]
theorem tt:∃(m:List Int) (a b:Int),CJ [116,101,120,116]=m∧cS 3=a∧cS 5=b∧
  j5 (gM a b 7) (e7 1 [3] m 0) m 0 6=11∧j5 (gM a b 7) (e7 1 [3] m 0) m 0 7=0∧j5 (gM a b 7) (e7 0 [5] m 0) m 0 0=0∧
  j5 (gM a b 7) (e7 0 [3] m 0) m 0 9=7∧j5 (gM a b 7) (e7 2 [] m 0) m 0 9=1∧
  j5 (vF a b) (e7 0 [3,5] m 2) m 9 0=0∧j5 (vF a b) (e7 0 [3,5] m 2) m 8 0=11∧j5 (vF a b) (e7 0 [3,5] m 3) m 9 0=23∧j5 (vF a b) (e7 0 [3] m 2) m 9 0=7∧
  j5 (jJ a) oC m 0 16=0∧j5 (jJ a) oC m 0 15=11∧gb (vF a b)=true∧gb (hJ [a,b])=true:=
 ⟨mT,64,1024,Ek,EV,EZ,by rw[W3];decide+kernel,by rw[W3];decide+kernel,by rw[W5];decide+kernel,by rw[W3];decide+kernel,by decide+kernel,by rw[ET];decide+kernel,by rw[ET];decide+kernel,by rw[ET];decide+kernel,by rw[W3];decide+kernel,
  by decide+kernel,by decide+kernel,by decide+kernel,by decide+kernel⟩
theorem FD:gb (hJ [2])=false:=by decide+kernel
theorem FE:gb (hJ [4])=true:=by decide+kernel
theorem Fx:gb ([],())=false:=by decide+kernel
theorem E2:oc (hJ [4])=[1,1,0,0,0,0,0,0,0,4,0,0,0,0,0,0,0,0,0,0]:=by decide+kernel
theorem tF:∀l:List Int,gp (fun(x y:Int)=>x==y) l l=true
 |[]=>rfl
 |x::l=>by rw[gp,tF l];simp
theorem CW(l:List Int):Ty.beq (.arr 32 (.int .u8)) l l=true:=tF l
theorem BH(s:ByteArray):seq s s=true:=by simp[seq]
abbrev aX.uA.X:=Int×Int×Bool×Bs×Lk
def aX.uA.st:aX.uA.X→AS:=fun(a,b,one,n1,n5)=>⟨([.undef,.ptr (.new 1 0) 0 [] 0,.d tu a,.d tu b,.undef,.ptr (.new 5 0) 0 [] 0,.undef,.undef,.d .bool one]++bg 156 []),[],([[],[.obj 0 false (.d tH n1)],[],[],[],[.obj 0 false (.d jo n5)]]++bN 159 [])⟩
noncomputable def aX.uA.J:mZ:=mZ.of {bm:=[1,2,3,5,8],sites:=[1,5]} aX.uA.st
noncomputable def aX.uA.fin:aX.uA.X→Option aX.uA.X:=fun x=>(aX.uA.J).C3 .normal (aX.uA.st x)
theorem aX.uA.rW(x:aX.uA.X):aX.uA.fin x=some x:=mZ.yi (eD [.d tu,.d tu,.d .bool,.d tB,.d jo] fun _=>by kernel_rfl) x
abbrev aX.mQ.X:=Int×Int×Bool×Bool×Bs×Lk
def aX.mQ.st:aX.mQ.X→AS:=fun(a,b,one,two,n1,n5)=>⟨([.undef,.ptr (.new 1 0) 0 [] 0,.d tu a,.d tu b,.undef,.ptr (.new 5 0) 0 [] 0,.undef,.undef,.d .bool one,.d .bool two]++bg 155 []),[],([[],[.obj 0 false (.d tH n1)],[],[],[],[.obj 0 false (.d jo n5)]]++bN 159 [])⟩
noncomputable def aX.mQ.J:mZ:=mZ.of {bm:=[1,2,3,5,8,9],sites:=[1,5]} aX.mQ.st
noncomputable def aX.mQ.fin:aX.mQ.X→Option aX.mQ.X:=fun x=>(aX.mQ.J).C3 .normal (aX.mQ.st x)
theorem aX.mQ.rW(x:aX.mQ.X):aX.mQ.fin x=some x:=mZ.yi (eD [.d tu,.d tu,.d .bool,.d .bool,.d tB,.d jo] fun _=>by kernel_rfl) x
abbrev aX.nZ.X:=Int×Int×Bool×Bool×Bool×Lk
def aX.nZ.st:aX.nZ.X→AS:=fun(a,b,one,two,three,n5)=>⟨([.undef,.undef,.d tu a,.d tu b,.undef,.ptr (.new 5 0) 0 [] 0,.undef,.undef,.d .bool one,.d .bool two,.d .bool three]++bg 154 []),[],(bN 5 ([[.obj 0 false (.d jo n5)]]++bN 159 []))⟩
noncomputable def aX.nZ.J:mZ:=mZ.of {bm:=[2,3,5,8,9,10],sites:=[5]} aX.nZ.st
noncomputable def aX.nZ.fin:aX.nZ.X→Option aX.nZ.X:=fun x=>(aX.nZ.J).C3 .normal (aX.nZ.st x)
theorem aX.nZ.rW(x:aX.nZ.X):aX.nZ.fin x=some x:=mZ.yi (eD [.d tu,.d tu,.d .bool,.d .bool,.d .bool,.d jo] fun _=>by kernel_rfl) x
abbrev aX.D:=Unit
def aX.st:aX.D→SA:=fun _=>([],[])
abbrev aX.Y:=Bool
abbrev aX.X:=Bool
def aX.out:aX.X→a9:=fun x=>⟨.d .bool x,[],[]⟩
def aX.add:aX.D→aX.Y→aX.X:=fun _ y=>y
def aX.aB:aX.D→Prop:=fun _=>True
def aX.F:aX.D→aX.Y:=fun _=>true
noncomputable def aX.G:dS:=eR (P:=Tryz.prog) [aL.sg,cH.sg,dN.sg,aQ.sg,aY.sg,cq.sg,aK.sg,fa.sg,dG.sg,aD.sg,fj.sg,bQ.sg]
noncomputable def aX.an:eA:= {bI:=[11],C5:=kF [(9,aX.uA.J),(10,aX.mQ.J),(11,aX.nZ.J)]}
noncomputable def aX.A:= @cJ Tryz.prog aX.G aX.an 0 Tryz.f9 _ aX.st
abbrev aX.Ok:=cK @aX.A aX.aB aX.add aX.F aX.out
theorem aX.eq{R:Type}(k:a9→Option R):aX.A () k=
  ah (aL.call [(116:Int),(101:Int),(120:Int),(116:Int)]) fun x4=>
  ah (cH.call (3:Int)) fun x8=>
  ah (cH.call (5:Int)) fun x12=>
  ah (dN.call (x8,x12,(7:Int))) fun x16=>
  ah (aQ.call ((1:Int),[(3:Int)],x4,(0:Int))) fun x20=>
  ah (aQ.call ((0:Int),[(5:Int)],x4,(0:Int))) fun x24=>
  ah (
   ah (aY.call (x16,x20,x4,(0:Int),(6:Int))) fun x46=>
   aJ ((kI x46 (11:Int))) (
    ah (aY.call (x16,x20,x4,(0:Int),(7:Int))) fun x47=>
    aJ ((kI x47 (0:Int))) (
     ah (aY.call (x16,x24,x4,(0:Int),(0:Int))) fun x48=>
     aJ ((kI x48 (0:Int))) (
      ah (aQ.call ((0:Int),[(3:Int)],x4,(0:Int))) fun x49=>
      ah (aY.call (x16,x49,x4,(0:Int),(9:Int))) fun x50=>
      aJ ((kI x50 (7:Int))) (
       ah (aQ.call ((2:Int),([]:List Int),x4,(0:Int))) fun x51=>
       ah (aY.call (x16,x51,x4,(0:Int),(9:Int))) fun x52=>
       aX.uA.fin (x8,x12,(kI x52 (1:Int)),x4,([([x8,x12],((9:Int),((0:Int),((16:Int),()))))],()))) (
       aX.uA.fin (x8,x12,false,x4,([([x8,x12],((9:Int),((0:Int),((16:Int),()))))],())))) (
      aX.uA.fin (x8,x12,false,x4,([([x8,x12],((9:Int),((0:Int),((16:Int),()))))],())))) (
     aX.uA.fin (x8,x12,false,x4,([([x8,x12],((9:Int),((0:Int),((16:Int),()))))],())))) (
    aX.uA.fin (x8,x12,false,x4,([([x8,x12],((9:Int),((0:Int),((16:Int),()))))],())))) fun x53=>
  ah (
   ah (aQ.call ((0:Int),[(3:Int),(5:Int)],x53.2.2.2.1,(2:Int))) fun x78=>
   ah (aY.call (x53.2.2.2.2,x78,x53.2.2.2.1,(9:Int),(0:Int))) fun x79=>
   aJ ((kI x79 (0:Int))) (
    ah (aQ.call ((0:Int),[(3:Int),(5:Int)],x53.2.2.2.1,(2:Int))) fun x80=>
    ah (aY.call (x53.2.2.2.2,x80,x53.2.2.2.1,(8:Int),(0:Int))) fun x81=>
    aJ ((kI x81 (11:Int))) (
     ah (aQ.call ((0:Int),[(3:Int),(5:Int)],x53.2.2.2.1,(3:Int))) fun x82=>
     ah (aY.call (x53.2.2.2.2,x82,x53.2.2.2.1,(9:Int),(0:Int))) fun x83=>
     aJ ((kI x83 (23:Int))) (
      ah (aQ.call ((0:Int),[(3:Int)],x53.2.2.2.1,(2:Int))) fun x84=>
      ah (aY.call (x53.2.2.2.2,x84,x53.2.2.2.1,(9:Int),(0:Int))) fun x85=>
      aX.mQ.fin (x53.1,x53.2.1,x53.2.2.1,(kI x85 (7:Int)),x53.2.2.2.1,x53.2.2.2.2)) (
      aX.mQ.fin (x53.1,x53.2.1,x53.2.2.1,false,x53.2.2.2.1,x53.2.2.2.2))) (
     aX.mQ.fin (x53.1,x53.2.1,x53.2.2.1,false,x53.2.2.2.1,x53.2.2.2.2))) (
    aX.mQ.fin (x53.1,x53.2.1,x53.2.2.1,false,x53.2.2.2.1,x53.2.2.2.2))) fun x86=>
  ah (
   ah (cq.call x86.1) fun x99=>
   ah (aY.call (x99,((1:Int),(([]:List Sg),((0:Int),()))),x86.2.2.2.2.1,(0:Int),(16:Int))) fun x100=>
   aJ ((kI x100 (0:Int))) (
    ah (cq.call x86.1) fun x101=>
    ah (aY.call (x101,((1:Int),(([]:List Sg),((0:Int),()))),x86.2.2.2.2.1,(0:Int),(15:Int))) fun x102=>
    aX.nZ.fin (x86.1,x86.2.1,x86.2.2.1,x86.2.2.2.1,(kI x102 (11:Int)),x86.2.2.2.2.2)) (
    aX.nZ.fin (x86.1,x86.2.1,x86.2.2.1,x86.2.2.2.1,false,x86.2.2.2.2.2))) fun x103=>
  aJ (x103.2.2.1) (
   aJ (x103.2.2.2.1) (
    aJ (x103.2.2.2.2.1) (
     ah (aK.call x103.2.2.2.2.2) fun x118=>
     aJ (x118) (
      ah (fa.call (2:Int)) fun x119=>
      ah (aK.call x119) fun x120=>
      aJ ((!x120)) (
       ah (aK.call (([]:List fU),())) fun x121=>
       aJ ((!x121)) (
        ah (dG.call (x103.1,x103.2.1)) fun x122=>
        ah (aK.call x122) fun x123=>
        aJ (x123) (
         ah (fa.call (4:Int)) fun x124=>
         ah (aD.call x124) fun x125=>
         aJ ((seq (gK x125) (gK [(1:Int),(1:Int),(0:Int),(0:Int),(0:Int),(0:Int),(0:Int),(0:Int),(0:Int),(4:Int),(0:Int),(0:Int),(0:Int),(0:Int),(0:Int),(0:Int),(0:Int),(0:Int),(0:Int),(0:Int)]))) (
          ah (fa.call (4:Int)) fun x126=>
          ah (fj.call x126) fun x127=>
          ah (fa.call (4:Int)) fun x128=>
          ah (aD.call x128) fun x129=>
          ah (bQ.call ((⟨#[108,111,99,107]⟩:ByteArray),[x129])) fun x130=>
          aJ ((Ty.beq tH x127 x130)) (
           ah (fj.call (([]:List fU),())) fun x131=>
           k (aX.out (Ty.beq tH x131 (List.replicate 32 (0:Int))))) (
           k (aX.out false))) (
          k (aX.out false))) (
         k (aX.out false))) (
        k (aX.out false))) (
       k (aX.out false))) (
      k (aX.out false))) (
     k (aX.out false))) (
    k (aX.out false))) (
   k (aX.out false)):=by kernel_rfl
theorem aX.ok:aX.Ok:=by
 rintro⟨⟩ _
 obtain⟨m,a,b,hm,ha,hb,f1,f2,f3,f4,f5,f6,f7,f8,f9,f10,f11,f12,f13⟩:=tt
 have sm:Sm m:=hm▸BO _
 have ua:gm a:=by rw[←ha];exact yK 3
 have ub:gm b:=by rw[←hb];exact yK 5
 have u:∀n:Int,0≤n→n < 1000→gm n:=fun n h1 h2=>⟨h1,by omega⟩
 have k1:∀x:Int,gm x→iS [x]:=fun x hx y hy=>by
  simp only[List.mem_cons,List.not_mem_nil,or_false]at hy;rw[hy];exact hx
 have k2:∀x z:Int,gm x→gm z→iS [x,z]:=fun x z hx hz y hy=>by
  simp only[List.mem_cons,List.not_mem_nil,or_false]at hy;rcases hy with rfl | rfl <;> assumption
 have k0:iS []:=fun y hy=>by simp at hy
 have L1:qd (gM a b 7):=fun x hx=>by
  simp only[gM,List.mem_cons,List.not_mem_nil,or_false]at hx
  rcases hx with rfl | rfl
  ·exact⟨k1 b ub,u 0 (by omega) (by omega)⟩
  ·exact⟨k1 a ua,u 0 (by omega) (by omega)⟩
 have L2:qd (vF a b):=fun x hx=>by
  simp only[vF,List.mem_cons,List.not_mem_nil,or_false]at hx
  rw[hx]
  exact⟨k2 a b ua ub,u 16 (by omega) (by omega)⟩
 have L3:qd (jJ a):=fun x hx=>by
  simp only[jJ,List.mem_cons,List.not_mem_nil,or_false]at hx
  rcases hx with rfl | rfl
  ·exact⟨k1 a ua,u 0 (by omega) (by omega)⟩
  ·exact⟨k0,u 0 (by omega) (by omega)⟩
 have L4:∀ks,iS ks→qd (hJ ks):=fun ks hk x hx=>by
  simp only[hJ,List.mem_cons,List.not_mem_nil,or_false]at hx
  rw[hx]
  exact⟨hk,u 0 (by omega) (by omega)⟩
 have L5:qd (([],()):Lk):=fun x hx=>by simp at hx
 have n2:∀l:Lk,l.1.length≤2→l.1.length≤1000000000:=fun l h=>by omega
 have O:∀l w h t,qd l→l.1.length≤2→l9 w→aY.call (l,w,m,h,t)=some (j5 l w m h t):=fun l w h t h1 h2 h3=>aY.run (d:=(l,w,m,h,t)) ⟨h1,n2 l h2,h3,sm⟩
 have W:∀br ks s,iS ks→ks.length≤2→aQ.call (br,ks,m,s)=some (e7 br ks m s):=fun br ks s h1 h2=>aQ.run (d:=(br,ks,m,s)) ⟨h1,sm,by show ks.length≤1000000;omega⟩
 have R:∀l,qd l→l.1.length≤2→aK.call l=some (gb l):=fun l h1 h2=>aK.run (d:=l) ⟨h1,n2 l h2⟩
 have B:∀l,qd l→l.1.length≤2→aD.call l=some (oc l):=fun l h1 h2=>aD.run (d:=l) ⟨h1,n2 l h2⟩
 have S:∀l,qd l→l.1.length≤2→fj.call l=some (Dy l):=fun l h1 h2=>fj.run (d:=l) ⟨h1,n2 l h2⟩
 have u3:=u 3 (by omega) (by omega)
 have u5:=u 5 (by omega) (by omega)
 have c1:aL.call [116,101,120,116]=some m:=by rw[←hm];exact aL.run (d:=[116,101,120,116]) (by show [_,_,_,_].length≤_;simp only[List.length_cons,List.length_nil];omega)
 have c2:cH.call 3=some a:=by rw[←ha];exact cH.run (d:=3) u3
 have c3:cH.call 5=some b:=by rw[←hb];exact cH.run (d:=5) u5
 have c4:dN.call (a,b,7)=some (gM a b 7):=dN.run (d:=(a,b,7)) trivial
 have c5:cq.call a=some (jJ a):=cq.run (d:=a) trivial
 have c6:∀x,fa.call x=some (hJ [x]):=fun x=>fa.run (d:=x) trivial
 have c7:dG.call (a,b)=some (hJ [a,b]):=dG.run (d:=(a,b)) trivial
 have w1:=W 1 [3] 0 (k1 3 u3) (by simp)
 have w2:=W 0 [5] 0 (k1 5 u5) (by simp)
 have w3:=W 0 [3] 0 (k1 3 u3) (by simp)
 have w4:=W 2 [] 0 k0 (by simp)
 have w5:=W 0 [3,5] 2 (k2 3 5 u3 u5) (by simp)
 have w6:=W 0 [3,5] 3 (k2 3 5 u3 u5) (by simp)
 have w7:=W 0 [3] 2 (k1 3 u3) (by simp)
 have su:∀br ks s,0≤s→s < 1000→l9 (e7 br ks m s):=fun br ks s h1 h2=>Aj br ks m s (u s h1 h2)
 have ew:l9 oC:=⟨fun x hx=>by simp[oC]at hx,u 0 (by omega) (by omega)⟩
 have o1:=O (gM a b 7) (e7 1 [3] m 0) 0 6 L1 (by simp[gM]) (su _ _ _ (by omega) (by omega))
 have o2:=O (gM a b 7) (e7 1 [3] m 0) 0 7 L1 (by simp[gM]) (su _ _ _ (by omega) (by omega))
 have o3:=O (gM a b 7) (e7 0 [5] m 0) 0 0 L1 (by simp[gM]) (su _ _ _ (by omega) (by omega))
 have o4:=O (gM a b 7) (e7 0 [3] m 0) 0 9 L1 (by simp[gM]) (su _ _ _ (by omega) (by omega))
 have o5:=O (gM a b 7) (e7 2 [] m 0) 0 9 L1 (by simp[gM]) (su _ _ _ (by omega) (by omega))
 have o6:=O (vF a b) (e7 0 [3,5] m 2) 9 0 L2 (by simp[vF]) (su _ _ _ (by omega) (by omega))
 have o7:=O (vF a b) (e7 0 [3,5] m 2) 8 0 L2 (by simp[vF]) (su _ _ _ (by omega) (by omega))
 have o8:=O (vF a b) (e7 0 [3,5] m 3) 9 0 L2 (by simp[vF]) (su _ _ _ (by omega) (by omega))
 have o9:=O (vF a b) (e7 0 [3] m 2) 9 0 L2 (by simp[vF]) (su _ _ _ (by omega) (by omega))
 have o10:=O (jJ a) oC 0 16 L3 (by simp[jJ]) ew
 have o11:=O (jJ a) oC 0 15 L3 (by simp[jJ]) ew
 rw[f1]at o1
 rw[f2]at o2
 rw[f3]at o3
 rw[f4]at o4
 rw[f5]at o5
 rw[f6]at o6
 rw[f7]at o7
 rw[f8]at o8
 rw[f9]at o9
 rw[f10]at o10
 rw[f11]at o11
 have r1:=R (vF a b) L2 (by simp[vF])
 rw[f12]at r1
 have r2:=R (hJ [2]) (L4 _ (k1 2 (u 2 (by omega) (by omega)))) (by simp[hJ])
 rw[FD]at r2
 have r3:=R ([],()) L5 (by simp)
 rw[Fx]at r3
 have r4:=R (hJ [a,b]) (L4 _ (k2 a b ua ub)) (by simp[hJ])
 rw[f13]at r4
 have L6:qd (hJ [4]):=L4 _ (k1 4 (u 4 (by omega) (by omega)))
 have b4:=B (hJ [4]) L6 (by simp[hJ])
 have s4:=S (hJ [4]) L6 (by simp[hJ])
 have s0:=S ([],()) L5 (by simp)
 have t4:bQ.call ((⟨#[108,111,99,107]⟩:ByteArray),[oc (hJ [4])])=some (Dy (hJ [4])):=by
  rw[bQ.run (d:=((⟨#[108,111,99,107]⟩:ByteArray),[oc (hJ [4])])) (pZ (by decide) (by have:=ml (hJ [4]);omega)),Dy,FE]
  rfl
 have s0':Dy (([],()):Lk)=List.replicate 32 0:=by rw[Dy,Fx];rfl
 rw[s0']at s0
 have tw:(([([a,b],((9:Int),((0:Int),((16:Int),()))))],()):Lk)=vF a b:=rfl
 have tw2:((1:Int),(([]:List (Int×(Int×Unit))),((0:Int),())))=oC:=rfl
 rw[aX.eq]
 simp only[aX.uA.rW,aX.mQ.rW,aX.nZ.rW]
 rw[c1,aa,c2,aa,c3,aa,c4,aa,w1,aa,w2,aa,o1,aa,cl rfl,av,o2,aa,cl rfl,av,o3,aa,cl rfl,av,
  w3,aa,o4,aa,cl rfl,av,w4,aa,o5]
 simp only[aa,tw,tw2]
 rw[w5,aa,o6,aa,cl rfl,av,aa,o7,aa,cl rfl,av,w6,aa,o8,aa,cl rfl,av,w7,aa,o9]
 simp only[aa]
 rw[c5,aa,o10,aa,cl rfl,av,aa,o11]
 simp only[aa]
 rw[cl rfl,av,cl rfl,av,cl rfl,av,r1,aa,av,c6,aa,r2,aa]
 show ah (aK.call (([],()):Lk)) _=_
 rw[r3,aa]
 show ah (dG.call (a,b)) _=_
 rw[c7,aa,r4,aa,av,c6,aa,b4,aa,E2,BH,av,aa,s4,aa,aa,b4,aa,t4,aa,CW,av]
 show ah (fj.call (([],()):Lk)) _=_
 rw[s0,aa,CW]
 rfl
noncomputable def aX.E:=Entry.cz [] aX.st aX.aB aX.add aX.F aX.out
noncomputable def aX.call:aX.D→Option aX.X:=bH aX.E aX.st
theorem aX.run:bC aX.call aX.aB aX.add aX.F:=cQ (cP [] fun _=>by kernel_rfl)
noncomputable def aX.sg:SG Tryz.prog:=⟨9,aU,aX.E,.fn 0 (by kernel_rfl) aX.ok trivial⟩
set_option synthInstance.maxSize 5000
theorem u0:gm 0:=⟨Int.le_refl 0,by decide⟩
theorem iP{x:Int}{l:List Int}(h:gm x)(hl:iS l):iS (x::l):=fun p hp=>by
 rcases List.mem_cons.1 hp with rfl | hp
 ·exact h
 ·exact hl p hp
theorem lW:iS []:=fun p hp=>by cases hp
theorem va{ks:List Int}(h:iS ks):qd (hJ ks):=fun b hb=>by
 have hb:b∈ [(ks,(0:Int),(0:Int),(0:Int),())]:=hb
 rw[List.mem_singleton]at hb
 subst hb
 exact⟨h,u0⟩
theorem Bk{o r d:Int}(ho:gm o)(hr:gm r):qd (gM o r d):=fun b hb=>by
 have hb:b∈ [([r],(0:Int),(0:Int),(0:Int),()),([o],0,d,0,())]:=hb
 rcases List.mem_cons.1 hb with rfl | hb
 ·exact⟨iP hr lW,u0⟩
 ·rw[List.mem_singleton]at hb
  subst hb
  exact⟨iP ho lW,u0⟩
theorem Fw:pk 0=true:=rfl
theorem uK(ks:List Int)(a d:Int)(h:ks.length≤12):lQ (ks,a,d,0,())=(ks.all lh && (pk a && pk d)):=by
 have e:lQ (ks,a,d,0,())=(decide (ks.length≤12) && (ks.all lh && (pk a && (pk d && true)))):=rfl
 rw[e,aO h,Bool.true_and,Bool.and_true]
theorem wy(ks:List Int)(h:ks.length≤12):gb (hJ ks)=ks.all lh:=by
 have e:gb (hJ ks)=((lQ (ks,0,0,0,()) && true) && true):=rfl
 rw[e,uK _ _ _ h,Fw,Bool.and_true,Bool.and_true,Bool.and_true,Bool.and_true]
theorem zX(o r d:Int):gb (gM o r d)=(lh r && (lh o && pk d)):=by
 have e:gb (gM o r d)=((lQ ([r],0,0,0,()) && (lQ ([o],0,d,0,()) && true)) && true):=rfl
 rw[e,uK _ _ _ (Nat.le_of_ble_eq_true rfl),uK _ _ _ (Nat.le_of_ble_eq_true rfl),Fw]
 simp only[List.all_cons,List.all_nil,Bool.and_true,Bool.true_and]
def y6(b:fU)(sg:List Sg)(s:Int)(m:List Int)(height age:Int):Int:=
 if height < b.2.1∨age < b.2.2.1 then 11
 else if b.2.2.2.1≠0∧cS s≠b.2.2.2.1 then 23
 else if sg.length≠b.1.length then 7
 else if jF m b.1 sg then 0 else 7
theorem rE{l:Lk}{i:Nat}{b:fU}(hok:gb l=true)(hi:i < l.1.length)(hb:l.1[i]=b)(sg:List Sg)(s:Int)(m:List Int)(h a:Int):j5 l ((i:Int),sg,s,()) m h a=y6 b sg s m h a:=by
 have n1:nth (.pair (.slice (.int .u64)) (.pair (.int .i64) (.pair (.int .i64) (.pair (.int .u64) .unit)))) l.1 i=l.1[i]:=cC (t:=(.pair (.slice (.int .u64)) (.pair (.int .i64) (.pair (.int .i64) (.pair (.int .u64) .unit))))) hi
 unfold j5
 rw[if_neg (by
  intro hh
  rcases hh with hh | hh | hh
  ·rw[hok]at hh;cases hh
  ·have hh:(i:Int) < 0:=hh
   omega
  ·have hh:(i:Int)≥l.1.length:=hh
   omega)]
 show(if h < (nth (.pair (.slice (.int .u64)) (.pair (.int .i64) (.pair (.int .i64) (.pair (.int .u64) .unit)))) l.1 i).2.1∨a < (nth (.pair (.slice (.int .u64)) (.pair (.int .i64) (.pair (.int .i64) (.pair (.int .u64) .unit)))) l.1 i).2.2.1 then 11 else if(nth (.pair (.slice (.int .u64)) (.pair (.int .i64) (.pair (.int .i64) (.pair (.int .u64) .unit)))) l.1 i).2.2.2.1≠0∧cS s≠(nth (.pair (.slice (.int .u64)) (.pair (.int .i64) (.pair (.int .i64) (.pair (.int .u64) .unit)))) l.1 i).2.2.2.1 then 23 else if sg.length≠(nth (.pair (.slice (.int .u64)) (.pair (.int .i64) (.pair (.int .i64) (.pair (.int .u64) .unit)))) l.1 i).1.length then 7 else if jF m (nth (.pair (.slice (.int .u64)) (.pair (.int .i64) (.pair (.int .i64) (.pair (.int .u64) .unit)))) l.1 i).1 sg then 0 else 7)=_
 rw[n1,hb]
 rfl
theorem sZ(m:List Int):∀ks:List Int,(∀k∈ks,0 < k∧k < 2305843009213688669)→jF m (ks.map cS) (ks.map fun k=>eF k m)=true
 |[],_=>rfl
 |k::ks,h=>by
  have hk:=h k List.mem_cons_self
  show(kO (cS k) m 1 (eF k m) && jF m (ks.map cS) (ks.map fun k=>eF k m))=true
  rw[zi k m hk.1 hk.2,sZ m ks fun x hx=>h x (List.mem_cons_of_mem _ hx)]
  rfl
theorem pE(ks:List Int)(hk:∀k∈ks,0 < k∧k < 2305843009213688669)(af dl sc s:Int)(m:List Int)(h a:Int)(hs:sc=0∨cS s=sc):
  y6 (ks.map cS,af,dl,sc,()) (ks.map fun k=>eF k m) s m h a=if h < af∨a < dl then 11 else 0:=by
 have e:y6 (ks.map cS,af,dl,sc,()) (ks.map fun k=>eF k m) s m h a=if h < af∨a < dl then 11 else if sc≠0∧cS s≠sc then 23 else if(ks.map fun k=>eF k m).length≠(ks.map cS).length then 7 else if jF m (ks.map cS) (ks.map fun k=>eF k m) then 0 else 7:=rfl
 rw[e,sZ m ks hk,if_neg (c:=sc≠0∧cS s≠sc) (by rintro⟨h1,h2⟩;exact hs.elim h1 h2),if_neg (c:=(ks.map fun k=>eF k m).length≠(ks.map cS).length) (by rw[List.length_map,List.length_map];exact fun x=>x rfl)]
 rfl
theorem pA{l:Lk}{w:l7}{m:List Int}{h a v:Int}(hl:qd l)(hn:l.1.length≤1000000000)(hw:l9 w)(hm:Sm m)(e:j5 l w m h a=v):aY.call (l,w,m,h,a)=some v:=by
 rw[aY.run (d:=(l,w,m,h,a)) ⟨hl,hn,hw,hm⟩,←e]
 rfl
theorem Er{k:Int}(h:0 < k∧k < 2305843009213688669):∀x∈ [k],0 < x∧x < 2305843009213688669:=fun x hx=>by rw[List.mem_singleton]at hx;subst hx;exact h
theorem Es{k j:Int}(h:0 < k∧k < 2305843009213688669)(hj:0 < j∧j < 2305843009213688669):∀x∈ [k,j],0 < x∧x < 2305843009213688669:=fun x hx=>by
 rcases List.mem_cons.1 hx with rfl | hx
 ·exact h
 ·rw[List.mem_singleton]at hx;subst hx;exact hj
set_option synthInstance.maxSize 5000
abbrev bP.D:=fb×Int×Int×Int×Int×Int
def bP.st:bP.D→SA:=fun(t,inv,a,b,height,age)=>([.d gg t,.d ti inv,.d tu a,.d tu b,.d ti height,.d ti age],[])
abbrev bP.Y:=Bool
abbrev bP.X:=Bool
def bP.out:bP.X→a9:=fun x=>⟨.d .bool x,[],[]⟩
def bP.add:bP.D→bP.Y→bP.X:=fun(t,inv,a,b,height,age) y=>y
def bP.aB:bP.D→Prop:=fun(t,inv,a,b,h,age)=>ER t∧gm a∧gm b
def bP.F:bP.D→bP.Y:=fun _=>true
noncomputable def bP.G:dS:=eR (P:=Tryz.prog) [bG.sg,ab.sg,bk.sg,cH.sg,tid.sg,fa.sg,aY.sg,dG.sg,dN.sg]
noncomputable def bP.an:eA:= {}
noncomputable def bP.A:= @cJ Tryz.prog bP.G bP.an 0 Tryz.f8 _ bP.st
abbrev bP.Ok:=cK @bP.A bP.aB bP.add bP.F bP.out
theorem bP.eq{R:Type}(t:fb)(inv:Int)(a:Int)(b:Int)(height:Int)(age:Int)(k:a9→Option R):bP.A (t,inv,a,b,height,age) k=
  ah (bG.call ()) fun x4=>
  ah (ab.call t) fun x8=>
  aJ ((!x8)) (
   k (bP.out x4)) (
   aJ ((fZ height (0:Int))) (
    k (bP.out x4)) (
    aJ ((fZ age (0:Int))) (
     k (bP.out x4)) (
     ah (bk.call (t,inv,(0:Int),[a],(0:Int))) fun x12=>
     ah (bk.call (t,inv,(0:Int),[a,b],(0:Int))) fun x16=>
     aJ ((jw x12.2 (0:Int))) (
      k (bP.out x4)) (
      aJ ((jw x16.2 (0:Int))) (
       k (bP.out x4)) (
       aJ ((fZ inv (0:Int))) (
        k (bP.out false)) (
        aJ ((mU inv (((List.length x12.1.1):Nat):Int))) (
         k (bP.out false)) (
         aJ ((mU inv (((List.length x16.1.1):Nat):Int))) (
          k (bP.out false)) (
          ah (cH.call a) fun x20=>
          ah (cH.call b) fun x24=>
          ah (tid.call t) fun x28=>
          ah (fa.call x20) fun x35=>
          aJ (ei inv (((List.length x12.1.1):Nat):Int)) (
          ah (aY.call (x35,(nth eH x12.1.1 (Int.toNat inv)).2.1,x28,height,age)) fun x36=>
          ah (dG.call (x20,x24)) fun x43=>
          aJ (ei inv (((List.length x16.1.1):Nat):Int)) (
          ah (aY.call (x43,(nth eH x16.1.1 (Int.toNat inv)).2.1,x28,height,age)) fun x44=>
          ah (dG.call (x20,x24)) fun x51=>
          aJ (ei inv (((List.length x12.1.1):Nat):Int)) (
          ah (aY.call (x51,(nth eH x12.1.1 (Int.toNat inv)).2.1,x28,height,age)) fun x52=>
          ah (dN.call (x20,x24,(5:Int))) fun x59=>
          aJ (ei inv (((List.length x12.1.1):Nat):Int)) (
          ah (aY.call (x59,(nth eH x12.1.1 (Int.toNat inv)).2.1,x28,height,age)) fun x60=>
          aJ (x4) (
           aJ ((kI x36 (0:Int))) (
            aJ ((kI x44 (0:Int))) (
             aJ ((kI x52 (7:Int))) (
              aJ ((jw a b)) (
               k (bP.out true)) (
               k (bP.out (kI x60 (0:Int))))) (
              k (bP.out false))) (
             k (bP.out false))) (
            k (bP.out false))) (
           k (bP.out false))) none) none) none) none)))))))):=by kernel_rfl
theorem bP.ok:bP.Ok:=by
 intro(t,inv,a,b,h,age) ⟨hg,ha,hb⟩
 have ha:gm a:=ha
 have hb:gm b:=hb
 rw[bP.eq,bG.run (d:=()) trivial]
 simp only[aa]
 rw[ab.run (d:=t) trivial]
 simp only[aa,ab.add,ab.F,bG.add,bG.F,bP.add,bP.F]
 cases hs:qF t
 ·rfl
 obtain⟨hv,hsh,_⟩:=BQ hg hs
 simp only[Bool.not_true,ay]
 by_cases h0:h < 0
 ·rw[bu h0,av]
 by_cases g0:age < 0
 ·rw[bj h0,ay,bu g0,av]
 have k1:∀x∈ [a],gm x:=fun x hx=>by rw[List.mem_singleton]at hx;subst hx;exact ha
 have k2:∀x∈ [a,b],gm x:=fun x hx=>by
  rcases List.mem_cons.1 hx with rfl | hx
  ·exact ha
  ·rw[List.mem_singleton]at hx;subst hx;exact hb
 have hu0:gm 0:=⟨Int.le_refl 0,by decide⟩
 rw[bj h0,ay,bj g0,ay,bk.run (d:=(t,inv,0,[a],0)) ⟨hv,k1,by show 1≤1000000000;decide⟩,bk.run (d:=(t,inv,0,[a,b],0)) ⟨hv,k2,by show 2≤1000000000;decide⟩]
 simp only[aa,bk.add,bk.F,pV]
 cases ho:km t inv 0 [a]
 ·simp only[Bool.false_eq_true,if_false,show jw (1:Int) 0=true from rfl,av]
 cases ho2:km t inv 0 [a,b]
 ·simp only[Bool.false_eq_true,if_false,if_true,show jw (1:Int) 0=true from rfl,show jw (0:Int) 0=false from rfl,av,ay]
 obtain⟨hok,hr,hks⟩:=sO ho2
 have pa:0 < a∧a < 2305843009213688669:=⟨by have:=ha.1;have:=(hks a (by simp)).2;omega,(hks a (by simp)).1⟩
 have pb:0 < b∧b < 2305843009213688669:=⟨by have:=hb.1;have:=(hks b (by simp)).2;omega,(hks b (by simp)).1⟩
 obtain⟨k,rfl⟩:∃k:Nat,inv=k:=⟨inv.toNat,by omega⟩
 have hkl:k < t.1.length:=by omega
 simp only[if_true,show jw (0:Int) 0=false from rfl,ay,Int.toNat_natCast]
 simp only[xe,zh hkl]
 rw[bj (by omega),ay,eJ (by omega),ay,cH.run (d:=a) ha,cH.run (d:=b) hb,tid.run (d:=t) hv]
 simp only[aa,cH.add,cH.F,tid.add,tid.F,ay]
 obtain⟨m,hm⟩:∃m,tx t=m:=⟨_,rfl⟩
 have hms:Sm m:=by rw[←hm];exact yC
 have w1:mV t 0 [a] 0=(((0:Nat):Int),[a].map (fun k=>eF k m),0,()):=by rw[←hm];rfl
 have w2:mV t 0 [a,b] 0=(((0:Nat):Int),[a,b].map (fun k=>eF k m),0,()):=by rw[←hm];rfl
 have v1:l9 (((0:Nat):Int),[a].map (fun k=>eF k m),0,()):=by rw[←w1];exact yu t 0 [a] hu0
 have v2:l9 (((0:Nat):Int),[a,b].map (fun k=>eF k m),0,()):=by rw[←w2];exact yu t 0 [a,b] hu0
 have ia:=po a
 have ib:=po b
 have ua:=rL a
 have ub:=rL b
 have c1:fa.call (cS a)=some (hJ [cS a]):=fa.run (d:=cS a) trivial
 have c2:dG.call (cS a,cS b)=some (hJ [cS a,cS b]):=dG.run (d:=(cS a,cS b)) trivial
 have c3:dN.call (cS a,cS b,5)=some (gM (cS a) (cS b) 5):=dN.run (d:=(cS a,cS b,5)) trivial
 have n12:(1:Nat)≤12:=by decide
 have n22:(2:Nat)≤12:=by decide
 have l1:gb (hJ [cS a])=true:=by rw[wy [cS a] n12];simp only[List.all_cons,List.all_nil,ia,Bool.and_true]
 have l2:gb (hJ [cS a,cS b])=true:=by rw[wy [cS a,cS b] n22];simp only[List.all_cons,List.all_nil,ia,ib,Bool.and_true]
 have l3:gb (gM (cS a) (cS b) 5)=true:=by rw[zX,ia,ib];rfl
 have ha0:¬(h < 0∨age < 0):=by omega
 have s1:=pE [a] (Er pa) 0 0 0 0 m h age (.inl rfl)
 have s2:=pE [a,b] (Es pa pb) 0 0 0 0 m h age (.inl rfl)
 rw[if_neg ha0]at s1 s2
 have o1:aY.call (hJ [cS a],(((0:Nat):Int),[a].map (fun k=>eF k m),0,()),m,h,age)=some 0:=pA (va (iP ua lW)) (by show 1≤1000000000;decide) v1 hms (by rw[rE (b:=([cS a],0,0,0,())) l1 (by show 0 < 1;decide) rfl];exact s1)
 have o2:aY.call (hJ [cS a,cS b],(((0:Nat):Int),[a,b].map (fun k=>eF k m),0,()),m,h,age)=some 0:=pA (va (iP ua (iP ub lW))) (by show 1≤1000000000;decide) v2 hms (by rw[rE (b:=([cS a,cS b],0,0,0,())) l2 (by show 0 < 1;decide) rfl];exact s2)
 have o3:aY.call (hJ [cS a,cS b],(((0:Nat):Int),[a].map (fun k=>eF k m),0,()),m,h,age)=some 7:=pA (va (iP ua (iP ub lW))) (by show 1≤1000000000;decide) v1 hms (by
  rw[rE (b:=([cS a,cS b],0,0,0,())) l2 (by show 0 < 1;decide) rfl]
  have e:y6 ([cS a,cS b],0,0,0,()) ([a].map fun k=>eF k m) 0 m h age=if h < 0∨age < 0 then 11 else if(0:Int)≠0∧cS 0≠0 then 23 else if(1:Nat)≠2 then 7 else if jF m [cS a,cS b] ([a].map fun k=>eF k m) then 0 else 7:=rfl
  rw[e,if_neg ha0,if_neg (by simp),if_pos (by decide)])
 have o4:∃v,aY.call (gM (cS a) (cS b) 5,(((0:Nat):Int),[a].map (fun k=>eF k m),0,()),m,h,age)=some v∧(a=b→v=0):=by
  refine⟨_,pA (Bk ua ub) (by show 2≤1000000000;decide) v1 hms rfl,fun e=> ?_⟩
  subst e
  rw[rE (b:=([cS a],0,0,0,())) l3 (by show 0 < 2;decide) rfl]
  exact s1
 obtain⟨v,o4,hvv⟩:=o4
 rw[hm,w1,w2,bo (by omega) (by omega)]
 simp only[av]
 refine(congrArg (fun z=>ah z _) c1).trans ?_
 rw[aa]
 refine(congrArg (fun z=>ah z _) o1).trans ?_
 rw[aa]
 refine(congrArg (fun z=>ah z _) c2).trans ?_
 rw[aa]
 refine(congrArg (fun z=>ah z _) o2).trans ?_
 rw[aa]
 refine(congrArg (fun z=>ah z _) c2).trans ?_
 rw[aa]
 refine(congrArg (fun z=>ah z _) o3).trans ?_
 rw[aa]
 refine(congrArg (fun z=>ah z _) c3).trans ?_
 rw[aa]
 refine(congrArg (fun z=>ah z _) o4).trans ?_
 rw[aa,cl rfl,av,av,cl rfl,av]
 by_cases hab:a=b
 ·rw[bR hab,ay,cl (hvv hab)]
 ·rw[dA hab,av]
noncomputable def bP.E:=Entry.cz [some gg,some ti,some tu,some tu,some ti,some ti] bP.st bP.aB bP.add bP.F bP.out
noncomputable def bP.call:bP.D→Option bP.X:=bH bP.E bP.st
theorem bP.run:bC bP.call bP.aB bP.add bP.F:=cQ (cP [.d gg,.d ti,.d tu,.d tu,.d ti,.d ti] fun _=>by kernel_rfl)
noncomputable def bP.sg:SG Tryz.prog:=⟨8,aU,bP.E,.fn 0 (by kernel_rfl) bP.ok trivial⟩
end Go.Ab
