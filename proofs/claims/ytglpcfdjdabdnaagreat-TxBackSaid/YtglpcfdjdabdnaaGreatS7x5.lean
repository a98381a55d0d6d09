/-
  Made short by a program of mine (wip/tools/mini.py).
-/
import Derived.Test.YtglpcfdjdabdnaaGreatS7x4
set_option linter.unusedVariables false
set_option linter.unusedSimpArgs false
namespace Go.Ab
open Go.Proofs
set_option maxRecDepth 100000
set_option linter.unusedVariables false
set_option linter.unusedSimpArgs false
set_option synthInstance.maxSize 5000
theorem eK{a b:List Int}(ha:Bytes a)(hb:Bytes b):Bytes (a++b):=fun x hx=>by
 rcases List.mem_append.1 hx with h | h
 ·exact ha x h
 ·exact hb x h
theorem rX:∀(f:Nat) (n:Int),0≤n→n < 128^(f+1)→Bytes (eW f n).1∧tN (eW f n).2
 | 0,n,h0,h1=>by have h1:n < 128:=h1;exact⟨fun x hx=>(by cases hx),h0,by show n < 256;omega⟩
 |f+1,n,h0,h1=>by
  have e:(128:Int)^(f+1+1)=128^(f+1)*128:=Int.pow_succ 128 (f+1)
  rw[eW]
  split
  ·have ih:=rX f (n / 128) (by omega) (by omega)
   refine⟨fun x hx=> ?_,ih.2⟩
   rcases List.mem_cons.1 hx with rfl | hx
   ·exact⟨by omega,by omega⟩
   ·exact ih.1 x hx
  ·exact⟨fun x hx=>(by cases hx),h0,by show n < 256;omega⟩
theorem fZ{n:Int}(h:mD n):Bytes (fi n):=by
 have e10:(128:Int)^(10+1)=151115727451828646838272:=rfl
 obtain⟨h0,h1⟩:=h
 have:=rX 10 n h0 (by rw[e10];omega)
 unfold fi
 exact eK this.1 fun x hx=>by rw[List.mem_singleton]at hx;subst hx;exact this.2
theorem vJ:∀(ks:List Int) (o:List Int),jk o ks=o++ks.flatMap fJ
 |[],o=>by rw[List.flatMap_nil,List.append_nil];rfl
 |k::ks,o=>by
  show jk (o++fJ k) ks=_
  rw[vJ ks,List.flatMap_cons,List.append_assoc]
theorem xq(ks:List Int):Bytes (ks.flatMap fJ):=fun x hx=>by
 obtain⟨k,_,hk⟩:=List.mem_flatMap.1 hx
 exact lG k x hk
def Bq(b:fX):List Int:=fi b.1.length++(b.1.flatMap fJ++(fi b.2.1++(fi b.2.2.1++fJ b.2.2.2.1)))
theorem qV(o:List Int){n:Int}(h:0≤n):dZ o n=o++fi n:=by rw[dZ,if_neg (by omega)]
structure Cw(b:fX):Prop where
 len:b.1.length≤12
 af:mD b.2.1
 dl:mD b.2.2.1
theorem CH{b:fX}(h:nZ b=true):Cw b:=by
 unfold nZ vE at h
 simp only[Bool.and_eq_true,decide_eq_true_eq]at h
 obtain⟨h1,_,h2,h3,_⟩:=h
 exact⟨h1,⟨h2.1,by omega⟩,⟨h3.1,by omega⟩⟩
theorem jb{n:Nat}(h:n≤1000000000):mD (n:Int):=⟨by omega,by omega⟩
theorem CF(o:List Int){b:fX}(h:Cw b):Bp o b=o++Bq b:=by
 unfold Bp Bq
 rw[qV _ (Int.natCast_nonneg _),vJ,qV _ h.af.1,qV _ h.dl.1]
 simp only[List.append_assoc]
theorem xZ:∀(bs:List fX) (o:List Int),(∀b∈bs,Cw b)→bs.foldl Bp o=o++bs.flatMap Bq
 |[],o,_=>by rw[List.flatMap_nil,List.append_nil];rfl
 |b::bs,o,h=>by
  rw[List.foldl_cons,CF o (h b List.mem_cons_self),xZ bs _ fun x hx=>h x (List.mem_cons_of_mem _ hx),List.flatMap_cons,List.append_assoc]
theorem xt{l:Lk}(h:iK l=true):(∀b∈l.1,Cw b)∧0 < l.1.length∧l.1.length≤4:=by
 unfold iK at h
 simp only[Bool.and_eq_true,List.all_eq_true,decide_eq_true_eq]at h
 exact⟨fun b hb=>CH (h.1 b hb),h.2⟩
theorem AD{l:Lk}(h:iK l=true):oZ l=fi l.1.length++l.1.flatMap Bq:=by
 unfold oZ
 rw[if_pos h,xZ _ _ (xt h).1,qV _ (Int.natCast_nonneg _),List.nil_append]
theorem yU{b:fX}(h:Cw b):Bytes (Bq b):=
 have h12:=h.len
 eK (fZ (jb (by omega))) (eK (xq _) (eK (fZ h.af) (eK (fZ h.dl) (lG _))))
theorem zh(l:Lk):Bytes (oZ l):=by
 cases h:iK l
 ·unfold oZ
  rw[h,if_neg (by decide)]
  exact fun x hx=>(by cases hx)
 ·have hk:=xt h
  rw[AD h]
  refine eK (fZ (jb (by omega))) fun x hx=> ?_
  obtain⟨b,hb,hx⟩:=List.mem_flatMap.1 hx
  exact yU (hk.1 b hb) x hx
theorem xC{b:List Int}(h:Bytes b)(hl:b.length≤1000000000)(u:Bool×Unit):il (b,u):=⟨hl,h⟩
set_option synthInstance.maxSize 5000
def iO:Nat→eJ→List Int×eJ
 | 0,r=>([],r)
 |k+1,r=>((iy r).1::(iO k (iy r).2).1,(iO k (iy r).2).2)
def lE(k:Nat)(r:eJ):fX×eJ:=
 (((iO k r).1,(da (iO k r).2).1,(da (da (iO k r).2).2).1,(iy (da (da (iO k r).2).2).2).1,()),(iy (da (da (iO k r).2).2).2).2)
def lF:Nat→Int→eJ→List fX
 | 0,_,_=> []
 |f+1,n,r=>if 0 < n then(if f=0∨12 < (da r).1 then [] else(lE (da r).1.toNat (da r).2).1::lF f (n - 1) (lE (da r).1.toNat (da r).2).2) else []
def iR(b:List Int):List fX:=lF 5 (da (b,false,())).1 (da (b,false,())).2
theorem uu:∀(k:Nat) (r:eJ),il r→mK (iO k r).1∧(iO k r).1.length=k∧il (iO k r).2
 | 0,r,h=>⟨fun x hx=>(by cases hx),rfl,h⟩
 |k+1,r,h=>by
  have e:=qg h
  have ih:=uu k _ e.2
  refine⟨fun x hx=> ?_,by rw[iO,List.length_cons,ih.2.1],ih.2.2⟩
  rcases List.mem_cons.1 hx with rfl | hx
  ·exact e.1
  ·exact ih.1 x hx
theorem xW(k:Nat)(r:eJ)(h:il r):Ce (lE k r).1∧(lE k r).1.1.length=k∧il (lE k r).2:=by
 have h1:=uu k r h
 have h2:=g9 h1.2.2
 have h3:=g9 h2.2.2
 have h4:=qg h3.2.2
 exact⟨⟨h1.1,h4.1⟩,h1.2.1,h4.2⟩
theorem z9:∀(f:Nat) (n:Int) (r:eJ),il r→(∀b∈lF f n r,Ce b)∧(lF f n r).length≤f
 | 0,n,r,h=>⟨fun x hx=>(by cases hx),Nat.le_refl _⟩
 |f+1,n,r,h=>by
  have h1:=g9 h
  have h2:=xW (da r).1.toNat _ h1.2.2
  have ih:=z9 f (n - 1) _ h2.2.2
  rw[lF]
  split
  ·split
   ·exact⟨fun x hx=>(by cases hx),Nat.zero_le _⟩
   ·refine⟨fun x hx=> ?_,by rw[List.length_cons];omega⟩
    rcases List.mem_cons.1 hx with rfl | hx
    ·exact h2.1
    ·exact ih.1 x hx
  ·exact⟨fun x hx=>(by cases hx),Nat.zero_le _⟩
theorem yA{b:List Int}(h:Bytes b)(hl:b.length≤1000000000):xQ (iR b,())∧(iR b).length≤5:=by
 have e:=z9 5 (da (b,false,())).1 _ (g9 (xC h hl (false,()))).2.2
 exact⟨e.1,e.2⟩
theorem th:∀(ks:List Int) (rest:List Int),mK ks→iO ks.length (ks.flatMap fJ++rest,false,())=(ks,(rest,false,()))
 |[],rest,_=>rfl
 |k::ks,rest,h=>by
  have e:iy ((k::ks).flatMap fJ++rest,false,())=(k,(ks.flatMap fJ++rest,false,())):=by
   rw[List.flatMap_cons,List.append_assoc]
   exact nu k (h k List.mem_cons_self) _
  have ih:=th ks rest fun x hx=>h x (List.mem_cons_of_mem _ hx)
  rw[List.length_cons,iO,e,ih]
theorem yQ(b:fX)(hb:Ce b)(hk:Cw b)(rest:List Int):lE b.1.length (b.1.flatMap fJ++(fi b.2.1++(fi b.2.2.1++(fJ b.2.2.2.1++rest))),false,())=(b,(rest,false,())):=by
 unfold lE
 rw[th _ _ hb.1]
 simp only[]
 rw[nh _ hk.af,nh _ hk.dl,nu _ hb.2]
theorem z8(b:fX)(rest:List Int):Bq b++rest=fi b.1.length++(b.1.flatMap fJ++(fi b.2.1++(fi b.2.2.1++(fJ b.2.2.2.1++rest)))):=by
 unfold Bq
 simp only[List.append_assoc]
theorem vg:∀(bs:List fX) (f:Nat) (rest:List Int),(∀b∈bs,Ce b)→(∀b∈bs,Cw b)→bs.length+1≤f→lF f bs.length (bs.flatMap Bq++rest,false,())=bs
 |[],0,rest,_,_,h=>absurd h (by simp)
 |[],f+1,rest,_,_,_=>by
  rw[lF,if_neg (by show ¬(0:Int) < ((0:Nat):Int);omega)]
 |b::bs,0,rest,_,_,h=>absurd h (by simp)
 |b::bs,f+1,rest,hu,hk,h=>by
  have ub:=hu b List.mem_cons_self
  have kb:=hk b List.mem_cons_self
  have h:bs.length+1+1≤f+1:=h
  have e:(b::bs).flatMap Bq++rest=fi b.1.length++(b.1.flatMap fJ++(fi b.2.1++(fi b.2.2.1++(fJ b.2.2.2.1++(bs.flatMap Bq++rest))))):=by rw[List.flatMap_cons,List.append_assoc,z8]
  have h12:=kb.len
  rw[lF,if_pos (by rw[List.length_cons];omega),e,nh _ (jb (by omega))]
  simp only[Int.toNat_natCast]
  rw[if_neg (by omega),yQ b ub kb]
  simp only[]
  rw[show((b::bs).length:Int) - 1=(bs.length:Int) by rw[List.length_cons];omega,vg bs f rest (fun x hx=>hu x (List.mem_cons_of_mem _ hx)) (fun x hx=>hk x (List.mem_cons_of_mem _ hx)) (by omega)]
theorem zx{l:Lk}(hu:xQ l)(hok:iK l=true)(rest:List Int):iR (oZ l++rest)=l.1:=by
 have hk:=xt hok
 unfold iR
 rw[AD hok,List.append_assoc,nh _ (jb (by omega))]
 exact vg l.1 5 rest hu hk.1 (by omega)
def mw(b:List Int):Lk×Bool:=if iK (iR b,())=true∧oZ (iR b,())=b then((iR b,()),true) else(([],()),false)
theorem tr{l:Lk}(hu:xQ l)(hok:iK l=true):mw (oZ l)=(l,true):=by
 have e:iR (oZ l)=l.1:=by have e:=zx hu hok [];rw[List.append_nil]at e;exact e
 unfold mw
 rw[e]
 have e2:((l.1,()):Lk)=l:=rfl
 rw[e2,if_pos ⟨hok,rfl⟩]
theorem AZ{b:List Int}(h:(mw b).2=true):∃l:Lk,iK l=true∧oZ l=b∧mw b=(l,true)∧l=(iR b,()):=by
 unfold mw at h ⊢
 split at h
 ·rename_i hc
  exact⟨(iR b,()),hc.1,hc.2,by rw[if_pos hc],rfl⟩
 ·cases h
set_option synthInstance.maxSize 5000
abbrev aR.L0.D:=Bs×Int×Int×Nat×eJ×(List fX)
def aR.L0.st:aR.L0.D→AS:=fun(b_2,n,i,n5L,n11,n51)=>⟨([.d tB b_2,.undef,.ptr (.new 2 0) 0 [] 0,.undef,.ptr (.new 11 0) 0 [] 0,.ptr (.new 5 0) 0 [] 0,.d ti n,.d ti i]++ba 57 []),[],([[],[],[.obj 0 false (.pr (.cU) (.d .unit ()))],[],[],[.obj 0 false (.pr (.cd (.new 51 0) 0 [] 0 0 n5L) (.d .unit ()))]]++bN 5 ([[.obj 0 false (.d iU n11)]]++bN 39 ([[.obj 0 false (.vec 85 fe n51)]]++bN 13 [])))⟩
abbrev aR.L0.Y0:=Bs×Nat×(List fX)
abbrev aR.L0.X0:=Bs×Nat×(List fX)
def aR.L0.bq:aR.L0.X0→Exit×AS:=fun x=>(.exit 0,⟨([.d tB x.1,.undef,.ptr (.new 2 0) 0 [] 0,.undef,.undef,.ptr (.new 5 0) 0 [] 0]++ba 59 []),[],([[],[],[.obj 0 false (.pr (.cU) (.d .unit ()))],[],[],[.obj 0 false (.pr (.cd (.new 51 0) 0 [] 0 0 x.2.1) (.d .unit ()))]]++bN 45 ([[.obj 0 false (.vec 85 fe x.2.2)]]++bN 13 []))⟩)
abbrev aR.L0.X:=aR.L0.X0
abbrev aR.L0.Y:=aR.L0.Y0
def aR.L0.out:aR.L0.X→Out (Exit×AS):=fun x=> .ok (aR.L0.bq x)
def aR.L0.add:aR.L0.D→aR.L0.Y→aR.L0.X:=fun(b_2,n,i,n5L,n11,n51) y=>y
abbrev aR.L1.D:=Bs×Int×Int×Int×Int×Nat×Nat×(Int×(Int×(Int×Unit)))×eJ×(List Int)×(List fX)
def aR.L1.st:aR.L1.D→AS:=fun(b_3,n_2,i_2,t27,t28,n5L_2,n8L,n8,n11_2,n35,n51_2)=>⟨([.d tB b_3,.undef,.ptr (.new 2 0) 0 [] 0,.undef,.ptr (.new 11 0) 0 [] 0,.ptr (.new 5 0) 0 [] 0,.d ti n_2,.d ti i_2,.ptr (.new 8 0) 0 [] 0]++ba 18 ([.d ti t27,.d ti t28]++ba 36 [])),[],([[],[],[.obj 0 false (.pr (.cU) (.d .unit ()))],[],[],[.obj 0 false (.pr (.cd (.new 51 0) 0 [] 0 0 n5L_2) (.d .unit ()))],[],[],[.obj 0 false (.pr (.cd (.new 35 0) 0 [] 0 0 n8L) (.d (.pair ti (.pair ti (.pair tu .unit))) n8))],[],[],[.obj 0 false (.d iU n11_2)]]++bN 23 ([[.obj 0 false (.vec 58 tu n35)]]++bN 15 ([[.obj 0 false (.vec 85 fe n51_2)]]++bN 13 [])))⟩
abbrev aR.L1.Y0:=Nat×eJ×(List Int)
abbrev aR.L1.X0:=(Bs×Int×Int×Nat×(Int×(Int×(Int×Unit)))×(List fX))×(Nat×eJ×(List Int))
def aR.L1.bq:aR.L1.X0→Exit×AS:=fun x=>(.exit 2,⟨([.d tB x.1.1,.undef,.ptr (.new 2 0) 0 [] 0,.undef,.ptr (.new 11 0) 0 [] 0,.ptr (.new 5 0) 0 [] 0,.d ti x.1.2.1,.d ti x.1.2.2.1,.ptr (.new 8 0) 0 [] 0]++ba 56 []),[],([[],[],[.obj 0 false (.pr (.cU) (.d .unit ()))],[],[],[.obj 0 false (.pr (.cd (.new 51 0) 0 [] 0 0 x.1.2.2.2.1) (.d .unit ()))],[],[],[.obj 0 false (.pr (.cd (.new 35 0) 0 [] 0 0 x.2.1) (.d (.pair ti (.pair ti (.pair tu .unit))) x.1.2.2.2.2.1))],[],[],[.obj 0 false (.d iU x.2.2.1)]]++bN 23 ([[.obj 0 false (.vec 58 tu x.2.2.2)]]++bN 15 ([[.obj 0 false (.vec 85 fe x.1.2.2.2.2.2)]]++bN 13 [])))⟩)
abbrev aR.L1.X:=aR.L1.X0
abbrev aR.L1.Y:=aR.L1.Y0
def aR.L1.out:aR.L1.X→Out (Exit×AS):=fun x=> .ok (aR.L1.bq x)
def aR.L1.add:aR.L1.D→aR.L1.Y→aR.L1.X:=fun(b_3,n_2,i_2,t27,t28,n5L_2,n8L,n8,n11_2,n35,n51_2) y=>((b_3,n_2,i_2,n5L_2,n8,n51_2),y)
abbrev aR.D:=Bs
def aR.st:aR.D→SA:=fun b=>([.d tB b],[])
abbrev aR.Y:=Lk×Bool
abbrev aR.X:=Lk×Bool
def aR.out:aR.X→aY:=fun x=>⟨.cons (.d j3 x.1) (.cons (.d .bool x.2) (.nil)),[],[]⟩
def aR.add:aR.D→aR.Y→aR.X:=fun b y=>y
def aR.L1.aB:aR.L1.D→Prop:=fun(b,n,i,t,j,m1,m2,x,r,ks,bs)=>il r∧ks.length=m2∧m2≤1000∧∃k c:Nat,j=k∧t=c∧k≤c∧c≤12∧m2=k
def aR.L1.F:aR.L1.D→aR.L1.Y:=fun(b,n,i,t,j,m1,m2,x,r,ks,bs)=>(m2+(t - j).toNat,(iO (t - j).toNat r).2,ks++(iO (t - j).toNat r).1)
def aR.L0.aB:aR.L0.D→Prop:=fun(b,n,i,m,r,bs)=>il r∧n≤9223372036854775807∧bs.length=m∧∃k:Nat,i=k∧k≤4∧m=k
def aR.L0.F:aR.L0.D→aR.L0.Y:=fun(b,n,i,m,r,bs)=>(b,m+(lF (5 - i.toNat) (n - i) r).length,bs++lF (5 - i.toNat) (n - i) r)
def aR.aB:aR.D→Prop:=fun b=>Bytes b∧b.length≤1000000000
def aR.F:aR.D→aR.Y:=fun b=>mw b
noncomputable def aR.G:dR:=eO (P:=Tryz.prog) [dG.sg,bE.sg,cj.sg,aM.sg,aD.sg,bQ.sg]
noncomputable def aR.L0.E:=bM.ct aR.L0.st aR.L0.aB aR.L0.add aR.L0.F aR.L0.out
noncomputable def aR.L0.call:aR.L0.D→Option aR.L0.X:=dg aR.L0.E aR.L0.st
noncomputable def aR.L1.E:=bM.ct aR.L1.st aR.L1.aB aR.L1.add aR.L1.F aR.L1.out
noncomputable def aR.L1.call:aR.L1.D→Option aR.L1.X:=dg aR.L1.E aR.L1.st
noncomputable def aR.an:eu:= {loops:=jO [(5,{bh:=[0,2,4,5,6,7],sites:=[2,5,11,51],iu:=[⟨5,[.fst],51,22⟩]}),(11,{bh:=[0,2,4,5,6,7,8,27,28],sites:=[2,5,8,11,35,51],iu:=[⟨8,[.fst],35,83⟩]})],outs:=jN [(5,{bh:=[0,2,5],sites:=[2,5,51]},{bh:=[2,3]}),(11,{bh:=[0,2,4,5,6,7,8],sites:=[2,5,8,11,35,51]},{bh:=[2,3]})],fF:=ky [(5,aR.L0.E),(11,aR.L1.E)],res:=[some j3,none]}
noncomputable def aR.A:= @cI Tryz.prog aR.G aR.an 0 Tryz.f11 _ aR.st
abbrev aR.Ok:=cJ @aR.A aR.aB aR.add aR.F aR.out
noncomputable def aR.L0.R:= @cf Tryz.prog aR.G aR.an 0 Tryz.f11 0 _ aR.L0.st
abbrev aR.L0.Ok:=ez Tryz.prog aR.G aR.an 0 Tryz.f11 0 aR.L0.st aR.L0.aB aR.L0.add aR.L0.F aR.L0.out
noncomputable def aR.L1.R:= @cf Tryz.prog aR.G aR.an 0 Tryz.f11 1 _ aR.L1.st
abbrev aR.L1.Ok:=ez Tryz.prog aR.G aR.an 0 Tryz.f11 1 aR.L1.st aR.L1.aB aR.L1.add aR.L1.F aR.L1.out
theorem aR.L0.run:bB aR.L0.call aR.L0.aB aR.L0.add aR.L0.F:=eE (eD [.d tB,.d ti,.d ti,.n,.d iU,.d (.slice fe)] fun _=>by kernel_rfl)
theorem aR.L0.aH:fP @aR.L0.R aR.L0.st aR.L0.aB aR.L0.add aR.L0.F aR.L0.bq aR.L0.Ok:=fS
theorem aR.L0.step{R:Type}(b_2:Bs)(n:Int)(i:Int)(n5L:Nat)(n11:eJ)(n51:(List fX))(kn:AS→Option R)(kx:Exit→AS→Option R):aR.L0.R (b_2,n,i,n5L,n11,n51) kn kx=
  aJ ((fY i n)) (
   aq (bE.call n11) fun x22=>
   aJ ((nN i (4:Int))) (
    kx (aR.L0.bq (b_2,n5L,n51)).1 (aR.L0.bq (b_2,n5L,n51)).2) (
    aJ ((mG x22.1 (12:Int))) (
     kx (aR.L0.bq (b_2,n5L,n51)).1 (aR.L0.bq (b_2,n5L,n51)).2) (
     aq (aR.L1.call (b_2,n,i,x22.1,(0:Int),n5L,0,((0:Int),((0:Int),((0:Int),()))),x22.2,([]:List Int),n51)) fun x24=>
     aq (bE.call x24.2.2.1) fun x31=>
     aq (bE.call x31.2) fun x32=>
     aq (cj.call x32.2) fun x36=>
     aJ (decide (0=0∧(0+x24.2.1)≤(List.length x24.2.2.2))) (
     aJ (decide (x24.1.2.2.2.1≤(List.length x24.1.2.2.2.2.2))) (
     aJ (dh (x24.1.2.2.2.1+1) 48) (
     kn (aR.L0.st (x24.1.1,x24.1.2.1,(bK .i64 x24.1.2.2.1 (1:Int)),(x24.1.2.2.2.1+1),x36.2,((List.take x24.1.2.2.2.1 x24.1.2.2.2.2.2)++ [((cut x24.2.2.2 0 x24.2.1),(x31.1,(x32.1,(x36.1,x24.1.2.2.2.2.1.2.2.2))))])))) none) none) none))) (
   kx (aR.L0.bq (b_2,n5L,n51)).1 (aR.L0.bq (b_2,n5L,n51)).2):=by kernel_rfl
theorem aR.L1.run:bB aR.L1.call aR.L1.aB aR.L1.add aR.L1.F:=eE (eD [.d tB,.d ti,.d ti,.d ti,.d ti,.n,.n,.d (.pair ti (.pair ti (.pair tu .unit))),.d iU,.d tU,.d (.slice fe)] fun _=>by kernel_rfl)
theorem aR.L1.aH:fP @aR.L1.R aR.L1.st aR.L1.aB aR.L1.add aR.L1.F aR.L1.bq aR.L1.Ok:=fS
theorem aR.L1.step{R:Type}(b_3:Bs)(n_2:Int)(i_2:Int)(t27:Int)(t28:Int)(n5L_2:Nat)(n8L:Nat)(n8:(Int×(Int×(Int×Unit))))(n11_2:eJ)(n35:(List Int))(n51_2:(List fX))(kn:AS→Option R)(kx:Exit→AS→Option R):aR.L1.R (b_3,n_2,i_2,t27,t28,n5L_2,n8L,n8,n11_2,n35,n51_2) kn kx=
  aJ ((fY t28 t27)) (
   aq (cj.call n11_2) fun x4=>
   aJ (decide (n8L≤(List.length n35))) (
   aJ (dh (n8L+1) 8) (
   kn (aR.L1.st (b_3,n_2,i_2,t27,(bK .i64 t28 (1:Int)),n5L_2,(n8L+1),n8,x4.2,((List.take n8L n35)++ [x4.1]),n51_2))) none) none) (
   kx (aR.L1.bq ((b_3,n_2,i_2,n5L_2,n8,n51_2),(n8L,n11_2,n35))).1 (aR.L1.bq ((b_3,n_2,i_2,n5L_2,n8,n51_2),(n8L,n11_2,n35))).2):=by kernel_rfl
theorem aR.eq{R:Type}(b:Bs)(k:aY→Option R):aR.A b k=
  aq (dG.call b) fun x4=>
  aq (bE.call x4) fun x6=>
  aq (aR.L0.call (b,x6.1,(0:Int),0,x6.2,([]:List fX))) fun x96=>
  aJ (decide (0=0∧(0+x96.2.1)≤(List.length x96.2.2))) (
  aq (aM.call ((cut x96.2.2 0 x96.2.1),())) fun x106=>
  aJ ((!x106)) (
   k (aR.out ((([]:List fX),()),false))) (
   aJ (decide (0=0∧(0+x96.2.1)≤(List.length x96.2.2))) (
   aq (aD.call ((cut x96.2.2 0 x96.2.1),())) fun x107=>
   aq (bQ.call (x107,x96.1)) fun x108=>
   aJ ((!x108)) (
    k (aR.out ((([]:List fX),()),false))) (
    aJ (decide (0=0∧(0+x96.2.1)≤(List.length x96.2.2))) (
    k (aR.out (((cut x96.2.2 0 x96.2.1),()),true))) none)) none)) none:=by kernel_rfl
theorem aR.L1.ok:aR.L1.Ok:=by
 refine aR.L1.aH (fun(b,n,i,t,j,m1,m2,x,r,ks,bs)=>(t - j).toNat) ?_
 rintro⟨b,n,i,t,j,m1,m2,x,r,ks,bs⟩ ⟨hr,hks,hm,k,c,rfl,rfl,hkc,hc,hmk⟩
 have hr:il r:=hr
 have hks:ks.length=m2:=hks
 have hmk:m2=k:=hmk
 by_cases h:k < c
 ·left
  have e1:((c:Int) - (k:Int)).toNat=(c - (k+1))+1:=by omega
  have e2:((c:Int) - ((k+1:Nat):Int)).toNat=c - (k+1):=by omega
  refine⟨(b,n,i,(c:Int),((k+1:Nat):Int),m1,m2+1,x,(iy r).2,ks++ [(iy r).1],bs),⟨(qg hr).2,by rw[List.length_append];show ks.length+1=_;omega,by omega,k+1,c,rfl,rfl,by omega,hc,by omega⟩,by show((c:Int) - ((k+1:Nat):Int)).toNat < ((c:Int) - (k:Int)).toNat;omega,?_,fun kn kx=> ?_⟩
  ·simp only[aR.L1.add,aR.L1.F,e1,e2,iO,List.append_assoc,List.singleton_append]
   rw[show m2+1+(c - (k+1))=m2+(c - (k+1)+1) by omega]
  ·rw[aR.L1.step,bw (by omega),cj.run (d:=r) hr]
   simp only[ab,az,cj.add,cj.F]
   rw[aO (by omega),eB (by omega) (by omega),N.kA (by omega),List.take_of_length_le (by omega)]
   rfl
 ·right
  obtain rfl:k=c:=by omega
  intro R kn kx
  rw[aR.L1.step,bm (by omega),ay]
  simp only[aR.L1.add,aR.L1.F,Int.sub_self,Int.toNat_zero,iO,List.append_nil,Nat.add_zero]
theorem aR.L0.ok:aR.L0.Ok:=by
 refine aR.L0.aH (fun(b,n,i,m,r,bs)=>5 - i.toNat) ?_
 rintro⟨b,n,i,m,r,bs⟩ ⟨hr,hn,hbs,k,rfl,hk,hmk⟩
 have hr:il r:=hr
 have hn:n≤9223372036854775807:=hn
 have hbs:bs.length=m:=hbs
 have hmk:m=k:=hmk
 have e0:5 - (k:Int).toNat=(4 - k)+1:=by rw[Int.toNat_natCast];omega
 have g1:=g9 hr
 by_cases h:(k:Int) < n
 ·have hp:0 < n - (k:Int):=by omega
  by_cases hc:4 - k=0∨12 < (da r).1
  ·right
   intro R kn kx
   have eb:lF ((4 - k)+1) (n - (k:Int)) r=[]:=by rw[lF,if_pos hp,if_pos hc]
   rw[aR.L0.step,bw h,bE.run (d:=r) hr]
   simp only[ab,az,bE.add,bE.F,aR.L0.add,aR.L0.F,e0,eb,List.length_nil,Nat.add_zero,List.append_nil]
   by_cases h4:(k:Int)=4
   ·rw[dq h4,az]
   ·rw[eL h4,ay,dQ (by omega),az]
  ·left
   have h4:¬(k:Int)=4:=by omega
   have hkn:¬(da r).1 > 12:=by omega
   obtain⟨c,hcn⟩:∃c:Nat,(da r).1=c:=⟨(da r).1.toNat,by omega⟩
   have hbd:=xW c _ g1.2.2
   have gk:=uu c _ g1.2.2
   have ga:=g9 gk.2.2
   have gd:=g9 ga.2.2
   have eb:lF ((4 - k)+1) (n - (k:Int)) r=(lE c (da r).2).1::lF (4 - k) (n - (k:Int) - 1) (lE c (da r).2).2:=by
    rw[lF,if_pos hp,if_neg hc,hcn,Int.toNat_natCast]
   have e1:5 - ((k+1:Nat):Int).toNat=4 - k:=by rw[Int.toNat_natCast];omega
   refine⟨(b,n,((k+1:Nat):Int),m+1,(lE c (da r).2).2,bs++ [(lE c (da r).2).1]),⟨hbd.2.2,hn,by rw[List.length_append];show bs.length+1=_;omega,k+1,rfl,by omega,by omega⟩,by simp only[Int.toNat_natCast];omega,?_,fun kn kx=> ?_⟩
   ·simp only[aR.L0.add,aR.L0.F,e0,e1,eb,List.append_assoc,List.singleton_append,List.length_cons]
    rw[show n - ((k+1:Nat):Int)=n - (k:Int) - 1 by omega,show m+1+(lF (4 - k) (n - (k:Int) - 1) (lE c (da r).2).2).length=m+((lF (4 - k) (n - (k:Int) - 1) (lE c (da r).2).2).length+1) by omega]
   ·rw[aR.L0.step,bw h,bE.run (d:=r) hr]
    simp only[ab,az,bE.add,bE.F]
    rw[eL h4,ay,dE hkn,ay,hcn,aR.L1.run (d:=(b,n,(k:Int),(c:Int),0,m,0,(0,0,0,()),(da r).2,[],bs)) ⟨g1.2.2,rfl,by decide,0,c,rfl,rfl,Nat.zero_le _,by omega,rfl⟩]
    simp only[ab,aR.L1.add,aR.L1.F,Int.sub_zero,Int.toNat_natCast,Nat.zero_add,List.nil_append]
    rw[bE.run (d:=(iO c (da r).2).2) gk.2.2]
    simp only[ab,bE.add,bE.F]
    rw[bE.run (d:=(da (iO c (da r).2).2).2) ga.2.2]
    simp only[ab,bE.add,bE.F]
    rw[cj.run (d:=(da (da (iO c (da r).2).2).2).2) gd.2.2]
    simp only[ab,cj.add,cj.F]
    rw[aO ⟨by trivial,by rw[gk.2.1];exact Nat.le_refl _⟩,aO (by omega),eB (by omega) (by omega),N.kA (by omega),List.take_of_length_le (by omega),fa gk.2.1]
    rfl
 ·right
  intro R kn kx
  have eb:lF ((4 - k)+1) (n - (k:Int)) r=[]:=by rw[lF,if_neg (by omega)]
  rw[aR.L0.step,bm h,ay]
  simp only[aR.L0.add,aR.L0.F,e0,eb,List.length_nil,Nat.add_zero,List.append_nil]
theorem aR.ok:aR.Ok:=by
 rintro b ⟨hb,hl⟩
 have hb:Bytes b:=hb
 have hl:b.length≤1000000000:=hl
 have g0:=xC hb hl (false,())
 have g1:=g9 g0
 have gu:=yA hb hl
 rw[aR.eq,dG.run (d:=b) hl]
 simp only[ab,dG.add,dG.F]
 rw[bE.run (d:=(b,false,())) g0]
 simp only[ab,bE.add,bE.F]
 rw[aR.L0.run (d:=(b,(da (b,false,())).1,0,0,(da (b,false,())).2,[])) ⟨g1.2.2,g1.2.1,rfl,0,rfl,by decide,rfl⟩]
 simp only[ab,aR.L0.add,aR.L0.F,Int.toNat_zero,Nat.sub_zero,Int.sub_zero,Nat.zero_add,List.nil_append,Nat.le_refl,and_self,decide_true,az,fa]
 rw[show lF 5 (da (b,false,())).1 (da (b,false,())).2=iR b from rfl]
 have hL1:((iR b,()):Lk).1.length≤1000000000:=by show(iR b).length≤_;omega
 rw[aM.run (d:=(iR b,())) ⟨gu.1,hL1⟩]
 simp only[ab,aM.add,aM.F,aR.add,aR.F,mw]
 cases hok:iK (iR b,())
 ·rw[if_neg (by rintro⟨x,_⟩;cases x)];rfl
 ·rw[aD.run (d:=(iR b,())) ⟨gu.1,hL1⟩]
  simp only[Bool.not_true,ay,ab,aD.add,aD.F]
  rw[bQ.run (d:=(oZ (iR b,()),b)) (by show(oZ _).length≤_;have:=nG (iR b,());omega)]
  simp only[ab,bQ.add,bQ.F]
  by_cases hx:oZ (iR b,())=b
  ·rw[aO hx,if_pos ⟨by trivial,hx⟩];rfl
  ·rw[aK hx,if_neg (fun y=>hx y.2)];rfl
noncomputable def aR.E:=Entry.ct [some tB] aR.st aR.aB aR.add aR.F aR.out
noncomputable def aR.call:aR.D→Option aR.X:=bG aR.E aR.st
theorem aR.run:bB aR.call aR.aB aR.add aR.F:=cO (cM [.d tB] fun _=>by kernel_rfl)
noncomputable def aR.sg:SG Tryz.prog:=⟨11,aU,aR.E,.fn 2 (by kernel_rfl) aR.ok (And.intro (.ct aR.L0.ok (by kernel_rfl)) (And.intro (.ct aR.L1.ok (by kernel_rfl)) trivial))⟩
set_option synthInstance.maxSize 5000
def mY(r:eJ):List Int×eJ:=((gp 32 r).1++List.drop (gp 32 r).1.length (List.replicate 32 (0:Int)),(gp 32 r).2)
def mF(r:eJ):List Int×eJ:=if(da r).2.2.1=true then([],(da r).2) else gp (da r).1.toNat (da r).2
def kQ(most:Int)(r:eJ):Int×eJ:=(if(da r).1 > most then -1 else(da r).1,(da r).2)
def Cs(r:eJ):j4×eJ:=(((mY r).1,(da (mY r).2).1,()),(da (mY r).2).2)
def lM:Nat→eJ→List j4×eJ
 | 0,r=>([],r)
 |k+1,r=>((Cs r).1::(lM k (Cs r).2).1,(lM k (Cs r).2).2)
def rM(r:eJ):fM×eJ:=(((da r).1,(mw (mF (da r).2).1).1,()),(mF (da r).2).2)
def mv:Nat→eJ→Option (List fM×eJ)
 | 0,r=>some ([],r)
 |k+1,r=>if(mw (mF (da r).2).1).2=true then(match mv k (rM r).2 with
  |some x=>some ((rM r).1::x.1,x.2)
  |none=>none) else none
def Cv(r:eJ):Sg×eJ:=(((iy r).1,(iy (iy r).2).1,()),(iy (iy r).2).2)
def mi:Nat→eJ→List Sg×eJ
 | 0,r=>([],r)
 |k+1,r=>((Cv r).1::(mi k (Cv r).2).1,(mi k (Cv r).2).2)
def jy(r:eJ):List Sg×eJ:=mi (kQ 12 (da r).2).1.toNat (kQ 12 (da r).2).2
def xO(r:eJ):Option (mE×eJ):=if(kQ 12 (da r).2).1 < 0 then none else some (((da r).1,(jy r).1,(iy (jy r).2).1,()),(iy (jy r).2).2)
def mC:List j4→eJ→Option (List ff×eJ)
 |[],r=>some ([],r)
 |o::l,r=>match xO r with
  |none=>none
  |some w=>match mC l w.2 with
   |none=>none
   |some x=>some ((o,w.1,())::x.1,x.2)
def AL:eX×Bool:=(([],[],0,()),false)
def vo(n m:Int)(t:eX)(r:eJ):eX×Bool:=if n < 0∨m < 0∨r.2.1=true∨0 < r.1.length∨fH t=false then AL else(t,true)
def vV(n m:Int)(ops:List j4)(os:List fM)(r:eJ):eX×Bool:=match mC ops (da r).2 with
 |none=>AL
 |some x=>vo n m (x.1,os,(da r).1,()) x.2
def gW(b:List Int):eX×Bool:=
 let n:=kQ 64 (b,false,())
 let ops:=lM n.1.toNat n.2
 let m:=kQ 64 ops.2
 match mv m.1.toNat m.2 with
 |none=>AL
 |some x=>vV n.1 m.1 ops.1 x.1 x.2
def wX(o:j4):List Int:=o.1++fi o.2.1
def lN(o:fM):List Int:=fi o.1++(fi (oZ o.2.1).length++oZ o.2.1)
def zP(s:Sg):List Int:=fJ s.1++fJ s.2.1
def lu(w:mE):List Int:=fi w.1++(fi w.2.1.length++(w.2.1.flatMap zP++fJ w.2.2.1))
def Di(t:eX):List Int:=fi t.1.length++(t.1.flatMap (fun x=>wX x.1)++(fi t.2.1.length++(t.2.1.flatMap lN++(fi t.2.2.1++t.1.flatMap fun x=>lu x.2.1))))
theorem lI{α:Type}(f:List Int→α→List Int)(w:α→List Int):∀(l:List α) (b:List Int),(∀x∈l,∀b,f b x=b++w x)→l.foldl f b=b++l.flatMap w
 |[],b,_=>by simp
 |x::l,b,h=>by
  rw[List.foldl_cons,h x List.mem_cons_self,lI f w l _ fun y hy=>h y (List.mem_cons_of_mem _ hy),List.flatMap_cons,List.append_assoc]
theorem kL(b:List Int){n:Int}(h:0≤n):dZ b n=b++fi n:=by unfold dZ;rw[if_neg (by omega)]
theorem uP{t:eX}(hok:fH t=true):sy t=Di t:=by
 obtain⟨⟨_,a2,a3,a4⟩,b1,b2⟩:=jw hok
 have e1:∀b,t.1.foldl qP b=b++t.1.flatMap fun x=>wX x.1:=fun b=>lI _ _ _ _ fun x hx b=>by
  have:=l5 (gU _ _ b1 x hx)
  unfold qP wX
  rw[kL _ this.1,List.append_assoc]
 have e2:∀b,t.2.1.foldl qG b=b++t.2.1.flatMap lN:=fun b=>lI _ _ _ _ fun o ho b=>by
  have:=(iM _ _ b2 o ho).1
  unfold qG lN
  rw[kL _ this.1,List.append_assoc]
 have e3:∀(l:List Sg) b,l.foldl r9 b=b++l.flatMap zP:=fun l b=>lI _ _ _ _ fun s _ b=>by
  unfold r9 zP
  rw[List.append_assoc]
 have e4:∀b,t.1.foldl xN b=b++t.1.flatMap fun x=>lu x.2.1:=fun b=>lI _ _ _ _ fun x hx b=>by
  have:=l5 (gU _ _ b1 x hx)
  unfold xN lu
  rw[e3,kL _ this.2.2.1,kL _ (by omega)]
  simp only[List.append_assoc]
 unfold sy j6 Di
 rw[if_pos hok,e4,kL _ a4,e2,kL _ (by omega),e1,kL _ (by omega),List.nil_append]
 simp only[List.append_assoc]
theorem tD{n:Nat}(a rest:List Int)(h:a.length=n):gp n (a++rest,false,())=(a,(rest,false,())):=by
 unfold gp
 rw[if_neg (by
  intro x
  rcases x with x | x
  ·cases x
  ·have x:(a++rest).length < n:=x
   rw[List.length_append]at x
   omega)]
 show((a++rest).take n,((a++rest).drop n,false,()))=_
 rw[List.take_left' h,List.drop_left' h]
theorem y9(a rest:List Int)(h:a.length=32):mY (a++rest,false,())=(a,(rest,false,())):=by
 unfold mY
 rw[tD a rest h]
 simp only[h]
 rw[show List.drop 32 (List.replicate 32 (0:Int))=[] from rfl,List.append_nil]
theorem lK(n:Int)(h:mD n)(rest:List Int):da (fi n++rest,false,())=(n,(rest,false,())):=nh n h rest _
theorem Ac(a rest:List Int)(h:a.length≤1000000000):mF (fi a.length++(a++rest),false,())=(a,(rest,false,())):=by
 unfold mF
 rw[lK _ (jb (by omega))]
 simp only[Bool.false_eq_true,if_false,Int.toNat_natCast]
 exact tD a rest rfl
theorem uR{n m:Int}(h:mD n)(hm:n≤m)(rest:List Int):kQ m (fi n++rest,false,())=(n,(rest,false,())):=by
 unfold kQ
 rw[lK n h]
 simp only[if_neg (show ¬n > m by omega)]
theorem wg:∀(l:List j4) (rest:List Int),(∀o∈l,o.1.length=32∧mD o.2.1)→lM l.length (l.flatMap wX++rest,false,())=(l,(rest,false,()))
 |[],rest,_=>rfl
 |o::l,rest,h=>by
  obtain⟨h1,h2⟩:=h o List.mem_cons_self
  have e:Cs ((o::l).flatMap wX++rest,false,())=(o,(l.flatMap wX++rest,false,())):=by
   unfold Cs wX
   rw[List.flatMap_cons,List.append_assoc,List.append_assoc,y9 _ _ h1]
   simp only[]
   rw[lK _ h2]
  rw[List.length_cons,lM,e,wg l rest fun x hx=>h x (List.mem_cons_of_mem _ hx)]
theorem tp:∀(l:List fM) (rest:List Int),(∀o∈l,mD o.1∧iK o.2.1=true∧xQ o.2.1)→mv l.length (l.flatMap lN++rest,false,())=some (l,(rest,false,()))
 |[],rest,_=>rfl
 |o::l,rest,h=>by
  obtain⟨h1,h2,h3⟩:=h o List.mem_cons_self
  have hl:=nG o.2.1
  have e0:da ((o::l).flatMap lN++rest,false,())=(o.1,(fi (oZ o.2.1).length++(oZ o.2.1++(l.flatMap lN++rest)),false,())):=by
   rw[List.flatMap_cons]
   unfold lN
   simp only[List.append_assoc]
   exact lK _ h1 _
  have e1:mF (da ((o::l).flatMap lN++rest,false,())).2=(oZ o.2.1,(l.flatMap lN++rest,false,())):=by rw[e0];exact Ac _ _ (by omega)
  have e2:rM ((o::l).flatMap lN++rest,false,())=(o,(l.flatMap lN++rest,false,())):=by
   unfold rM
   rw[e1,e0,tr h3 h2]
  rw[List.length_cons,mv,e1,tr h3 h2,if_pos rfl,e2,tp l rest fun x hx=>h x (List.mem_cons_of_mem _ hx)]
theorem wB:∀(l:List Sg) (rest:List Int),(∀s∈l,ia s.1∧ia s.2.1)→mi l.length (l.flatMap zP++rest,false,())=(l,(rest,false,()))
 |[],rest,_=>rfl
 |s::l,rest,h=>by
  obtain⟨h1,h2⟩:=h s List.mem_cons_self
  have e:Cv ((s::l).flatMap zP++rest,false,())=(s,(l.flatMap zP++rest,false,())):=by
   unfold Cv zP
   rw[List.flatMap_cons,List.append_assoc,List.append_assoc,nu _ h1]
   simp only[]
   rw[nu _ h2]
  rw[List.length_cons,mi,e,wB l rest fun x hx=>h x (List.mem_cons_of_mem _ hx)]
theorem Bn(w:mE)(rest:List Int)(hw:qB w)(hb:mD w.1)(h12:w.2.1.length≤12):xO (lu w++rest,false,())=some (w,(rest,false,())):=by
 have e0:da (lu w++rest,false,())=(w.1,(fi w.2.1.length++(w.2.1.flatMap zP++(fJ w.2.2.1++rest)),false,())):=by
  unfold lu
  simp only[List.append_assoc]
  exact lK _ hb _
 have e1:kQ 12 (da (lu w++rest,false,())).2=((w.2.1.length:Int),(w.2.1.flatMap zP++(fJ w.2.2.1++rest),false,())):=by
  rw[e0]
  exact uR (jb (by omega)) (by omega) _
 have e2:jy (lu w++rest,false,())=(w.2.1,(fJ w.2.2.1++rest,false,())):=by
  unfold jy
  rw[e1]
  exact wB _ _ hw.1
 unfold xO
 rw[e1,if_neg (by show ¬(w.2.1.length:Int) < 0;omega),e2,e0]
 simp only[]
 rw[nu _ hw.2]
theorem tM:∀(l:List ff) (rest:List Int),(∀x∈l,qB x.2.1∧mD x.2.1.1∧x.2.1.2.1.length≤12)→mC (l.map (·.1)) (l.flatMap (fun x=>lu x.2.1)++rest,false,())=some (l,(rest,false,()))
 |[],rest,_=>rfl
 |x::l,rest,h=>by
  obtain⟨h1,h2,h3⟩:=h x List.mem_cons_self
  rw[List.flatMap_cons,List.append_assoc,List.map_cons,mC,Bn _ _ h1 h2 h3]
  simp only[]
  rw[tM l rest fun y hy=>h y (List.mem_cons_of_mem _ hy)]
theorem oB{t:eX}(hv:qJ t)(hok:fH t=true):gW (sy t)=(t,true):=by
 obtain⟨⟨a1,a2,a3,a4⟩,b1,b2⟩:=jw hok
 have hin:∀x∈t.1,_:=fun x hx=>l5 (gU _ _ b1 x hx)
 have hnt:=hv.2.2
 rw[uP hok]
 have e1:=uR (n:=(t.1.length:Int)) (m:=64) (jb (by omega)) (by omega) (t.1.flatMap (fun x=>wX x.1)++(fi t.2.1.length++(t.2.1.flatMap lN++(fi t.2.2.1++t.1.flatMap fun x=>lu x.2.1))))
 have ef:t.1.flatMap (fun x=>wX x.1)=(t.1.map (·.1)).flatMap wX:=by rw[List.flatMap_map]
 have e2:=wg (t.1.map (·.1)) (fi t.2.1.length++(t.2.1.flatMap lN++(fi t.2.2.1++t.1.flatMap fun x=>lu x.2.1))) fun o ho=>by
  obtain⟨x,hx,rfl⟩:=List.mem_map.1 ho
  exact⟨(hv.2.1 x hx).1.1,(hin x hx).1,by have:=(hin x hx).2.1;omega⟩
 rw[←ef,List.length_map]at e2
 have e3:=uR (n:=(t.2.1.length:Int)) (m:=64) (jb (by omega)) (by omega) (t.2.1.flatMap lN++(fi t.2.2.1++t.1.flatMap fun x=>lu x.2.1))
 have e4:=tp t.2.1 (fi t.2.2.1++t.1.flatMap fun x=>lu x.2.1) fun o ho=>by
  have:=iM _ _ b2 o ho
  exact⟨⟨this.1.1,by omega⟩,this.2,(hv.1.1 o ho).1⟩
 have e5:=lK t.2.2.1 ⟨a4,hnt⟩ (t.1.flatMap fun x=>lu x.2.1)
 have e6:=tM t.1 [] fun x hx=>⟨(hv.2.1 x hx).2.1,⟨(hin x hx).2.2.1,by have:=(hin x hx).2.2.2.1;omega⟩,(hin x hx).2.2.2.2⟩
 rw[List.append_nil]at e6
 unfold gW Di
 simp only[e1,Int.toNat_natCast,e2,e3,e4]
 unfold vV
 simp only[e5,e6]
 unfold vo
 rw[if_neg]
 rintro(x | x | x | x | x)
 ·omega
 ·omega
 ·cases x
 ·simp at x
 ·rw[show((t.1,t.2.1,t.2.2.1,()):eX)=t from rfl,hok]at x
  cases x
def iV(r:eJ):Prop:=il r∧(r.2.1=true→r.1=[])
def Ov(r r':eJ)(e:List Int):Prop:=iV r'∧(r'.2.1=false→r.2.1=false∧r.1=e++r'.1)
theorem Ov.trans{r r1 r2:eJ}{e1 e2:List Int}(h1:Ov r r1 e1)(h2:Ov r1 r2 e2):Ov r r2 (e1++e2):=
 ⟨h2.1,fun h=>⟨(h1.2 (h2.2 h).1).1,by rw[(h1.2 (h2.2 h).1).2,(h2.2 h).2,List.append_assoc]⟩⟩
theorem Ov.of{r r':eJ}{e e':List Int}(h:Ov r r' e)(he:r'.2.1=false→e=e'):Ov r r' e':=⟨h.1,fun h'=>by rw[←he h'];exact h.2 h'⟩
theorem Ov.refl{r:eJ}(h:iV r):Ov r r []:=⟨h,fun h'=>⟨h',rfl⟩⟩
theorem BG:iV oR:=⟨ue,fun _=>rfl⟩
theorem vu(r:eJ)(e:List Int):Ov r oR e:=⟨BG,fun h=>by cases h⟩
theorem yz{b:List Int}(hb:Bytes b)(hl:b.length≤1000000000):iV (b,false,()):=⟨xC hb hl (false,()),fun h=>by cases h⟩
theorem so{r:eJ}(h:iV r)(n:Nat):Ov r (gp n r).2 (gp n r).1∧((gp n r).2.2.1=false→(gp n r).1.length=n):=by
 have hb:=(kq (n:=n) h.1).2.2
 revert hb
 unfold gp
 split
 ·exact fun _=>⟨vu _ _,fun h=>by cases h⟩
 ·rename_i hc
  intro hb
  have h1:r.2.1=false:=by cases hr:r.2.1 with | false=>rfl | true=>exact absurd (Or.inl hr) hc
  have h2:¬r.1.length < n:=fun x=>hc (Or.inr x)
  exact⟨⟨⟨hb,fun(hx:r.2.1=true)=>by rw[h1]at hx;cases hx⟩,fun _=>⟨h1,(List.take_append_drop n r.1).symm⟩⟩,fun _=>by show(r.1.take n).length=n;rw[List.length_take];omega⟩
theorem rZ(f:Nat){d:Int}(h:d < 128):eW f d=([],d):=by
 cases f with
 |zero=>rfl
 |succ f=>rw[eW,if_neg (by omega)]
theorem wa:∀(l:List Int) (a:Nat) (n:Int) (v:Int×Nat),Bytes l→a≤9→kI l a n= .inl v→
  ∃w rest,v.1=n+w*128^a∧0≤w∧(a=0∨0 < w)∧w < 128^(9 - a)∧l=(eW (8 - a) w).1++(eW (8 - a) w).2::rest∧v.2=a+(eW (8 - a) w).1.length+1
 |[],a,n,v,_,_,h=>by cases h
 |d::l,a,n,v,hb,ha,h=>by
  obtain⟨x1,x2⟩:=hb d List.mem_cons_self
  rw[kI]at h
  split at h
  ·cases h
  rename_i hc
  have ha8:a≤8:=by omega
  have e9:(128:Int)^(9 - a)=128^(8 - a)*128:=by rw[show 9 - a=(8 - a)+1 by omega];exact Int.pow_succ 128 (8 - a)
  have p8:(0:Int) < 128^(8 - a):=Int.pow_pos (by decide)
  split at h
  ·rename_i hd
   cases h
   refine⟨d,l,by rw[Int.emod_eq_of_lt x1 hd],x1,by omega,by omega,?_,?_⟩
   ·rw[rZ _ hd];rfl
   ·rw[rZ _ hd];rfl
  ·rename_i hd
   obtain⟨w,rest,e1,w0,w1,w2,e2,e3⟩:=wa l (a+1) _ v (fun x hx=>hb x (List.mem_cons_of_mem _ hx)) (by omega) h
   have w1:0 < w:=by omega
   rw[show 9 - (a+1)=8 - a by omega]at w2
   have ha7:a≤7:=by
    by_cases h8:a=8
    ·rw[h8]at w2
     have:(128:Int)^(8 - 8)=1:=rfl
     omega
    ·omega
   have er:eW (8 - a) (d%128+128*w)=((d%128+128)::(eW (8 - (a+1)) w).1,(eW (8 - (a+1)) w).2):=by
    rw[show 8 - a=(8 - (a+1))+1 by omega,eW,if_pos (by omega),show(d%128+128*w)%128=d%128 by omega,show(d%128+128*w) / 128=w by omega]
   refine⟨d%128+128*w,rest,?_,by omega,by omega,by omega,?_,?_⟩
   ·rw[e1,Int.pow_succ,Int.add_mul,Int.add_assoc,Int.mul_comm 128 w,Int.mul_assoc w,Int.mul_comm 128]
   ·rw[er,e2,show d%128+128=d by omega];rfl
   ·rw[er,e3];simp only[List.length_cons];omega
theorem hH{r:eJ}(h:iV r):Ov r (da r).2 (fi (da r).1)∧((da r).2.2.1=false→mD (da r).1):=by
 have hk:=g9 h.1
 revert hk
 unfold da
 cases hf:kI r.1 0 0 with
 |inr _=>exact fun _=>⟨vu _ _,fun h=>by cases h⟩
 |inl v=>
  intro hk
  obtain⟨w,rest,e1,w0,_,w2,e2,e3⟩:=wa r.1 0 0 v h.1.2 (by decide) hf
  have h1:r.2.1=false:=by
   cases hr:r.2.1 with
   |false=>rfl
   |true=>rw[h.2 hr]at hf;cases hf
  have ew:v.1=w:=by rw[e1,Int.pow_zero];omega
  have e9:(128:Int)^(9 - 0)=9223372036854775808:=rfl
  have e8:(128:Int)^(8+1)=9223372036854775808:=rfl
  have e10:(128:Int)^(10+1)=151115727451828646838272:=rfl
  have er:eW 10 w=eW 8 w:=nJ 10 8 w (by rw[e10];omega) (by rw[e8];omega)
  have en:fi v.1=(eW 8 w).1++ [(eW 8 w).2]:=by rw[ew];unfold fi;rw[er]
  refine⟨⟨⟨hk.2.2,fun(hx:r.2.1=true)=>by rw[h1]at hx;cases hx⟩,fun _=>⟨h1,?_⟩⟩,fun _=>⟨hk.1,hk.2.1⟩⟩
  show r.1=fi v.1++r.1.drop v.2
  rw[en,e3,List.append_assoc]
  conv=>rhs;rw[e2]
  rw[List.append_cons,Nat.zero_add,List.drop_left' (by rw[List.length_append];rfl)]
  exact e2
theorem zZ{l:List Int}(h:l.length=8)(hb:Bytes l):fJ (oz l)=l:=by
 match l,h with
 |[a,b,c,d,e,f,g,i],_=>
  have h0:=hb a (by simp)
  have h1:=hb b (by simp)
  have h2:=hb c (by simp)
  have h3:=hb d (by simp)
  have h4:=hb e (by simp)
  have h5:=hb f (by simp)
  have h6:=hb g (by simp)
  have h7:=hb i (by simp)
  unfold tN at h0 h1 h2 h3 h4 h5 h6 h7
  unfold fJ oz
  simp only[List.foldl_cons,List.foldl_nil]
  congr 1
  ·omega
  congr 1
  ·omega
  congr 1
  ·omega
  congr 1
  ·omega
  congr 1
  ·omega
  congr 1
  ·omega
  congr 1
  ·omega
  congr 1
  omega
theorem nL{r:eJ}(h:iV r):Ov r (iy r).2 (fJ (iy r).1):=by
 have e:=so h 8
 exact e.1.of fun hk=>(zZ (e.2 hk) (kq h.1).2.1).symm
theorem vD{r:eJ}(h:iV r):Ov r (mY r).2 (mY r).1:=by
 have e:=so h 32
 refine e.1.of fun hk=> ?_
 unfold mY
 simp only[e.2 hk]
 rw[show List.drop 32 (List.replicate 32 (0:Int))=[] from rfl,List.append_nil]
theorem As{r:eJ}(h:il r):Sm (mY r).1:=by
 have e:=kq (n:=32) h
 refine⟨?_,eK e.2.1 fun x hx=> ?_⟩
 ·show((gp 32 r).1++List.drop (gp 32 r).1.length (List.replicate 32 (0:Int))).length=32
  rw[List.length_append,List.length_drop,List.length_replicate]
  have:=e.1
  omega
 ·obtain rfl:=(List.mem_replicate.1 (List.mem_of_mem_drop hx)).2
  exact⟨by decide,by decide⟩
theorem tX{r:eJ}(h:iV r):Ov r (mF r).2 (fi (mF r).1.length++(mF r).1)∧Bytes (mF r).1∧(mF r).1.length≤1000000000:=by
 have e:=hH h
 unfold mF
 split
 ·rename_i hc
  exact⟨⟨e.1.1,fun hk=>by rw[hc]at hk;cases hk⟩,fun x hx=>(by cases hx),Nat.zero_le _⟩
 ·rename_i hc
  have hc:(da r).2.2.1=false:=by simpa using hc
  have t:=so e.1.1 (da r).1.toNat
  have tb:=kq (n:=(da r).1.toNat) e.1.1.1
  have n0:=(e.2 hc).1
  refine⟨(e.1.trans t.1).of fun hk=> ?_,tb.2.1,?_⟩
  ·rw[t.2 hk,Int.toNat_of_nonneg n0]
  ·have hl:(gp (da r).1.toNat (da r).2).1.length≤(da r).2.1.length:=by
    unfold gp
    split
    ·exact Nat.zero_le _
    ·show((da r).2.1.take _).length≤_
     rw[List.length_take];omega
   have:=e.1.1.1.1
   omega
theorem xL{r:eJ}(h:iV r){m:Int}(h0:0≤(kQ m r).1):Ov r (kQ m r).2 (fi (kQ m r).1)∧(kQ m r).1≤m:=by
 have e:=hH h
 unfold kQ at h0 ⊢
 by_cases hc:(da r).1 > m
 ·simp only[if_pos hc]at h0
  omega
 ·simp only[if_neg hc]
  exact⟨e.1,by omega⟩
theorem tK{r:eJ}(h:iV r)(m:Int):iV (kQ m r).2:=(hH h).1.1
theorem yI{r:eJ}(h:il r){m:Int}(hm:0≤m): -1≤(kQ m r).1∧(kQ m r).1≤m:=by
 have:=(g9 h).1
 unfold kQ
 split
 ·exact⟨by omega,by show(-1:Int)≤m;omega⟩
 ·rename_i hc
  have hc:¬(da r).1 > m:=hc
  exact⟨by show -1≤(da r).1;omega,by show(da r).1≤m;omega⟩
theorem uG:∀(k:Nat) {r:eJ},iV r→Ov r (lM k r).2 ((lM k r).1.flatMap wX)∧(lM k r).1.length=k∧∀o∈(lM k r).1,Sm o.1
 | 0,r,h=>⟨Ov.refl h,rfl,fun x hx=>by cases hx⟩
 |k+1,r,h=>by
  have e1:=vD h
  have e2:=hH e1.1
  have ih:=uG k (r:=(Cs r).2) e2.1.1
  refine⟨?_,by rw[lM,List.length_cons,ih.2.1],fun o ho=> ?_⟩
  ·have:=(e1.trans e2.1).trans ih.1
   rw[lM,List.flatMap_cons]
   exact this
  ·rcases List.mem_cons.1 ho with rfl | ho
   ·exact As h.1
   ·exact ih.2.2 o ho
theorem CX{r:eJ}(h:iV r):iV (rM r).2:=(tX (hH h).1.1).1.1
theorem rN:∀(k:Nat) {r:eJ} {x:List fM×eJ},iV r→mv k r=some x→Ov r x.2 (x.1.flatMap lN)∧x.1.length=k∧∀o∈x.1,o.1≤9223372036854775807∧iK o.2.1=true∧Cx o.2.1
 | 0,r,x,h,hx=>by
  cases hx
  exact⟨Ov.refl h,rfl,fun x hx=>by cases hx⟩
 |k+1,r,x,h,hx=>by
  rw[mv]at hx
  split at hx
  ·rename_i hr
   split at hx
   ·rename_i y hy
    cases hx
    have e1:=hH h
    have e2:=tX e1.1.1
    have ih:=rN k (CX h) hy
    obtain⟨l,hl,hlb,he,hle⟩:=AZ hr
    have hu:=yA e2.2.1 e2.2.2
    have el:(rM r).1.2.1=l:=by show(mw (mF (da r).2).1).1=l;rw[he]
    refine⟨?_,by rw[List.length_cons,ih.2.1],fun o ho=> ?_⟩
    ·have:=(e1.1.trans e2.1).trans ih.1
     rw[List.flatMap_cons]
     unfold lN
     rw[el,hlb]
     exact this
    ·rcases List.mem_cons.1 ho with rfl | ho
     ·refine⟨(g9 h.1).2.1,by rw[el];exact hl,?_⟩
      rw[el,hle]
      exact⟨hu.1,by show(iR _).length≤_;omega⟩
     ·exact ih.2.2 o ho
   ·cases hx
  ·cases hx
theorem uJ:∀(k:Nat) {r:eJ},iV r→Ov r (mi k r).2 ((mi k r).1.flatMap zP)∧(mi k r).1.length=k∧∀s∈(mi k r).1,Cy s
 | 0,r,h=>⟨Ov.refl h,rfl,fun x hx=>by cases hx⟩
 |k+1,r,h=>by
  have e1:=nL h
  have e2:=nL e1.1
  have ih:=uJ k (r:=(Cv r).2) e2.1
  refine⟨?_,by rw[mi,List.length_cons,ih.2.1],fun o ho=> ?_⟩
  ·have:=(e1.trans e2).trans ih.1
   rw[mi,List.flatMap_cons]
   exact this
  ·rcases List.mem_cons.1 ho with rfl | ho
   ·exact⟨(qg h.1).1,(qg e1.1.1).1⟩
   ·exact ih.2.2 o ho
theorem yJ{r:eJ}(h:iV r):iV (jy r).2∧(jy r).1.length≤12∧∀s∈(jy r).1,Cy s:=by
 have e1:=hH h
 have ih:=uJ (kQ 12 (da r).2).1.toNat (tK e1.1.1 12)
 have:=yI e1.1.1.1 (m:=12) (by decide)
 exact⟨ih.1.1,by show(mi _ _).1.length≤12;rw[ih.2.1];omega,ih.2.2⟩
theorem Cb{r:eJ}{w:mE×eJ}(h:iV r)(hw:xO r=some w):Ov r w.2 (lu w.1)∧qB w.1∧w.1.2.1.length≤12:=by
 unfold xO at hw
 split at hw
 ·cases hw
 ·rename_i hc
  cases hw
  have e1:=hH h
  have hc:0≤(kQ 12 (da r).2).1:=by omega
  have e2:=xL e1.1.1 hc
  have e3:=uJ (kQ 12 (da r).2).1.toNat e2.1.1
  have g:=yJ h
  have e4:=nL g.1
  have hl:((jy r).1.length:Int)=(kQ 12 (da r).2).1:=by
   show((mi _ _).1.length:Int)=_
   rw[e3.2.1];omega
  have:=((e1.1.trans e2.1).trans e3.1).trans e4
  refine⟨this.of fun _=> ?_,⟨g.2.2,(qg g.1.1).1⟩,g.2.1⟩
  unfold lu
  simp only[hl,List.append_assoc]
  rfl
theorem sA:∀(l:List j4) {r:eJ} {x:List ff×eJ},iV r→mC l r=some x→Ov r x.2 (x.1.flatMap fun y=>lu y.2.1)∧x.1.map (·.1)=l∧∀y∈x.1,qB y.2.1∧y.2.1.2.1.length≤12
 |[],r,x,h,hx=>by
  cases hx
  exact⟨Ov.refl h,rfl,fun x hx=>by cases hx⟩
 |o::l,r,x,h,hx=>by
  rw[mC]at hx
  split at hx
  ·cases hx
  ·rename_i w hw
   have e:=Cb h hw
   split at hx
   ·cases hx
   ·rename_i y hy
    cases hx
    have ih:=sA l e.1.1 hy
    refine⟨?_,by rw[List.map_cons,ih.2.1],fun z hz=> ?_⟩
    ·have:=e.1.trans ih.1
     rw[List.flatMap_cons]
     exact this
    ·rcases List.mem_cons.1 hz with rfl | hz
     ·exact e.2
     ·exact ih.2.2 z hz
theorem zz{b:List Int}(h:(gW b).2=false):gW b=AL:=by
 revert h
 unfold gW
 simp only[]
 split
 ·exact fun _=>rfl
 ·unfold vV
  split
  ·exact fun _=>rfl
  ·unfold vo
   split
   ·exact fun _=>rfl
   ·intro h;cases h
theorem zy{b:List Int}(hb:Bytes b)(hl:b.length≤1000000000)(h:(gW b).2=true):∃t,gW b=(t,true)∧fH t=true∧qJ t∧sy t=b:=by
 have k0:=yz hb hl
 have k1:=tK k0 64
 have o2:=uG (kQ 64 (b,false,())).1.toNat k1
 have k3:=tK o2.1.1 64
 revert h
 unfold gW
 simp only[]
 split
 ·intro h;cases h
 rename_i x hx
 have o4:=rN _ k3 hx
 have o5:=hH o4.1.1
 unfold vV
 split
 ·intro h;cases h
 rename_i y hy
 have o6:=sA _ o5.1.1 hy
 unfold vo
 split
 ·intro h;cases h
 rename_i hc
 intro _
 have c1:0≤(kQ 64 (b,false,())).1:=by
  have:¬(kQ 64 (b,false,())).1 < 0:=fun z=>hc (Or.inl z)
  omega
 have c2:0≤(kQ 64 (lM (kQ 64 (b,false,())).1.toNat (kQ 64 (b,false,())).2).2).1:=by
  have:¬(kQ 64 (lM (kQ 64 (b,false,())).1.toNat (kQ 64 (b,false,())).2).2).1 < 0:=fun z=>hc (Or.inr (Or.inl z))
  omega
 have c3:y.2.2.1=false:=by cases hz:y.2.2.1 with | false=>rfl | true=>exact absurd (Or.inr (Or.inr (Or.inl hz))) hc
 have c4:y.2.1=[]:=List.eq_nil_of_length_eq_zero (by
  have:¬0 < y.2.1.length:=fun z=>hc (Or.inr (Or.inr (Or.inr (Or.inl z))))
  omega)
 have c5:fH (y.1,x.1,(da x.2).1,())=true:=by
  cases hz:fH (y.1,x.1,(da x.2).1,()) with
  |true=>rfl
  |false=>exact absurd (Or.inr (Or.inr (Or.inr (Or.inr hz)))) hc
 have u1:=xL k0 c1
 have u3:=xL o2.1.1 c2
 have all:=((((u1.1.trans o2.1).trans u3.1).trans o4.1).trans o5.1).trans o6.1
 have hb2:b=_:=(all.2 c3).2
 rw[c4,List.append_nil]at hb2
 have l1:y.1.length=(kQ 64 (b,false,())).1.toNat:=by rw[←o2.2.1,←o6.2.1,List.length_map]
 have n1:(y.1.length:Int)=(kQ 64 (b,false,())).1:=by omega
 have n2:(x.1.length:Int)=(kQ 64 (lM (kQ 64 (b,false,())).1.toNat (kQ 64 (b,false,())).2).2).1:=by rw[o4.2.1];omega
 have hm:∀z∈y.1,z.1∈(lM (kQ 64 (b,false,())).1.toNat (kQ 64 (b,false,())).2).1:=fun z hz=>by rw[←o6.2.1];exact List.mem_map_of_mem hz
 refine⟨_,rfl,c5,⟨⟨fun o ho=>(o4.2.2 o ho).2.2,by show y.1.length≤_;omega,by show x.1.length≤_;omega⟩,fun z hz=>⟨o2.2.2 _ (hm z hz),(o6.2.2 z hz).1,by have:=(o6.2.2 z hz).2;omega⟩,(g9 o4.1.1.1).2.1⟩,?_⟩
 rw[uP c5]
 unfold Di
 simp only[n1,n2]
 rw[←List.flatMap_map (f:=fun z:ff=>z.1) (g:=wX),o6.2.1]
 simp only[List.append_assoc]at hb2
 exact hb2.symm
set_option synthInstance.maxSize 5000
def Bt(o:j4):jK:=(o,(0,none,0,()),())
def D2(x:ff):jK:=(x.1,(x.2.1.1,some x.2.1.2.1,x.2.1.2.2),())
def EC(x:jK):ff:=(x.1,(x.2.1.1,x.2.1.2.1.getD [],x.2.1.2.2),())
theorem CJ(l:List jK):Dg (.slice ix) (.slice eH) l=l.map EC:=by kernel_rfl
theorem Db(l:List ff):(l.map D2).map EC=l:=by
 rw[List.map_map]
 have:(EC∘D2)=id:=rfl
 rw[this,List.map_id]
theorem yq{t:Ty}{l:List t.den}{k:Nat}{y:t.den}(h:k < l.length):nth t (l.set k y) k=y:=by simp[nth,h]
theorem BX{t:Ty}{a b:List t.den}{k:Nat}{y:t.den}(h:a.length=k):nth t (a++y::b) k=y:=by subst h;simp[nth]
theorem B3{α:Type}{a b:List α}{k:Nat}{y z:α}(h:a.length=k):(a++y::b).set k z=a++z::b:=by subst h;simp
theorem zJ{α:Type}{l:List α}{k:Nat}{y:α}:(l.set k y).take k=l.take k:=by rw[List.take_set,List.set_eq_of_length_le (by rw[List.length_take];omega)]
theorem y2{α:Type}{l:List α}{k:Nat}{y:α}:(l.set k y).drop (k+1)=l.drop (k+1):=List.drop_set_of_lt (by omega)
abbrev dX.D:=eJ
def dX.st:dX.D→SA:=fun o0=>([.ptr (.fB 0) 0 [] 0],[.obj 0 false (.d iU o0)])
abbrev dX.Y:=Bs×eJ
abbrev dX.X:=Bs×eJ
def dX.out:dX.X→aY:=fun x=>⟨.d tH x.1,[.obj 0 false (.d iU x.2)],[]⟩
def dX.add:dX.D→dX.Y→dX.X:=fun o0 y=>y
def dX.aB:dX.D→Prop:=fun r=>il r
def dX.F:dX.D→dX.Y:=fun r=>mY r
noncomputable def dX.G:dR:=eO (P:=Tryz.prog) [dr.sg]
noncomputable def dX.an:eu:= {}
noncomputable def dX.A:= @cI Tryz.prog dX.G dX.an 0 Tryz.f77 _ dX.st
abbrev dX.Ok:=cJ @dX.A dX.aB dX.add dX.F dX.out
theorem dX.eq{R:Type}(o0:eJ)(k:aY→Option R):dX.A o0 k=
 aq (dr.call ((32:Int),o0)) fun x1=>
 aJ (decide ((List.length x1.1)≤32)) (
 k (dX.out ((x1.1++(List.drop (List.length x1.1) (List.replicate 32 (0:Int)))),x1.2))) none:=by kernel_rfl
theorem dX.ok:dX.Ok:=by
 intro r h
 have h:il r:=h
 have e:=(kq (n:=32) h).1
 rw[dX.eq,dr.run (d:=(32,r)) ⟨by decide,h.1⟩]
 simp only[ab,dr.add,dr.F]
 rw[show Int.toNat 32=32 from rfl,aO e]
 rfl
noncomputable def dX.E:=Entry.ct [none] dX.st dX.aB dX.add dX.F dX.out
noncomputable def dX.call:dX.D→Option dX.X:=bG dX.E dX.st
theorem dX.run:bB dX.call dX.aB dX.add dX.F:=cO (cM [.d iU] fun _=>by kernel_rfl)
noncomputable def dX.sg:SG Tryz.prog:=⟨77,aU,dX.E,.fn 0 (by kernel_rfl) dX.ok trivial⟩
abbrev cZ.D:=eJ
def cZ.st:cZ.D→SA:=fun o0=>([.ptr (.fB 0) 0 [] 0],[.obj 0 false (.d iU o0)])
abbrev cZ.Y:=Bs×eJ
abbrev cZ.X:=Bs×eJ
def cZ.out:cZ.X→aY:=fun x=>⟨.d tB x.1,[.obj 0 false (.d iU x.2)],[]⟩
def cZ.add:cZ.D→cZ.Y→cZ.X:=fun o0 y=>y
def cZ.aB:cZ.D→Prop:=fun r=>il r
def cZ.F:cZ.D→cZ.Y:=fun r=>mF r
noncomputable def cZ.G:dR:=eO (P:=Tryz.prog) [bE.sg,dr.sg]
noncomputable def cZ.an:eu:= {res:=[some tB],sG:=[⟨0,[.arr],iU⟩]}
noncomputable def cZ.A:= @cI Tryz.prog cZ.G cZ.an 0 Tryz.f78 _ cZ.st
abbrev cZ.Ok:=cJ @cZ.A cZ.aB cZ.add cZ.F cZ.out
theorem cZ.eq{R:Type}(o0:eJ)(k:aY→Option R):cZ.A o0 k=
  aq (bE.call o0) fun x1=>
  aJ (x1.2.2.1) (
   k (cZ.out (([]:List Int),x1.2))) (
   aq (dr.call (x1.1,x1.2)) fun x2=>
   k (cZ.out (x2.1,x2.2))):=by kernel_rfl
theorem cZ.ok:cZ.Ok:=by
 intro r h
 have h:il r:=h
 have e:=g9 h
 rw[cZ.eq,bE.run (d:=r) h]
 simp only[ab,bE.add,bE.F,cZ.add,cZ.F,mF]
 cases hc:(da r).2.2.1
 ·rw[ay,dr.run (d:=((da r).1,(da r).2)) ⟨e.1,e.2.2.1⟩]
  rfl
 ·rfl
noncomputable def cZ.E:=Entry.ct [none] cZ.st cZ.aB cZ.add cZ.F cZ.out
noncomputable def cZ.call:cZ.D→Option cZ.X:=bG cZ.E cZ.st
theorem cZ.run:bB cZ.call cZ.aB cZ.add cZ.F:=cO (cM [.d iU] fun _=>by kernel_rfl)
noncomputable def cZ.sg:SG Tryz.prog:=⟨78,aU,cZ.E,.fn 0 (by kernel_rfl) cZ.ok trivial⟩
abbrev du.D:=Int×eJ
def du.st:du.D→SA:=fun(most,o1)=>([.d ti most,.ptr (.fB 0) 0 [] 0],[.obj 0 false (.ptr (.fB 1) 0 [] 0),.obj 0 false (.d iU o1)])
abbrev du.Y:=Int×eJ
abbrev du.X:=Int×eJ
def du.out:du.X→aY:=fun x=>⟨.d ti x.1,[.obj 0 false (.ptr (.fB 1) 0 [] 0),.obj 0 false (.d iU x.2)],[]⟩
def du.add:du.D→du.Y→du.X:=fun(most,o1) y=>y
def du.aB:du.D→Prop:=fun(m,r)=>il r
def du.F:du.D→du.Y:=fun(m,r)=>kQ m r
noncomputable def du.G:dR:=eO (P:=Tryz.prog) [bE.sg]
noncomputable def du.an:eu:= {}
noncomputable def du.A:= @cI Tryz.prog du.G du.an 0 Tryz.f76 _ du.st
abbrev du.Ok:=cJ @du.A du.aB du.add du.F du.out
theorem du.eq{R:Type}(most:Int)(o1:eJ)(k:aY→Option R):du.A (most,o1) k=
  aq (bE.call o1) fun x1=>
  aJ ((mG x1.1 most)) (
   k (du.out ((-1:Int),x1.2))) (
   k (du.out (x1.1,x1.2))):=by kernel_rfl
theorem du.ok:du.Ok:=by
 rintro⟨m,r⟩ h
 have h:il r:=h
 rw[du.eq,bE.run (d:=r) h]
 simp only[ab,bE.add,bE.F,du.add,du.F,kQ]
 by_cases hc:(da r).1 > m
 ·rw[dQ hc,if_pos hc];rfl
 ·rw[dE hc,if_neg hc];rfl
noncomputable def du.E:=Entry.ct [some ti,none] du.st du.aB du.add du.F du.out
noncomputable def du.call:du.D→Option du.X:=bG du.E du.st
theorem du.run:bB du.call du.aB du.add du.F:=cO (cM [.d ti,.d iU] fun _=>by kernel_rfl)
noncomputable def du.sg:SG Tryz.prog:=⟨76,aU,du.E,.fn 0 (by kernel_rfl) du.ok trivial⟩
abbrev al.L0.D:=Int×Int×Int×(Int×Unit)×Nat×(Int×Unit)×eJ×(List jK)
def al.L0.st:al.L0.D→AS:=fun(n,t20,t21,n2,n4L,n4,n16,n32)=>⟨([.undef,.undef,.ptr (.new 2 0) 0 [] 0,.undef,.ptr (.new 4 0) 0 [] 0,.ptr (.new 5 0) 0 [] 0,.fn 76 (.cons (.ptr (.new 5 0) 0 [] 0) (.nil)),.d ti n]++ba 12 ([.d ti t20,.d ti t21]++ba 110 [])),[],([[],[],[.obj 0 false (.pr (.cU) (.pr (.cU) (.d (.pair ti .unit) n2)))],[],[.obj 0 false (.pr (.cd (.new 32 0) 0 [] 0 0 n4L) (.pr (.cU) (.d (.pair ti .unit) n4)))],[.obj 0 false (.ptr (.new 16 0) 0 [] 0)]]++bN 10 ([[.obj 0 false (.d iU n16)]]++bN 15 ([[.obj 0 false (.vec 57 ix n32)]]++bN 99 [])))⟩
abbrev al.L0.Y0:=Nat×eJ×(List jK)
abbrev al.L0.X0:=(Int×(Int×Unit)×(Int×Unit))×(Nat×eJ×(List jK))
def al.L0.bq:al.L0.X0→Exit×AS:=fun x=>(.exit 0,⟨([.undef,.undef,.ptr (.new 2 0) 0 [] 0,.undef,.ptr (.new 4 0) 0 [] 0,.ptr (.new 5 0) 0 [] 0,.fn 76 (.cons (.ptr (.new 5 0) 0 [] 0) (.nil)),.d ti x.1.1]++ba 124 []),[],([[],[],[.obj 0 false (.pr (.cU) (.pr (.cU) (.d (.pair ti .unit) x.1.2.1)))],[],[.obj 0 false (.pr (.cd (.new 32 0) 0 [] 0 0 x.2.1) (.pr (.cU) (.d (.pair ti .unit) x.1.2.2)))],[.obj 0 false (.ptr (.new 16 0) 0 [] 0)]]++bN 10 ([[.obj 0 false (.d iU x.2.2.1)]]++bN 15 ([[.obj 0 false (.vec 57 ix x.2.2.2)]]++bN 99 [])))⟩)
abbrev al.L0.X:=al.L0.X0
abbrev al.L0.Y:=al.L0.Y0
def al.L0.out:al.L0.X→Out (Exit×AS):=fun x=> .ok (al.L0.bq x)
def al.L0.add:al.L0.D→al.L0.Y→al.L0.X:=fun(n,t20,t21,n2,n4L,n4,n16,n32) y=>((n,n2,n4),y)
abbrev al.L1.D:=Int×Int×Int×Int×(Int×Unit)×Nat×Nat×(Int×Unit)×eJ×(List jK)×(List fM)
def al.L1.st:al.L1.D→AS:=fun(n_2,m,t37,t38,n2_2,n4L_2,n4L_3,n4_2,n16_2,n32_2,n58)=>⟨([.undef,.undef,.ptr (.new 2 0) 0 [] 0,.undef,.ptr (.new 4 0) 0 [] 0,.ptr (.new 5 0) 0 [] 0,.fn 76 (.cons (.ptr (.new 5 0) 0 [] 0) (.nil)),.d ti n_2,.d ti m]++ba 28 ([.d ti t37,.d ti t38]++ba 93 [])),[],([[],[],[.obj 0 false (.pr (.cU) (.pr (.cU) (.d (.pair ti .unit) n2_2)))],[],[.obj 0 false (.pr (.cd (.new 32 0) 0 [] 0 0 n4L_2) (.pr (.cd (.new 58 0) 0 [] 0 0 n4L_3) (.d (.pair ti .unit) n4_2)))],[.obj 0 false (.ptr (.new 16 0) 0 [] 0)]]++bN 10 ([[.obj 0 false (.d iU n16_2)]]++bN 15 ([[.obj 0 false (.vec 57 ix n32_2)]]++bN 25 ([[.obj 0 false (.vec 62 eR n58)]]++bN 73 []))))⟩
abbrev al.L1.Y0:=(Int×Unit)
abbrev al.L1.X0:=(Int×Unit)
def al.L1.bq:al.L1.X0→Exit×AS:=fun x=>(.ret,⟨([.undef,.undef,.ptr (.new 2 0) 0 [] 0,.d .bool false]++ba 128 []),[],([[],[],[.obj 0 false (.pr (.cU) (.pr (.cU) (.d (.pair ti .unit) x)))]]++bN 129 [])⟩)
abbrev al.L1.Y1:=Nat×eJ×(List fM)
abbrev al.L1.X1:=(Int×Int×(Int×Unit)×Nat×(Int×Unit)×(List jK))×(Nat×eJ×(List fM))
def al.L1.eP:al.L1.X1→Exit×AS:=fun x=>(.exit 2,⟨([.undef,.undef,.ptr (.new 2 0) 0 [] 0,.undef,.ptr (.new 4 0) 0 [] 0,.ptr (.new 5 0) 0 [] 0,.fn 76 (.cons (.ptr (.new 5 0) 0 [] 0) (.nil)),.d ti x.1.1,.d ti x.1.2.1]++ba 123 []),[],([[],[],[.obj 0 false (.pr (.cU) (.pr (.cU) (.d (.pair ti .unit) x.1.2.2.1)))],[],[.obj 0 false (.pr (.cd (.new 32 0) 0 [] 0 0 x.1.2.2.2.1) (.pr (.cd (.new 58 0) 0 [] 0 0 x.2.1) (.d (.pair ti .unit) x.1.2.2.2.2.1)))],[.obj 0 false (.ptr (.new 16 0) 0 [] 0)]]++bN 10 ([[.obj 0 false (.d iU x.2.2.1)]]++bN 15 ([[.obj 0 false (.vec 57 ix x.1.2.2.2.2.2)]]++bN 25 ([[.obj 0 false (.vec 62 eR x.2.2.2)]]++bN 73 []))))⟩)
abbrev al.L1.X:=(al.L1.X0)⊕(al.L1.X1)
abbrev al.L1.Y:=(al.L1.Y0)⊕(al.L1.Y1)
def al.L1.out:al.L1.X→Out (Exit×AS):=fun x=> .br x.isLeft (.get x.getLeft? fun a=> .ok (al.L1.bq a)) (.get x.getRight? fun b=> .ok (al.L1.eP b))
def al.L1.add:al.L1.D→al.L1.Y→al.L1.X:=fun(n_2,m,t37,t38,n2_2,n4L_2,n4L_3,n4_2,n16_2,n32_2,n58) y=>match y with | .inl y=> .inl y | .inr z=> .inr (((n_2,m,n2_2,n4L_2,n4_2,n32_2),z))
abbrev al.L2.D:=Int×Int×Int×Int×(Int×Unit)×Nat×Nat×(Int×Unit)×eJ×(List jK)×(List fM)
def al.L2.st:al.L2.D→AS:=fun(n_3,m_2,t66,t67,n2_3,n4L_4,n4L_5,n4_3,n16_3,n32_3,n58_2)=>⟨([.undef,.undef,.ptr (.new 2 0) 0 [] 0,.undef,.ptr (.new 4 0) 0 [] 0,.ptr (.new 5 0) 0 [] 0,.fn 76 (.cons (.ptr (.new 5 0) 0 [] 0) (.nil)),.d ti n_3,.d ti m_2]++ba 57 ([.d ti t66,.d ti t67]++ba 64 [])),[],([[],[],[.obj 0 false (.pr (.cU) (.pr (.cU) (.d (.pair ti .unit) n2_3)))],[],[.obj 0 false (.pr (.cd (.new 32 0) 0 [] 0 0 n4L_4) (.pr (.cd (.new 58 0) 0 [] 0 0 n4L_5) (.d (.pair ti .unit) n4_3)))],[.obj 0 false (.ptr (.new 16 0) 0 [] 0)]]++bN 10 ([[.obj 0 false (.d iU n16_3)]]++bN 15 ([[.obj 0 false (.vec 57 ix n32_3)]]++bN 25 ([[.obj 0 false (.vec 62 eR n58_2)]]++bN 73 []))))⟩
abbrev al.L2.Y0:=(Int×Unit)
abbrev al.L2.X0:=(Int×Unit)
def al.L2.bq:al.L2.X0→Exit×AS:=fun x=>(.ret,⟨([.undef,.undef,.ptr (.new 2 0) 0 [] 0,.d .bool false]++ba 128 []),[],([[],[],[.obj 0 false (.pr (.cU) (.pr (.cU) (.d (.pair ti .unit) x)))]]++bN 129 [])⟩)
abbrev al.L2.Y1:=Int×Int×(Int×Unit)×Nat×Nat×(Int×Unit)×eJ×(List jK)×(List fM)
abbrev al.L2.X1:=Int×Int×(Int×Unit)×Nat×Nat×(Int×Unit)×eJ×(List jK)×(List fM)
def al.L2.eP:al.L2.X1→Exit×AS:=fun x=>(.exit 4,⟨([.undef,.undef,.ptr (.new 2 0) 0 [] 0,.undef,.ptr (.new 4 0) 0 [] 0,.ptr (.new 5 0) 0 [] 0,.undef,.d ti x.1,.d ti x.2.1]++ba 123 []),[],([[],[],[.obj 0 false (.pr (.cU) (.pr (.cU) (.d (.pair ti .unit) x.2.2.1)))],[],[.obj 0 false (.pr (.cd (.new 32 0) 0 [] 0 0 x.2.2.2.1) (.pr (.cd (.new 58 0) 0 [] 0 0 x.2.2.2.2.1) (.d (.pair ti .unit) x.2.2.2.2.2.1)))],[.obj 0 false (.ptr (.new 16 0) 0 [] 0)]]++bN 10 ([[.obj 0 false (.d iU x.2.2.2.2.2.2.1)]]++bN 15 ([[.obj 0 false (.vec 57 ix x.2.2.2.2.2.2.2.1)]]++bN 25 ([[.obj 0 false (.vec 62 eR x.2.2.2.2.2.2.2.2)]]++bN 73 []))))⟩)
abbrev al.L2.X:=(al.L2.X0)⊕(al.L2.X1)
abbrev al.L2.Y:=(al.L2.Y0)⊕(al.L2.Y1)
def al.L2.out:al.L2.X→Out (Exit×AS):=fun x=> .br x.isLeft (.get x.getLeft? fun a=> .ok (al.L2.bq a)) (.get x.getRight? fun b=> .ok (al.L2.eP b))
def al.L2.add:al.L2.D→al.L2.Y→al.L2.X:=fun(n_3,m_2,t66,t67,n2_3,n4L_4,n4L_5,n4_3,n16_3,n32_3,n58_2) y=>match y with | .inl y=> .inl y | .inr z=> .inr (z)
abbrev al.L3.D:=Int×Int×Int×Int×Int×Int×(Int×Unit)×Nat×Nat×(Int×Unit)×eJ×(List jK)×j4×Int×Nat×(Int×Unit)×(List jK)×(List fM)×(List Sg)
def al.L3.st:al.L3.D→AS:=fun(n_4,m_3,t66_2,t67_2,t85,t86,n2_4,n4L_6,n4L_7,n4_4,n16_4,n32_4,n32_5,n32_6,n32L,n32_7,n32_8,n58_3,n99)=>⟨([.undef,.undef,.ptr (.new 2 0) 0 [] 0,.undef,.ptr (.new 4 0) 0 [] 0,.ptr (.new 5 0) 0 [] 0,.fn 76 (.cons (.ptr (.new 5 0) 0 [] 0) (.nil)),.d ti n_4,.d ti m_3]++ba 4 ([.ptr (.new 32 0) 0 [.snd,.fst,.snd,.fst] ((0+((Int.toNat t67_2)*36))+33)]++ba 52 ([.d ti t66_2,.d ti t67_2]++ba 17 ([.d ti t85,.d ti t86]++ba 45 [])))),[],([[],[],[.obj 0 false (.pr (.cU) (.pr (.cU) (.d (.pair ti .unit) n2_4)))],[],[.obj 0 false (.pr (.cd (.new 32 0) 0 [] 0 0 n4L_6) (.pr (.cd (.new 58 0) 0 [] 0 0 n4L_7) (.d (.pair ti .unit) n4_4)))],[.obj 0 false (.ptr (.new 16 0) 0 [] 0)]]++bN 10 ([[.obj 0 false (.d iU n16_4)]]++bN 15 ([[.obj 0 false (.bx 57 36 (.pr (.d (.arr (0+(Int.toNat t67_2)) ix) n32_4) (.pr (.pr (.d kp n32_5) (.pr (.pr (.d ti n32_6) (.pr (.cd (.new 99 0) 0 [] 0 0 n32L) (.d (.pair tu .unit) n32_7))) (.d .unit ()))) (.d (.arr (List.length n32_8) ix) n32_8))))]]++bN 25 ([[.obj 0 false (.vec 62 eR n58_3)]]++bN 40 ([[.obj 0 false (.vec 60 jg n99)]]++bN 32 [])))))⟩
abbrev al.L3.Y0:=eJ×(List jK)×(List Sg)
abbrev al.L3.X0:=(Int×Int×Int×Int×(Int×Unit)×Nat×Nat×(Int×Unit)×(List fM))×(eJ×(List jK)×(List Sg))
def al.L3.bq:al.L3.X0→Exit×AS:=fun x=>(.exit 6,⟨([.undef,.undef,.ptr (.new 2 0) 0 [] 0,.undef,.ptr (.new 4 0) 0 [] 0,.ptr (.new 5 0) 0 [] 0,.fn 76 (.cons (.ptr (.new 5 0) 0 [] 0) (.nil)),.d ti x.1.1,.d ti x.1.2.1]++ba 4 ([.ptr (.new 32 0) 0 [.idx (0+(Int.toNat x.1.2.2.2.1)),.snd,.fst] ((0+((Int.toNat x.1.2.2.2.1)*36))+33)]++ba 52 ([.d ti x.1.2.2.1,.d ti x.1.2.2.2.1]++ba 64 []))),[],([[],[],[.obj 0 false (.pr (.cU) (.pr (.cU) (.d (.pair ti .unit) x.1.2.2.2.2.1)))],[],[.obj 0 false (.pr (.cd (.new 32 0) 0 [] 0 0 x.1.2.2.2.2.2.1) (.pr (.cd (.new 58 0) 0 [] 0 0 x.1.2.2.2.2.2.2.1) (.d (.pair ti .unit) x.1.2.2.2.2.2.2.2.1)))],[.obj 0 false (.ptr (.new 16 0) 0 [] 0)]]++bN 10 ([[.obj 0 false (.d iU x.2.1)]]++bN 15 ([[.obj 0 false (.vec 57 ix x.2.2.1)]]++bN 25 ([[.obj 0 false (.vec 62 eR x.1.2.2.2.2.2.2.2.2)]]++bN 40 ([[.obj 0 true (.vec 60 jg x.2.2.2)]]++bN 32 [])))))⟩)
abbrev al.L3.X:=al.L3.X0
abbrev al.L3.Y:=al.L3.Y0
def al.L3.out:al.L3.X→Out (Exit×AS):=fun x=> .ok (al.L3.bq x)
def al.L3.add:al.L3.D→al.L3.Y→al.L3.X:=fun(n_4,m_3,t66_2,t67_2,t85,t86,n2_4,n4L_6,n4L_7,n4_4,n16_4,n32_4,n32_5,n32_6,n32L,n32_7,n32_8,n58_3,n99) y=>((n_4,m_3,t66_2,t67_2,n2_4,n4L_6,n4L_7,n4_4,n58_3),y)
abbrev al.D:=Bs
def al.st:al.D→SA:=fun b=>([.d tB b],[])
abbrev al.Y:=eX×Bool
abbrev al.X:=eX×Bool
def al.out:al.X→aY:=fun x=>⟨.cons (.d gb x.1) (.cons (.d .bool x.2) (.nil)),[],[]⟩
def al.add:al.D→al.Y→al.X:=fun b y=>y
def al.L0.aB:al.L0.D→Prop:=fun(n,m,i,u,L,v,r,l)=>iV r∧m≤64∧∃k:Nat,i=k∧k≤64∧L=l.length∧l.length=k
def al.L0.F:al.L0.D→al.L0.Y:=fun(n,m,i,u,L,v,r,l)=>(L+(m - i).toNat,(lM (m - i).toNat r).2,l++(lM (m - i).toNat r).1.map Bt)
def al.L1.aB:al.L1.D→Prop:=fun(n,m1,m,i,u,L,L2,v,r,l,os)=>iV r∧m≤64∧∃k:Nat,i=k∧k≤64∧L2=os.length∧os.length=k
def al.L1.F:al.L1.D→al.L1.Y:=fun(n,m1,m,i,u,L,L2,v,r,l,os)=>match mv (m - i).toNat r with | none=> .inl (0,()) | some x=> .inr (L2+x.1.length,x.2,os++x.1)
def al.L3.aB:al.L3.D→Prop:=fun(n,m1,mo,io,m,i,u,L,L2,v,r,la,op,br,Ls,sc,lb,os,sg)=>iV r∧m≤12∧∃k:Nat,i=k∧k≤12∧Ls=sg.length∧sg.length=k
def al.L3.F:al.L3.D→al.L3.Y:=fun(n,m1,mo,io,m,i,u,L,L2,v,r,la,op,br,Ls,sc,lb,os,sg)=>((mi (m - i).toNat r).2,la++(op,(br,some (sg++(mi (m - i).toNat r).1),sc),())::lb,sg++(mi (m - i).toNat r).1)
def al.L2.aB:al.L2.D→Prop:=fun(n,m1,m,i,u,L,L2,v,r,l,os)=>iV r∧l.length≤64∧∃k:Nat,i=k∧k≤l.length∧m=l.length∧L=l.length∧∀x∈l.drop k,x=Bt x.1
def al.L2.F:al.L2.D→al.L2.Y:=fun(n,m1,m,i,u,L,L2,v,r,l,os)=>match mC ((l.drop i.toNat).map (·.1)) r with | none=> .inl (0,()) | some x=> .inr (n,m1,u,L,L2,v,x.2,l.take i.toNat++x.1.map D2,os)
def al.aB:al.D→Prop:=fun b=>Bytes b∧b.length≤1000000000
def al.F:al.D→al.Y:=fun b=>gW b
noncomputable def al.G:dR:=eO (P:=Tryz.prog) [dG.sg,du.sg,dX.sg,bE.sg,cZ.sg,aR.sg,cj.sg,fv.sg,dY.sg,ak.sg]
noncomputable def al.L0.E:=bM.ct al.L0.st al.L0.aB al.L0.add al.L0.F al.L0.out
noncomputable def al.L0.call:al.L0.D→Option al.L0.X:=dg al.L0.E al.L0.st
noncomputable def al.L1.E:=bM.ct al.L1.st al.L1.aB al.L1.add al.L1.F al.L1.out
noncomputable def al.L1.call:al.L1.D→Option al.L1.X:=dg al.L1.E al.L1.st
noncomputable def al.L2.E:=bM.ct al.L2.st al.L2.aB al.L2.add al.L2.F al.L2.out
noncomputable def al.L2.call:al.L2.D→Option al.L2.X:=dg al.L2.E al.L2.st
noncomputable def al.L3.E:=bM.ct al.L3.st al.L3.aB al.L3.add al.L3.F al.L3.out
noncomputable def al.L3.call:al.L3.D→Option al.L3.X:=dg al.L3.E al.L3.st
noncomputable def al.an:eu:= {bH:=[100031,100032],loops:=jO [(6,{bh:=[2,4,5,6,7,20,21],sites:=[2,4,5,16,32],iu:=[⟨4,[.fst],32,100036⟩]}),(11,{bh:=[2,4,5,6,7,8,37,38],sites:=[2,4,5,16,32,58],iu:=[⟨4,[.snd,.fst],58,37⟩]}),(21,{bh:=[2,4,5,6,7,8,66,67],sites:=[2,4,5,16,32,58]}),(29,{bh:=[2,4,5,6,7,8,13,66,67,85,86],sites:=[2,4,5,16,32,58,99],iu:=[⟨13,[.snd,.fst],99,51⟩],EH:=[13]})],outs:=jN [(6,{bh:=[2,4,5,6,7],sites:=[2,4,5,16,32]},{bh:=[2,3]}),(11,{bh:=[2,4,5,6,7,8],sites:=[2,4,5,16,32,58]},{bh:=[2,3],sites:=[2]}),(21,{bh:=[2,4,5,7,8],sites:=[2,4,5,16,32,58]},{bh:=[2,3],sites:=[2]}),(29,{bh:=[2,4,5,6,7,8,13,66,67],sites:=[2,4,5,16,32,58,99],EN:=[13]},{bh:=[2,3]})],fF:=ky [(6,al.L0.E),(11,al.L1.E),(21,al.L2.E),(29,al.L3.E)],res:=[some gb,none]}
noncomputable def al.A:= @cI Tryz.prog al.G al.an 0 Tryz.f24 _ al.st
abbrev al.Ok:=cJ @al.A al.aB al.add al.F al.out
noncomputable def al.L0.R:= @cf Tryz.prog al.G al.an 0 Tryz.f24 0 _ al.L0.st
abbrev al.L0.Ok:=ez Tryz.prog al.G al.an 0 Tryz.f24 0 al.L0.st al.L0.aB al.L0.add al.L0.F al.L0.out
noncomputable def al.L1.R:= @cf Tryz.prog al.G al.an 0 Tryz.f24 1 _ al.L1.st
abbrev al.L1.Ok:=ez Tryz.prog al.G al.an 0 Tryz.f24 1 al.L1.st al.L1.aB al.L1.add al.L1.F al.L1.out
noncomputable def al.L2.R:= @cf Tryz.prog al.G al.an 0 Tryz.f24 2 _ al.L2.st
abbrev al.L2.Ok:=ez Tryz.prog al.G al.an 0 Tryz.f24 2 al.L2.st al.L2.aB al.L2.add al.L2.F al.L2.out
noncomputable def al.L3.R:= @cf Tryz.prog al.G al.an 0 Tryz.f24 3 _ al.L3.st
abbrev al.L3.Ok:=ez Tryz.prog al.G al.an 0 Tryz.f24 3 al.L3.st al.L3.aB al.L3.add al.L3.F al.L3.out
theorem al.L0.run:bB al.L0.call al.L0.aB al.L0.add al.L0.F:=eE (eD [.d ti,.d ti,.d ti,.d (.pair ti .unit),.n,.d (.pair ti .unit),.d iU,.d (.slice ix)] fun _=>by kernel_rfl)
theorem al.L0.aH:fP @al.L0.R al.L0.st al.L0.aB al.L0.add al.L0.F al.L0.bq al.L0.Ok:=fS
theorem al.L0.step{R:Type}(n:Int)(t20:Int)(t21:Int)(n2:(Int×Unit))(n4L:Nat)(n4:(Int×Unit))(n16:eJ)(n32:(List jK))(kn:AS→Option R)(kx:Exit→AS→Option R):al.L0.R (n,t20,t21,n2,n4L,n4,n16,n32) kn kx=
  aJ ((fY t21 t20)) (
   aq (dX.call n16) fun x7=>
   aq (bE.call x7.2) fun x8=>
   aJ (decide (n4L≤(List.length n32))) (
   aJ (dh (n4L+1) 80) (
   kn (al.L0.st (n,t20,(bK .i64 t21 (1:Int)),n2,(n4L+1),n4,x8.2,((List.take n4L n32)++ [((x7.1,(x8.1,())),(((0:Int),(none,((0:Int),()))),()))])))) none) none) (
   kx (al.L0.bq ((n,n2,n4),(n4L,n16,n32))).1 (al.L0.bq ((n,n2,n4),(n4L,n16,n32))).2):=by kernel_rfl
theorem al.L1.run:bB al.L1.call al.L1.aB al.L1.add al.L1.F:=eE (eD [.d ti,.d ti,.d ti,.d ti,.d (.pair ti .unit),.n,.n,.d (.pair ti .unit),.d iU,.d (.slice ix),.d (.slice eR)] fun _=>by kernel_rfl)
theorem al.L1.aH:jl @al.L1.R al.L1.st al.L1.aB al.L1.add al.L1.F al.L1.out al.L1.Ok:=jL
theorem al.L1.step{R:Type}(n_2:Int)(m:Int)(t37:Int)(t38:Int)(n2_2:(Int×Unit))(n4L_2:Nat)(n4L_3:Nat)(n4_2:(Int×Unit))(n16_2:eJ)(n32_2:(List jK))(n58:(List fM))(kn:AS→Option R)(kx:Exit→AS→Option R):al.L1.R (n_2,m,t37,t38,n2_2,n4L_2,n4L_3,n4_2,n16_2,n32_2,n58) kn kx=
  aJ ((fY t38 t37)) (
   aq (bE.call n16_2) fun x16=>
   aq (cZ.call x16.2) fun x23=>
   aq (aR.call x23.1) fun x24=>
   aJ ((!x24.2)) (
    kx (al.L1.bq ((0:Int),())).1 (al.L1.bq ((0:Int),())).2) (
    aJ (decide (n4L_3≤(List.length n58))) (
    aJ (dh (n4L_3+1) 32) (
    kn (al.L1.st (n_2,m,t37,(bK .i64 t38 (1:Int)),n2_2,n4L_2,(n4L_3+1),n4_2,x23.2,n32_2,((List.take n4L_3 n58)++ [(x16.1,(x24.1,()))])))) none) none)) (
   kx (al.L1.eP ((n_2,m,n2_2,n4L_2,n4_2,n32_2),(n4L_3,n16_2,n58))).1 (al.L1.eP ((n_2,m,n2_2,n4L_2,n4_2,n32_2),(n4L_3,n16_2,n58))).2):=by kernel_rfl
theorem al.L2.run:bB al.L2.call al.L2.aB al.L2.add al.L2.F:=eE (eD [.d ti,.d ti,.d ti,.d ti,.d (.pair ti .unit),.n,.n,.d (.pair ti .unit),.d iU,.d (.slice ix),.d (.slice eR)] fun _=>by kernel_rfl)
theorem al.L2.aH:jl @al.L2.R al.L2.st al.L2.aB al.L2.add al.L2.F al.L2.out al.L2.Ok:=jL
theorem al.L2.step{R:Type}(n_3:Int)(m_2:Int)(t66:Int)(t67:Int)(n2_3:(Int×Unit))(n4L_4:Nat)(n4L_5:Nat)(n4_3:(Int×Unit))(n16_3:eJ)(n32_3:(List jK))(n58_2:(List fM))(kn:AS→Option R)(kx:Exit→AS→Option R):al.L2.R (n_3,m_2,t66,t67,n2_3,n4L_4,n4L_5,n4_3,n16_3,n32_3,n58_2) kn kx=
  aJ ((fY t67 t66)) (
   aJ (eh t67 ((n4L_4:Nat):Int)) (
   aq (bE.call n16_3) fun x16=>
   aJ (decide ((0+(Int.toNat t67)) < (List.length n32_3))) (
   aJ (decide ((((0+(Int.toNat t67))*36)+33)=(((0+((Int.toNat t67)*36))+33)+0))) (
   aJ (decide ((0+(Int.toNat t67)) < (List.length n32_3))) (
   aq (du.call ((12:Int),x16.2)) fun x20=>
   aJ ((fY x20.1 (0:Int))) (
    kx (al.L2.bq ((0:Int),())).1 (al.L2.bq ((0:Int),())).2) (
    aJ (decide ((0+(Int.toNat t67)) < (List.length (List.set n32_3 (0+(Int.toNat t67)) ((nth ix n32_3 (0+(Int.toNat t67))).1,((x16.1,(nth ix n32_3 (0+(Int.toNat t67))).2.1.2),(nth ix n32_3 (0+(Int.toNat t67))).2.2)))))) (
    aJ ((Option.isNone (nth ix (List.set n32_3 (0+(Int.toNat t67)) ((nth ix n32_3 (0+(Int.toNat t67))).1,((x16.1,(nth ix n32_3 (0+(Int.toNat t67))).2.1.2),(nth ix n32_3 (0+(Int.toNat t67))).2.2))) (0+(Int.toNat t67))).2.1.2.1)) (
    aq (al.L3.call (n_3,m_2,t66,t67,x20.1,(0:Int),n2_3,n4L_4,n4L_5,n4_3,x20.2,(List.take (0+(Int.toNat t67)) (List.set n32_3 (0+(Int.toNat t67)) ((nth ix n32_3 (0+(Int.toNat t67))).1,((x16.1,(nth ix n32_3 (0+(Int.toNat t67))).2.1.2),(nth ix n32_3 (0+(Int.toNat t67))).2.2)))),((nth ix (List.set n32_3 (0+(Int.toNat t67)) ((nth ix n32_3 (0+(Int.toNat t67))).1,((x16.1,(nth ix n32_3 (0+(Int.toNat t67))).2.1.2),(nth ix n32_3 (0+(Int.toNat t67))).2.2))) (0+(Int.toNat t67))).1.1,((nth ix (List.set n32_3 (0+(Int.toNat t67)) ((nth ix n32_3 (0+(Int.toNat t67))).1,((x16.1,(nth ix n32_3 (0+(Int.toNat t67))).2.1.2),(nth ix n32_3 (0+(Int.toNat t67))).2.2))) (0+(Int.toNat t67))).1.2.1,(nth ix (List.set n32_3 (0+(Int.toNat t67)) ((nth ix n32_3 (0+(Int.toNat t67))).1,((x16.1,(nth ix n32_3 (0+(Int.toNat t67))).2.1.2),(nth ix n32_3 (0+(Int.toNat t67))).2.2))) (0+(Int.toNat t67))).1.2.2)),(nth ix (List.set n32_3 (0+(Int.toNat t67)) ((nth ix n32_3 (0+(Int.toNat t67))).1,((x16.1,(nth ix n32_3 (0+(Int.toNat t67))).2.1.2),(nth ix n32_3 (0+(Int.toNat t67))).2.2))) (0+(Int.toNat t67))).2.1.1,0,((nth ix (List.set n32_3 (0+(Int.toNat t67)) ((nth ix n32_3 (0+(Int.toNat t67))).1,((x16.1,(nth ix n32_3 (0+(Int.toNat t67))).2.1.2),(nth ix n32_3 (0+(Int.toNat t67))).2.2))) (0+(Int.toNat t67))).2.1.2.2.1,(nth ix (List.set n32_3 (0+(Int.toNat t67)) ((nth ix n32_3 (0+(Int.toNat t67))).1,((x16.1,(nth ix n32_3 (0+(Int.toNat t67))).2.1.2),(nth ix n32_3 (0+(Int.toNat t67))).2.2))) (0+(Int.toNat t67))).2.1.2.2.2),(List.drop ((0+(Int.toNat t67))+1) (List.set n32_3 (0+(Int.toNat t67)) ((nth ix n32_3 (0+(Int.toNat t67))).1,((x16.1,(nth ix n32_3 (0+(Int.toNat t67))).2.1.2),(nth ix n32_3 (0+(Int.toNat t67))).2.2)))),n58_2,([]:List Sg))) fun x22=>
    aq (cj.call x22.2.1) fun x24=>
    aJ (decide ((0+(Int.toNat x22.1.2.2.2.1)) < (List.length x22.2.2.1))) (
    aJ (decide ((((0+(Int.toNat x22.1.2.2.2.1))*36)+35)=(((0+((Int.toNat x22.1.2.2.2.1)*36))+33)+2))) (
    aJ (decide ((0+(Int.toNat x22.1.2.2.2.1)) < (List.length x22.2.2.1))) (
    kn (al.L2.st (x22.1.1,x22.1.2.1,x22.1.2.2.1,(bK .i64 x22.1.2.2.2.1 (1:Int)),x22.1.2.2.2.2.1,x22.1.2.2.2.2.2.1,x22.1.2.2.2.2.2.2.1,x22.1.2.2.2.2.2.2.2.1,x24.2,(List.set x22.2.2.1 (0+(Int.toNat x22.1.2.2.2.1)) ((nth ix x22.2.2.1 (0+(Int.toNat x22.1.2.2.2.1))).1,(((nth ix x22.2.2.1 (0+(Int.toNat x22.1.2.2.2.1))).2.1.1,((nth ix x22.2.2.1 (0+(Int.toNat x22.1.2.2.2.1))).2.1.2.1,(x24.1,(nth ix x22.2.2.1 (0+(Int.toNat x22.1.2.2.2.1))).2.1.2.2.2))),(nth ix x22.2.2.1 (0+(Int.toNat x22.1.2.2.2.1))).2.2))),x22.1.2.2.2.2.2.2.2.2))) none) none) none) none) none)) none) none) none) none) (
   kx (al.L2.eP (n_3,m_2,n2_3,n4L_4,n4L_5,n4_3,n16_3,n32_3,n58_2)).1 (al.L2.eP (n_3,m_2,n2_3,n4L_4,n4L_5,n4_3,n16_3,n32_3,n58_2)).2):=by kernel_rfl
theorem al.L3.run:bB al.L3.call al.L3.aB al.L3.add al.L3.F:=eE (eD [.d ti,.d ti,.d ti,.d ti,.d ti,.d ti,.d (.pair ti .unit),.n,.n,.d (.pair ti .unit),.d iU,.d (.slice ix),.d kp,.d ti,.n,.d (.pair tu .unit),.d (.slice ix),.d (.slice eR),.d (.slice jg)] fun _=>by kernel_rfl)
theorem al.L3.aH:fP @al.L3.R al.L3.st al.L3.aB al.L3.add al.L3.F al.L3.bq al.L3.Ok:=fS
theorem al.L3.step{R:Type}(n_4:Int)(m_3:Int)(t66_2:Int)(t67_2:Int)(t85:Int)(t86:Int)(n2_4:(Int×Unit))(n4L_6:Nat)(n4L_7:Nat)(n4_4:(Int×Unit))(n16_4:eJ)(n32_4:(List jK))(n32_5:j4)(n32_6:Int)(n32L:Nat)(n32_7:(Int×Unit))(n32_8:(List jK))(n58_3:(List fM))(n99:(List Sg))(kn:AS→Option R)(kx:Exit→AS→Option R):al.L3.R (n_4,m_3,t66_2,t67_2,t85,t86,n2_4,n4L_6,n4L_7,n4_4,n16_4,n32_4,n32_5,n32_6,n32L,n32_7,n32_8,n58_3,n99) kn kx=
  aJ ((fY t86 t85)) (
   aJ (decide ((((0+(Int.toNat t67_2))*36)+34)=(((0+((Int.toNat t67_2)*36))+33)+1))) (
   aq (cj.call n16_4) fun x7=>
   aq (cj.call x7.2) fun x8=>
   aJ (decide (n32L≤(List.length n99))) (
   aJ (dh (n32L+1) 16) (
   aJ (decide ((((0+(Int.toNat t67_2))*36)+34)=(((0+((Int.toNat t67_2)*36))+33)+1))) (
   kn (al.L3.st (n_4,m_3,t66_2,t67_2,t85,(bK .i64 t86 (1:Int)),n2_4,n4L_6,n4L_7,n4_4,x8.2,n32_4,n32_5,n32_6,(n32L+1),n32_7,n32_8,n58_3,((List.take n32L n99)++ [(x7.1,(x8.1,()))])))) none) none) none) none) (
   aJ (decide (0=0∧(0+n32L)≤(List.length n99))) (
   kx (al.L3.bq ((n_4,m_3,t66_2,t67_2,n2_4,n4L_6,n4L_7,n4_4,n58_3),(n16_4,(n32_4++(n32_5,((n32_6,((some (cut n99 0 n32L)),n32_7)),()))::n32_8),n99))).1 (al.L3.bq ((n_4,m_3,t66_2,t67_2,n2_4,n4L_6,n4L_7,n4_4,n58_3),(n16_4,(n32_4++(n32_5,((n32_6,((some (cut n99 0 n32L)),n32_7)),()))::n32_8),n99))).2) none):=by kernel_rfl
theorem al.eq{R:Type}(b:Bs)(k:aY→Option R):al.A b k=
  aq (dG.call b) fun x4=>
  aq (du.call ((64:Int),x4)) fun x8=>
  aq (al.L0.call (x8.1,x8.1,(0:Int),((0:Int),()),0,((0:Int),()),x8.2,([]:List jK))) fun x26=>
  aq (du.call ((64:Int),x26.2.2.1)) fun x30=>
  aq (al.L1.call (x26.1.1,x30.1,x30.1,(0:Int),x26.1.2.1,x26.2.1,0,x26.1.2.2,x30.2,x26.2.2.2,([]:List fM))) fun x82=>
  aJ (x82.isLeft) (
   aq (x82.getLeft?) fun a83=>
   k (al.out ((([]:List ff),(([]:List fM),a83)),false))) (
   aq (x82.getRight?) fun b84=>
   aq (bE.call b84.2.2.1) fun x88=>
   aq (al.L2.call (b84.1.1,b84.1.2.1,((b84.1.2.2.2.1:Nat):Int),(0:Int),b84.1.2.2.1,b84.1.2.2.2.1,b84.2.1,(x88.1,b84.1.2.2.2.2.1.2),x88.2,b84.1.2.2.2.2.2,b84.2.2.2)) fun x124=>
   aJ (x124.isLeft) (
    aq (x124.getLeft?) fun a125=>
    k (al.out ((([]:List ff),(([]:List fM),a125)),false))) (
    aq (x124.getRight?) fun b126=>
    aJ ((fY b126.1 (0:Int))) (
     k (al.out ((([]:List ff),(([]:List fM),((0:Int),()))),false))) (
     aJ ((fY b126.2.1 (0:Int))) (
      k (al.out ((([]:List ff),(([]:List fM),((0:Int),()))),false))) (
      aq (fv.call b126.2.2.2.2.2.2.1) fun x136=>
      aJ ((!x136.2)) (
       k (al.out ((([]:List ff),(([]:List fM),((0:Int),()))),false))) (
       aq (dY.call x136.1) fun x137=>
       aJ ((mG x137.2 (0:Int))) (
        k (al.out ((([]:List ff),(([]:List fM),((0:Int),()))),false))) (
        aJ (decide (0=0∧(0+b126.2.2.2.1)≤(List.length b126.2.2.2.2.2.2.2.1))) (
        aJ (decide (0=0∧(0+b126.2.2.2.2.1)≤(List.length b126.2.2.2.2.2.2.2.2))) (
        aq (ak.call ((Dg (.slice ix) (.slice eH) (cut b126.2.2.2.2.2.2.2.1 0 b126.2.2.2.1)),((cut b126.2.2.2.2.2.2.2.2 0 b126.2.2.2.2.1),b126.2.2.2.2.2.1))) fun x138=>
        aJ ((!x138)) (
         k (al.out ((([]:List ff),(([]:List fM),((0:Int),()))),false))) (
         aJ (decide (0=0∧(0+b126.2.2.2.1)≤(List.length b126.2.2.2.2.2.2.2.1))) (
         aJ (decide (0=0∧(0+b126.2.2.2.2.1)≤(List.length b126.2.2.2.2.2.2.2.2))) (
         k (al.out (((Dg (.slice ix) (.slice eH) (cut b126.2.2.2.2.2.2.2.1 0 b126.2.2.2.1)),((cut b126.2.2.2.2.2.2.2.2 0 b126.2.2.2.2.1),b126.2.2.2.2.2.1)),true))) none) none)) none) none)))))):=by kernel_rfl
theorem al.L0.ok:al.L0.Ok:=by
 refine al.L0.aH (fun(n,m,i,u,L,v,r,l)=>(m - i).toNat) ?_
 rintro⟨n,m,i,u,L,v,r,l⟩ ⟨hr,hm,k,rfl,hk,rfl,hlk⟩
 have hr:iV r:=hr
 have hm:m≤64:=hm
 have hlk:l.length=k:=hlk
 by_cases h:(k:Int) < m
 ·left
  have e1:(m - (k:Int)).toNat=(m - ((k+1:Nat):Int)).toNat+1:=by omega
  have h1:=vD hr
  refine⟨(n,m,((k+1:Nat):Int),u,l.length+1,v,(Cs r).2,l++ [Bt (Cs r).1]),⟨(hH h1.1).1.1,hm,k+1,rfl,by omega,by rw[List.length_append];rfl,by rw[List.length_append];show l.length+1=_;omega⟩,by show(m - ((k+1:Nat):Int)).toNat < (m - (k:Int)).toNat;omega,?_,fun kn kx=> ?_⟩
  ·simp only[al.L0.add,al.L0.F,e1,lM,List.map_cons,List.append_assoc,List.singleton_append]
   rw[show ∀a c:Nat,a+1+c=a+(c+1) from fun a c=>by omega]
  ·rw[al.L0.step,bw h,dX.run (d:=r) hr.1]
   simp only[az,ab,dX.add,dX.F]
   rw[bE.run (d:=(mY r).2) h1.1.1]
   simp only[ab,bE.add,bE.F]
   rw[aO (Nat.le_refl _),eB (by omega) (by omega),N.kA (by omega),List.take_length]
   rfl
 ·right
  intro R kn kx
  have e1:(m - (k:Int)).toNat=0:=by omega
  rw[al.L0.step,bm h,ay]
  simp only[al.L0.add,al.L0.F,e1,lM,List.map_nil,List.append_nil,Nat.add_zero]
theorem al.L1.ok:al.L1.Ok:=by
 refine al.L1.aH (fun(n,m1,m,i,u,L,L2,v,r,l,os)=>(m - i).toNat) ?_
 rintro⟨n,m1,m,i,u,L,L2,v,r,l,os⟩ ⟨hr,hm,k,rfl,hk,rfl,hlk⟩
 have hr:iV r:=hr
 have hm:m≤64:=hm
 have hlk:os.length=k:=hlk
 by_cases h:(k:Int) < m
 ·have e1:(m - (k:Int)).toNat=(m - ((k+1:Nat):Int)).toNat+1:=by omega
  have h1:=hH hr
  have h2:=tX h1.1.1
  have step:∀ {R:Type} (kn:AS→Option R) (kx:Exit→AS→Option R),al.L1.R (n,m1,m,(k:Int),u,L,os.length,v,r,l,os) kn kx=aJ (!(mw (mF (da r).2).1).2) (kx (al.L1.bq (0,())).1 (al.L1.bq (0,())).2) (kn (al.L1.st (n,m1,m,((k+1:Nat):Int),u,L,os.length+1,v,(rM r).2,l,os++ [(rM r).1]))):=by
   intro R kn kx
   rw[al.L1.step,bw h,bE.run (d:=r) hr.1]
   simp only[az,ab,bE.add,bE.F]
   rw[cZ.run (d:=(da r).2) h1.1.1.1]
   simp only[ab,cZ.add,cZ.F]
   rw[aR.run (d:=(mF (da r).2).1) ⟨h2.2.1,h2.2.2⟩]
   simp only[ab,aR.add,aR.F]
   rw[aO (Nat.le_refl _),eB (by omega) (by omega),N.kA (by omega),List.take_length]
   rfl
  cases hp:(mw (mF (da r).2).1).2
  ·right
   refine⟨al.L1.bq (0,()),?_,fun kn kx=> ?_⟩
   ·simp only[al.L1.add,al.L1.F,e1,mv,hp,Bool.false_eq_true,if_false]
    rfl
   ·rw[step,hp];rfl
  ·left
   refine⟨(n,m1,m,((k+1:Nat):Int),u,L,os.length+1,v,(rM r).2,l,os++ [(rM r).1]),⟨h2.1.1,hm,k+1,rfl,by omega,by rw[List.length_append];rfl,by rw[List.length_append];show os.length+1=_;omega⟩,by show(m - ((k+1:Nat):Int)).toNat < (m - (k:Int)).toNat;omega,?_,fun kn kx=> ?_⟩
   ·simp only[al.L1.add,al.L1.F,e1,mv,hp,if_true]
    cases mv (m - ((k+1:Nat):Int)).toNat (rM r).2 with
    |none=>rfl
    |some x=>
     simp only[List.length_cons,List.append_assoc,List.singleton_append]
     rw[show ∀a c:Nat,a+1+c=a+(c+1) from fun a c=>by omega]
   ·rw[step,hp];rfl
 ·right
  have e1:(m - (k:Int)).toNat=0:=by omega
  refine⟨al.L1.eP ((n,m1,u,L,v,l),(os.length,r,os)),?_,fun kn kx=> ?_⟩
  ·simp only[al.L1.add,al.L1.F,e1,mv,List.length_nil,Nat.add_zero,List.append_nil]
   rfl
  ·rw[al.L1.step,bm h,ay]
theorem al.L3.ok:al.L3.Ok:=by
 refine al.L3.aH (fun(n,m1,mo,io,m,i,u,L,L2,v,r,la,op,br,Ls,sc,lb,os,sg)=>(m - i).toNat) ?_
 rintro⟨n,m1,mo,io,m,i,u,L,L2,v,r,la,op,br,Ls,sc,lb,os,sg⟩ ⟨hr,hm,k,rfl,hk,rfl,hlk⟩
 have hr:iV r:=hr
 have hm:m≤12:=hm
 have hlk:sg.length=k:=hlk
 by_cases h:(k:Int) < m
 ·left
  have e1:(m - (k:Int)).toNat=(m - ((k+1:Nat):Int)).toNat+1:=by omega
  have h1:=nL hr
  have h2:=nL h1.1
  refine⟨(n,m1,mo,io,m,((k+1:Nat):Int),u,L,L2,v,(Cv r).2,la,op,br,sg.length+1,sc,lb,os,sg++ [(Cv r).1]),⟨h2.1,hm,k+1,rfl,by omega,by rw[List.length_append];rfl,by rw[List.length_append];show sg.length+1=_;omega⟩,by show(m - ((k+1:Nat):Int)).toNat < (m - (k:Int)).toNat;omega,?_,fun kn kx=> ?_⟩
  ·simp only[al.L3.add,al.L3.F,e1,mi,List.append_assoc,List.singleton_append]
  ·rw[al.L3.step,bw h,aO (by omega),cj.run (d:=r) hr.1]
   simp only[az,ab,cj.add,cj.F]
   rw[cj.run (d:=(iy r).2) h1.1.1]
   simp only[ab,cj.add,cj.F]
   rw[aO (Nat.le_refl _),eB (by omega) (by omega),N.kA (by omega),List.take_length]
   rfl
 ·right
  intro R kn kx
  have e1:(m - (k:Int)).toNat=0:=by omega
  rw[al.L3.step,bm h,ay]
  simp only[al.L3.add,al.L3.F,e1,mi,List.append_nil,Nat.zero_add,Nat.le_refl,and_self,decide_true,az,fa]
theorem al.L2.ok:al.L2.Ok:=by
 refine al.L2.aH (fun(n,m1,m,i,u,L,L2,v,r,l,os)=>l.length - i.toNat) ?_
 rintro⟨n,m1,m,i,u,L,L2,v,r,l,os⟩ ⟨hr,hl,k,rfl,hk,rfl,rfl,hg⟩
 have hr:iV r:=hr
 have hl:l.length≤64:=hl
 have hk:k≤l.length:=hk
 by_cases h:k < l.length
 ·have n1:nth ix l k=l[k]:=cw (t:=ix) h
  have hd:l.drop k=l[k]::l.drop (k+1):=List.drop_eq_getElem_cons h
  have hop:l[k]=Bt l[k].1:=hg _ (by rw[hd];exact List.mem_cons_self)
  obtain⟨op,hop2⟩:∃op,l[k].1=op:=⟨_,rfl⟩
  rw[hop2]at hop
  have h1:=hH hr
  have h2:=tK h1.1.1 12
  have h3:=yI h1.1.1.1 (m:=12) (by decide)
  have hw:=yJ hr
  have hu:=nL hw.1
  have hat:(l.take k).length=k:=by rw[List.length_take];omega
  have step:∀ {R:Type} (kn:AS→Option R) (kx:Exit→AS→Option R),al.L2.R (n,m1,(l.length:Int),(k:Int),u,l.length,L2,v,r,l,os) kn kx=aJ (fY (kQ 12 (da r).2).1 0) (kx (al.L2.bq (0,())).1 (al.L2.bq (0,())).2) (kn (al.L2.st (n,m1,(l.length:Int),((k+1:Nat):Int),u,l.length,L2,v,(iy (jy r).2).2,l.take k++(op,((da r).1,some (jy r).1,(iy (jy r).2).1,()),())::l.drop (k+1),os))):=by
   intro R kn kx
   rw[al.L2.step,bw (by omega),bn (by omega) (by omega),bE.run (d:=r) hr.1]
   have ns:∀y:jK,nth ix (l.set k y) k=y:=fun y=>yq (t:=ix) h
   have nm:∀(y:jK) (b:List jK),nth ix (l.take k++y::b) k=y:=fun y b=>BX (t:=ix) hat
   simp only[az,ab,bE.add,bE.F,Int.toNat_natCast,Nat.zero_add,Nat.add_zero,n1,hop,aO h,decide_true]
   rw[du.run (d:=(12,(da r).2)) h1.1.1.1]
   simp only[az,ab,du.add,du.F]
   refine congrArg (fun z=>aJ _ _ z) ?_
   simp only[List.length_set,aO h,az,Bt,ns,zJ,y2,Option.isNone_none]
   rw[al.L3.run (d:=(n,m1,(l.length:Int),(k:Int),(kQ 12 (da r).2).1,0,u,l.length,L2,v,(kQ 12 (da r).2).2,l.take k,op,(da r).1,0,(0,()),l.drop (k+1),os,[])) ⟨h2,h3.2,0,rfl,by decide,rfl,rfl⟩]
   simp only[ab,al.L3.add,al.L3.F,Int.sub_zero,List.nil_append]
   rw[show mi (kQ 12 (da r).2).1.toNat (kQ 12 (da r).2).2=jy r from rfl,cj.run (d:=(jy r).2) hw.1.1]
   simp only[ab,cj.add,cj.F,Int.toNat_natCast,nm,B3 hat,aO (show k < (l.take k++(op,((da r).1,some (jy r).1,0,()),())::l.drop (k+1)).length by rw[List.length_append,List.length_cons];omega),Nat.add_assoc,Nat.reduceAdd,decide_true,az]
   rw[N.kA (by omega)]
  by_cases hp:(kQ 12 (da r).2).1 < 0
  ·right
   refine⟨al.L2.bq (0,()),?_,fun kn kx=> ?_⟩
   ·simp only[al.L2.add,al.L2.F,Int.toNat_natCast,hd,List.map_cons,mC,xO,if_pos hp]
    rfl
   ·rw[step,bw hp,az]
  ·left
   have hl2:(l.take k++(op,((da r).1,some (jy r).1,(iy (jy r).2).1,()),())::l.drop (k+1)).length=l.length:=by
    rw[List.length_append,List.length_cons,List.length_drop];omega
   have hd2:(l.take k++(op,((da r).1,some (jy r).1,(iy (jy r).2).1,()),())::l.drop (k+1)).drop (k+1)=l.drop (k+1):=by
    rw[List.append_cons,List.drop_left' (by rw[List.length_append];show(l.take k).length+1=_;omega)]
   have ht2:(l.take k++(op,((da r).1,some (jy r).1,(iy (jy r).2).1,()),())::l.drop (k+1)).take (k+1)=l.take k++ [(op,((da r).1,some (jy r).1,(iy (jy r).2).1,()),())]:=by
    rw[List.append_cons,List.take_left' (by rw[List.length_append];show(l.take k).length+1=_;omega)]
   refine⟨(n,m1,(l.length:Int),((k+1:Nat):Int),u,l.length,L2,v,(iy (jy r).2).2,l.take k++(op,((da r).1,some (jy r).1,(iy (jy r).2).1,()),())::l.drop (k+1),os),⟨hu.1,by rw[hl2];exact hl,k+1,rfl,by rw[hl2];omega,by rw[hl2],by rw[hl2],by rw[hd2];exact fun x hx=>hg x (by rw[hd];exact List.mem_cons_of_mem _ hx)⟩,by simp only[Int.toNat_natCast,hl2];omega,?_,fun kn kx=> ?_⟩
   ·simp only[al.L2.add,al.L2.F,Int.toNat_natCast,hd2,ht2,hd,List.map_cons,mC,xO,if_neg hp,hop2]
    cases mC ((l.drop (k+1)).map (·.1)) (iy (jy r).2).2 with
    |none=>rfl
    |some x=>
     simp only[List.map_cons,List.append_assoc,List.singleton_append]
     rfl
   ·rw[step,bm hp,ay]
 ·right
  obtain rfl:k=l.length:=by omega
  refine⟨al.L2.eP (n,m1,u,l.length,L2,v,r,l,os),?_,fun kn kx=> ?_⟩
  ·simp only[al.L2.add,al.L2.F,Int.toNat_natCast,List.drop_length,List.map_nil,mC,List.take_length,List.append_nil]
   rfl
  ·rw[al.L2.step,bm (by omega),ay]
theorem BT(l:List j4):(l.map Bt).map (·.1)=l:=by
 rw[List.map_map]
 have:((fun x:jK=>x.1)∘Bt)=id:=rfl
 rw[this,List.map_id]
theorem al.ok:al.Ok:=by
 rintro b ⟨hb,hl⟩
 have hb:Bytes b:=hb
 have hl:b.length≤1000000000:=hl
 have k0:=yz hb hl
 have k1:=tK k0 64
 have u1:=yI k0.1 (m:=64) (by decide)
 rw[al.eq,dG.run (d:=b) hl]
 simp only[ab,dG.add,dG.F,al.add,al.F,gW]
 rw[du.run (d:=(64,(b,false,()))) k0.1]
 simp only[ab,du.add,du.F]
 generalize kQ 64 (b,false,())=n at*
 have o2:=uG n.1.toNat k1
 rw[al.L0.run (d:=(n.1,n.1,0,(0,()),0,(0,()),n.2,[])) ⟨k1,u1.2,0,rfl,by decide,rfl,rfl⟩]
 simp only[ab,al.L0.add,al.L0.F,Int.sub_zero,List.nil_append,Nat.zero_add]
 generalize lM n.1.toNat n.2=ops at*
 have k3:=tK o2.1.1 64
 have u3:=yI o2.1.1.1 (m:=64) (by decide)
 rw[du.run (d:=(64,ops.2)) o2.1.1.1]
 simp only[ab,du.add,du.F]
 generalize kQ 64 ops.2=m at*
 rw[al.L1.run (d:=(n.1,m.1,m.1,0,(0,()),n.1.toNat,0,(0,()),m.2,ops.1.map Bt,[])) ⟨k3,u3.2,0,rfl,by decide,rfl,rfl⟩]
 simp only[ab,al.L1.add,al.L1.F,Int.sub_zero,List.nil_append,Nat.zero_add]
 cases hx:mv m.1.toNat m.2 with
 |none=>rfl
 |some x=>
  have o4:=rN _ k3 hx
  have o5:=hH o4.1.1
  have ol:(ops.1.map Bt).length=n.1.toNat:=by rw[List.length_map];exact o2.2.1
  simp only[Sum.isLeft_inr,Sum.getRight?_inr,ay,ab]
  rw[bE.run (d:=x.2) o4.1.1.1]
  simp only[ab,bE.add,bE.F]
  rw[al.L2.run (d:=(n.1,m.1,(n.1.toNat:Int),0,(0,()),n.1.toNat,x.1.length,((da x.2).1,()),(da x.2).2,ops.1.map Bt,x.1)) ⟨o5.1.1,by rw[ol];omega,0,rfl,Nat.zero_le _,by rw[ol],by rw[ol],fun z hz=>by
   rw[List.drop_zero]at hz
   obtain⟨o,_,rfl⟩:=List.mem_map.1 hz
   rfl⟩]
  simp only[ab,al.L2.add,al.L2.F,Int.toNat_zero,List.drop_zero,List.take_zero,List.nil_append,BT,vV]
  cases hy:mC ops.1 (da x.2).2 with
  |none=>rfl
  |some y=>
   have o6:=sA _ o5.1.1 hy
   have yl:y.1.length=n.1.toNat:=by rw[←o2.2.1,←o6.2.1,List.length_map]
   have yl2:(y.1.map D2).length=n.1.toNat:=by rw[List.length_map];exact yl
   simp only[Sum.isLeft_inr,Sum.getRight?_inr,ay,ab,vo]
   by_cases c1:n.1 < 0
   ·rw[bw c1,az,if_pos (Or.inl c1)];rfl
   rw[bm c1,ay]
   by_cases c2:m.1 < 0
   ·rw[bw c2,az,if_pos (Or.inr (Or.inl c2))];rfl
   rw[bm c2,ay,fv.run (d:=y.2) trivial]
   simp only[ab,fv.add,fv.F,Bool.not_not]
   cases c3:y.2.2.1
   ·rw[ay,dY.run (d:=y.2) trivial]
    simp only[ab,dY.add,dY.F]
    by_cases c4:0 < y.2.1.length
    ·rw[dQ (by omega),az,if_pos (Or.inr (Or.inr (Or.inr (Or.inl c4))))];rfl
    ·rw[dE (by omega),ay,aO ⟨by trivial,by omega⟩,aO ⟨by trivial,by omega⟩,fa yl2,fa rfl,CJ,Db]
     simp only[az]
     rw[ak.run (d:=(y.1,x.1,(da x.2).1,())) ⟨fun o ho=>(o4.2.2 o ho).2.2,by show y.1.length≤_;omega,by show x.1.length≤_;have:=o4.2.1;omega⟩]
     simp only[ab,ak.add,ak.F]
     cases c5:fH (y.1,x.1,(da x.2).1,())
     ·rw[if_pos (Or.inr (Or.inr (Or.inr (Or.inr (by trivial)))))];rfl
     ·rw[if_neg (by
       rintro(z | z | z | z | z)
       ·exact c1 z
       ·exact c2 z
       ·cases z
       ·exact c4 z
       ·cases z)]
      rfl
   ·rw[az,if_pos (Or.inr (Or.inr (Or.inl (by trivial))))];rfl
noncomputable def al.E:=Entry.ct [some tB] al.st al.aB al.add al.F al.out
noncomputable def al.call:al.D→Option al.X:=bG al.E al.st
theorem al.run:bB al.call al.aB al.add al.F:=cO (cM [.d tB] fun _=>by kernel_rfl)
noncomputable def al.sg:SG Tryz.prog:=⟨24,aU,al.E,.fn 4 (by kernel_rfl) al.ok (And.intro (.ct al.L0.ok (by kernel_rfl)) (And.intro (.ct al.L1.ok (by kernel_rfl)) (And.intro (.ct al.L2.ok (by kernel_rfl)) (And.intro (.ct al.L3.ok (by kernel_rfl)) trivial))))⟩
set_option synthInstance.maxSize 5000
theorem wA(k:Int)(m:List Int):Cy (gX k m):=by
 unfold gX
 split
 ·exact⟨(B8 _).u,(xS _ _).u⟩
 ·exact⟨⟨Int.le_refl 0,by decide⟩,Int.le_refl 0,by decide⟩
theorem vy:∀(l l':List ff) (b:List Int),l.map (·.1)=l'.map (·.1)→l.foldl qP b=l'.foldl qP b
 |[],[],_,_=>rfl
 |[],_::_,_,h=>by cases h
 |_::_,[],_,h=>by cases h
 |x::l,y::l',b,h=>by
  rw[List.map_cons,List.map_cons,List.cons.injEq]at h
  have e:qP b x=qP b y:=by unfold qP;rw[h.1]
  rw[List.foldl_cons,List.foldl_cons,e,vy l l' _ h.2]
theorem zw{l l':List ff}(t:List fM×Int×Unit)(h:l.map (·.1)=l'.map (·.1)):j6 (l,t)=j6 (l',t):=by
 have hl:l.length=l'.length:=by have:=congrArg List.length h;simpa using this
 unfold j6
 simp only[hl]
 rw[vy l l' _ h]
theorem vG:∀(l l':List ff) (m:List (j4×Bool)),l.map (·.1)=l'.map (·.1)→qE m l=true→(∀x∈l',mB x.2.1=true)→qE m l'=true
 |[],[],_,_,_,_=>rfl
 |[],_::_,_,h,_,_=>by cases h
 |_::_,[],_,h,_,_=>by cases h
 |x::l,y::l',m,h,hi,hw=>by
  rw[List.map_cons,List.map_cons,List.cons.injEq]at h
  rw[qE,Bool.and_eq_true,Bool.and_eq_true]at hi ⊢
  have hx:=hi.1.2
  unfold rC at hx
  rw[Bool.and_eq_true]at hx
  refine⟨⟨?_,?_⟩,?_⟩
  ·have:=hi.1.1
   unfold rA at this ⊢
   rw[←h.1]
   exact this
  ·unfold rC
   rw[←h.1,hx.1,hw y List.mem_cons_self]
   rfl
  ·rw[←h.1]
   exact vG l l' _ h.2 hi.2 fun z hz=>hw z (List.mem_cons_of_mem _ hz)
theorem Bh{l l':List ff}{t:List fM×Int×Unit}(h:l.map (·.1)=l'.map (·.1))(hok:fH (l,t)=true)(hw:∀x∈l',mB x.2.1=true):fH (l',t)=true:=by
 have hl:l.length=l'.length:=by have:=congrArg List.length h;simpa using this
 unfold fH uQ at hok ⊢
 rw[Bool.and_eq_true,Bool.and_eq_true]at hok ⊢
 simp only[hl]at hok
 exact⟨hok.1,vG l l' _ h hok.2.1 hw,hok.2.2⟩
theorem yG{l l':List ff}{t:List fM×Int×Unit}(h:l.map (·.1)=l'.map (·.1))(h1:fH (l,t)=true)(h2:fH (l',t)=true):tF (l',t)=tF (l,t):=by
 unfold tF
 rw[h1,h2,zw t h]
theorem xF{l l':List ff}{t:List fM×Int×Unit}(h:l.map (·.1)=l'.map (·.1))(h1:fH (l,t)=true)(h2:fH (l',t)=true):jI (l',t)=jI (l,t):=by
 unfold jI
 rw[h1,h2]
 exact h.symm
theorem AH{l l':List ff}{t:List fM×Int×Unit}(h:l.map (·.1)=l'.map (·.1))(h1:fH (l,t)=true)(h2:fH (l',t)=true):nS (l',t)=nS (l,t):=by
 unfold nS
 rw[h1,h2,yG h h1 h2]
def pt(t:eX)(k:Nat)(w:mE):eX:=(t.1.set k ((nth eH t.1 k).1,w,()),t.2)
theorem pv(l:List ff)(k:Nat)(w:mE)(h:k < l.length):l.map (·.1)=(l.set k ((nth eH l k).1,w,())).map (·.1):=by
 have n1:nth eH l k=l[k]:=cw (t:=eH) h
 rw[n1,List.map_set]
 have e:(l[k].1:j4)=(l.map (·.1))[k]'(by rw[List.length_map];exact h):=by rw[List.getElem_map]
 show _=(l.map (·.1)).set k l[k].1
 rw[e,List.set_getElem_self]
theorem wz{l:List ff}{k:Nat}{w:mE}{x:ff}(h:k < l.length)(hx:x∈l.set k ((nth eH l k).1,w,())):x∈l∨(x.1=l[k].1∧x.2.1=w):=by
 have n1:nth eH l k=l[k]:=cw (t:=eH) h
 rw[n1]at hx
 rcases List.mem_or_eq_of_mem_set hx with h1 | h1
 ·exact .inl h1
 ·exact .inr ⟨by rw[h1],by rw[h1]⟩
theorem qW{t:eX}{k:Nat}{w:mE}(h:k < t.1.length)(hok:fH t=true)(hw:mB w=true):fH (pt t k w)=true:=by
 obtain⟨_,b1,_⟩:=jw hok
 refine Bh (l:=t.1) (pv t.1 k w h) hok fun x hx=> ?_
 rcases wz h hx with h1 | h1
 ·have:=gU _ _ b1 x h1
  unfold rC at this
  rw[Bool.and_eq_true]at this
  exact this.2
 ·rw[h1.2];exact hw
theorem C0{t:eX}{k:Nat}{w:mE}(h:k < t.1.length)(hv:qJ t)(hu:qB w)(hl:w.2.1.length≤1000000000):qJ (pt t k w):=by
 refine⟨⟨hv.1.1,by show(t.1.set k _).length≤_;rw[List.length_set];exact hv.1.2.1,hv.1.2.2⟩,fun x hx=> ?_,hv.2.2⟩
 rcases wz h hx with h1 | h1
 ·exact hv.2.1 x h1
 ·refine⟨?_,by rw[h1.2];exact hu,by rw[h1.2];exact hl⟩
  rw[h1.1]
  exact(hv.2.1 _ (List.getElem_mem h)).1
theorem B2{t:eX}{k:Nat}{w:mE}(h:k < t.1.length)(hok:fH t=true)(hw:mB w=true):tF (pt t k w)=tF t∧jI (pt t k w)=jI t∧nS (pt t k w)=nS t:=
 ⟨yG (l:=t.1) (pv t.1 k w h) hok (qW h hok hw),xF (l:=t.1) (pv t.1 k w h) hok (qW h hok hw),AH (l:=t.1) (pv t.1 k w h) hok (qW h hok hw)⟩
theorem B1{t:eX}{k:Nat}{w:mE}(h:k < t.1.length):nth eH (pt t k w).1 k=((nth eH t.1 k).1,w,()):=yq (t:=eH) h
theorem A4(t:eX)(k:Nat)(w:mE):(pt t k w).1.length=t.1.length:=List.length_set
def nO(t:eX)(br:Int)(ks:List Int)(sc:Int):mE:=(br,ks.map (fun k=>gX k (tF t)),sc,())
theorem sa(t:eX)(i br:Int)(ks:List Int)(sc:Int):A5 t i br ks sc=if lq t i br ks then(pt t i.toNat (nO t br ks sc),0) else(([],[],0,()),1):=rfl
theorem wF{t:eX}{i br:Int}{ks:List Int}(h:lq t i br ks=true):fH t=true∧(0≤i∧i < t.1.length∧0≤br∧br < 4∧ks.length≤12)∧∀k∈ks,k < 2305843009213688669∧k≠0:=by
 unfold lq at h
 simp only[Bool.and_eq_true,decide_eq_true_eq,Bool.not_eq_true']at h
 refine⟨h.1,h.2.1,fun k hk=> ?_⟩
 have:=h.2.2
 rw[List.any_eq_false]at this
 have:=this k hk
 unfold oO at this
 simpa using this
theorem B4{t:eX}{i br:Int}{ks:List Int}(sc:Int)(h:lq t i br ks=true):mB (nO t br ks sc)=true:=by
 have e:=(wF h).2.1
 unfold mB nO
 rw[aO ⟨e.2.2.1,e.2.2.2.1⟩,aO (by rw[List.length_map];exact e.2.2.2.2)]
 rfl
theorem C4(t:eX)(br:Int)(ks:List Int){sc:Int}(h:ia sc):qB (nO t br ks sc):=⟨fun s hs=>by
  obtain⟨k,_,rfl⟩:=List.mem_map.1 (show s∈ks.map fun k=>gX k (tF t) from hs)
  exact wA k _,h⟩
theorem A6{t:eX}{i br sc:Int}{ks:List Int}(hv:qJ t)(h:lq t i br ks=true)(hs:ia sc):
  fH (pt t i.toNat (nO t br ks sc))=true∧qJ (pt t i.toNat (nO t br ks sc))∧tF (pt t i.toNat (nO t br ks sc))=tF t∧jI (pt t i.toNat (nO t br ks sc))=jI t∧nS (pt t i.toNat (nO t br ks sc))=nS t:=by
 obtain⟨hok,e,_⟩:=wF h
 have hk:i.toNat < t.1.length:=by omega
 have hw:=B4 sc h
 exact⟨qW hk hok hw,C0 hk hv (C4 t br ks hs) (by show(ks.map _).length≤_;rw[List.length_map];omega),B2 hk hok hw⟩
def D9(t:eX):Prop:=(∀x∈t.1,Sm x.1.1∧qB x.2.1)∧(∀o∈t.2.1,xQ o.2.1)∧t.2.2.1≤9223372036854775807
theorem A9{t:eX}(h:qd t=true):t.1.length≤66∧t.2.1.length≤66∧(∀x∈t.1,x.2.1.2.1.length≤14)∧∀o∈t.2.1,o.2.1.1.length≤6∧∀b∈o.2.1.1,b.1.length≤14:=by
 unfold qd at h
 simp only[Bool.and_eq_true,decide_eq_true_eq,List.all_eq_true]at h
 refine⟨h.1.1,h.1.2,fun x hx=> ?_,fun o ho=> ?_⟩
 ·have:=h.2.1 x hx
  unfold jH at this
  simpa using this
 ·have:=h.2.2 o ho
  unfold iw at this
  simp only[Bool.and_eq_true,decide_eq_true_eq,List.all_eq_true]at this
  refine⟨this.1,fun b hb=> ?_⟩
  have:=this.2 b hb
  unfold jG at this
  simpa using this
theorem Ba{t:eX}(hg:D9 t)(h:qd t=true):qJ t∧nX t∧Cf t:=by
 obtain⟨h1,h2,h3,h4⟩:=A9 h
 refine⟨⟨⟨fun o ho=>⟨hg.2.1 o ho,by have:=(h4 o ho).1;omega⟩,by omega,by omega⟩,fun x hx=>⟨(hg.1 x hx).1,(hg.1 x hx).2,by have:=h3 x hx;omega⟩,hg.2.2⟩,⟨⟨by omega,fun x hx=>by have:=h3 x hx;omega⟩,by omega,fun o ho=>⟨by have:=(h4 o ho).1;omega,fun b hb=>by have:=(h4 o ho).2 b hb;omega⟩⟩,⟨by omega,fun x hx=>by have:=h3 x hx;omega⟩,by omega,fun o ho=>⟨by have:=(h4 o ho).1;omega,fun b hb=>by have:=(h4 o ho).2 b hb;omega⟩⟩
theorem wC{t:eX}(h:fH t=true):nX t:=by
 obtain⟨⟨_,a2,a3,_⟩,b1,b2⟩:=jw h
 exact⟨⟨by omega,fun x hx=>by have:=l5 (gU _ _ b1 x hx);omega⟩,by omega,fun o ho=>by
  have:=AF (iM _ _ b2 o ho).2
  exact⟨by omega,fun b hb=>by have:=this.2 b hb;omega⟩⟩
theorem lU{α:Type}{f:α→List Int}{l:List α}(h:∀x∈l,Bytes (f x)):Bytes (l.flatMap f):=fun b hb=>by
 obtain⟨x,hx,hb⟩:=List.mem_flatMap.1 hb
 exact h x hx b hb
theorem na{α:Type}{f:α→List Int}{n:Nat}:∀ {l:List α},(∀x∈l,(f x).length≤n)→(l.flatMap f).length≤n*l.length
 |[],_=>Nat.zero_le _
 |x::l,h=>by
  rw[List.flatMap_cons,List.length_append,List.length_cons,Nat.mul_add,Nat.mul_one]
  have h1:=h x List.mem_cons_self
  have h2:=na (l:=l) fun y hy=>h y (List.mem_cons_of_mem _ hy)
  omega
theorem tE{t:eX}(hv:qJ t):Bytes (sy t)∧(sy t).length≤1000000:=by
 cases hok:fH t
 ·unfold sy
  rw[hok]
  exact⟨fun x hx=>(by cases hx),Nat.zero_le _⟩
 obtain⟨⟨a1,a2,a3,a4⟩,b1,b2⟩:=jw hok
 have hin:∀x∈t.1,_:=fun x hx=>l5 (gU _ _ b1 x hx)
 rw[uP hok]
 have n0:∀ {n:Nat},n≤1000→mD (n:Int):=fun h=>jb (by omega)
 have e1:∀x∈t.1,Bytes (wX x.1)∧(wX x.1).length≤43:=fun x hx=>by
  have hi:=hin x hx
  have hr:=gG x.1.2.1
  have hs:=(hv.2.1 x hx).1
  exact⟨eK hs.2 (fZ ⟨hi.1,by omega⟩),by unfold wX;rw[List.length_append,hs.1];omega⟩
 have e2:∀o∈t.2.1,Bytes (lN o)∧(lN o).length≤1022:=fun o ho=>by
  have hi:=(iM _ _ b2 o ho).1
  have hr:=gG o.1
  have hr2:=gG (oZ o.2.1).length
  have hl:=nG o.2.1
  exact⟨eK (fZ ⟨hi.1,by omega⟩) (eK (fZ (n0 hl)) (zh _)),by unfold lN;rw[List.length_append,List.length_append];omega⟩
 have e3:∀x∈t.1,Bytes (lu x.2.1)∧(lu x.2.1).length≤300:=fun x hx=>by
  have hi:=hin x hx
  have hr:=gG x.2.1.1
  have hr2:=gG x.2.1.2.1.length
  have hf:=na (f:=zP) (n:=16) (l:=x.2.1.2.1) fun s _=>by unfold zP;rw[List.length_append,bJ,bJ];omega
  refine⟨eK (fZ ⟨hi.2.2.1,by omega⟩) (eK (fZ (n0 (by omega))) (eK (lU fun s _=>eK (lG _) (lG _)) (lG _))),?_⟩
  unfold lu
  simp only[List.length_append,bJ]
  omega
 have f1:=na (f:=fun x:ff=>wX x.1) (n:=43) (l:=t.1) fun x hx=>(e1 x hx).2
 have f2:=na (f:=lN) (n:=1022) (l:=t.2.1) fun x hx=>(e2 x hx).2
 have f3:=na (f:=fun x:ff=>lu x.2.1) (n:=300) (l:=t.1) fun x hx=>(e3 x hx).2
 have r1:=gG t.1.length
 have r2:=gG t.2.1.length
 have r3:=gG t.2.2.1
 refine⟨eK (fZ (n0 (by omega))) (eK (lU fun x hx=>(e1 x hx).1) (eK (fZ (n0 (by omega))) (eK (lU fun x hx=>(e2 x hx).1) (eK (fZ ⟨a4,hv.2.2⟩) (lU fun x hx=>(e3 x hx).1))))),?_⟩
 unfold Di
 simp only[List.length_append]
 omega
theorem yF{t:eX}(h:fH t=true):0 < (sy t).length:=by
 rw[uP h]
 unfold Di
 rw[List.length_append]
 have:0 < (fi (t.1.length:Int)).length:=by unfold fi;rw[List.length_append];exact Nat.succ_pos _
 omega
theorem xK{t:eX}(h:fH t=false):sy t=[]:=by unfold sy;rw[h];rfl
set_option synthInstance.maxSize 5000
def DG:ByteArray:=⟨#[107,101,121]⟩
abbrev df.D:=Bs
def df.st:df.D→SA:=fun seed=>([.d tH seed],[])
abbrev df.Y:=Int
abbrev df.X:=Int
def df.out:df.X→aY:=fun x=>⟨.d tu x,[],[]⟩
def df.add:df.D→df.Y→df.X:=fun seed y=>y
def df.aB:df.D→Prop:=fun s=>s.length=32
def df.F:df.D→df.Y:=fun s=>mX (wO DG [s])
noncomputable def df.G:dR:=eO (P:=Tryz.prog) [bP.sg,bt.sg]
noncomputable def df.an:eu:= {}
noncomputable def df.A:= @cI Tryz.prog df.G df.an 0 Tryz.f74 _ df.st
abbrev df.Ok:=cJ @df.A df.aB df.add df.F df.out
theorem df.eq{R:Type}(seed:Bs)(k:aY→Option R):df.A seed k=
 aq (bP.call ((⟨#[107,101,121]⟩:ByteArray),[(cut seed 0 32)])) fun x1=>
 aq (bt.call x1) fun x2=>
 k (df.out x2):=by kernel_rfl
theorem df.ok:df.Ok:=by
 intro s h
 have h:s.length=32:=h
 rw[df.eq,fa h]
 rw[bP.run (d:=((⟨#[107,101,121]⟩:ByteArray),[s])) (sk (by decide) (by omega))]
 simp only[ab,bP.add,bP.F]
 rw[bt.run (d:=tag (bf (⟨#[107,101,121]⟩:ByteArray)) [s]) (uM _ _)]
 rfl
noncomputable def df.E:=Entry.ct [some tH] df.st df.aB df.add df.F df.out
noncomputable def df.call:df.D→Option df.X:=bG df.E df.st
theorem df.run:bB df.call df.aB df.add df.F:=cO (cM [.d tB] fun _=>by kernel_rfl)
noncomputable def df.sg:SG Tryz.prog:=⟨74,aU,df.E,.fn 0 (by kernel_rfl) df.ok trivial⟩
abbrev de.D:=Int
def de.st:de.D→SA:=fun p=>([.d tu p],[])
abbrev de.Y:=Lk
abbrev de.X:=Lk
def de.out:de.X→aY:=fun x=>⟨.d j3 x,[],[]⟩
def de.add:de.D→de.Y→de.X:=fun p y=>y
def de.aB:de.D→Prop:=fun _=>True
def de.F:de.D→de.Y:=fun p=>(([([p],0,0,0,())],()):Lk)
noncomputable def de.G:dR:=eO (P:=Tryz.prog) []
noncomputable def de.an:eu:= {}
noncomputable def de.A:= @cI Tryz.prog de.G de.an 0 Tryz.f75 _ de.st
abbrev de.Ok:=cJ @de.A de.aB de.add de.F de.out
theorem de.eq{R:Type}(p:Int)(k:aY→Option R):de.A p k=
 k (de.out ([([p],((0:Int),((0:Int),((0:Int),()))))],())):=by kernel_rfl
theorem de.ok:de.Ok:=by
 intro p _
 rw[de.eq]
 rfl
noncomputable def de.E:=Entry.ct [some tu] de.st de.aB de.add de.F de.out
noncomputable def de.call:de.D→Option de.X:=bG de.E de.st
theorem de.run:bB de.call de.aB de.add de.F:=cO (cM [.d tu] fun _=>by kernel_rfl)
noncomputable def de.sg:SG Tryz.prog:=⟨75,aU,de.E,.fn 0 (by kernel_rfl) de.ok trivial⟩
def kK:Int:=2280522697135155589
def pK:Int:=261844167819670384
theorem Eg:mX (wO DG [1::List.replicate 31 0])=kK:=by decide+kernel
theorem zW:gE kK=pK:=by decide+kernel
def Cn:Lk:=([([pK],0,0,0,())],())
def kU(n:Int):ff:=((List.replicate 32 0,n,()),(0,[],0,()),())
def t13:eX:=([kU 3,kU 4],[(5,Cn,()),(0,Cn,()),(0,Cn,())],300,())
def y3:eX:=([],[],0,())
def D7:eX:=([kU 0,kU 0],[],0,())
theorem AQ:fH t13=true:=by decide+kernel
theorem Cr:fH y3=false:=by decide+kernel
theorem DK:fH D7=false:=by decide+kernel
theorem DO:lq t13 1 2 [kK]=true:=by decide+kernel
theorem DP:lq t13 2 2 [kK]=false:=by decide+kernel
theorem DQ:lq t13 1 2 [0]=false:=by decide+kernel
theorem Aw(n:Int):EE (kU n):=⟨⟨by show(List.replicate 32 (0:Int)).length=32;rw[List.length_replicate],fun x hx=>by obtain rfl:=(List.mem_replicate.1 hx).2;exact⟨by decide,by decide⟩⟩,⟨fun s hs=>(by cases hs),by show(0:Int)≤0;decide,by show(0:Int) < 18446744073709551616;decide⟩,Nat.zero_le _⟩
theorem DE:Cx Cn:=⟨fun b hb=>by
 have hb:b∈ [(([pK],(0:Int),(0:Int),(0:Int),()):fX)]:=hb
 rw[List.mem_singleton]at hb
 subst hb
 exact⟨fun x hx=>by
  have hx:x∈ [pK]:=hx
  rw[List.mem_singleton]at hx
  subst hx
  exact⟨by decide,by decide⟩,by decide,by decide⟩,by decide⟩
theorem Ca:qJ t13:=⟨⟨fun o ho=>by
  have ho:o∈ [((5:Int),Cn,()),(0,Cn,()),(0,Cn,())]:=ho
  simp only[List.mem_cons,List.not_mem_nil,or_false]at ho
  rcases ho with rfl | rfl | rfl <;> exact DE,by decide,by decide⟩,fun x hx=>by
  have hx:x∈ [kU 3,kU 4]:=hx
  simp only[List.mem_cons,List.not_mem_nil,or_false]at hx
  rcases hx with rfl | rfl <;> exact Aw _,by decide⟩
theorem DU:qJ y3:=⟨⟨fun o ho=>(by cases ho),by decide,by decide⟩,fun x hx=>(by cases hx),by decide⟩
theorem ED:qJ D7:=⟨⟨fun o ho=>(by cases ho),by decide,by decide⟩,fun x hx=>by
  have hx:x∈ [kU 0,kU 0]:=hx
  simp only[List.mem_cons,List.not_mem_nil,or_false]at hx
  rcases hx with rfl | rfl <;> exact Aw _,by decide⟩
theorem zX(k:Int):ia (gE k):=(wq _ _).u
theorem DS:ia 7:=⟨by decide,by decide⟩
theorem DC:∀x∈ [kK],ia x:=fun x hx=>by
 rw[List.mem_singleton]at hx
 subst hx
 exact⟨by decide,by decide⟩
theorem sS:∃(m:List Int) (u:eX) (s:Sg) (bs:List Int),tid.call t13=some m∧bo.call (t13,1,2,[kK],7)=some (u,0)∧bo.call (t13,2,2,[kK],7)=some (y3,1)∧bo.call (t13,1,2,[0],7)=some (y3,1)∧
  aE.call u=some bs∧al.call bs=some (u,true)∧ak.call D7=some false∧bz.call t13=some [(m,0,()),(m,1,()),(m,2,())]∧aP.call t13=some [(kU 3).1,(kU 4).1]∧u.1.length=2∧(nth eH u.1 1).2.1=(2,[s],7,())∧
  ak.call t13=some true∧tid.call u=some m∧bO.call (pK,m,s)=some true∧aN.call t13=some 54∧aN.call u=some 66∧dv.call (u,u)=some true∧dv.call (t13,u)=some false∧tid.call y3=some (List.replicate 32 0)∧ak.call y3=some false:=by
 have all:=A6 Ca DO DS
 obtain⟨u,hu⟩:∃u,pt t13 (Int.toNat 1) (nO t13 2 [kK] 7)=u:=⟨_,rfl⟩
 have hat:nth eH u.1 1=((nth eH t13.1 1).1,nO t13 2 [kK] 7,()):=by rw[←hu];exact B1 (by decide)
 have hlen:u.1.length=2:=by rw[←hu,A4];rfl
 have ho:u.2.1.length=3:=by rw[←hu];rfl
 have hf:u.1=[kU 3,((kU 4).1,nO t13 2 [kK] 7,())]:=by rw[←hu];rfl
 rw[hu]at all
 obtain⟨a1,a2,a3,a4,a5⟩:=all
 have hne:t13≠u:=fun e=>by
  have e1:t13.1=u.1:=by rw[←e]
  rw[hf]at e1
  have e2: [kU 3,kU 4]=[kU 3,((kU 4).1,nO t13 2 [kK] 7,())]:=e1
  rw[List.cons.injEq,List.cons.injEq]at e2
  have e3:(kU 4).2.1.1=(nO t13 2 [kK] 7).1:=by rw[e2.2.1]
  cases e3
 obtain⟨m,hm⟩:∃m,tF t13=m:=⟨_,rfl⟩
 have bl:=tE a2
 refine⟨m,u,gX kK m,sy u,?_,?_,?_,?_,aE.run (d:=u) a2,?_,?_,?_,?_,hlen,?_,?_,?_,?_,?_,?_,?_,?_,?_,?_⟩
 ·rw[←hm];exact tid.run (d:=t13) Ca
 ·rw[bo.run (d:=(t13,1,2,[kK],7)) ⟨Ca,DC,by decide⟩,←hu]
  simp only[bo.add,bo.F,sa,DO,if_true]
 ·rw[bo.run (d:=(t13,2,2,[kK],7)) ⟨Ca,DC,by decide⟩]
  simp only[bo.add,bo.F,sa,DP,Bool.false_eq_true,if_false]
  rfl
 ·rw[bo.run (d:=(t13,1,2,[0],7)) ⟨Ca,fun x hx=>by rw[List.mem_singleton]at hx;subst hx;exact⟨by decide,by decide⟩,by decide⟩]
  simp only[bo.add,bo.F,sa,DQ,Bool.false_eq_true,if_false]
  rfl
 ·rw[al.run (d:=sy u) ⟨bl.1,by show(sy u).length≤_;have:=bl.2;omega⟩]
  simp only[al.add,al.F,oB a2 a1]
 ·rw[ak.run (d:=D7) ED.1]
  simp only[ak.add,ak.F,DK]
 ·rw[bz.run (d:=t13) Ca]
  simp only[bz.add,bz.F]
  unfold nS
  rw[AQ,hm]
  rfl
 ·rw[aP.run (d:=t13) Ca.1]
  simp only[aP.add,aP.F]
  unfold jI
  rw[AQ]
  rfl
 ·rw[hat]
  show nO t13 2 [kK] 7=_
  unfold nO
  rw[hm]
  rfl
 ·rw[ak.run (d:=t13) Ca.1]
  simp only[ak.add,ak.F,AQ]
 ·rw[tid.run (d:=u) a2]
  simp only[tid.add,tid.F,a3,hm]
 ·rw[bO.run (d:=(pK,m,gX kK m)) ⟨by rw[←zW];exact zX _,by rw[←hm];exact Bg,wA _ _⟩]
  simp only[bO.add,bO.F,←zW]
  rw[B5 kK m (by decide) (by decide)]
 ·rw[aN.run (d:=t13) Ca]
  simp only[aN.add,aN.F]
  unfold uS
  rw[AQ]
  rfl
 ·rw[aN.run (d:=u) a2]
  simp only[aN.add,aN.F]
  unfold uS
  rw[a1,hf,ho]
  rfl
 ·rw[dv.run (d:=(u,u)) (wC a1)]
  simp only[dv.add,dv.F,decide_true]
 ·rw[dv.run (d:=(t13,u)) (wC AQ)]
  simp only[dv.add,dv.F,decide_eq_false hne]
 ·rw[tid.run (d:=y3) DU]
  simp only[tid.add,tid.F]
  unfold tF
  rw[Cr]
  rfl
 ·rw[ak.run (d:=y3) DU.1]
  simp only[ak.add,ak.F,Cr]
theorem Dn(m:List Int):Ty.beq tH m m=true:=mN tH m rfl
abbrev bF.D:=Unit
def bF.st:bF.D→SA:=fun _=>([],[])
abbrev bF.Y:=Bool
abbrev bF.X:=Bool
def bF.out:bF.X→aY:=fun x=>⟨.d .bool x,[],[]⟩
def bF.add:bF.D→bF.Y→bF.X:=fun _ y=>y
def bF.aB:bF.D→Prop:=fun _=>True
def bF.F:bF.D→bF.Y:=fun _=>true
noncomputable def bF.G:dR:=eO (P:=Tryz.prog) [df.sg,dj.sg,de.sg,bo.sg,aE.sg,al.sg,ak.sg,bz.sg,aP.sg,tid.sg,bO.sg,aN.sg,dv.sg]
noncomputable def bF.an:eu:= {}
noncomputable def bF.A:= @cI Tryz.prog bF.G bF.an 0 Tryz.f21 _ bF.st
abbrev bF.Ok:=cJ @bF.A bF.aB bF.add bF.F bF.out
theorem bF.eq{R:Type}(k:aY→Option R):bF.A () k=
  aq (df.call [(1:Int),(0:Int),(0:Int),(0:Int),(0:Int),(0:Int),(0:Int),(0:Int),(0:Int),(0:Int),(0:Int),(0:Int),(0:Int),(0:Int),(0:Int),(0:Int),(0:Int),(0:Int),(0:Int),(0:Int),(0:Int),(0:Int),(0:Int),(0:Int),(0:Int),(0:Int),(0:Int),(0:Int),(0:Int),(0:Int),(0:Int),(0:Int)]) fun x4=>
  aq (dj.call x4) fun x8=>
  aq (de.call x8) fun x18=>
  aq (de.call x8) fun x19=>
  aq (de.call x8) fun x20=>
  aq (bo.call (([(((List.replicate 32 (0:Int)),((3:Int),())),(((0:Int),(([]:List Sg),((0:Int),()))),())),(((List.replicate 32 (0:Int)),((4:Int),())),(((0:Int),(([]:List Sg),((0:Int),()))),()))],([((5:Int),(x18,())),((0:Int),(x19,())),((0:Int),(x20,()))],((300:Int),()))),(1:Int),(2:Int),[x4],(7:Int))) fun x24=>
  aq (bo.call (([(((List.replicate 32 (0:Int)),((3:Int),())),(((0:Int),(([]:List Sg),((0:Int),()))),())),(((List.replicate 32 (0:Int)),((4:Int),())),(((0:Int),(([]:List Sg),((0:Int),()))),()))],([((5:Int),(x18,())),((0:Int),(x19,())),((0:Int),(x20,()))],((300:Int),()))),(2:Int),(2:Int),[x4],(7:Int))) fun x28=>
  aq (bo.call (([(((List.replicate 32 (0:Int)),((3:Int),())),(((0:Int),(([]:List Sg),((0:Int),()))),())),(((List.replicate 32 (0:Int)),((4:Int),())),(((0:Int),(([]:List Sg),((0:Int),()))),()))],([((5:Int),(x18,())),((0:Int),(x19,())),((0:Int),(x20,()))],((300:Int),()))),(1:Int),(2:Int),[(0:Int)],(7:Int))) fun x32=>
  aq (aE.call x24.1) fun x39=>
  aq (al.call x39) fun x40=>
  aq (ak.call ([(((List.replicate 32 (0:Int)),((0:Int),())),(((0:Int),(([]:List Sg),((0:Int),()))),())),(((List.replicate 32 (0:Int)),((0:Int),())),(((0:Int),(([]:List Sg),((0:Int),()))),()))],(([]:List fM),((0:Int),())))) fun x44=>
  aq (bz.call ([(((List.replicate 32 (0:Int)),((3:Int),())),(((0:Int),(([]:List Sg),((0:Int),()))),())),(((List.replicate 32 (0:Int)),((4:Int),())),(((0:Int),(([]:List Sg),((0:Int),()))),()))],([((5:Int),(x18,())),((0:Int),(x19,())),((0:Int),(x20,()))],((300:Int),())))) fun x48=>
  aq (aP.call ([(((List.replicate 32 (0:Int)),((3:Int),())),(((0:Int),(([]:List Sg),((0:Int),()))),())),(((List.replicate 32 (0:Int)),((4:Int),())),(((0:Int),(([]:List Sg),((0:Int),()))),()))],([((5:Int),(x18,())),((0:Int),(x19,())),((0:Int),(x20,()))],((300:Int),())))) fun x52=>
  aJ ((ku x24.2 (0:Int))) (
   k (bF.out false)) (
   aJ ((ku (((List.length x24.1.1):Nat):Int) (2:Int))) (
    k (bF.out false)) (
    aJ (eh (1:Int) (((List.length x24.1.1):Nat):Int)) (
    aJ ((ku (((List.length (nth eH x24.1.1 1).2.1.2.1):Nat):Int) (1:Int))) (
     k (bF.out false)) (
     aJ ((ku (((List.length x48):Nat):Int) (3:Int))) (
      k (bF.out false)) (
      aJ ((ku (((List.length x52):Nat):Int) (2:Int))) (
       k (bF.out false)) (
       aJ (eh (1:Int) (((List.length x24.1.1):Nat):Int)) (
       aq (ak.call ([(((List.replicate 32 (0:Int)),((3:Int),())),(((0:Int),(([]:List Sg),((0:Int),()))),())),(((List.replicate 32 (0:Int)),((4:Int),())),(((0:Int),(([]:List Sg),((0:Int),()))),()))],([((5:Int),(x18,())),((0:Int),(x19,())),((0:Int),(x20,()))],((300:Int),())))) fun x65=>
       aJ (x65) (
        aJ ((nN x28.2 (1:Int))) (
         aJ ((nN x32.2 (1:Int))) (
          aq (tid.call x24.1) fun x66=>
          aq (tid.call ([(((List.replicate 32 (0:Int)),((3:Int),())),(((0:Int),(([]:List Sg),((0:Int),()))),())),(((List.replicate 32 (0:Int)),((4:Int),())),(((0:Int),(([]:List Sg),((0:Int),()))),()))],([((5:Int),(x18,())),((0:Int),(x19,())),((0:Int),(x20,()))],((300:Int),())))) fun x67=>
          aJ ((Ty.beq tH x66 x67)) (
           aq (tid.call ([(((List.replicate 32 (0:Int)),((3:Int),())),(((0:Int),(([]:List Sg),((0:Int),()))),())),(((List.replicate 32 (0:Int)),((4:Int),())),(((0:Int),(([]:List Sg),((0:Int),()))),()))],([((5:Int),(x18,())),((0:Int),(x19,())),((0:Int),(x20,()))],((300:Int),())))) fun x68=>
           aJ (eh (0:Int) (((List.length (nth eH x24.1.1 1).2.1.2.1):Nat):Int)) (
           aq (bO.call (x8,x68,(nth jg (nth eH x24.1.1 1).2.1.2.1 0))) fun x69=>
           aJ (x69) (
            aJ ((nN (nth eH x24.1.1 1).2.1.1 (2:Int))) (
             aJ ((nN (nth eH x24.1.1 1).2.1.2.2.1 (7:Int))) (
              aq (aN.call ([(((List.replicate 32 (0:Int)),((3:Int),())),(((0:Int),(([]:List Sg),((0:Int),()))),())),(((List.replicate 32 (0:Int)),((4:Int),())),(((0:Int),(([]:List Sg),((0:Int),()))),()))],([((5:Int),(x18,())),((0:Int),(x19,())),((0:Int),(x20,()))],((300:Int),())))) fun x70=>
              aJ ((nN x70 (54:Int))) (
               aq (aN.call x24.1) fun x71=>
               aJ ((nN x71 (66:Int))) (
                aJ (x40.2) (
                 aq (dv.call (x40.1,x24.1)) fun x72=>
                 aJ (x72) (
                  aq (dv.call (([(((List.replicate 32 (0:Int)),((3:Int),())),(((0:Int),(([]:List Sg),((0:Int),()))),())),(((List.replicate 32 (0:Int)),((4:Int),())),(((0:Int),(([]:List Sg),((0:Int),()))),()))],([((5:Int),(x18,())),((0:Int),(x19,())),((0:Int),(x20,()))],((300:Int),()))),x24.1)) fun x73=>
                  aJ ((!x73)) (
                   aJ ((!x44)) (
                    aJ (eh (2:Int) (((List.length x48):Nat):Int)) (
                    aq (tid.call ([(((List.replicate 32 (0:Int)),((3:Int),())),(((0:Int),(([]:List Sg),((0:Int),()))),())),(((List.replicate 32 (0:Int)),((4:Int),())),(((0:Int),(([]:List Sg),((0:Int),()))),()))],([((5:Int),(x18,())),((0:Int),(x19,())),((0:Int),(x20,()))],((300:Int),())))) fun x74=>
                    aJ ((Ty.beq kp (nth kp x48 2) (x74,((2:Int),())))) (
                     aJ (eh (1:Int) (((List.length x52):Nat):Int)) (
                     aJ ((Ty.beq kp (nth kp x52 1) ((List.replicate 32 (0:Int)),((4:Int),())))) (
                      aq (tid.call (([]:List ff),(([]:List fM),((0:Int),())))) fun x75=>
                      aJ ((Ty.beq tH x75 (List.replicate 32 (0:Int)))) (
                       aq (ak.call (([]:List ff),(([]:List fM),((0:Int),())))) fun x76=>
                       k (bF.out (!x76))) (
                       k (bF.out false))) (
                      k (bF.out false))) none) (
                     k (bF.out false))) none) (
                    k (bF.out false))) (
                   k (bF.out false))) (
                  k (bF.out false))) (
                 k (bF.out false))) (
                k (bF.out false))) (
               k (bF.out false))) (
              k (bF.out false))) (
             k (bF.out false))) (
            k (bF.out false))) none) (
           k (bF.out false))) (
          k (bF.out false))) (
         k (bF.out false))) (
        k (bF.out false))) none)))) none)):=by kernel_rfl
theorem bF.ok:bF.Ok:=by
 rintro⟨⟩ _
 obtain⟨m,u,s,bs,f1,f2,f3,f4,f5,f6,f7,f8,f9,f10,f11,f12,f13,f14,f15,f16,f17,f18,f19,f20⟩:=sS
 have c1:df.call (1::List.replicate 31 0)=some kK:=by rw[←Eg];exact df.run (d:=1::List.replicate 31 0) (by show(1::List.replicate 31 (0:Int)).length=32;rw[List.length_cons,List.length_replicate])
 have c2:dj.call kK=some pK:=by rw[←zW];exact dj.run (d:=kK) ⟨by decide,by decide⟩
 have c3:de.call pK=some Cn:=de.run (d:=pK) trivial
 rw[bF.eq]
 refine(congrArg (fun z=>aq z _) c1).trans ?_
 rw[ab,c2,ab,c3]
 simp only[ab]
 refine(congrArg (fun z=>aq z _) f2).trans ?_
 rw[ab]
 refine(congrArg (fun z=>aq z _) f3).trans ?_
 rw[ab]
 refine(congrArg (fun z=>aq z _) f4).trans ?_
 rw[ab]
 simp only[f5,f6,ab,f10,f11]
 refine(congrArg (fun z=>aq z _) f7).trans ?_
 rw[ab]
 refine(congrArg (fun z=>aq z _) f8).trans ?_
 rw[ab]
 refine(congrArg (fun z=>aq z _) f9).trans ?_
 rw[ab]
 rw[show ku ((2:Nat):Int) 2=false from rfl,bn (by decide) (by decide),show ku (([s].length:Nat):Int) 1=false from rfl,show ku (([(m,(0:Int),()),(m,1,()),(m,2,())].length:Nat):Int) 3=false from rfl,show ku (([(kU 3).1,(kU 4).1].length:Nat):Int) 2=false from rfl]
 simp only[ay,az,show ku (0:Int) 0=false from rfl]
 refine(congrArg (fun z=>aq z _) f12).trans ?_
 rw[ab,az,dq rfl,az,az,f13,ab]
 refine(congrArg (fun z=>aq z _) f1).trans ?_
 rw[ab,Dn,az]
 refine(congrArg (fun z=>aq z _) f1).trans ?_
 rw[ab,show eh 0 (([s].length:Nat):Int)=true from rfl,az]
 refine(congrArg (fun z=>aq z _) f14).trans ?_
 rw[ab,az,dq rfl,az,dq rfl,az]
 refine(congrArg (fun z=>aq z _) f15).trans ?_
 rw[ab,dq rfl,az,f16,ab,dq rfl,az,f17,ab,az]
 refine(congrArg (fun z=>aq z _) f18).trans ?_
 rw[ab]
 simp only[Bool.not_false,az]
 rw[show eh 2 (([(m,(0:Int),()),(m,1,()),(m,2,())].length:Nat):Int)=true from rfl,az]
 refine(congrArg (fun z=>aq z _) f1).trans ?_
 rw[ab,q9]
 refine(congrArg (fun z=>aJ z _ _) (aO (p:=((m,(2:Int),()):j4)=(m,2,())) rfl)).trans ?_
 rw[az,show eh 1 (([(kU 3).1,(kU 4).1].length:Nat):Int)=true from rfl,az,q9]
 refine(congrArg (fun z=>aJ z _ _) (aO (p:=((List.replicate 32 (0:Int),(4:Int),()):j4)=(List.replicate 32 0,4,())) rfl)).trans ?_
 rw[az]
 refine(congrArg (fun z=>aq z _) f19).trans ?_
 rw[ab,Dn,az]
 refine(congrArg (fun z=>aq z _) f20).trans ?_
 rfl
noncomputable def bF.E:=Entry.ct [] bF.st bF.aB bF.add bF.F bF.out
noncomputable def bF.call:bF.D→Option bF.X:=bG bF.E bF.st
theorem bF.run:bB bF.call bF.aB bF.add bF.F:=cO (cM [] fun _=>by kernel_rfl)
noncomputable def bF.sg:SG Tryz.prog:=⟨21,aU,bF.E,.fn 0 (by kernel_rfl) bF.ok trivial⟩
set_option synthInstance.maxSize 5000
abbrev bZ.D:=eX×Bs
def bZ.st:bZ.D→SA:=fun(t,b)=>([.d gb t,.d tB b],[])
abbrev bZ.Y:=Bool
abbrev bZ.X:=Bool
def bZ.out:bZ.X→aY:=fun x=>⟨.d .bool x,[],[]⟩
def bZ.add:bZ.D→bZ.Y→bZ.X:=fun(t,b) y=>y
def bZ.aB:bZ.D→Prop:=fun(t,b)=>D9 t∧Bytes b
def bZ.F:bZ.D→bZ.Y:=fun _=>true
theorem yD(s:ByteArray):seq s s=true:=by simp[seq]
theorem rS:gW []=AL:=by rfl
theorem zD:nX y3:=⟨⟨Nat.zero_le _,fun x hx=>(by cases hx)⟩,Nat.zero_le _,fun x hx=>(by cases hx)⟩
noncomputable def bZ.G:dR:=eO (P:=Tryz.prog) [bF.sg,aa.sg,aE.sg,al.sg,ak.sg,ai.sg]
noncomputable def bZ.an:eu:= {}
noncomputable def bZ.A:= @cI Tryz.prog bZ.G bZ.an 0 Tryz.f5 _ bZ.st
abbrev bZ.Ok:=cJ @bZ.A bZ.aB bZ.add bZ.F bZ.out
theorem bZ.eq{R:Type}(t:eX)(b:Bs)(k:aY→Option R):bZ.A (t,b) k=
  aq (bF.call ()) fun x4=>
  aq (aa.call t) fun x8=>
  aJ ((!x8)) (
   k (bZ.out x4)) (
   aJ ((mG (((List.length b):Nat):Int) (5000:Int))) (
    k (bZ.out x4)) (
    aq (aE.call t) fun x12=>
    aq (al.call x12) fun x16=>
    aq (ak.call t) fun x23=>
    aJ ((!(Ty.beq .bool x23 (mG (((List.length x12):Nat):Int) (0:Int))))) (
     k (bZ.out false)) (
     aJ ((!(Ty.beq .bool x16.2 (mG (((List.length x12):Nat):Int) (0:Int))))) (
      k (bZ.out false)) (
      aJ (x16.2) (
       aq (ai.call (x16.1,t)) fun x24=>
       aJ ((!x24)) (
        k (bZ.out false)) (
        aq (al.call b) fun x28=>
        aJ (x4) (
         aJ (x28.2) (
          aq (ak.call x28.1) fun x34=>
          aJ (x34) (
           aq (aE.call x28.1) fun x35=>
           aJ ((seq (fV x35) (fV b))) (
            k (bZ.out true)) (
            aJ ((!x28.2)) (
             aq (ai.call (x28.1,(([]:List ff),(([]:List fM),((0:Int),()))))) fun x36=>
             k (bZ.out x36)) (
             k (bZ.out false)))) (
           aJ ((!x28.2)) (
            aq (ai.call (x28.1,(([]:List ff),(([]:List fM),((0:Int),()))))) fun x37=>
            k (bZ.out x37)) (
            k (bZ.out false)))) (
          aJ ((!x28.2)) (
           aq (ai.call (x28.1,(([]:List ff),(([]:List fM),((0:Int),()))))) fun x38=>
           k (bZ.out x38)) (
           k (bZ.out false)))) (
         k (bZ.out false)))) (
       aq (al.call b) fun x42=>
       aJ (x4) (
        aJ (x42.2) (
         aq (ak.call x42.1) fun x48=>
         aJ (x48) (
          aq (aE.call x42.1) fun x49=>
          aJ ((seq (fV x49) (fV b))) (
           k (bZ.out true)) (
           aJ ((!x42.2)) (
            aq (ai.call (x42.1,(([]:List ff),(([]:List fM),((0:Int),()))))) fun x50=>
            k (bZ.out x50)) (
            k (bZ.out false)))) (
          aJ ((!x42.2)) (
           aq (ai.call (x42.1,(([]:List ff),(([]:List fM),((0:Int),()))))) fun x51=>
           k (bZ.out x51)) (
           k (bZ.out false)))) (
         aJ ((!x42.2)) (
          aq (ai.call (x42.1,(([]:List ff),(([]:List fM),((0:Int),()))))) fun x52=>
          k (bZ.out x52)) (
          k (bZ.out false)))) (
        k (bZ.out false))))))):=by kernel_rfl
theorem bZ.ok:bZ.Ok:=by
 intro(t,b) ⟨hg,hb⟩
 rw[bZ.eq,bF.run (d:=()) trivial]
 simp only[ab]
 rw[aa.run (d:=t) trivial]
 simp only[ab,aa.add,aa.F,bF.add,bF.F,bZ.add,bZ.F]
 cases hs:qd t
 ·rfl
 obtain⟨hv,hsh,_⟩:=Ba hg hs
 simp only[Bool.not_true,ay]
 by_cases hl:b.length≤5000
 case neg=>rw[dQ (by omega),az]
 rw[dE (by omega),ay,aE.run (d:=t) hv]
 simp only[ab,aE.add,aE.F]
 have bl:=tE hv
 have c2:al.call (sy t)=some (gW (sy t)):=al.run (d:=sy t) ⟨bl.1,by have:=bl.2;omega⟩
 have c3:ak.call t=some (fH t):=ak.run (d:=t) hv.1
 have c4:al.call b=some (gW b):=al.run (d:=b) ⟨hb,by omega⟩
 have c5:ai.call (t,t)=some true:=by
  rw[ai.run (d:=(t,t)) hsh]
  simp only[ai.add,ai.F,decide_true]
 have e1:Ty.beq .bool (fH t) (mG (((sy t).length:Nat):Int) 0)=true:=by
  cases hok:fH t
  ·rw[xK hok];rfl
  ·rw[dQ (by have:=yF hok;omega)];rfl
 have e2:Ty.beq .bool (gW (sy t)).2 (mG (((sy t).length:Nat):Int) 0)=true:=by
  cases hok:fH t
  ·rw[xK hok,rS];rfl
  ·rw[oB hv hok,dQ (by have:=yF hok;omega)];rfl
 rw[c2,c3]
 simp only[ab,e1,e2,Bool.not_true,ay]
 have c6:ai.call (y3,y3)=some true:=by
  rw[ai.run (d:=(y3,y3)) zD]
  simp only[ai.add,ai.F,decide_true]
 have c7:ai.call ((([]:List ff),(([]:List fM),((0:Int),()))),(([]:List ff),(([]:List fM),((0:Int),()))))=some true:=c6
 have hT:al.call b=some ((([]:List ff),(([]:List fM),((0:Int),()))),false)∨∃u,al.call b=some (u,true)∧ak.call u=some true∧aE.call u=some b:=by
  cases hr:(gW b).2
  ·left
   rw[c4,zz hr]
   rfl
  ·right
   obtain⟨u,e,hok,hu,hbb⟩:=zy hb (by omega) hr
   refine⟨u,by rw[c4,e],?_,?_⟩
   ·rw[ak.run (d:=u) hu.1]
    simp only[ak.add,ak.F,hok]
   ·rw[aE.run (d:=u) hu]
    simp only[aE.add,aE.F,hbb]
 have hU:(gW (sy t)).2=false∨gW (sy t)=(t,true):=by
  cases hok:fH t
  ·left
   rw[xK hok,rS]
   rfl
  ·exact .inr (oB hv hok)
 rcases hU with h1 | h1 <;> rcases hT with h2 | ⟨u,h2,h3,h4⟩
 ·rw[h1,h2]
  simp only[ab,az,ay,c7,Bool.not_false]
 ·rw[h1,h2]
  simp only[ab,az,ay,h3,h4,yD]
 ·rw[h1,h2]
  simp only[ab,az,ay,c5,c7,Bool.not_false,Bool.not_true]
 ·rw[h1,h2]
  simp only[ab,az,ay,c5,h3,h4,yD,Bool.not_true]
noncomputable def bZ.E:=Entry.ct [some gb,some tB] bZ.st bZ.aB bZ.add bZ.F bZ.out
noncomputable def bZ.call:bZ.D→Option bZ.X:=bG bZ.E bZ.st
theorem bZ.run:bB bZ.call bZ.aB bZ.add bZ.F:=cO (cM [.d gb,.d tB] fun _=>by kernel_rfl)
noncomputable def bZ.sg:SG Tryz.prog:=⟨5,aU,bZ.E,.fn 0 (by kernel_rfl) bZ.ok trivial⟩
end Go.Ab
