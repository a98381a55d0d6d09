/-
  Made short by a program of mine (wip/tools/mini.py).
-/
import Derived.Test.YtglpcfdjdabdnaaGreatS11x4
set_option linter.unusedVariables false
set_option linter.unusedSimpArgs false
namespace Go.Ab
open Go.Proofs
set_option maxRecDepth 100000
set_option linter.unusedVariables false
set_option linter.unusedSimpArgs false
set_option synthInstance.maxSize 5000
theorem eU{a b:List Int}(ha:Bytes a)(hb:Bytes b):Bytes (a++b):=fun x hx=>by
 rcases List.mem_append.1 hx with h | h
 ·exact ha x h
 ·exact hb x h
theorem sy:∀(f:Nat) (n:Int),0≤n→n < 128^(f+1)→Bytes (ff f n).1∧um (ff f n).2
 | 0,n,h0,h1=>by have h1:n < 128:=h1;exact⟨fun x hx=>(by cases hx),h0,by show n < 256;omega⟩
 |f+1,n,h0,h1=>by
  have e:(128:Int)^(f+1+1)=128^(f+1)*128:=Int.pow_succ 128 (f+1)
  rw[ff]
  split
  ·have ih:=sy f (n / 128) (by omega) (by omega)
   refine⟨fun x hx=> ?_,ih.2⟩
   rcases List.mem_cons.1 hx with rfl | hx
   ·exact⟨by omega,by omega⟩
   ·exact ih.1 x hx
  ·exact⟨fun x hx=>(by cases hx),h0,by show n < 256;omega⟩
theorem gp{n:Int}(h:mZ n):Bytes (fu n):=by
 have e10:(128:Int)^(10+1)=151115727451828646838272:=rfl
 obtain⟨h0,h1⟩:=h
 have:=sy 10 n h0 (by rw[e10];omega)
 unfold fu
 exact eU this.1 fun x hx=>by rw[List.mem_singleton]at hx;subst hx;exact this.2
theorem wg:∀(ks:List Int) (o:List Int),jE o ks=o++ks.flatMap fR
 |[],o=>by rw[List.flatMap_nil,List.append_nil];rfl
 |k::ks,o=>by
  show jE (o++fR k) ks=_
  rw[wg ks,List.flatMap_cons,List.append_assoc]
theorem xV(ks:List Int):Bytes (ks.flatMap fR):=fun x hx=>by
 obtain⟨k,_,hk⟩:=List.mem_flatMap.1 hx
 exact lX k x hk
def BX(b:gm):List Int:=fu b.1.length++(b.1.flatMap fR++(fu b.2.1++(fu b.2.2.1++fR b.2.2.2.1)))
theorem rv(o:List Int){n:Int}(h:0≤n):ek o n=o++fu n:=by rw[ek,if_neg (by omega)]
structure CZ(b:gm):Prop where
 len:b.1.length≤12
 af:mZ b.2.1
 dl:mZ b.2.2.1
theorem Da{b:gm}(h:oE b=true):CZ b:=by
 unfold oE v9 at h
 simp only[Bool.and_eq_true,decide_eq_true_eq]at h
 obtain⟨h1,_,h2,h3,_⟩:=h
 exact⟨h1,⟨h2.1,by omega⟩,⟨h3.1,by omega⟩⟩
theorem ju{n:Nat}(h:n≤1000000000):mZ (n:Int):=⟨by omega,by omega⟩
theorem C8(o:List Int){b:gm}(h:CZ b):BW o b=o++BX b:=by
 unfold BW BX
 rw[rv _ (Int.natCast_nonneg _),wg,rv _ h.af.1,rv _ h.dl.1]
 simp only[List.append_assoc]
theorem yK:∀(bs:List gm) (o:List Int),(∀b∈bs,CZ b)→bs.foldl BW o=o++bs.flatMap BX
 |[],o,_=>by rw[List.flatMap_nil,List.append_nil];rfl
 |b::bs,o,h=>by
  rw[List.foldl_cons,C8 o (h b List.mem_cons_self),yK bs _ fun x hx=>h x (List.mem_cons_of_mem _ hx),List.flatMap_cons,List.append_assoc]
theorem xX{l:Lk}(h:iZ l=true):(∀b∈l.1,CZ b)∧0 < l.1.length∧l.1.length≤4:=by
 unfold iZ at h
 simp only[Bool.and_eq_true,List.all_eq_true,decide_eq_true_eq]at h
 exact⟨fun b hb=>Da (h.1 b hb),h.2⟩
theorem Be{l:Lk}(h:iZ l=true):px l=fu l.1.length++l.1.flatMap BX:=by
 unfold px
 rw[if_pos h,yK _ _ (xX h).1,rv _ (Int.natCast_nonneg _),List.nil_append]
theorem zA{b:gm}(h:CZ b):Bytes (BX b):=
 have h12:=h.len
 eU (gp (ju (by omega))) (eU (xV _) (eU (gp h.af) (eU (gp h.dl) (lX _))))
theorem zT(l:Lk):Bytes (px l):=by
 cases h:iZ l
 ·unfold px
  rw[h,if_neg (by decide)]
  exact fun x hx=>(by cases hx)
 ·have hk:=xX h
  rw[Be h]
  refine eU (gp (ju (by omega))) fun x hx=> ?_
  obtain⟨b,hb,hx⟩:=List.mem_flatMap.1 hx
  exact zA (hk.1 b hb) x hx
theorem yi{b:List Int}(h:Bytes b)(hl:b.length≤1000000000)(u:Bool×Unit):iD (b,u):=⟨hl,h⟩
set_option synthInstance.maxSize 5000
def jf:Nat→eT→List Int×eT
 | 0,r=>([],r)
 |k+1,r=>((iL r).1::(jf k (iL r).2).1,(jf k (iL r).2).2)
def lV(k:Nat)(r:eT):gm×eT:=
 (((jf k r).1,(di (jf k r).2).1,(di (di (jf k r).2).2).1,(iL (di (di (jf k r).2).2).2).1,()),(iL (di (di (jf k r).2).2).2).2)
def lW:Nat→Int→eT→List gm
 | 0,_,_=> []
 |f+1,n,r=>if 0 < n then(if f=0∨12 < (di r).1 then [] else(lV (di r).1.toNat (di r).2).1::lW f (n - 1) (lV (di r).1.toNat (di r).2).2) else []
def ji(b:List Int):List gm:=lW 5 (di (b,false,())).1 (di (b,false,())).2
theorem uS:∀(k:Nat) (r:eT),iD r→nc (jf k r).1∧(jf k r).1.length=k∧iD (jf k r).2
 | 0,r,h=>⟨fun x hx=>(by cases hx),rfl,h⟩
 |k+1,r,h=>by
  have e:=qB h
  have ih:=uS k _ e.2
  refine⟨fun x hx=> ?_,by rw[jf,List.length_cons,ih.2.1],ih.2.2⟩
  rcases List.mem_cons.1 hx with rfl | hx
  ·exact e.1
  ·exact ih.1 x hx
theorem yH(k:Nat)(r:eT)(h:iD r):CG (lV k r).1∧(lV k r).1.1.length=k∧iD (lV k r).2:=by
 have h1:=uS k r h
 have h2:=iq h1.2.2
 have h3:=iq h2.2.2
 have h4:=qB h3.2.2
 exact⟨⟨h1.1,h4.1⟩,h1.2.1,h4.2⟩
theorem AK:∀(f:Nat) (n:Int) (r:eT),iD r→(∀b∈lW f n r,CG b)∧(lW f n r).length≤f
 | 0,n,r,h=>⟨fun x hx=>(by cases hx),Nat.le_refl _⟩
 |f+1,n,r,h=>by
  have h1:=iq h
  have h2:=yH (di r).1.toNat _ h1.2.2
  have ih:=AK f (n - 1) _ h2.2.2
  rw[lW]
  split
  ·split
   ·exact⟨fun x hx=>(by cases hx),Nat.zero_le _⟩
   ·refine⟨fun x hx=> ?_,by rw[List.length_cons];omega⟩
    rcases List.mem_cons.1 hx with rfl | hx
    ·exact h2.1
    ·exact ih.1 x hx
  ·exact⟨fun x hx=>(by cases hx),Nat.zero_le _⟩
theorem ze{b:List Int}(h:Bytes b)(hl:b.length≤1000000000):yB (ji b,())∧(ji b).length≤5:=by
 have e:=AK 5 (di (b,false,())).1 _ (iq (yi h hl (false,()))).2.2
 exact⟨e.1,e.2⟩
theorem tM:∀(ks:List Int) (rest:List Int),nc ks→jf ks.length (ks.flatMap fR++rest,false,())=(ks,(rest,false,()))
 |[],rest,_=>rfl
 |k::ks,rest,h=>by
  have e:iL ((k::ks).flatMap fR++rest,false,())=(k,(ks.flatMap fR++rest,false,())):=by
   rw[List.flatMap_cons,List.append_assoc]
   exact nS k (h k List.mem_cons_self) _
  have ih:=tM ks rest fun x hx=>h x (List.mem_cons_of_mem _ hx)
  rw[List.length_cons,jf,e,ih]
theorem zw(b:gm)(hb:CG b)(hk:CZ b)(rest:List Int):lV b.1.length (b.1.flatMap fR++(fu b.2.1++(fu b.2.2.1++(fR b.2.2.2.1++rest))),false,())=(b,(rest,false,())):=by
 unfold lV
 rw[tM _ _ hb.1]
 simp only[]
 rw[nI _ hk.af,nI _ hk.dl,nS _ hb.2]
theorem AJ(b:gm)(rest:List Int):BX b++rest=fu b.1.length++(b.1.flatMap fR++(fu b.2.1++(fu b.2.2.1++(fR b.2.2.2.1++rest)))):=by
 unfold BX
 simp only[List.append_assoc]
theorem vM:∀(bs:List gm) (f:Nat) (rest:List Int),(∀b∈bs,CG b)→(∀b∈bs,CZ b)→bs.length+1≤f→lW f bs.length (bs.flatMap BX++rest,false,())=bs
 |[],0,rest,_,_,h=>absurd h (by simp)
 |[],f+1,rest,_,_,_=>by
  rw[lW,if_neg (by show ¬(0:Int) < ((0:Nat):Int);omega)]
 |b::bs,0,rest,_,_,h=>absurd h (by simp)
 |b::bs,f+1,rest,hu,hk,h=>by
  have ub:=hu b List.mem_cons_self
  have kb:=hk b List.mem_cons_self
  have h:bs.length+1+1≤f+1:=h
  have e:(b::bs).flatMap BX++rest=fu b.1.length++(b.1.flatMap fR++(fu b.2.1++(fu b.2.2.1++(fR b.2.2.2.1++(bs.flatMap BX++rest))))):=by rw[List.flatMap_cons,List.append_assoc,AJ]
  have h12:=kb.len
  rw[lW,if_pos (by rw[List.length_cons];omega),e,nI _ (ju (by omega))]
  simp only[Int.toNat_natCast]
  rw[if_neg (by omega),zw b ub kb]
  simp only[]
  rw[show((b::bs).length:Int) - 1=(bs.length:Int) by rw[List.length_cons];omega,vM bs f rest (fun x hx=>hu x (List.mem_cons_of_mem _ hx)) (fun x hx=>hk x (List.mem_cons_of_mem _ hx)) (by omega)]
theorem Ac{l:Lk}(hu:yB l)(hok:iZ l=true)(rest:List Int):ji (px l++rest)=l.1:=by
 have hk:=xX hok
 unfold ji
 rw[Be hok,List.append_assoc,nI _ (ju (by omega))]
 exact vM l.1 5 rest hu hk.1 (by omega)
def mT(b:List Int):Lk×Bool:=if iZ (ji b,())=true∧px (ji b,())=b then((ji b,()),true) else(([],()),false)
theorem tT{l:Lk}(hu:yB l)(hok:iZ l=true):mT (px l)=(l,true):=by
 have e:ji (px l)=l.1:=by have e:=Ac hu hok [];rw[List.append_nil]at e;exact e
 unfold mT
 rw[e]
 have e2:((l.1,()):Lk)=l:=rfl
 rw[e2,if_pos ⟨hok,rfl⟩]
theorem BA{b:List Int}(h:(mT b).2=true):∃l:Lk,iZ l=true∧px l=b∧mT b=(l,true)∧l=(ji b,()):=by
 unfold mT at h ⊢
 split at h
 ·rename_i hc
  exact⟨(ji b,()),hc.1,hc.2,by rw[if_pos hc],rfl⟩
 ·cases h
set_option synthInstance.maxSize 5000
abbrev aT.L0.D:=Bs×Int×Int×Nat×eT×(List gm)
def aT.L0.st:aT.L0.D→AS:=fun(b_2,n,i,n5L,n11,n51)=>⟨([.d tB b_2,.undef,.ptr (.new 2 0) 0 [] 0,.undef,.ptr (.new 11 0) 0 [] 0,.ptr (.new 5 0) 0 [] 0,.d ti n,.d ti i]++ba 57 []),[],([[],[],[.obj 0 false (.pr (.da) (.d .unit ()))],[],[],[.obj 0 false (.pr (.bU (.new 51 0) 0 [] 0 0 n5L) (.d .unit ()))]]++bK 5 ([[.obj 0 false (.d jm n11)]]++bK 39 ([[.obj 0 false (.vec 85 fo n51)]]++bK 13 [])))⟩
abbrev aT.L0.Y0:=Bs×Nat×(List gm)
abbrev aT.L0.X0:=Bs×Nat×(List gm)
def aT.L0.bw:aT.L0.X0→Exit×AS:=fun x=>(.exit 0,⟨([.d tB x.1,.undef,.ptr (.new 2 0) 0 [] 0,.undef,.undef,.ptr (.new 5 0) 0 [] 0]++ba 59 []),[],([[],[],[.obj 0 false (.pr (.da) (.d .unit ()))],[],[],[.obj 0 false (.pr (.bU (.new 51 0) 0 [] 0 0 x.2.1) (.d .unit ()))]]++bK 45 ([[.obj 0 false (.vec 85 fo x.2.2)]]++bK 13 []))⟩)
abbrev aT.L0.X:=aT.L0.X0
abbrev aT.L0.Y:=aT.L0.Y0
def aT.L0.out:aT.L0.X→Out (Exit×AS):=fun x=> .ok (aT.L0.bw x)
def aT.L0.add:aT.L0.D→aT.L0.Y→aT.L0.X:=fun(b_2,n,i,n5L,n11,n51) y=>y
abbrev aT.L1.D:=Bs×Int×Int×Int×Int×Nat×Nat×(Int×(Int×(Int×Unit)))×eT×(List Int)×(List gm)
def aT.L1.st:aT.L1.D→AS:=fun(b_3,n_2,i_2,t27,t28,n5L_2,n8L,n8,n11_2,n35,n51_2)=>⟨([.d tB b_3,.undef,.ptr (.new 2 0) 0 [] 0,.undef,.ptr (.new 11 0) 0 [] 0,.ptr (.new 5 0) 0 [] 0,.d ti n_2,.d ti i_2,.ptr (.new 8 0) 0 [] 0]++ba 18 ([.d ti t27,.d ti t28]++ba 36 [])),[],([[],[],[.obj 0 false (.pr (.da) (.d .unit ()))],[],[],[.obj 0 false (.pr (.bU (.new 51 0) 0 [] 0 0 n5L_2) (.d .unit ()))],[],[],[.obj 0 false (.pr (.bU (.new 35 0) 0 [] 0 0 n8L) (.d (.pair ti (.pair ti (.pair tu .unit))) n8))],[],[],[.obj 0 false (.d jm n11_2)]]++bK 23 ([[.obj 0 false (.vec 58 tu n35)]]++bK 15 ([[.obj 0 false (.vec 85 fo n51_2)]]++bK 13 [])))⟩
abbrev aT.L1.Y0:=Nat×eT×(List Int)
abbrev aT.L1.X0:=(Bs×Int×Int×Nat×(Int×(Int×(Int×Unit)))×(List gm))×(Nat×eT×(List Int))
def aT.L1.bw:aT.L1.X0→Exit×AS:=fun x=>(.exit 2,⟨([.d tB x.1.1,.undef,.ptr (.new 2 0) 0 [] 0,.undef,.ptr (.new 11 0) 0 [] 0,.ptr (.new 5 0) 0 [] 0,.d ti x.1.2.1,.d ti x.1.2.2.1,.ptr (.new 8 0) 0 [] 0]++ba 56 []),[],([[],[],[.obj 0 false (.pr (.da) (.d .unit ()))],[],[],[.obj 0 false (.pr (.bU (.new 51 0) 0 [] 0 0 x.1.2.2.2.1) (.d .unit ()))],[],[],[.obj 0 false (.pr (.bU (.new 35 0) 0 [] 0 0 x.2.1) (.d (.pair ti (.pair ti (.pair tu .unit))) x.1.2.2.2.2.1))],[],[],[.obj 0 false (.d jm x.2.2.1)]]++bK 23 ([[.obj 0 false (.vec 58 tu x.2.2.2)]]++bK 15 ([[.obj 0 false (.vec 85 fo x.1.2.2.2.2.2)]]++bK 13 [])))⟩)
abbrev aT.L1.X:=aT.L1.X0
abbrev aT.L1.Y:=aT.L1.Y0
def aT.L1.out:aT.L1.X→Out (Exit×AS):=fun x=> .ok (aT.L1.bw x)
def aT.L1.add:aT.L1.D→aT.L1.Y→aT.L1.X:=fun(b_3,n_2,i_2,t27,t28,n5L_2,n8L,n8,n11_2,n35,n51_2) y=>((b_3,n_2,i_2,n5L_2,n8,n51_2),y)
abbrev aT.D:=Bs
def aT.st:aT.D→SA:=fun b=>([.d tB b],[])
abbrev aT.Y:=Lk×Bool
abbrev aT.X:=Lk×Bool
def aT.out:aT.X→aZ:=fun x=>⟨.cons (.d kq x.1) (.cons (.d .bool x.2) (.nil)),[],[]⟩
def aT.add:aT.D→aT.Y→aT.X:=fun b y=>y
def aT.L1.aD:aT.L1.D→Prop:=fun(b,n,i,t,j,m1,m2,x,r,ks,bs)=>iD r∧ks.length=m2∧m2≤1000∧∃k c:Nat,j=k∧t=c∧k≤c∧c≤12∧m2=k
def aT.L1.F:aT.L1.D→aT.L1.Y:=fun(b,n,i,t,j,m1,m2,x,r,ks,bs)=>(m2+(t - j).toNat,(jf (t - j).toNat r).2,ks++(jf (t - j).toNat r).1)
def aT.L0.aD:aT.L0.D→Prop:=fun(b,n,i,m,r,bs)=>iD r∧n≤9223372036854775807∧bs.length=m∧∃k:Nat,i=k∧k≤4∧m=k
def aT.L0.F:aT.L0.D→aT.L0.Y:=fun(b,n,i,m,r,bs)=>(b,m+(lW (5 - i.toNat) (n - i) r).length,bs++lW (5 - i.toNat) (n - i) r)
def aT.aD:aT.D→Prop:=fun b=>Bytes b∧b.length≤1000000000
def aT.F:aT.D→aT.Y:=fun b=>mT b
noncomputable def aT.G:dV:=eY (P:=Tryz.prog) [dN.sg,bI.sg,cq.sg,aQ.sg,aH.sg,bX.sg]
noncomputable def aT.L0.E:=bP.cv aT.L0.st aT.L0.aD aT.L0.add aT.L0.F aT.L0.out
noncomputable def aT.L0.call:aT.L0.D→Option aT.L0.X:=dk aT.L0.E aT.L0.st
noncomputable def aT.L1.E:=bP.cv aT.L1.st aT.L1.aD aT.L1.add aT.L1.F aT.L1.out
noncomputable def aT.L1.call:aT.L1.D→Option aT.L1.X:=dk aT.L1.E aT.L1.st
noncomputable def aT.an:eJ:= {loops:=jJ [(5,{bn:=[0,2,4,5,6,7],sites:=[2,5,11,51],iH:=[⟨5,[.fst],51,22⟩]}),(11,{bn:=[0,2,4,5,6,7,8,27,28],sites:=[2,5,8,11,35,51],iH:=[⟨8,[.fst],35,83⟩]})],outs:=jI [(5,{bn:=[0,2,5],sites:=[2,5,51]},{bn:=[2,3]}),(11,{bn:=[0,2,4,5,6,7,8],sites:=[2,5,8,11,35,51]},{bn:=[2,3]})],fJ:=kz [(5,aT.L0.E),(11,aT.L1.E)],res:=[some kq,none]}
noncomputable def aT.A:= @cK Tryz.prog aT.G aT.an 0 Tryz.f11 _ aT.st
abbrev aT.Ok:=cM @aT.A aT.aD aT.add aT.F aT.out
noncomputable def aT.L0.R:= @bV Tryz.prog aT.G aT.an 0 Tryz.f11 0 _ aT.L0.st
abbrev aT.L0.Ok:=eA Tryz.prog aT.G aT.an 0 Tryz.f11 0 aT.L0.st aT.L0.aD aT.L0.add aT.L0.F aT.L0.out
noncomputable def aT.L1.R:= @bV Tryz.prog aT.G aT.an 0 Tryz.f11 1 _ aT.L1.st
abbrev aT.L1.Ok:=eA Tryz.prog aT.G aT.an 0 Tryz.f11 1 aT.L1.st aT.L1.aD aT.L1.add aT.L1.F aT.L1.out
theorem aT.L0.run:bE aT.L0.call aT.L0.aD aT.L0.add aT.L0.F:=eK (eI [.d tB,.d ti,.d ti,.n,.d jm,.d (.slice fo)] fun _=>by kernel_rfl)
theorem aT.L0.aG:fX @aT.L0.R aT.L0.st aT.L0.aD aT.L0.add aT.L0.F aT.L0.bw aT.L0.Ok:=gf
theorem aT.L0.step{R:Type}(b_2:Bs)(n:Int)(i:Int)(n5L:Nat)(n11:eT)(n51:(List gm))(kn:AS→Option R)(kx:Exit→AS→Option R):aT.L0.R (b_2,n,i,n5L,n11,n51) kn kx=
  aF ((gb i n)) (
   ae (bI.call n11) fun x22=>
   aF ((kR i (4:Int))) (
    kx (aT.L0.bw (b_2,n5L,n51)).1 (aT.L0.bw (b_2,n5L,n51)).2) (
    aF ((mv x22.1 (12:Int))) (
     kx (aT.L0.bw (b_2,n5L,n51)).1 (aT.L0.bw (b_2,n5L,n51)).2) (
     ae (aT.L1.call (b_2,n,i,x22.1,(0:Int),n5L,0,((0:Int),((0:Int),((0:Int),()))),x22.2,([]:List Int),n51)) fun x24=>
     ae (bI.call x24.2.2.1) fun x31=>
     ae (bI.call x31.2) fun x32=>
     ae (cq.call x32.2) fun x36=>
     aF (decide (0=0∧(0+x24.2.1)≤(List.length x24.2.2.2))) (
     aF (decide (x24.1.2.2.2.1≤(List.length x24.1.2.2.2.2.2))) (
     aF (du (x24.1.2.2.2.1+1) 48) (
     kn (aT.L0.st (x24.1.1,x24.1.2.1,(bO .i64 x24.1.2.2.1 (1:Int)),(x24.1.2.2.2.1+1),x36.2,((List.take x24.1.2.2.2.1 x24.1.2.2.2.2.2)++ [((cut x24.2.2.2 0 x24.2.1),(x31.1,(x32.1,(x36.1,x24.1.2.2.2.2.1.2.2.2))))])))) none) none) none))) (
   kx (aT.L0.bw (b_2,n5L,n51)).1 (aT.L0.bw (b_2,n5L,n51)).2):=by kernel_rfl
theorem aT.L1.run:bE aT.L1.call aT.L1.aD aT.L1.add aT.L1.F:=eK (eI [.d tB,.d ti,.d ti,.d ti,.d ti,.n,.n,.d (.pair ti (.pair ti (.pair tu .unit))),.d jm,.d tU,.d (.slice fo)] fun _=>by kernel_rfl)
theorem aT.L1.aG:fX @aT.L1.R aT.L1.st aT.L1.aD aT.L1.add aT.L1.F aT.L1.bw aT.L1.Ok:=gf
theorem aT.L1.step{R:Type}(b_3:Bs)(n_2:Int)(i_2:Int)(t27:Int)(t28:Int)(n5L_2:Nat)(n8L:Nat)(n8:(Int×(Int×(Int×Unit))))(n11_2:eT)(n35:(List Int))(n51_2:(List gm))(kn:AS→Option R)(kx:Exit→AS→Option R):aT.L1.R (b_3,n_2,i_2,t27,t28,n5L_2,n8L,n8,n11_2,n35,n51_2) kn kx=
  aF ((gb t28 t27)) (
   ae (cq.call n11_2) fun x4=>
   aF (decide (n8L≤(List.length n35))) (
   aF (du (n8L+1) 8) (
   kn (aT.L1.st (b_3,n_2,i_2,t27,(bO .i64 t28 (1:Int)),n5L_2,(n8L+1),n8,x4.2,((List.take n8L n35)++ [x4.1]),n51_2))) none) none) (
   kx (aT.L1.bw ((b_3,n_2,i_2,n5L_2,n8,n51_2),(n8L,n11_2,n35))).1 (aT.L1.bw ((b_3,n_2,i_2,n5L_2,n8,n51_2),(n8L,n11_2,n35))).2):=by kernel_rfl
theorem aT.eq{R:Type}(b:Bs)(k:aZ→Option R):aT.A b k=
  ae (dN.call b) fun x4=>
  ae (bI.call x4) fun x6=>
  ae (aT.L0.call (b,x6.1,(0:Int),0,x6.2,([]:List gm))) fun x96=>
  aF (decide (0=0∧(0+x96.2.1)≤(List.length x96.2.2))) (
  ae (aQ.call ((cut x96.2.2 0 x96.2.1),())) fun x106=>
  aF ((!x106)) (
   k (aT.out ((([]:List gm),()),false))) (
   aF (decide (0=0∧(0+x96.2.1)≤(List.length x96.2.2))) (
   ae (aH.call ((cut x96.2.2 0 x96.2.1),())) fun x107=>
   ae (bX.call (x107,x96.1)) fun x108=>
   aF ((!x108)) (
    k (aT.out ((([]:List gm),()),false))) (
    aF (decide (0=0∧(0+x96.2.1)≤(List.length x96.2.2))) (
    k (aT.out (((cut x96.2.2 0 x96.2.1),()),true))) none)) none)) none:=by kernel_rfl
theorem aT.L1.ok:aT.L1.Ok:=by
 refine aT.L1.aG (fun(b,n,i,t,j,m1,m2,x,r,ks,bs)=>(t - j).toNat) ?_
 rintro⟨b,n,i,t,j,m1,m2,x,r,ks,bs⟩ ⟨hr,hks,hm,k,c,rfl,rfl,hkc,hc,hmk⟩
 have hr:iD r:=hr
 have hks:ks.length=m2:=hks
 have hmk:m2=k:=hmk
 by_cases h:k < c
 ·left
  have e1:((c:Int) - (k:Int)).toNat=(c - (k+1))+1:=by omega
  have e2:((c:Int) - ((k+1:Nat):Int)).toNat=c - (k+1):=by omega
  refine⟨(b,n,i,(c:Int),((k+1:Nat):Int),m1,m2+1,x,(iL r).2,ks++ [(iL r).1],bs),⟨(qB hr).2,by rw[List.length_append];show ks.length+1=_;omega,by omega,k+1,c,rfl,rfl,by omega,hc,by omega⟩,by show((c:Int) - ((k+1:Nat):Int)).toNat < ((c:Int) - (k:Int)).toNat;omega,?_,fun kn kx=> ?_⟩
  ·simp only[aT.L1.add,aT.L1.F,e1,e2,jf,List.append_assoc,List.singleton_append]
   rw[show m2+1+(c - (k+1))=m2+(c - (k+1)+1) by omega]
  ·rw[aT.L1.step,bA (by omega),cq.run (d:=r) hr]
   simp only[aa,ay,cq.add,cq.F]
   rw[aR (by omega),eN (by omega) (by omega),N.kr (by omega),List.take_of_length_le (by omega)]
   rfl
 ·right
  obtain rfl:k=c:=by omega
  intro R kn kx
  rw[aT.L1.step,bm (by omega),ao]
  simp only[aT.L1.add,aT.L1.F,Int.sub_self,Int.toNat_zero,jf,List.append_nil,Nat.add_zero]
theorem aT.L0.ok:aT.L0.Ok:=by
 refine aT.L0.aG (fun(b,n,i,m,r,bs)=>5 - i.toNat) ?_
 rintro⟨b,n,i,m,r,bs⟩ ⟨hr,hn,hbs,k,rfl,hk,hmk⟩
 have hr:iD r:=hr
 have hn:n≤9223372036854775807:=hn
 have hbs:bs.length=m:=hbs
 have hmk:m=k:=hmk
 have e0:5 - (k:Int).toNat=(4 - k)+1:=by rw[Int.toNat_natCast];omega
 have g1:=iq hr
 by_cases h:(k:Int) < n
 ·have hp:0 < n - (k:Int):=by omega
  by_cases hc:4 - k=0∨12 < (di r).1
  ·right
   intro R kn kx
   have eb:lW ((4 - k)+1) (n - (k:Int)) r=[]:=by rw[lW,if_pos hp,if_pos hc]
   rw[aT.L0.step,bA h,bI.run (d:=r) hr]
   simp only[aa,ay,bI.add,bI.F,aT.L0.add,aT.L0.F,e0,eb,List.length_nil,Nat.add_zero,List.append_nil]
   by_cases h4:(k:Int)=4
   ·rw[dq h4,ay]
   ·rw[eC h4,ao,dG (by omega),ay]
  ·left
   have h4:¬(k:Int)=4:=by omega
   have hkn:¬(di r).1 > 12:=by omega
   obtain⟨c,hcn⟩:∃c:Nat,(di r).1=c:=⟨(di r).1.toNat,by omega⟩
   have hbd:=yH c _ g1.2.2
   have gk:=uS c _ g1.2.2
   have ga:=iq gk.2.2
   have gd:=iq ga.2.2
   have eb:lW ((4 - k)+1) (n - (k:Int)) r=(lV c (di r).2).1::lW (4 - k) (n - (k:Int) - 1) (lV c (di r).2).2:=by
    rw[lW,if_pos hp,if_neg hc,hcn,Int.toNat_natCast]
   have e1:5 - ((k+1:Nat):Int).toNat=4 - k:=by rw[Int.toNat_natCast];omega
   refine⟨(b,n,((k+1:Nat):Int),m+1,(lV c (di r).2).2,bs++ [(lV c (di r).2).1]),⟨hbd.2.2,hn,by rw[List.length_append];show bs.length+1=_;omega,k+1,rfl,by omega,by omega⟩,by simp only[Int.toNat_natCast];omega,?_,fun kn kx=> ?_⟩
   ·simp only[aT.L0.add,aT.L0.F,e0,e1,eb,List.append_assoc,List.singleton_append,List.length_cons]
    rw[show n - ((k+1:Nat):Int)=n - (k:Int) - 1 by omega,show m+1+(lW (4 - k) (n - (k:Int) - 1) (lV c (di r).2).2).length=m+((lW (4 - k) (n - (k:Int) - 1) (lV c (di r).2).2).length+1) by omega]
   ·rw[aT.L0.step,bA h,bI.run (d:=r) hr]
    simp only[aa,ay,bI.add,bI.F]
    rw[eC h4,ao,dx hkn,ao,hcn,aT.L1.run (d:=(b,n,(k:Int),(c:Int),0,m,0,(0,0,0,()),(di r).2,[],bs)) ⟨g1.2.2,rfl,by decide,0,c,rfl,rfl,Nat.zero_le _,by omega,rfl⟩]
    simp only[aa,aT.L1.add,aT.L1.F,Int.sub_zero,Int.toNat_natCast,Nat.zero_add,List.nil_append]
    rw[bI.run (d:=(jf c (di r).2).2) gk.2.2]
    simp only[aa,bI.add,bI.F]
    rw[bI.run (d:=(di (jf c (di r).2).2).2) ga.2.2]
    simp only[aa,bI.add,bI.F]
    rw[cq.run (d:=(di (di (jf c (di r).2).2).2).2) gd.2.2]
    simp only[aa,cq.add,cq.F]
    rw[aR ⟨by trivial,by rw[gk.2.1];exact Nat.le_refl _⟩,aR (by omega),eN (by omega) (by omega),N.kr (by omega),List.take_of_length_le (by omega),eV gk.2.1]
    rfl
 ·right
  intro R kn kx
  have eb:lW ((4 - k)+1) (n - (k:Int)) r=[]:=by rw[lW,if_neg (by omega)]
  rw[aT.L0.step,bm h,ao]
  simp only[aT.L0.add,aT.L0.F,e0,eb,List.length_nil,Nat.add_zero,List.append_nil]
theorem aT.ok:aT.Ok:=by
 rintro b ⟨hb,hl⟩
 have hb:Bytes b:=hb
 have hl:b.length≤1000000000:=hl
 have g0:=yi hb hl (false,())
 have g1:=iq g0
 have gu:=ze hb hl
 rw[aT.eq,dN.run (d:=b) hl]
 simp only[aa,dN.add,dN.F]
 rw[bI.run (d:=(b,false,())) g0]
 simp only[aa,bI.add,bI.F]
 rw[aT.L0.run (d:=(b,(di (b,false,())).1,0,0,(di (b,false,())).2,[])) ⟨g1.2.2,g1.2.1,rfl,0,rfl,by decide,rfl⟩]
 simp only[aa,aT.L0.add,aT.L0.F,Int.toNat_zero,Nat.sub_zero,Int.sub_zero,Nat.zero_add,List.nil_append,Nat.le_refl,and_self,decide_true,ay,eV]
 rw[show lW 5 (di (b,false,())).1 (di (b,false,())).2=ji b from rfl]
 have hL1:((ji b,()):Lk).1.length≤1000000000:=by show(ji b).length≤_;omega
 rw[aQ.run (d:=(ji b,())) ⟨gu.1,hL1⟩]
 simp only[aa,aQ.add,aQ.F,aT.add,aT.F,mT]
 cases hok:iZ (ji b,())
 ·rw[if_neg (by rintro⟨x,_⟩;cases x)];rfl
 ·rw[aH.run (d:=(ji b,())) ⟨gu.1,hL1⟩]
  simp only[Bool.not_true,ao,aa,aH.add,aH.F]
  rw[bX.run (d:=(px (ji b,()),b)) (by show(px _).length≤_;have:=oc (ji b,());omega)]
  simp only[aa,bX.add,bX.F]
  by_cases hx:px (ji b,())=b
  ·rw[aR hx,if_pos ⟨by trivial,hx⟩];rfl
  ·rw[aO hx,if_neg (fun y=>hx y.2)];rfl
noncomputable def aT.E:=Entry.cv [some tB] aT.st aT.aD aT.add aT.F aT.out
noncomputable def aT.call:aT.D→Option aT.X:=bJ aT.E aT.st
theorem aT.run:bE aT.call aT.aD aT.add aT.F:=cQ (cP [.d tB] fun _=>by kernel_rfl)
noncomputable def aT.sg:SG Tryz.prog:=⟨11,aW,aT.E,.fn 2 (by kernel_rfl) aT.ok (And.intro (.cv aT.L0.ok (by kernel_rfl)) (And.intro (.cv aT.L1.ok (by kernel_rfl)) trivial))⟩
set_option synthInstance.maxSize 5000
def nB(r:eT):List Int×eT:=((gF 32 r).1++List.drop (gF 32 r).1.length (List.replicate 32 (0:Int)),(gF 32 r).2)
def m0(r:eT):List Int×eT:=if(di r).2.2.1=true then([],(di r).2) else gF (di r).1.toNat (di r).2
def lj(most:Int)(r:eT):Int×eT:=(if(di r).1 > most then -1 else(di r).1,(di r).2)
def CV(r:eT):jB×eT:=(((nB r).1,(di (nB r).2).1,()),(di (nB r).2).2)
def ma:Nat→eT→List jB×eT
 | 0,r=>([],r)
 |k+1,r=>((CV r).1::(ma k (CV r).2).1,(ma k (CV r).2).2)
def se(r:eT):fL×eT:=(((di r).1,(mT (m0 (di r).2).1).1,()),(m0 (di r).2).2)
def mS:Nat→eT→Option (List fL×eT)
 | 0,r=>some ([],r)
 |k+1,r=>if(mT (m0 (di r).2).1).2=true then(match mS k (se r).2 with
  |some x=>some ((se r).1::x.1,x.2)
  |none=>none) else none
def CY(r:eT):Sg×eT:=(((iL r).1,(iL (iL r).2).1,()),(iL (iL r).2).2)
def mI:Nat→eT→List Sg×eT
 | 0,r=>([],r)
 |k+1,r=>((CY r).1::(mI k (CY r).2).1,(mI k (CY r).2).2)
def jT(r:eT):List Sg×eT:=mI (lj 12 (di r).2).1.toNat (lj 12 (di r).2).2
def yz(r:eT):Option (j6×eT):=if(lj 12 (di r).2).1 < 0 then none else some (((di r).1,(jT r).1,(iL (jT r).2).1,()),(iL (jT r).2).2)
def mX:List jB→eT→Option (List eR×eT)
 |[],r=>some ([],r)
 |o::l,r=>match yz r with
  |none=>none
  |some w=>match mX l w.2 with
   |none=>none
   |some x=>some ((o,w.1,())::x.1,x.2)
def Bm:eD×Bool:=(([],[],0,()),false)
def vT(n m:Int)(t:eD)(r:eT):eD×Bool:=if n < 0∨m < 0∨r.2.1=true∨0 < r.1.length∨fg t=false then Bm else(t,true)
def wA(n m:Int)(ops:List jB)(os:List fL)(r:eT):eD×Bool:=match mX ops (di r).2 with
 |none=>Bm
 |some x=>vT n m (x.1,os,(di r).1,()) x.2
def ig(b:List Int):eD×Bool:=
 let n:=lj 64 (b,false,())
 let ops:=ma n.1.toNat n.2
 let m:=lj 64 ops.2
 match mS m.1.toNat m.2 with
 |none=>Bm
 |some x=>wA n.1 m.1 ops.1 x.1 x.2
def xu(o:jB):List Int:=o.1++fu o.2.1
def mb(o:fL):List Int:=fu o.1++(fu (px o.2.1).length++px o.2.1)
def At(s:Sg):List Int:=fR s.1++fR s.2.1
def lO(w:j6):List Int:=fu w.1++(fu w.2.1.length++(w.2.1.flatMap At++fR w.2.2.1))
def DO(t:eD):List Int:=fu t.1.length++(t.1.flatMap (fun x=>xu x.1)++(fu t.2.1.length++(t.2.1.flatMap mb++(fu t.2.2.1++t.1.flatMap fun x=>lO x.2.1))))
theorem lZ{α:Type}(f:List Int→α→List Int)(w:α→List Int):∀(l:List α) (b:List Int),(∀x∈l,∀b,f b x=b++w x)→l.foldl f b=b++l.flatMap w
 |[],b,_=>by simp
 |x::l,b,h=>by
  rw[List.foldl_cons,h x List.mem_cons_self,lZ f w l _ fun y hy=>h y (List.mem_cons_of_mem _ hy),List.flatMap_cons,List.append_assoc]
theorem k9(b:List Int){n:Int}(h:0≤n):ek b n=b++fu n:=by unfold ek;rw[if_neg (by omega)]
theorem vl{t:eD}(hok:fg t=true):sT t=DO t:=by
 obtain⟨⟨_,a2,a3,a4⟩,b1,b2⟩:=gS hok
 have e1:∀b,t.1.foldl rk b=b++t.1.flatMap fun x=>xu x.1:=fun b=>lZ _ _ _ _ fun x hx b=>by
  have:=ky (gh _ _ b1 x hx)
  unfold rk xu
  rw[k9 _ this.1,List.append_assoc]
 have e2:∀b,t.2.1.foldl q9 b=b++t.2.1.flatMap mb:=fun b=>lZ _ _ _ _ fun o ho b=>by
  have:=(jb _ _ b2 o ho).1
  unfold q9 mb
  rw[k9 _ this.1,List.append_assoc]
 have e3:∀(l:List Sg) b,l.foldl sE b=b++l.flatMap At:=fun l b=>lZ _ _ _ _ fun s _ b=>by
  unfold sE At
  rw[List.append_assoc]
 have e4:∀b,t.1.foldl yy b=b++t.1.flatMap fun x=>lO x.2.1:=fun b=>lZ _ _ _ _ fun x hx b=>by
  have:=ky (gh _ _ b1 x hx)
  unfold yy lO
  rw[e3,k9 _ this.2.2.1,k9 _ (by omega)]
  simp only[List.append_assoc]
 unfold sT kA DO
 rw[if_pos hok,e4,k9 _ a4,e2,k9 _ (by omega),e1,k9 _ (by omega),List.nil_append]
 simp only[List.append_assoc]
theorem ue{n:Nat}(a rest:List Int)(h:a.length=n):gF n (a++rest,false,())=(a,(rest,false,())):=by
 unfold gF
 rw[if_neg (by
  intro x
  rcases x with x | x
  ·cases x
  ·have x:(a++rest).length < n:=x
   rw[List.length_append]at x
   omega)]
 show((a++rest).take n,((a++rest).drop n,false,()))=_
 rw[List.take_left' h,List.drop_left' h]
theorem zN(a rest:List Int)(h:a.length=32):nB (a++rest,false,())=(a,(rest,false,())):=by
 unfold nB
 rw[ue a rest h]
 simp only[h]
 rw[show List.drop 32 (List.replicate 32 (0:Int))=[] from rfl,List.append_nil]
theorem l9(n:Int)(h:mZ n)(rest:List Int):di (fu n++rest,false,())=(n,(rest,false,())):=nI n h rest _
theorem AM(a rest:List Int)(h:a.length≤1000000000):m0 (fu a.length++(a++rest),false,())=(a,(rest,false,())):=by
 unfold m0
 rw[l9 _ (ju (by omega))]
 simp only[Bool.false_eq_true,if_false,Int.toNat_natCast]
 exact ue a rest rfl
theorem vn{n m:Int}(h:mZ n)(hm:n≤m)(rest:List Int):lj m (fu n++rest,false,())=(n,(rest,false,())):=by
 unfold lj
 rw[l9 n h]
 simp only[if_neg (show ¬n > m by omega)]
theorem wP:∀(l:List jB) (rest:List Int),(∀o∈l,o.1.length=32∧mZ o.2.1)→ma l.length (l.flatMap xu++rest,false,())=(l,(rest,false,()))
 |[],rest,_=>rfl
 |o::l,rest,h=>by
  obtain⟨h1,h2⟩:=h o List.mem_cons_self
  have e:CV ((o::l).flatMap xu++rest,false,())=(o,(l.flatMap xu++rest,false,())):=by
   unfold CV xu
   rw[List.flatMap_cons,List.append_assoc,List.append_assoc,zN _ _ h1]
   simp only[]
   rw[l9 _ h2]
  rw[List.length_cons,ma,e,wP l rest fun x hx=>h x (List.mem_cons_of_mem _ hx)]
theorem tR:∀(l:List fL) (rest:List Int),(∀o∈l,mZ o.1∧iZ o.2.1=true∧yB o.2.1)→mS l.length (l.flatMap mb++rest,false,())=some (l,(rest,false,()))
 |[],rest,_=>rfl
 |o::l,rest,h=>by
  obtain⟨h1,h2,h3⟩:=h o List.mem_cons_self
  have hl:=oc o.2.1
  have e0:di ((o::l).flatMap mb++rest,false,())=(o.1,(fu (px o.2.1).length++(px o.2.1++(l.flatMap mb++rest)),false,())):=by
   rw[List.flatMap_cons]
   unfold mb
   simp only[List.append_assoc]
   exact l9 _ h1 _
  have e1:m0 (di ((o::l).flatMap mb++rest,false,())).2=(px o.2.1,(l.flatMap mb++rest,false,())):=by rw[e0];exact AM _ _ (by omega)
  have e2:se ((o::l).flatMap mb++rest,false,())=(o,(l.flatMap mb++rest,false,())):=by
   unfold se
   rw[e1,e0,tT h3 h2]
  rw[List.length_cons,mS,e1,tT h3 h2,if_pos rfl,e2,tR l rest fun x hx=>h x (List.mem_cons_of_mem _ hx)]
theorem w7:∀(l:List Sg) (rest:List Int),(∀s∈l,ik s.1∧ik s.2.1)→mI l.length (l.flatMap At++rest,false,())=(l,(rest,false,()))
 |[],rest,_=>rfl
 |s::l,rest,h=>by
  obtain⟨h1,h2⟩:=h s List.mem_cons_self
  have e:CY ((s::l).flatMap At++rest,false,())=(s,(l.flatMap At++rest,false,())):=by
   unfold CY At
   rw[List.flatMap_cons,List.append_assoc,List.append_assoc,nS _ h1]
   simp only[]
   rw[nS _ h2]
  rw[List.length_cons,mI,e,w7 l rest fun x hx=>h x (List.mem_cons_of_mem _ hx)]
theorem BU(w:j6)(rest:List Int)(hw:oo w)(hb:mZ w.1)(h12:w.2.1.length≤12):yz (lO w++rest,false,())=some (w,(rest,false,())):=by
 have e0:di (lO w++rest,false,())=(w.1,(fu w.2.1.length++(w.2.1.flatMap At++(fR w.2.2.1++rest)),false,())):=by
  unfold lO
  simp only[List.append_assoc]
  exact l9 _ hb _
 have e1:lj 12 (di (lO w++rest,false,())).2=((w.2.1.length:Int),(w.2.1.flatMap At++(fR w.2.2.1++rest),false,())):=by
  rw[e0]
  exact vn (ju (by omega)) (by omega) _
 have e2:jT (lO w++rest,false,())=(w.2.1,(fR w.2.2.1++rest,false,())):=by
  unfold jT
  rw[e1]
  exact w7 _ _ hw.1
 unfold yz
 rw[e1,if_neg (by show ¬(w.2.1.length:Int) < 0;omega),e2,e0]
 simp only[]
 rw[nS _ hw.2]
theorem uk:∀(l:List eR) (rest:List Int),(∀x∈l,oo x.2.1∧mZ x.2.1.1∧x.2.1.2.1.length≤12)→mX (l.map (·.1)) (l.flatMap (fun x=>lO x.2.1)++rest,false,())=some (l,(rest,false,()))
 |[],rest,_=>rfl
 |x::l,rest,h=>by
  obtain⟨h1,h2,h3⟩:=h x List.mem_cons_self
  rw[List.flatMap_cons,List.append_assoc,List.map_cons,mX,BU _ _ h1 h2 h3]
  simp only[]
  rw[uk l rest fun y hy=>h y (List.mem_cons_of_mem _ hy)]
theorem oU{t:eD}(hv:qF t)(hok:fg t=true):ig (sT t)=(t,true):=by
 obtain⟨⟨a1,a2,a3,a4⟩,b1,b2⟩:=gS hok
 have hin:∀x∈t.1,_:=fun x hx=>ky (gh _ _ b1 x hx)
 have hnt:=hv.2.2
 rw[vl hok]
 have e1:=vn (n:=(t.1.length:Int)) (m:=64) (ju (by omega)) (by omega) (t.1.flatMap (fun x=>xu x.1)++(fu t.2.1.length++(t.2.1.flatMap mb++(fu t.2.2.1++t.1.flatMap fun x=>lO x.2.1))))
 have ef:t.1.flatMap (fun x=>xu x.1)=(t.1.map (·.1)).flatMap xu:=by rw[List.flatMap_map]
 have e2:=wP (t.1.map (·.1)) (fu t.2.1.length++(t.2.1.flatMap mb++(fu t.2.2.1++t.1.flatMap fun x=>lO x.2.1))) fun o ho=>by
  obtain⟨x,hx,rfl⟩:=List.mem_map.1 ho
  exact⟨(hv.2.1 x hx).1.1,(hin x hx).1,by have:=(hin x hx).2.1;omega⟩
 rw[←ef,List.length_map]at e2
 have e3:=vn (n:=(t.2.1.length:Int)) (m:=64) (ju (by omega)) (by omega) (t.2.1.flatMap mb++(fu t.2.2.1++t.1.flatMap fun x=>lO x.2.1))
 have e4:=tR t.2.1 (fu t.2.2.1++t.1.flatMap fun x=>lO x.2.1) fun o ho=>by
  have:=jb _ _ b2 o ho
  exact⟨⟨this.1.1,by omega⟩,this.2,(hv.1.1 o ho).1⟩
 have e5:=l9 t.2.2.1 ⟨a4,hnt⟩ (t.1.flatMap fun x=>lO x.2.1)
 have e6:=uk t.1 [] fun x hx=>⟨(hv.2.1 x hx).2.1,⟨(hin x hx).2.2.1,by have:=(hin x hx).2.2.2.1;omega⟩,(hin x hx).2.2.2.2⟩
 rw[List.append_nil]at e6
 unfold ig DO
 simp only[e1,Int.toNat_natCast,e2,e3,e4]
 unfold wA
 simp only[e5,e6]
 unfold vT
 rw[if_neg]
 rintro(x | x | x | x | x)
 ·omega
 ·omega
 ·cases x
 ·simp at x
 ·rw[show((t.1,t.2.1,t.2.2.1,()):eD)=t from rfl,hok]at x
  cases x
def jn(r:eT):Prop:=iD r∧(r.2.1=true→r.1=[])
def Ov(r r':eT)(e:List Int):Prop:=jn r'∧(r'.2.1=false→r.2.1=false∧r.1=e++r'.1)
theorem Ov.trans{r r1 r2:eT}{e1 e2:List Int}(h1:Ov r r1 e1)(h2:Ov r1 r2 e2):Ov r r2 (e1++e2):=
 ⟨h2.1,fun h=>⟨(h1.2 (h2.2 h).1).1,by rw[(h1.2 (h2.2 h).1).2,(h2.2 h).2,List.append_assoc]⟩⟩
theorem Ov.of{r r':eT}{e e':List Int}(h:Ov r r' e)(he:r'.2.1=false→e=e'):Ov r r' e':=⟨h.1,fun h'=>by rw[←he h'];exact h.2 h'⟩
theorem Ov.refl{r:eT}(h:jn r):Ov r r []:=⟨h,fun h'=>⟨h',rfl⟩⟩
theorem Cc:jn ph:=⟨uH,fun _=>rfl⟩
theorem vX(r:eT)(e:List Int):Ov r ph e:=⟨Cc,fun h=>by cases h⟩
theorem zd{b:List Int}(hb:Bytes b)(hl:b.length≤1000000000):jn (b,false,()):=⟨yi hb hl (false,()),fun h=>by cases h⟩
theorem sO{r:eT}(h:jn r)(n:Nat):Ov r (gF n r).2 (gF n r).1∧((gF n r).2.2.1=false→(gF n r).1.length=n):=by
 have hb:=(kQ (n:=n) h.1).2.2
 revert hb
 unfold gF
 split
 ·exact fun _=>⟨vX _ _,fun h=>by cases h⟩
 ·rename_i hc
  intro hb
  have h1:r.2.1=false:=by cases hr:r.2.1 with | false=>rfl | true=>exact absurd (Or.inl hr) hc
  have h2:¬r.1.length < n:=fun x=>hc (Or.inr x)
  exact⟨⟨⟨hb,fun(hx:r.2.1=true)=>by rw[h1]at hx;cases hx⟩,fun _=>⟨h1,(List.take_append_drop n r.1).symm⟩⟩,fun _=>by show(r.1.take n).length=n;rw[List.length_take];omega⟩
theorem sA(f:Nat){d:Int}(h:d < 128):ff f d=([],d):=by
 cases f with
 |zero=>rfl
 |succ f=>rw[ff,if_neg (by omega)]
theorem wK:∀(l:List Int) (a:Nat) (n:Int) (v:Int×Nat),Bytes l→a≤9→k7 l a n= .inl v→
  ∃w rest,v.1=n+w*128^a∧0≤w∧(a=0∨0 < w)∧w < 128^(9 - a)∧l=(ff (8 - a) w).1++(ff (8 - a) w).2::rest∧v.2=a+(ff (8 - a) w).1.length+1
 |[],a,n,v,_,_,h=>by cases h
 |d::l,a,n,v,hb,ha,h=>by
  obtain⟨x1,x2⟩:=hb d List.mem_cons_self
  rw[k7]at h
  split at h
  ·cases h
  rename_i hc
  have ha8:a≤8:=by omega
  have e9:(128:Int)^(9 - a)=128^(8 - a)*128:=by rw[show 9 - a=(8 - a)+1 by omega];exact Int.pow_succ 128 (8 - a)
  have p8:(0:Int) < 128^(8 - a):=Int.pow_pos (by decide)
  split at h
  ·rename_i hd
   cases h
   refine⟨d,l,by rw[Int.emod_eq_of_lt x1 hd],x1,by omega,by omega,?_,?_⟩
   ·rw[sA _ hd];rfl
   ·rw[sA _ hd];rfl
  ·rename_i hd
   obtain⟨w,rest,e1,w0,w1,w2,e2,e3⟩:=wK l (a+1) _ v (fun x hx=>hb x (List.mem_cons_of_mem _ hx)) (by omega) h
   have w1:0 < w:=by omega
   rw[show 9 - (a+1)=8 - a by omega]at w2
   have ha7:a≤7:=by
    by_cases h8:a=8
    ·rw[h8]at w2
     have:(128:Int)^(8 - 8)=1:=rfl
     omega
    ·omega
   have er:ff (8 - a) (d%128+128*w)=((d%128+128)::(ff (8 - (a+1)) w).1,(ff (8 - (a+1)) w).2):=by
    rw[show 8 - a=(8 - (a+1))+1 by omega,ff,if_pos (by omega),show(d%128+128*w)%128=d%128 by omega,show(d%128+128*w) / 128=w by omega]
   refine⟨d%128+128*w,rest,?_,by omega,by omega,by omega,?_,?_⟩
   ·rw[e1,Int.pow_succ,Int.add_mul,Int.add_assoc,Int.mul_comm 128 w,Int.mul_assoc w,Int.mul_comm 128]
   ·rw[er,e2,show d%128+128=d by omega];rfl
   ·rw[er,e3];simp only[List.length_cons];omega
theorem ir{r:eT}(h:jn r):Ov r (di r).2 (fu (di r).1)∧((di r).2.2.1=false→mZ (di r).1):=by
 have hk:=iq h.1
 revert hk
 unfold di
 cases hf:k7 r.1 0 0 with
 |inr _=>exact fun _=>⟨vX _ _,fun h=>by cases h⟩
 |inl v=>
  intro hk
  obtain⟨w,rest,e1,w0,_,w2,e2,e3⟩:=wK r.1 0 0 v h.1.2 (by decide) hf
  have h1:r.2.1=false:=by
   cases hr:r.2.1 with
   |false=>rfl
   |true=>rw[h.2 hr]at hf;cases hf
  have ew:v.1=w:=by rw[e1,Int.pow_zero];omega
  have e9:(128:Int)^(9 - 0)=9223372036854775808:=rfl
  have e8:(128:Int)^(8+1)=9223372036854775808:=rfl
  have e10:(128:Int)^(10+1)=151115727451828646838272:=rfl
  have er:ff 10 w=ff 8 w:=og 10 8 w (by rw[e10];omega) (by rw[e8];omega)
  have en:fu v.1=(ff 8 w).1++ [(ff 8 w).2]:=by rw[ew];unfold fu;rw[er]
  refine⟨⟨⟨hk.2.2,fun(hx:r.2.1=true)=>by rw[h1]at hx;cases hx⟩,fun _=>⟨h1,?_⟩⟩,fun _=>⟨hk.1,hk.2.1⟩⟩
  show r.1=fu v.1++r.1.drop v.2
  rw[en,e3,List.append_assoc]
  conv=>rhs;rw[e2]
  rw[List.append_cons,Nat.zero_add,List.drop_left' (by rw[List.length_append];rfl)]
  exact e2
theorem AD{l:List Int}(h:l.length=8)(hb:Bytes l):fR (oS l)=l:=by
 match l,h with
 |[a,b,c,d,e,f,g,i],_=>
  have h0:=hb a (by simp)
  have h1:=hb b (by simp)
  have h2:=hb c (by simp)
  have h3:=hb d (by simp)
  have h4:=hb e (by simp)
  have h5:=hb f (by simp)
  have h6:=hb g (by simp)
  have h7:=hb i (by simp)
  unfold um at h0 h1 h2 h3 h4 h5 h6 h7
  unfold fR oS
  simp only[List.foldl_cons,List.foldl_nil]
  congr 1
  ·omega
  congr 1
  ·omega
  congr 1
  ·omega
  congr 1
  ·omega
  congr 1
  ·omega
  congr 1
  ·omega
  congr 1
  ·omega
  congr 1
  omega
theorem om{r:eT}(h:jn r):Ov r (iL r).2 (fR (iL r).1):=by
 have e:=sO h 8
 exact e.1.of fun hk=>(AD (e.2 hk) (kQ h.1).2.1).symm
theorem v8{r:eT}(h:jn r):Ov r (nB r).2 (nB r).1:=by
 have e:=sO h 32
 refine e.1.of fun hk=> ?_
 unfold nB
 simp only[e.2 hk]
 rw[show List.drop 32 (List.replicate 32 (0:Int))=[] from rfl,List.append_nil]
theorem A4{r:eT}(h:iD r):Sm (nB r).1:=by
 have e:=kQ (n:=32) h
 refine⟨?_,eU e.2.1 fun x hx=> ?_⟩
 ·show((gF 32 r).1++List.drop (gF 32 r).1.length (List.replicate 32 (0:Int))).length=32
  rw[List.length_append,List.length_drop,List.length_replicate]
  have:=e.1
  omega
 ·obtain rfl:=(List.mem_replicate.1 (List.mem_of_mem_drop hx)).2
  exact⟨by decide,by decide⟩
theorem uB{r:eT}(h:jn r):Ov r (m0 r).2 (fu (m0 r).1.length++(m0 r).1)∧Bytes (m0 r).1∧(m0 r).1.length≤1000000000:=by
 have e:=ir h
 unfold m0
 split
 ·rename_i hc
  exact⟨⟨e.1.1,fun hk=>by rw[hc]at hk;cases hk⟩,fun x hx=>(by cases hx),Nat.zero_le _⟩
 ·rename_i hc
  have hc:(di r).2.2.1=false:=by simpa using hc
  have t:=sO e.1.1 (di r).1.toNat
  have tb:=kQ (n:=(di r).1.toNat) e.1.1.1
  have n0:=(e.2 hc).1
  refine⟨(e.1.trans t.1).of fun hk=> ?_,tb.2.1,?_⟩
  ·rw[t.2 hk,Int.toNat_of_nonneg n0]
  ·have hl:(gF (di r).1.toNat (di r).2).1.length≤(di r).2.1.length:=by
    unfold gF
    split
    ·exact Nat.zero_le _
    ·show((di r).2.1.take _).length≤_
     rw[List.length_take];omega
   have:=e.1.1.1.1
   omega
theorem yw{r:eT}(h:jn r){m:Int}(h0:0≤(lj m r).1):Ov r (lj m r).2 (fu (lj m r).1)∧(lj m r).1≤m:=by
 have e:=ir h
 unfold lj at h0 ⊢
 by_cases hc:(di r).1 > m
 ·simp only[if_pos hc]at h0
  omega
 ·simp only[if_neg hc]
  exact⟨e.1,by omega⟩
theorem uj{r:eT}(h:jn r)(m:Int):jn (lj m r).2:=(ir h).1.1
theorem zo{r:eT}(h:iD r){m:Int}(hm:0≤m): -1≤(lj m r).1∧(lj m r).1≤m:=by
 have:=(iq h).1
 unfold lj
 split
 ·exact⟨by omega,by show(-1:Int)≤m;omega⟩
 ·rename_i hc
  have hc:¬(di r).1 > m:=hc
  exact⟨by show -1≤(di r).1;omega,by show(di r).1≤m;omega⟩
theorem u7:∀(k:Nat) {r:eT},jn r→Ov r (ma k r).2 ((ma k r).1.flatMap xu)∧(ma k r).1.length=k∧∀o∈(ma k r).1,Sm o.1
 | 0,r,h=>⟨Ov.refl h,rfl,fun x hx=>by cases hx⟩
 |k+1,r,h=>by
  have e1:=v8 h
  have e2:=ir e1.1
  have ih:=u7 k (r:=(CV r).2) e2.1.1
  refine⟨?_,by rw[ma,List.length_cons,ih.2.1],fun o ho=> ?_⟩
  ·have:=(e1.trans e2.1).trans ih.1
   rw[ma,List.flatMap_cons]
   exact this
  ·rcases List.mem_cons.1 ho with rfl | ho
   ·exact A4 h.1
   ·exact ih.2.2 o ho
theorem Dt{r:eT}(h:jn r):jn (se r).2:=(uB (ir h).1.1).1.1
theorem sh:∀(k:Nat) {r:eT} {x:List fL×eT},jn r→mS k r=some x→Ov r x.2 (x.1.flatMap mb)∧x.1.length=k∧∀o∈x.1,o.1≤9223372036854775807∧iZ o.2.1=true∧C0 o.2.1
 | 0,r,x,h,hx=>by
  cases hx
  exact⟨Ov.refl h,rfl,fun x hx=>by cases hx⟩
 |k+1,r,x,h,hx=>by
  rw[mS]at hx
  split at hx
  ·rename_i hr
   split at hx
   ·rename_i y hy
    cases hx
    have e1:=ir h
    have e2:=uB e1.1.1
    have ih:=sh k (Dt h) hy
    obtain⟨l,hl,hlb,he,hle⟩:=BA hr
    have hu:=ze e2.2.1 e2.2.2
    have el:(se r).1.2.1=l:=by show(mT (m0 (di r).2).1).1=l;rw[he]
    refine⟨?_,by rw[List.length_cons,ih.2.1],fun o ho=> ?_⟩
    ·have:=(e1.1.trans e2.1).trans ih.1
     rw[List.flatMap_cons]
     unfold mb
     rw[el,hlb]
     exact this
    ·rcases List.mem_cons.1 ho with rfl | ho
     ·refine⟨(iq h.1).2.1,by rw[el];exact hl,?_⟩
      rw[el,hle]
      exact⟨hu.1,by show(ji _).length≤_;omega⟩
     ·exact ih.2.2 o ho
   ·cases hx
  ·cases hx
theorem vd:∀(k:Nat) {r:eT},jn r→Ov r (mI k r).2 ((mI k r).1.flatMap At)∧(mI k r).1.length=k∧∀s∈(mI k r).1,C1 s
 | 0,r,h=>⟨Ov.refl h,rfl,fun x hx=>by cases hx⟩
 |k+1,r,h=>by
  have e1:=om h
  have e2:=om e1.1
  have ih:=vd k (r:=(CY r).2) e2.1
  refine⟨?_,by rw[mI,List.length_cons,ih.2.1],fun o ho=> ?_⟩
  ·have:=(e1.trans e2).trans ih.1
   rw[mI,List.flatMap_cons]
   exact this
  ·rcases List.mem_cons.1 ho with rfl | ho
   ·exact⟨(qB h.1).1,(qB e1.1.1).1⟩
   ·exact ih.2.2 o ho
theorem zp{r:eT}(h:jn r):jn (jT r).2∧(jT r).1.length≤12∧∀s∈(jT r).1,C1 s:=by
 have e1:=ir h
 have ih:=vd (lj 12 (di r).2).1.toNat (uj e1.1.1 12)
 have:=zo e1.1.1.1 (m:=12) (by decide)
 exact⟨ih.1.1,by show(mI _ _).1.length≤12;rw[ih.2.1];omega,ih.2.2⟩
theorem CE{r:eT}{w:j6×eT}(h:jn r)(hw:yz r=some w):Ov r w.2 (lO w.1)∧oo w.1∧w.1.2.1.length≤12:=by
 unfold yz at hw
 split at hw
 ·cases hw
 ·rename_i hc
  cases hw
  have e1:=ir h
  have hc:0≤(lj 12 (di r).2).1:=by omega
  have e2:=yw e1.1.1 hc
  have e3:=vd (lj 12 (di r).2).1.toNat e2.1.1
  have g:=zp h
  have e4:=om g.1
  have hl:((jT r).1.length:Int)=(lj 12 (di r).2).1:=by
   show((mI _ _).1.length:Int)=_
   rw[e3.2.1];omega
  have:=((e1.1.trans e2.1).trans e3.1).trans e4
  refine⟨this.of fun _=> ?_,⟨g.2.2,(qB g.1.1).1⟩,g.2.1⟩
  unfold lO
  simp only[hl,List.append_assoc]
  rfl
theorem sV:∀(l:List jB) {r:eT} {x:List eR×eT},jn r→mX l r=some x→Ov r x.2 (x.1.flatMap fun y=>lO y.2.1)∧x.1.map (·.1)=l∧∀y∈x.1,oo y.2.1∧y.2.1.2.1.length≤12
 |[],r,x,h,hx=>by
  cases hx
  exact⟨Ov.refl h,rfl,fun x hx=>by cases hx⟩
 |o::l,r,x,h,hx=>by
  rw[mX]at hx
  split at hx
  ·cases hx
  ·rename_i w hw
   have e:=CE h hw
   split at hx
   ·cases hx
   ·rename_i y hy
    cases hx
    have ih:=sV l e.1.1 hy
    refine⟨?_,by rw[List.map_cons,ih.2.1],fun z hz=> ?_⟩
    ·have:=e.1.trans ih.1
     rw[List.flatMap_cons]
     exact this
    ·rcases List.mem_cons.1 hz with rfl | hz
     ·exact e.2
     ·exact ih.2.2 z hz
theorem Ae{b:List Int}(h:(ig b).2=false):ig b=Bm:=by
 revert h
 unfold ig
 simp only[]
 split
 ·exact fun _=>rfl
 ·unfold wA
  split
  ·exact fun _=>rfl
  ·unfold vT
   split
   ·exact fun _=>rfl
   ·intro h;cases h
theorem Ad{b:List Int}(hb:Bytes b)(hl:b.length≤1000000000)(h:(ig b).2=true):∃t,ig b=(t,true)∧fg t=true∧qF t∧sT t=b:=by
 have k0:=zd hb hl
 have k1:=uj k0 64
 have o2:=u7 (lj 64 (b,false,())).1.toNat k1
 have k3:=uj o2.1.1 64
 revert h
 unfold ig
 simp only[]
 split
 ·intro h;cases h
 rename_i x hx
 have o4:=sh _ k3 hx
 have o5:=ir o4.1.1
 unfold wA
 split
 ·intro h;cases h
 rename_i y hy
 have o6:=sV _ o5.1.1 hy
 unfold vT
 split
 ·intro h;cases h
 rename_i hc
 intro _
 have c1:0≤(lj 64 (b,false,())).1:=by
  have:¬(lj 64 (b,false,())).1 < 0:=fun z=>hc (Or.inl z)
  omega
 have c2:0≤(lj 64 (ma (lj 64 (b,false,())).1.toNat (lj 64 (b,false,())).2).2).1:=by
  have:¬(lj 64 (ma (lj 64 (b,false,())).1.toNat (lj 64 (b,false,())).2).2).1 < 0:=fun z=>hc (Or.inr (Or.inl z))
  omega
 have c3:y.2.2.1=false:=by cases hz:y.2.2.1 with | false=>rfl | true=>exact absurd (Or.inr (Or.inr (Or.inl hz))) hc
 have c4:y.2.1=[]:=List.eq_nil_of_length_eq_zero (by
  have:¬0 < y.2.1.length:=fun z=>hc (Or.inr (Or.inr (Or.inr (Or.inl z))))
  omega)
 have c5:fg (y.1,x.1,(di x.2).1,())=true:=by
  cases hz:fg (y.1,x.1,(di x.2).1,()) with
  |true=>rfl
  |false=>exact absurd (Or.inr (Or.inr (Or.inr (Or.inr hz)))) hc
 have u1:=yw k0 c1
 have u3:=yw o2.1.1 c2
 have all:=((((u1.1.trans o2.1).trans u3.1).trans o4.1).trans o5.1).trans o6.1
 have hb2:b=_:=(all.2 c3).2
 rw[c4,List.append_nil]at hb2
 have l1:y.1.length=(lj 64 (b,false,())).1.toNat:=by rw[←o2.2.1,←o6.2.1,List.length_map]
 have n1:(y.1.length:Int)=(lj 64 (b,false,())).1:=by omega
 have n2:(x.1.length:Int)=(lj 64 (ma (lj 64 (b,false,())).1.toNat (lj 64 (b,false,())).2).2).1:=by rw[o4.2.1];omega
 have hm:∀z∈y.1,z.1∈(ma (lj 64 (b,false,())).1.toNat (lj 64 (b,false,())).2).1:=fun z hz=>by rw[←o6.2.1];exact List.mem_map_of_mem hz
 refine⟨_,rfl,c5,⟨⟨fun o ho=>(o4.2.2 o ho).2.2,by show y.1.length≤_;omega,by show x.1.length≤_;omega⟩,fun z hz=>⟨o2.2.2 _ (hm z hz),(o6.2.2 z hz).1,by have:=(o6.2.2 z hz).2;omega⟩,(iq o4.1.1.1).2.1⟩,?_⟩
 rw[vl c5]
 unfold DO
 simp only[n1,n2]
 rw[←List.flatMap_map (f:=fun z:eR=>z.1) (g:=xu),o6.2.1]
 simp only[List.append_assoc]at hb2
 exact hb2.symm
set_option synthInstance.maxSize 5000
def BZ(o:jB):j5:=(o,(0,none,0,()),())
def Ex(x:eR):j5:=(x.1,(x.2.1.1,some x.2.1.2.1,x.2.1.2.2),())
def E5(x:j5):eR:=(x.1,(x.2.1.1,x.2.1.2.1.getD [],x.2.1.2.2),())
theorem Dc(l:List j5):DL (.slice iK) (.slice cH) l=l.map E5:=by kernel_rfl
theorem DG(l:List eR):(l.map Ex).map E5=l:=by
 rw[List.map_map]
 have:(E5∘Ex)=id:=rfl
 rw[this,List.map_id]
theorem yZ{t:Ty}{l:List t.den}{k:Nat}{y:t.den}(h:k < l.length):nth t (l.set k y) k=y:=by simp[nth,h]
theorem Cu{t:Ty}{a b:List t.den}{k:Nat}{y:t.den}(h:a.length=k):nth t (a++y::b) k=y:=by subst h;simp[nth]
theorem Cy{α:Type}{a b:List α}{k:Nat}{y z:α}(h:a.length=k):(a++y::b).set k z=a++z::b:=by subst h;simp
theorem An{α:Type}{l:List α}{k:Nat}{y:α}:(l.set k y).take k=l.take k:=by rw[List.take_set,List.set_eq_of_length_le (by rw[List.length_take];omega)]
theorem zH{α:Type}{l:List α}{k:Nat}{y:α}:(l.set k y).drop (k+1)=l.drop (k+1):=List.drop_set_of_lt (by omega)
abbrev eh.D:=eT
def eh.st:eh.D→SA:=fun o0=>([.ptr (.fK 0) 0 [] 0],[.obj 0 false (.d jm o0)])
abbrev eh.Y:=Bs×eT
abbrev eh.X:=Bs×eT
def eh.out:eh.X→aZ:=fun x=>⟨.d tH x.1,[.obj 0 false (.d jm x.2)],[]⟩
def eh.add:eh.D→eh.Y→eh.X:=fun o0 y=>y
def eh.aD:eh.D→Prop:=fun r=>iD r
def eh.F:eh.D→eh.Y:=fun r=>nB r
noncomputable def eh.G:dV:=eY (P:=Tryz.prog) [dB.sg]
noncomputable def eh.an:eJ:= {}
noncomputable def eh.A:= @cK Tryz.prog eh.G eh.an 0 Tryz.f77 _ eh.st
abbrev eh.Ok:=cM @eh.A eh.aD eh.add eh.F eh.out
theorem eh.eq{R:Type}(o0:eT)(k:aZ→Option R):eh.A o0 k=
 ae (dB.call ((32:Int),o0)) fun x1=>
 aF (decide ((List.length x1.1)≤32)) (
 k (eh.out ((x1.1++(List.drop (List.length x1.1) (List.replicate 32 (0:Int)))),x1.2))) none:=by kernel_rfl
theorem eh.ok:eh.Ok:=by
 intro r h
 have h:iD r:=h
 have e:=(kQ (n:=32) h).1
 rw[eh.eq,dB.run (d:=(32,r)) ⟨by decide,h.1⟩]
 simp only[aa,dB.add,dB.F]
 rw[show Int.toNat 32=32 from rfl,aR e]
 rfl
noncomputable def eh.E:=Entry.cv [none] eh.st eh.aD eh.add eh.F eh.out
noncomputable def eh.call:eh.D→Option eh.X:=bJ eh.E eh.st
theorem eh.run:bE eh.call eh.aD eh.add eh.F:=cQ (cP [.d jm] fun _=>by kernel_rfl)
noncomputable def eh.sg:SG Tryz.prog:=⟨77,aW,eh.E,.fn 0 (by kernel_rfl) eh.ok trivial⟩
abbrev dg.D:=eT
def dg.st:dg.D→SA:=fun o0=>([.ptr (.fK 0) 0 [] 0],[.obj 0 false (.d jm o0)])
abbrev dg.Y:=Bs×eT
abbrev dg.X:=Bs×eT
def dg.out:dg.X→aZ:=fun x=>⟨.d tB x.1,[.obj 0 false (.d jm x.2)],[]⟩
def dg.add:dg.D→dg.Y→dg.X:=fun o0 y=>y
def dg.aD:dg.D→Prop:=fun r=>iD r
def dg.F:dg.D→dg.Y:=fun r=>m0 r
noncomputable def dg.G:dV:=eY (P:=Tryz.prog) [bI.sg,dB.sg]
noncomputable def dg.an:eJ:= {res:=[some tB],s6:=[⟨0,[.arr],jm⟩]}
noncomputable def dg.A:= @cK Tryz.prog dg.G dg.an 0 Tryz.f78 _ dg.st
abbrev dg.Ok:=cM @dg.A dg.aD dg.add dg.F dg.out
theorem dg.eq{R:Type}(o0:eT)(k:aZ→Option R):dg.A o0 k=
  ae (bI.call o0) fun x1=>
  aF (x1.2.2.1) (
   k (dg.out (([]:List Int),x1.2))) (
   ae (dB.call (x1.1,x1.2)) fun x2=>
   k (dg.out (x2.1,x2.2))):=by kernel_rfl
theorem dg.ok:dg.Ok:=by
 intro r h
 have h:iD r:=h
 have e:=iq h
 rw[dg.eq,bI.run (d:=r) h]
 simp only[aa,bI.add,bI.F,dg.add,dg.F,m0]
 cases hc:(di r).2.2.1
 ·rw[ao,dB.run (d:=((di r).1,(di r).2)) ⟨e.1,e.2.2.1⟩]
  rfl
 ·rfl
noncomputable def dg.E:=Entry.cv [none] dg.st dg.aD dg.add dg.F dg.out
noncomputable def dg.call:dg.D→Option dg.X:=bJ dg.E dg.st
theorem dg.run:bE dg.call dg.aD dg.add dg.F:=cQ (cP [.d jm] fun _=>by kernel_rfl)
noncomputable def dg.sg:SG Tryz.prog:=⟨78,aW,dg.E,.fn 0 (by kernel_rfl) dg.ok trivial⟩
abbrev dC.D:=Int×eT
def dC.st:dC.D→SA:=fun(most,o1)=>([.d ti most,.ptr (.fK 0) 0 [] 0],[.obj 0 false (.ptr (.fK 1) 0 [] 0),.obj 0 false (.d jm o1)])
abbrev dC.Y:=Int×eT
abbrev dC.X:=Int×eT
def dC.out:dC.X→aZ:=fun x=>⟨.d ti x.1,[.obj 0 false (.ptr (.fK 1) 0 [] 0),.obj 0 false (.d jm x.2)],[]⟩
def dC.add:dC.D→dC.Y→dC.X:=fun(most,o1) y=>y
def dC.aD:dC.D→Prop:=fun(m,r)=>iD r
def dC.F:dC.D→dC.Y:=fun(m,r)=>lj m r
noncomputable def dC.G:dV:=eY (P:=Tryz.prog) [bI.sg]
noncomputable def dC.an:eJ:= {}
noncomputable def dC.A:= @cK Tryz.prog dC.G dC.an 0 Tryz.f76 _ dC.st
abbrev dC.Ok:=cM @dC.A dC.aD dC.add dC.F dC.out
theorem dC.eq{R:Type}(most:Int)(o1:eT)(k:aZ→Option R):dC.A (most,o1) k=
  ae (bI.call o1) fun x1=>
  aF ((mv x1.1 most)) (
   k (dC.out ((-1:Int),x1.2))) (
   k (dC.out (x1.1,x1.2))):=by kernel_rfl
theorem dC.ok:dC.Ok:=by
 rintro⟨m,r⟩ h
 have h:iD r:=h
 rw[dC.eq,bI.run (d:=r) h]
 simp only[aa,bI.add,bI.F,dC.add,dC.F,lj]
 by_cases hc:(di r).1 > m
 ·rw[dG hc,if_pos hc];rfl
 ·rw[dx hc,if_neg hc];rfl
noncomputable def dC.E:=Entry.cv [some ti,none] dC.st dC.aD dC.add dC.F dC.out
noncomputable def dC.call:dC.D→Option dC.X:=bJ dC.E dC.st
theorem dC.run:bE dC.call dC.aD dC.add dC.F:=cQ (cP [.d ti,.d jm] fun _=>by kernel_rfl)
noncomputable def dC.sg:SG Tryz.prog:=⟨76,aW,dC.E,.fn 0 (by kernel_rfl) dC.ok trivial⟩
abbrev av.L0.D:=Int×Int×Int×(Int×Unit)×Nat×(Int×Unit)×eT×(List j5)
def av.L0.st:av.L0.D→AS:=fun(n,t20,t21,n2,n4L,n4,n16,n32)=>⟨([.undef,.undef,.ptr (.new 2 0) 0 [] 0,.undef,.ptr (.new 4 0) 0 [] 0,.ptr (.new 5 0) 0 [] 0,.fn 76 (.cons (.ptr (.new 5 0) 0 [] 0) (.nil)),.d ti n]++ba 12 ([.d ti t20,.d ti t21]++ba 110 [])),[],([[],[],[.obj 0 false (.pr (.da) (.pr (.da) (.d (.pair ti .unit) n2)))],[],[.obj 0 false (.pr (.bU (.new 32 0) 0 [] 0 0 n4L) (.pr (.da) (.d (.pair ti .unit) n4)))],[.obj 0 false (.ptr (.new 16 0) 0 [] 0)]]++bK 10 ([[.obj 0 false (.d jm n16)]]++bK 15 ([[.obj 0 false (.vec 57 iK n32)]]++bK 99 [])))⟩
abbrev av.L0.Y0:=Nat×eT×(List j5)
abbrev av.L0.X0:=(Int×(Int×Unit)×(Int×Unit))×(Nat×eT×(List j5))
def av.L0.bw:av.L0.X0→Exit×AS:=fun x=>(.exit 0,⟨([.undef,.undef,.ptr (.new 2 0) 0 [] 0,.undef,.ptr (.new 4 0) 0 [] 0,.ptr (.new 5 0) 0 [] 0,.fn 76 (.cons (.ptr (.new 5 0) 0 [] 0) (.nil)),.d ti x.1.1]++ba 124 []),[],([[],[],[.obj 0 false (.pr (.da) (.pr (.da) (.d (.pair ti .unit) x.1.2.1)))],[],[.obj 0 false (.pr (.bU (.new 32 0) 0 [] 0 0 x.2.1) (.pr (.da) (.d (.pair ti .unit) x.1.2.2)))],[.obj 0 false (.ptr (.new 16 0) 0 [] 0)]]++bK 10 ([[.obj 0 false (.d jm x.2.2.1)]]++bK 15 ([[.obj 0 false (.vec 57 iK x.2.2.2)]]++bK 99 [])))⟩)
abbrev av.L0.X:=av.L0.X0
abbrev av.L0.Y:=av.L0.Y0
def av.L0.out:av.L0.X→Out (Exit×AS):=fun x=> .ok (av.L0.bw x)
def av.L0.add:av.L0.D→av.L0.Y→av.L0.X:=fun(n,t20,t21,n2,n4L,n4,n16,n32) y=>((n,n2,n4),y)
abbrev av.L1.D:=Int×Int×Int×Int×(Int×Unit)×Nat×Nat×(Int×Unit)×eT×(List j5)×(List fL)
def av.L1.st:av.L1.D→AS:=fun(n_2,m,t37,t38,n2_2,n4L_2,n4L_3,n4_2,n16_2,n32_2,n58)=>⟨([.undef,.undef,.ptr (.new 2 0) 0 [] 0,.undef,.ptr (.new 4 0) 0 [] 0,.ptr (.new 5 0) 0 [] 0,.fn 76 (.cons (.ptr (.new 5 0) 0 [] 0) (.nil)),.d ti n_2,.d ti m]++ba 28 ([.d ti t37,.d ti t38]++ba 93 [])),[],([[],[],[.obj 0 false (.pr (.da) (.pr (.da) (.d (.pair ti .unit) n2_2)))],[],[.obj 0 false (.pr (.bU (.new 32 0) 0 [] 0 0 n4L_2) (.pr (.bU (.new 58 0) 0 [] 0 0 n4L_3) (.d (.pair ti .unit) n4_2)))],[.obj 0 false (.ptr (.new 16 0) 0 [] 0)]]++bK 10 ([[.obj 0 false (.d jm n16_2)]]++bK 15 ([[.obj 0 false (.vec 57 iK n32_2)]]++bK 25 ([[.obj 0 false (.vec 62 eX n58)]]++bK 73 []))))⟩
abbrev av.L1.Y0:=(Int×Unit)
abbrev av.L1.X0:=(Int×Unit)
def av.L1.bw:av.L1.X0→Exit×AS:=fun x=>(.ret,⟨([.undef,.undef,.ptr (.new 2 0) 0 [] 0,.d .bool false]++ba 128 []),[],([[],[],[.obj 0 false (.pr (.da) (.pr (.da) (.d (.pair ti .unit) x)))]]++bK 129 [])⟩)
abbrev av.L1.Y1:=Nat×eT×(List fL)
abbrev av.L1.X1:=(Int×Int×(Int×Unit)×Nat×(Int×Unit)×(List j5))×(Nat×eT×(List fL))
def av.L1.eO:av.L1.X1→Exit×AS:=fun x=>(.exit 2,⟨([.undef,.undef,.ptr (.new 2 0) 0 [] 0,.undef,.ptr (.new 4 0) 0 [] 0,.ptr (.new 5 0) 0 [] 0,.fn 76 (.cons (.ptr (.new 5 0) 0 [] 0) (.nil)),.d ti x.1.1,.d ti x.1.2.1]++ba 123 []),[],([[],[],[.obj 0 false (.pr (.da) (.pr (.da) (.d (.pair ti .unit) x.1.2.2.1)))],[],[.obj 0 false (.pr (.bU (.new 32 0) 0 [] 0 0 x.1.2.2.2.1) (.pr (.bU (.new 58 0) 0 [] 0 0 x.2.1) (.d (.pair ti .unit) x.1.2.2.2.2.1)))],[.obj 0 false (.ptr (.new 16 0) 0 [] 0)]]++bK 10 ([[.obj 0 false (.d jm x.2.2.1)]]++bK 15 ([[.obj 0 false (.vec 57 iK x.1.2.2.2.2.2)]]++bK 25 ([[.obj 0 false (.vec 62 eX x.2.2.2)]]++bK 73 []))))⟩)
abbrev av.L1.X:=(av.L1.X0)⊕(av.L1.X1)
abbrev av.L1.Y:=(av.L1.Y0)⊕(av.L1.Y1)
def av.L1.out:av.L1.X→Out (Exit×AS):=fun x=> .br x.isLeft (.get x.getLeft? fun a=> .ok (av.L1.bw a)) (.get x.getRight? fun b=> .ok (av.L1.eO b))
def av.L1.add:av.L1.D→av.L1.Y→av.L1.X:=fun(n_2,m,t37,t38,n2_2,n4L_2,n4L_3,n4_2,n16_2,n32_2,n58) y=>match y with | .inl y=> .inl y | .inr z=> .inr (((n_2,m,n2_2,n4L_2,n4_2,n32_2),z))
abbrev av.L2.D:=Int×Int×Int×Int×(Int×Unit)×Nat×Nat×(Int×Unit)×eT×(List j5)×(List fL)
def av.L2.st:av.L2.D→AS:=fun(n_3,m_2,t66,t67,n2_3,n4L_4,n4L_5,n4_3,n16_3,n32_3,n58_2)=>⟨([.undef,.undef,.ptr (.new 2 0) 0 [] 0,.undef,.ptr (.new 4 0) 0 [] 0,.ptr (.new 5 0) 0 [] 0,.fn 76 (.cons (.ptr (.new 5 0) 0 [] 0) (.nil)),.d ti n_3,.d ti m_2]++ba 57 ([.d ti t66,.d ti t67]++ba 64 [])),[],([[],[],[.obj 0 false (.pr (.da) (.pr (.da) (.d (.pair ti .unit) n2_3)))],[],[.obj 0 false (.pr (.bU (.new 32 0) 0 [] 0 0 n4L_4) (.pr (.bU (.new 58 0) 0 [] 0 0 n4L_5) (.d (.pair ti .unit) n4_3)))],[.obj 0 false (.ptr (.new 16 0) 0 [] 0)]]++bK 10 ([[.obj 0 false (.d jm n16_3)]]++bK 15 ([[.obj 0 false (.vec 57 iK n32_3)]]++bK 25 ([[.obj 0 false (.vec 62 eX n58_2)]]++bK 73 []))))⟩
abbrev av.L2.Y0:=(Int×Unit)
abbrev av.L2.X0:=(Int×Unit)
def av.L2.bw:av.L2.X0→Exit×AS:=fun x=>(.ret,⟨([.undef,.undef,.ptr (.new 2 0) 0 [] 0,.d .bool false]++ba 128 []),[],([[],[],[.obj 0 false (.pr (.da) (.pr (.da) (.d (.pair ti .unit) x)))]]++bK 129 [])⟩)
abbrev av.L2.Y1:=Int×Int×(Int×Unit)×Nat×Nat×(Int×Unit)×eT×(List j5)×(List fL)
abbrev av.L2.X1:=Int×Int×(Int×Unit)×Nat×Nat×(Int×Unit)×eT×(List j5)×(List fL)
def av.L2.eO:av.L2.X1→Exit×AS:=fun x=>(.exit 4,⟨([.undef,.undef,.ptr (.new 2 0) 0 [] 0,.undef,.ptr (.new 4 0) 0 [] 0,.ptr (.new 5 0) 0 [] 0,.undef,.d ti x.1,.d ti x.2.1]++ba 123 []),[],([[],[],[.obj 0 false (.pr (.da) (.pr (.da) (.d (.pair ti .unit) x.2.2.1)))],[],[.obj 0 false (.pr (.bU (.new 32 0) 0 [] 0 0 x.2.2.2.1) (.pr (.bU (.new 58 0) 0 [] 0 0 x.2.2.2.2.1) (.d (.pair ti .unit) x.2.2.2.2.2.1)))],[.obj 0 false (.ptr (.new 16 0) 0 [] 0)]]++bK 10 ([[.obj 0 false (.d jm x.2.2.2.2.2.2.1)]]++bK 15 ([[.obj 0 false (.vec 57 iK x.2.2.2.2.2.2.2.1)]]++bK 25 ([[.obj 0 false (.vec 62 eX x.2.2.2.2.2.2.2.2)]]++bK 73 []))))⟩)
abbrev av.L2.X:=(av.L2.X0)⊕(av.L2.X1)
abbrev av.L2.Y:=(av.L2.Y0)⊕(av.L2.Y1)
def av.L2.out:av.L2.X→Out (Exit×AS):=fun x=> .br x.isLeft (.get x.getLeft? fun a=> .ok (av.L2.bw a)) (.get x.getRight? fun b=> .ok (av.L2.eO b))
def av.L2.add:av.L2.D→av.L2.Y→av.L2.X:=fun(n_3,m_2,t66,t67,n2_3,n4L_4,n4L_5,n4_3,n16_3,n32_3,n58_2) y=>match y with | .inl y=> .inl y | .inr z=> .inr (z)
abbrev av.L3.D:=Int×Int×Int×Int×Int×Int×(Int×Unit)×Nat×Nat×(Int×Unit)×eT×(List j5)×jB×Int×Nat×(Int×Unit)×(List j5)×(List fL)×(List Sg)
def av.L3.st:av.L3.D→AS:=fun(n_4,m_3,t66_2,t67_2,t85,t86,n2_4,n4L_6,n4L_7,n4_4,n16_4,n32_4,n32_5,n32_6,n32L,n32_7,n32_8,n58_3,n99)=>⟨([.undef,.undef,.ptr (.new 2 0) 0 [] 0,.undef,.ptr (.new 4 0) 0 [] 0,.ptr (.new 5 0) 0 [] 0,.fn 76 (.cons (.ptr (.new 5 0) 0 [] 0) (.nil)),.d ti n_4,.d ti m_3]++ba 4 ([.ptr (.new 32 0) 0 [.snd,.fst,.snd,.fst] ((0+((Int.toNat t67_2)*36))+33)]++ba 52 ([.d ti t66_2,.d ti t67_2]++ba 17 ([.d ti t85,.d ti t86]++ba 45 [])))),[],([[],[],[.obj 0 false (.pr (.da) (.pr (.da) (.d (.pair ti .unit) n2_4)))],[],[.obj 0 false (.pr (.bU (.new 32 0) 0 [] 0 0 n4L_6) (.pr (.bU (.new 58 0) 0 [] 0 0 n4L_7) (.d (.pair ti .unit) n4_4)))],[.obj 0 false (.ptr (.new 16 0) 0 [] 0)]]++bK 10 ([[.obj 0 false (.d jm n16_4)]]++bK 15 ([[.obj 0 false (.bx 57 36 (.pr (.d (.arr (0+(Int.toNat t67_2)) iK) n32_4) (.pr (.pr (.d iC n32_5) (.pr (.pr (.d ti n32_6) (.pr (.bU (.new 99 0) 0 [] 0 0 n32L) (.d (.pair tu .unit) n32_7))) (.d .unit ()))) (.d (.arr (List.length n32_8) iK) n32_8))))]]++bK 25 ([[.obj 0 false (.vec 62 eX n58_3)]]++bK 40 ([[.obj 0 false (.vec 60 jc n99)]]++bK 32 [])))))⟩
abbrev av.L3.Y0:=eT×(List j5)×(List Sg)
abbrev av.L3.X0:=(Int×Int×Int×Int×(Int×Unit)×Nat×Nat×(Int×Unit)×(List fL))×(eT×(List j5)×(List Sg))
def av.L3.bw:av.L3.X0→Exit×AS:=fun x=>(.exit 6,⟨([.undef,.undef,.ptr (.new 2 0) 0 [] 0,.undef,.ptr (.new 4 0) 0 [] 0,.ptr (.new 5 0) 0 [] 0,.fn 76 (.cons (.ptr (.new 5 0) 0 [] 0) (.nil)),.d ti x.1.1,.d ti x.1.2.1]++ba 4 ([.ptr (.new 32 0) 0 [.idx (0+(Int.toNat x.1.2.2.2.1)),.snd,.fst] ((0+((Int.toNat x.1.2.2.2.1)*36))+33)]++ba 52 ([.d ti x.1.2.2.1,.d ti x.1.2.2.2.1]++ba 64 []))),[],([[],[],[.obj 0 false (.pr (.da) (.pr (.da) (.d (.pair ti .unit) x.1.2.2.2.2.1)))],[],[.obj 0 false (.pr (.bU (.new 32 0) 0 [] 0 0 x.1.2.2.2.2.2.1) (.pr (.bU (.new 58 0) 0 [] 0 0 x.1.2.2.2.2.2.2.1) (.d (.pair ti .unit) x.1.2.2.2.2.2.2.2.1)))],[.obj 0 false (.ptr (.new 16 0) 0 [] 0)]]++bK 10 ([[.obj 0 false (.d jm x.2.1)]]++bK 15 ([[.obj 0 false (.vec 57 iK x.2.2.1)]]++bK 25 ([[.obj 0 false (.vec 62 eX x.1.2.2.2.2.2.2.2.2)]]++bK 40 ([[.obj 0 true (.vec 60 jc x.2.2.2)]]++bK 32 [])))))⟩)
abbrev av.L3.X:=av.L3.X0
abbrev av.L3.Y:=av.L3.Y0
def av.L3.out:av.L3.X→Out (Exit×AS):=fun x=> .ok (av.L3.bw x)
def av.L3.add:av.L3.D→av.L3.Y→av.L3.X:=fun(n_4,m_3,t66_2,t67_2,t85,t86,n2_4,n4L_6,n4L_7,n4_4,n16_4,n32_4,n32_5,n32_6,n32L,n32_7,n32_8,n58_3,n99) y=>((n_4,m_3,t66_2,t67_2,n2_4,n4L_6,n4L_7,n4_4,n58_3),y)
abbrev av.D:=Bs
def av.st:av.D→SA:=fun b=>([.d tB b],[])
abbrev av.Y:=eD×Bool
abbrev av.X:=eD×Bool
def av.out:av.X→aZ:=fun x=>⟨.cons (.d fw x.1) (.cons (.d .bool x.2) (.nil)),[],[]⟩
def av.add:av.D→av.Y→av.X:=fun b y=>y
def av.L0.aD:av.L0.D→Prop:=fun(n,m,i,u,L,v,r,l)=>jn r∧m≤64∧∃k:Nat,i=k∧k≤64∧L=l.length∧l.length=k
def av.L0.F:av.L0.D→av.L0.Y:=fun(n,m,i,u,L,v,r,l)=>(L+(m - i).toNat,(ma (m - i).toNat r).2,l++(ma (m - i).toNat r).1.map BZ)
def av.L1.aD:av.L1.D→Prop:=fun(n,m1,m,i,u,L,L2,v,r,l,os)=>jn r∧m≤64∧∃k:Nat,i=k∧k≤64∧L2=os.length∧os.length=k
def av.L1.F:av.L1.D→av.L1.Y:=fun(n,m1,m,i,u,L,L2,v,r,l,os)=>match mS (m - i).toNat r with | none=> .inl (0,()) | some x=> .inr (L2+x.1.length,x.2,os++x.1)
def av.L3.aD:av.L3.D→Prop:=fun(n,m1,mo,io,m,i,u,L,L2,v,r,la,op,br,Ls,sc,lb,os,sg)=>jn r∧m≤12∧∃k:Nat,i=k∧k≤12∧Ls=sg.length∧sg.length=k
def av.L3.F:av.L3.D→av.L3.Y:=fun(n,m1,mo,io,m,i,u,L,L2,v,r,la,op,br,Ls,sc,lb,os,sg)=>((mI (m - i).toNat r).2,la++(op,(br,some (sg++(mI (m - i).toNat r).1),sc),())::lb,sg++(mI (m - i).toNat r).1)
def av.L2.aD:av.L2.D→Prop:=fun(n,m1,m,i,u,L,L2,v,r,l,os)=>jn r∧l.length≤64∧∃k:Nat,i=k∧k≤l.length∧m=l.length∧L=l.length∧∀x∈l.drop k,x=BZ x.1
def av.L2.F:av.L2.D→av.L2.Y:=fun(n,m1,m,i,u,L,L2,v,r,l,os)=>match mX ((l.drop i.toNat).map (·.1)) r with | none=> .inl (0,()) | some x=> .inr (n,m1,u,L,L2,v,x.2,l.take i.toNat++x.1.map Ex,os)
def av.aD:av.D→Prop:=fun b=>Bytes b∧b.length≤1000000000
def av.F:av.D→av.Y:=fun b=>ig b
noncomputable def av.G:dV:=eY (P:=Tryz.prog) [dN.sg,dC.sg,eh.sg,bI.sg,dg.sg,aT.sg,cq.sg,fE.sg,ei.sg,al.sg]
noncomputable def av.L0.E:=bP.cv av.L0.st av.L0.aD av.L0.add av.L0.F av.L0.out
noncomputable def av.L0.call:av.L0.D→Option av.L0.X:=dk av.L0.E av.L0.st
noncomputable def av.L1.E:=bP.cv av.L1.st av.L1.aD av.L1.add av.L1.F av.L1.out
noncomputable def av.L1.call:av.L1.D→Option av.L1.X:=dk av.L1.E av.L1.st
noncomputable def av.L2.E:=bP.cv av.L2.st av.L2.aD av.L2.add av.L2.F av.L2.out
noncomputable def av.L2.call:av.L2.D→Option av.L2.X:=dk av.L2.E av.L2.st
noncomputable def av.L3.E:=bP.cv av.L3.st av.L3.aD av.L3.add av.L3.F av.L3.out
noncomputable def av.L3.call:av.L3.D→Option av.L3.X:=dk av.L3.E av.L3.st
noncomputable def av.an:eJ:= {bN:=[100031,100032],loops:=jJ [(6,{bn:=[2,4,5,6,7,20,21],sites:=[2,4,5,16,32],iH:=[⟨4,[.fst],32,100036⟩]}),(11,{bn:=[2,4,5,6,7,8,37,38],sites:=[2,4,5,16,32,58],iH:=[⟨4,[.snd,.fst],58,37⟩]}),(21,{bn:=[2,4,5,6,7,8,66,67],sites:=[2,4,5,16,32,58]}),(29,{bn:=[2,4,5,6,7,8,13,66,67,85,86],sites:=[2,4,5,16,32,58,99],iH:=[⟨13,[.snd,.fst],99,51⟩],Fb:=[13]})],outs:=jI [(6,{bn:=[2,4,5,6,7],sites:=[2,4,5,16,32]},{bn:=[2,3]}),(11,{bn:=[2,4,5,6,7,8],sites:=[2,4,5,16,32,58]},{bn:=[2,3],sites:=[2]}),(21,{bn:=[2,4,5,7,8],sites:=[2,4,5,16,32,58]},{bn:=[2,3],sites:=[2]}),(29,{bn:=[2,4,5,6,7,8,13,66,67],sites:=[2,4,5,16,32,58,99],Fi:=[13]},{bn:=[2,3]})],fJ:=kz [(6,av.L0.E),(11,av.L1.E),(21,av.L2.E),(29,av.L3.E)],res:=[some fw,none]}
noncomputable def av.A:= @cK Tryz.prog av.G av.an 0 Tryz.f24 _ av.st
abbrev av.Ok:=cM @av.A av.aD av.add av.F av.out
noncomputable def av.L0.R:= @bV Tryz.prog av.G av.an 0 Tryz.f24 0 _ av.L0.st
abbrev av.L0.Ok:=eA Tryz.prog av.G av.an 0 Tryz.f24 0 av.L0.st av.L0.aD av.L0.add av.L0.F av.L0.out
noncomputable def av.L1.R:= @bV Tryz.prog av.G av.an 0 Tryz.f24 1 _ av.L1.st
abbrev av.L1.Ok:=eA Tryz.prog av.G av.an 0 Tryz.f24 1 av.L1.st av.L1.aD av.L1.add av.L1.F av.L1.out
noncomputable def av.L2.R:= @bV Tryz.prog av.G av.an 0 Tryz.f24 2 _ av.L2.st
abbrev av.L2.Ok:=eA Tryz.prog av.G av.an 0 Tryz.f24 2 av.L2.st av.L2.aD av.L2.add av.L2.F av.L2.out
noncomputable def av.L3.R:= @bV Tryz.prog av.G av.an 0 Tryz.f24 3 _ av.L3.st
abbrev av.L3.Ok:=eA Tryz.prog av.G av.an 0 Tryz.f24 3 av.L3.st av.L3.aD av.L3.add av.L3.F av.L3.out
theorem av.L0.run:bE av.L0.call av.L0.aD av.L0.add av.L0.F:=eK (eI [.d ti,.d ti,.d ti,.d (.pair ti .unit),.n,.d (.pair ti .unit),.d jm,.d (.slice iK)] fun _=>by kernel_rfl)
theorem av.L0.aG:fX @av.L0.R av.L0.st av.L0.aD av.L0.add av.L0.F av.L0.bw av.L0.Ok:=gf
theorem av.L0.step{R:Type}(n:Int)(t20:Int)(t21:Int)(n2:(Int×Unit))(n4L:Nat)(n4:(Int×Unit))(n16:eT)(n32:(List j5))(kn:AS→Option R)(kx:Exit→AS→Option R):av.L0.R (n,t20,t21,n2,n4L,n4,n16,n32) kn kx=
  aF ((gb t21 t20)) (
   ae (eh.call n16) fun x7=>
   ae (bI.call x7.2) fun x8=>
   aF (decide (n4L≤(List.length n32))) (
   aF (du (n4L+1) 80) (
   kn (av.L0.st (n,t20,(bO .i64 t21 (1:Int)),n2,(n4L+1),n4,x8.2,((List.take n4L n32)++ [((x7.1,(x8.1,())),(((0:Int),(none,((0:Int),()))),()))])))) none) none) (
   kx (av.L0.bw ((n,n2,n4),(n4L,n16,n32))).1 (av.L0.bw ((n,n2,n4),(n4L,n16,n32))).2):=by kernel_rfl
theorem av.L1.run:bE av.L1.call av.L1.aD av.L1.add av.L1.F:=eK (eI [.d ti,.d ti,.d ti,.d ti,.d (.pair ti .unit),.n,.n,.d (.pair ti .unit),.d jm,.d (.slice iK),.d (.slice eX)] fun _=>by kernel_rfl)
theorem av.L1.aG:iO @av.L1.R av.L1.st av.L1.aD av.L1.add av.L1.F av.L1.out av.L1.Ok:=jk
theorem av.L1.step{R:Type}(n_2:Int)(m:Int)(t37:Int)(t38:Int)(n2_2:(Int×Unit))(n4L_2:Nat)(n4L_3:Nat)(n4_2:(Int×Unit))(n16_2:eT)(n32_2:(List j5))(n58:(List fL))(kn:AS→Option R)(kx:Exit→AS→Option R):av.L1.R (n_2,m,t37,t38,n2_2,n4L_2,n4L_3,n4_2,n16_2,n32_2,n58) kn kx=
  aF ((gb t38 t37)) (
   ae (bI.call n16_2) fun x16=>
   ae (dg.call x16.2) fun x23=>
   ae (aT.call x23.1) fun x24=>
   aF ((!x24.2)) (
    kx (av.L1.bw ((0:Int),())).1 (av.L1.bw ((0:Int),())).2) (
    aF (decide (n4L_3≤(List.length n58))) (
    aF (du (n4L_3+1) 32) (
    kn (av.L1.st (n_2,m,t37,(bO .i64 t38 (1:Int)),n2_2,n4L_2,(n4L_3+1),n4_2,x23.2,n32_2,((List.take n4L_3 n58)++ [(x16.1,(x24.1,()))])))) none) none)) (
   kx (av.L1.eO ((n_2,m,n2_2,n4L_2,n4_2,n32_2),(n4L_3,n16_2,n58))).1 (av.L1.eO ((n_2,m,n2_2,n4L_2,n4_2,n32_2),(n4L_3,n16_2,n58))).2):=by kernel_rfl
theorem av.L2.run:bE av.L2.call av.L2.aD av.L2.add av.L2.F:=eK (eI [.d ti,.d ti,.d ti,.d ti,.d (.pair ti .unit),.n,.n,.d (.pair ti .unit),.d jm,.d (.slice iK),.d (.slice eX)] fun _=>by kernel_rfl)
theorem av.L2.aG:iO @av.L2.R av.L2.st av.L2.aD av.L2.add av.L2.F av.L2.out av.L2.Ok:=jk
theorem av.L2.step{R:Type}(n_3:Int)(m_2:Int)(t66:Int)(t67:Int)(n2_3:(Int×Unit))(n4L_4:Nat)(n4L_5:Nat)(n4_3:(Int×Unit))(n16_3:eT)(n32_3:(List j5))(n58_2:(List fL))(kn:AS→Option R)(kx:Exit→AS→Option R):av.L2.R (n_3,m_2,t66,t67,n2_3,n4L_4,n4L_5,n4_3,n16_3,n32_3,n58_2) kn kx=
  aF ((gb t67 t66)) (
   aF (dS t67 ((n4L_4:Nat):Int)) (
   ae (bI.call n16_3) fun x16=>
   aF (decide ((0+(Int.toNat t67)) < (List.length n32_3))) (
   aF (decide ((((0+(Int.toNat t67))*36)+33)=(((0+((Int.toNat t67)*36))+33)+0))) (
   aF (decide ((0+(Int.toNat t67)) < (List.length n32_3))) (
   ae (dC.call ((12:Int),x16.2)) fun x20=>
   aF ((gb x20.1 (0:Int))) (
    kx (av.L2.bw ((0:Int),())).1 (av.L2.bw ((0:Int),())).2) (
    aF (decide ((0+(Int.toNat t67)) < (List.length (List.set n32_3 (0+(Int.toNat t67)) ((nth iK n32_3 (0+(Int.toNat t67))).1,((x16.1,(nth iK n32_3 (0+(Int.toNat t67))).2.1.2),(nth iK n32_3 (0+(Int.toNat t67))).2.2)))))) (
    aF ((Option.isNone (nth iK (List.set n32_3 (0+(Int.toNat t67)) ((nth iK n32_3 (0+(Int.toNat t67))).1,((x16.1,(nth iK n32_3 (0+(Int.toNat t67))).2.1.2),(nth iK n32_3 (0+(Int.toNat t67))).2.2))) (0+(Int.toNat t67))).2.1.2.1)) (
    ae (av.L3.call (n_3,m_2,t66,t67,x20.1,(0:Int),n2_3,n4L_4,n4L_5,n4_3,x20.2,(List.take (0+(Int.toNat t67)) (List.set n32_3 (0+(Int.toNat t67)) ((nth iK n32_3 (0+(Int.toNat t67))).1,((x16.1,(nth iK n32_3 (0+(Int.toNat t67))).2.1.2),(nth iK n32_3 (0+(Int.toNat t67))).2.2)))),((nth iK (List.set n32_3 (0+(Int.toNat t67)) ((nth iK n32_3 (0+(Int.toNat t67))).1,((x16.1,(nth iK n32_3 (0+(Int.toNat t67))).2.1.2),(nth iK n32_3 (0+(Int.toNat t67))).2.2))) (0+(Int.toNat t67))).1.1,((nth iK (List.set n32_3 (0+(Int.toNat t67)) ((nth iK n32_3 (0+(Int.toNat t67))).1,((x16.1,(nth iK n32_3 (0+(Int.toNat t67))).2.1.2),(nth iK n32_3 (0+(Int.toNat t67))).2.2))) (0+(Int.toNat t67))).1.2.1,(nth iK (List.set n32_3 (0+(Int.toNat t67)) ((nth iK n32_3 (0+(Int.toNat t67))).1,((x16.1,(nth iK n32_3 (0+(Int.toNat t67))).2.1.2),(nth iK n32_3 (0+(Int.toNat t67))).2.2))) (0+(Int.toNat t67))).1.2.2)),(nth iK (List.set n32_3 (0+(Int.toNat t67)) ((nth iK n32_3 (0+(Int.toNat t67))).1,((x16.1,(nth iK n32_3 (0+(Int.toNat t67))).2.1.2),(nth iK n32_3 (0+(Int.toNat t67))).2.2))) (0+(Int.toNat t67))).2.1.1,0,((nth iK (List.set n32_3 (0+(Int.toNat t67)) ((nth iK n32_3 (0+(Int.toNat t67))).1,((x16.1,(nth iK n32_3 (0+(Int.toNat t67))).2.1.2),(nth iK n32_3 (0+(Int.toNat t67))).2.2))) (0+(Int.toNat t67))).2.1.2.2.1,(nth iK (List.set n32_3 (0+(Int.toNat t67)) ((nth iK n32_3 (0+(Int.toNat t67))).1,((x16.1,(nth iK n32_3 (0+(Int.toNat t67))).2.1.2),(nth iK n32_3 (0+(Int.toNat t67))).2.2))) (0+(Int.toNat t67))).2.1.2.2.2),(List.drop ((0+(Int.toNat t67))+1) (List.set n32_3 (0+(Int.toNat t67)) ((nth iK n32_3 (0+(Int.toNat t67))).1,((x16.1,(nth iK n32_3 (0+(Int.toNat t67))).2.1.2),(nth iK n32_3 (0+(Int.toNat t67))).2.2)))),n58_2,([]:List Sg))) fun x22=>
    ae (cq.call x22.2.1) fun x24=>
    aF (decide ((0+(Int.toNat x22.1.2.2.2.1)) < (List.length x22.2.2.1))) (
    aF (decide ((((0+(Int.toNat x22.1.2.2.2.1))*36)+35)=(((0+((Int.toNat x22.1.2.2.2.1)*36))+33)+2))) (
    aF (decide ((0+(Int.toNat x22.1.2.2.2.1)) < (List.length x22.2.2.1))) (
    kn (av.L2.st (x22.1.1,x22.1.2.1,x22.1.2.2.1,(bO .i64 x22.1.2.2.2.1 (1:Int)),x22.1.2.2.2.2.1,x22.1.2.2.2.2.2.1,x22.1.2.2.2.2.2.2.1,x22.1.2.2.2.2.2.2.2.1,x24.2,(List.set x22.2.2.1 (0+(Int.toNat x22.1.2.2.2.1)) ((nth iK x22.2.2.1 (0+(Int.toNat x22.1.2.2.2.1))).1,(((nth iK x22.2.2.1 (0+(Int.toNat x22.1.2.2.2.1))).2.1.1,((nth iK x22.2.2.1 (0+(Int.toNat x22.1.2.2.2.1))).2.1.2.1,(x24.1,(nth iK x22.2.2.1 (0+(Int.toNat x22.1.2.2.2.1))).2.1.2.2.2))),(nth iK x22.2.2.1 (0+(Int.toNat x22.1.2.2.2.1))).2.2))),x22.1.2.2.2.2.2.2.2.2))) none) none) none) none) none)) none) none) none) none) (
   kx (av.L2.eO (n_3,m_2,n2_3,n4L_4,n4L_5,n4_3,n16_3,n32_3,n58_2)).1 (av.L2.eO (n_3,m_2,n2_3,n4L_4,n4L_5,n4_3,n16_3,n32_3,n58_2)).2):=by kernel_rfl
theorem av.L3.run:bE av.L3.call av.L3.aD av.L3.add av.L3.F:=eK (eI [.d ti,.d ti,.d ti,.d ti,.d ti,.d ti,.d (.pair ti .unit),.n,.n,.d (.pair ti .unit),.d jm,.d (.slice iK),.d iC,.d ti,.n,.d (.pair tu .unit),.d (.slice iK),.d (.slice eX),.d (.slice jc)] fun _=>by kernel_rfl)
theorem av.L3.aG:fX @av.L3.R av.L3.st av.L3.aD av.L3.add av.L3.F av.L3.bw av.L3.Ok:=gf
theorem av.L3.step{R:Type}(n_4:Int)(m_3:Int)(t66_2:Int)(t67_2:Int)(t85:Int)(t86:Int)(n2_4:(Int×Unit))(n4L_6:Nat)(n4L_7:Nat)(n4_4:(Int×Unit))(n16_4:eT)(n32_4:(List j5))(n32_5:jB)(n32_6:Int)(n32L:Nat)(n32_7:(Int×Unit))(n32_8:(List j5))(n58_3:(List fL))(n99:(List Sg))(kn:AS→Option R)(kx:Exit→AS→Option R):av.L3.R (n_4,m_3,t66_2,t67_2,t85,t86,n2_4,n4L_6,n4L_7,n4_4,n16_4,n32_4,n32_5,n32_6,n32L,n32_7,n32_8,n58_3,n99) kn kx=
  aF ((gb t86 t85)) (
   aF (decide ((((0+(Int.toNat t67_2))*36)+34)=(((0+((Int.toNat t67_2)*36))+33)+1))) (
   ae (cq.call n16_4) fun x7=>
   ae (cq.call x7.2) fun x8=>
   aF (decide (n32L≤(List.length n99))) (
   aF (du (n32L+1) 16) (
   aF (decide ((((0+(Int.toNat t67_2))*36)+34)=(((0+((Int.toNat t67_2)*36))+33)+1))) (
   kn (av.L3.st (n_4,m_3,t66_2,t67_2,t85,(bO .i64 t86 (1:Int)),n2_4,n4L_6,n4L_7,n4_4,x8.2,n32_4,n32_5,n32_6,(n32L+1),n32_7,n32_8,n58_3,((List.take n32L n99)++ [(x7.1,(x8.1,()))])))) none) none) none) none) (
   aF (decide (0=0∧(0+n32L)≤(List.length n99))) (
   kx (av.L3.bw ((n_4,m_3,t66_2,t67_2,n2_4,n4L_6,n4L_7,n4_4,n58_3),(n16_4,(n32_4++(n32_5,((n32_6,((some (cut n99 0 n32L)),n32_7)),()))::n32_8),n99))).1 (av.L3.bw ((n_4,m_3,t66_2,t67_2,n2_4,n4L_6,n4L_7,n4_4,n58_3),(n16_4,(n32_4++(n32_5,((n32_6,((some (cut n99 0 n32L)),n32_7)),()))::n32_8),n99))).2) none):=by kernel_rfl
theorem av.eq{R:Type}(b:Bs)(k:aZ→Option R):av.A b k=
  ae (dN.call b) fun x4=>
  ae (dC.call ((64:Int),x4)) fun x8=>
  ae (av.L0.call (x8.1,x8.1,(0:Int),((0:Int),()),0,((0:Int),()),x8.2,([]:List j5))) fun x26=>
  ae (dC.call ((64:Int),x26.2.2.1)) fun x30=>
  ae (av.L1.call (x26.1.1,x30.1,x30.1,(0:Int),x26.1.2.1,x26.2.1,0,x26.1.2.2,x30.2,x26.2.2.2,([]:List fL))) fun x82=>
  aF (x82.isLeft) (
   ae (x82.getLeft?) fun a83=>
   k (av.out ((([]:List eR),(([]:List fL),a83)),false))) (
   ae (x82.getRight?) fun b84=>
   ae (bI.call b84.2.2.1) fun x88=>
   ae (av.L2.call (b84.1.1,b84.1.2.1,((b84.1.2.2.2.1:Nat):Int),(0:Int),b84.1.2.2.1,b84.1.2.2.2.1,b84.2.1,(x88.1,b84.1.2.2.2.2.1.2),x88.2,b84.1.2.2.2.2.2,b84.2.2.2)) fun x124=>
   aF (x124.isLeft) (
    ae (x124.getLeft?) fun a125=>
    k (av.out ((([]:List eR),(([]:List fL),a125)),false))) (
    ae (x124.getRight?) fun b126=>
    aF ((gb b126.1 (0:Int))) (
     k (av.out ((([]:List eR),(([]:List fL),((0:Int),()))),false))) (
     aF ((gb b126.2.1 (0:Int))) (
      k (av.out ((([]:List eR),(([]:List fL),((0:Int),()))),false))) (
      ae (fE.call b126.2.2.2.2.2.2.1) fun x136=>
      aF ((!x136.2)) (
       k (av.out ((([]:List eR),(([]:List fL),((0:Int),()))),false))) (
       ae (ei.call x136.1) fun x137=>
       aF ((mv x137.2 (0:Int))) (
        k (av.out ((([]:List eR),(([]:List fL),((0:Int),()))),false))) (
        aF (decide (0=0∧(0+b126.2.2.2.1)≤(List.length b126.2.2.2.2.2.2.2.1))) (
        aF (decide (0=0∧(0+b126.2.2.2.2.1)≤(List.length b126.2.2.2.2.2.2.2.2))) (
        ae (al.call ((DL (.slice iK) (.slice cH) (cut b126.2.2.2.2.2.2.2.1 0 b126.2.2.2.1)),((cut b126.2.2.2.2.2.2.2.2 0 b126.2.2.2.2.1),b126.2.2.2.2.2.1))) fun x138=>
        aF ((!x138)) (
         k (av.out ((([]:List eR),(([]:List fL),((0:Int),()))),false))) (
         aF (decide (0=0∧(0+b126.2.2.2.1)≤(List.length b126.2.2.2.2.2.2.2.1))) (
         aF (decide (0=0∧(0+b126.2.2.2.2.1)≤(List.length b126.2.2.2.2.2.2.2.2))) (
         k (av.out (((DL (.slice iK) (.slice cH) (cut b126.2.2.2.2.2.2.2.1 0 b126.2.2.2.1)),((cut b126.2.2.2.2.2.2.2.2 0 b126.2.2.2.2.1),b126.2.2.2.2.2.1)),true))) none) none)) none) none)))))):=by kernel_rfl
theorem av.L0.ok:av.L0.Ok:=by
 refine av.L0.aG (fun(n,m,i,u,L,v,r,l)=>(m - i).toNat) ?_
 rintro⟨n,m,i,u,L,v,r,l⟩ ⟨hr,hm,k,rfl,hk,rfl,hlk⟩
 have hr:jn r:=hr
 have hm:m≤64:=hm
 have hlk:l.length=k:=hlk
 by_cases h:(k:Int) < m
 ·left
  have e1:(m - (k:Int)).toNat=(m - ((k+1:Nat):Int)).toNat+1:=by omega
  have h1:=v8 hr
  refine⟨(n,m,((k+1:Nat):Int),u,l.length+1,v,(CV r).2,l++ [BZ (CV r).1]),⟨(ir h1.1).1.1,hm,k+1,rfl,by omega,by rw[List.length_append];rfl,by rw[List.length_append];show l.length+1=_;omega⟩,by show(m - ((k+1:Nat):Int)).toNat < (m - (k:Int)).toNat;omega,?_,fun kn kx=> ?_⟩
  ·simp only[av.L0.add,av.L0.F,e1,ma,List.map_cons,List.append_assoc,List.singleton_append]
   rw[show ∀a c:Nat,a+1+c=a+(c+1) from fun a c=>by omega]
  ·rw[av.L0.step,bA h,eh.run (d:=r) hr.1]
   simp only[ay,aa,eh.add,eh.F]
   rw[bI.run (d:=(nB r).2) h1.1.1]
   simp only[aa,bI.add,bI.F]
   rw[aR (Nat.le_refl _),eN (by omega) (by omega),N.kr (by omega),List.take_length]
   rfl
 ·right
  intro R kn kx
  have e1:(m - (k:Int)).toNat=0:=by omega
  rw[av.L0.step,bm h,ao]
  simp only[av.L0.add,av.L0.F,e1,ma,List.map_nil,List.append_nil,Nat.add_zero]
theorem av.L1.ok:av.L1.Ok:=by
 refine av.L1.aG (fun(n,m1,m,i,u,L,L2,v,r,l,os)=>(m - i).toNat) ?_
 rintro⟨n,m1,m,i,u,L,L2,v,r,l,os⟩ ⟨hr,hm,k,rfl,hk,rfl,hlk⟩
 have hr:jn r:=hr
 have hm:m≤64:=hm
 have hlk:os.length=k:=hlk
 by_cases h:(k:Int) < m
 ·have e1:(m - (k:Int)).toNat=(m - ((k+1:Nat):Int)).toNat+1:=by omega
  have h1:=ir hr
  have h2:=uB h1.1.1
  have step:∀ {R:Type} (kn:AS→Option R) (kx:Exit→AS→Option R),av.L1.R (n,m1,m,(k:Int),u,L,os.length,v,r,l,os) kn kx=aF (!(mT (m0 (di r).2).1).2) (kx (av.L1.bw (0,())).1 (av.L1.bw (0,())).2) (kn (av.L1.st (n,m1,m,((k+1:Nat):Int),u,L,os.length+1,v,(se r).2,l,os++ [(se r).1]))):=by
   intro R kn kx
   rw[av.L1.step,bA h,bI.run (d:=r) hr.1]
   simp only[ay,aa,bI.add,bI.F]
   rw[dg.run (d:=(di r).2) h1.1.1.1]
   simp only[aa,dg.add,dg.F]
   rw[aT.run (d:=(m0 (di r).2).1) ⟨h2.2.1,h2.2.2⟩]
   simp only[aa,aT.add,aT.F]
   rw[aR (Nat.le_refl _),eN (by omega) (by omega),N.kr (by omega),List.take_length]
   rfl
  cases hp:(mT (m0 (di r).2).1).2
  ·right
   refine⟨av.L1.bw (0,()),?_,fun kn kx=> ?_⟩
   ·simp only[av.L1.add,av.L1.F,e1,mS,hp,Bool.false_eq_true,if_false]
    rfl
   ·rw[step,hp];rfl
  ·left
   refine⟨(n,m1,m,((k+1:Nat):Int),u,L,os.length+1,v,(se r).2,l,os++ [(se r).1]),⟨h2.1.1,hm,k+1,rfl,by omega,by rw[List.length_append];rfl,by rw[List.length_append];show os.length+1=_;omega⟩,by show(m - ((k+1:Nat):Int)).toNat < (m - (k:Int)).toNat;omega,?_,fun kn kx=> ?_⟩
   ·simp only[av.L1.add,av.L1.F,e1,mS,hp,if_true]
    cases mS (m - ((k+1:Nat):Int)).toNat (se r).2 with
    |none=>rfl
    |some x=>
     simp only[List.length_cons,List.append_assoc,List.singleton_append]
     rw[show ∀a c:Nat,a+1+c=a+(c+1) from fun a c=>by omega]
   ·rw[step,hp];rfl
 ·right
  have e1:(m - (k:Int)).toNat=0:=by omega
  refine⟨av.L1.eO ((n,m1,u,L,v,l),(os.length,r,os)),?_,fun kn kx=> ?_⟩
  ·simp only[av.L1.add,av.L1.F,e1,mS,List.length_nil,Nat.add_zero,List.append_nil]
   rfl
  ·rw[av.L1.step,bm h,ao]
theorem av.L3.ok:av.L3.Ok:=by
 refine av.L3.aG (fun(n,m1,mo,io,m,i,u,L,L2,v,r,la,op,br,Ls,sc,lb,os,sg)=>(m - i).toNat) ?_
 rintro⟨n,m1,mo,io,m,i,u,L,L2,v,r,la,op,br,Ls,sc,lb,os,sg⟩ ⟨hr,hm,k,rfl,hk,rfl,hlk⟩
 have hr:jn r:=hr
 have hm:m≤12:=hm
 have hlk:sg.length=k:=hlk
 by_cases h:(k:Int) < m
 ·left
  have e1:(m - (k:Int)).toNat=(m - ((k+1:Nat):Int)).toNat+1:=by omega
  have h1:=om hr
  have h2:=om h1.1
  refine⟨(n,m1,mo,io,m,((k+1:Nat):Int),u,L,L2,v,(CY r).2,la,op,br,sg.length+1,sc,lb,os,sg++ [(CY r).1]),⟨h2.1,hm,k+1,rfl,by omega,by rw[List.length_append];rfl,by rw[List.length_append];show sg.length+1=_;omega⟩,by show(m - ((k+1:Nat):Int)).toNat < (m - (k:Int)).toNat;omega,?_,fun kn kx=> ?_⟩
  ·simp only[av.L3.add,av.L3.F,e1,mI,List.append_assoc,List.singleton_append]
  ·rw[av.L3.step,bA h,aR (by omega),cq.run (d:=r) hr.1]
   simp only[ay,aa,cq.add,cq.F]
   rw[cq.run (d:=(iL r).2) h1.1.1]
   simp only[aa,cq.add,cq.F]
   rw[aR (Nat.le_refl _),eN (by omega) (by omega),N.kr (by omega),List.take_length]
   rfl
 ·right
  intro R kn kx
  have e1:(m - (k:Int)).toNat=0:=by omega
  rw[av.L3.step,bm h,ao]
  simp only[av.L3.add,av.L3.F,e1,mI,List.append_nil,Nat.zero_add,Nat.le_refl,and_self,decide_true,ay,eV]
theorem av.L2.ok:av.L2.Ok:=by
 refine av.L2.aG (fun(n,m1,m,i,u,L,L2,v,r,l,os)=>l.length - i.toNat) ?_
 rintro⟨n,m1,m,i,u,L,L2,v,r,l,os⟩ ⟨hr,hl,k,rfl,hk,rfl,rfl,hg⟩
 have hr:jn r:=hr
 have hl:l.length≤64:=hl
 have hk:k≤l.length:=hk
 by_cases h:k < l.length
 ·have n1:nth iK l k=l[k]:=bZ (t:=iK) h
  have hd:l.drop k=l[k]::l.drop (k+1):=List.drop_eq_getElem_cons h
  have hop:l[k]=BZ l[k].1:=hg _ (by rw[hd];exact List.mem_cons_self)
  obtain⟨op,hop2⟩:∃op,l[k].1=op:=⟨_,rfl⟩
  rw[hop2]at hop
  have h1:=ir hr
  have h2:=uj h1.1.1 12
  have h3:=zo h1.1.1.1 (m:=12) (by decide)
  have hw:=zp hr
  have hu:=om hw.1
  have hat:(l.take k).length=k:=by rw[List.length_take];omega
  have step:∀ {R:Type} (kn:AS→Option R) (kx:Exit→AS→Option R),av.L2.R (n,m1,(l.length:Int),(k:Int),u,l.length,L2,v,r,l,os) kn kx=aF (gb (lj 12 (di r).2).1 0) (kx (av.L2.bw (0,())).1 (av.L2.bw (0,())).2) (kn (av.L2.st (n,m1,(l.length:Int),((k+1:Nat):Int),u,l.length,L2,v,(iL (jT r).2).2,l.take k++(op,((di r).1,some (jT r).1,(iL (jT r).2).1,()),())::l.drop (k+1),os))):=by
   intro R kn kx
   rw[av.L2.step,bA (by omega),bh (by omega) (by omega),bI.run (d:=r) hr.1]
   have ns:∀y:j5,nth iK (l.set k y) k=y:=fun y=>yZ (t:=iK) h
   have nm:∀(y:j5) (b:List j5),nth iK (l.take k++y::b) k=y:=fun y b=>Cu (t:=iK) hat
   simp only[ay,aa,bI.add,bI.F,Int.toNat_natCast,Nat.zero_add,Nat.add_zero,n1,hop,aR h,decide_true]
   rw[dC.run (d:=(12,(di r).2)) h1.1.1.1]
   simp only[ay,aa,dC.add,dC.F]
   refine congrArg (fun z=>aF _ _ z) ?_
   simp only[List.length_set,aR h,ay,BZ,ns,An,zH,Option.isNone_none]
   rw[av.L3.run (d:=(n,m1,(l.length:Int),(k:Int),(lj 12 (di r).2).1,0,u,l.length,L2,v,(lj 12 (di r).2).2,l.take k,op,(di r).1,0,(0,()),l.drop (k+1),os,[])) ⟨h2,h3.2,0,rfl,by decide,rfl,rfl⟩]
   simp only[aa,av.L3.add,av.L3.F,Int.sub_zero,List.nil_append]
   rw[show mI (lj 12 (di r).2).1.toNat (lj 12 (di r).2).2=jT r from rfl,cq.run (d:=(jT r).2) hw.1.1]
   simp only[aa,cq.add,cq.F,Int.toNat_natCast,nm,Cy hat,aR (show k < (l.take k++(op,((di r).1,some (jT r).1,0,()),())::l.drop (k+1)).length by rw[List.length_append,List.length_cons];omega),Nat.add_assoc,Nat.reduceAdd,decide_true,ay]
   rw[N.kr (by omega)]
  by_cases hp:(lj 12 (di r).2).1 < 0
  ·right
   refine⟨av.L2.bw (0,()),?_,fun kn kx=> ?_⟩
   ·simp only[av.L2.add,av.L2.F,Int.toNat_natCast,hd,List.map_cons,mX,yz,if_pos hp]
    rfl
   ·rw[step,bA hp,ay]
  ·left
   have hl2:(l.take k++(op,((di r).1,some (jT r).1,(iL (jT r).2).1,()),())::l.drop (k+1)).length=l.length:=by
    rw[List.length_append,List.length_cons,List.length_drop];omega
   have hd2:(l.take k++(op,((di r).1,some (jT r).1,(iL (jT r).2).1,()),())::l.drop (k+1)).drop (k+1)=l.drop (k+1):=by
    rw[List.append_cons,List.drop_left' (by rw[List.length_append];show(l.take k).length+1=_;omega)]
   have ht2:(l.take k++(op,((di r).1,some (jT r).1,(iL (jT r).2).1,()),())::l.drop (k+1)).take (k+1)=l.take k++ [(op,((di r).1,some (jT r).1,(iL (jT r).2).1,()),())]:=by
    rw[List.append_cons,List.take_left' (by rw[List.length_append];show(l.take k).length+1=_;omega)]
   refine⟨(n,m1,(l.length:Int),((k+1:Nat):Int),u,l.length,L2,v,(iL (jT r).2).2,l.take k++(op,((di r).1,some (jT r).1,(iL (jT r).2).1,()),())::l.drop (k+1),os),⟨hu.1,by rw[hl2];exact hl,k+1,rfl,by rw[hl2];omega,by rw[hl2],by rw[hl2],by rw[hd2];exact fun x hx=>hg x (by rw[hd];exact List.mem_cons_of_mem _ hx)⟩,by simp only[Int.toNat_natCast,hl2];omega,?_,fun kn kx=> ?_⟩
   ·simp only[av.L2.add,av.L2.F,Int.toNat_natCast,hd2,ht2,hd,List.map_cons,mX,yz,if_neg hp,hop2]
    cases mX ((l.drop (k+1)).map (·.1)) (iL (jT r).2).2 with
    |none=>rfl
    |some x=>
     simp only[List.map_cons,List.append_assoc,List.singleton_append]
     rfl
   ·rw[step,bm hp,ao]
 ·right
  obtain rfl:k=l.length:=by omega
  refine⟨av.L2.eO (n,m1,u,l.length,L2,v,r,l,os),?_,fun kn kx=> ?_⟩
  ·simp only[av.L2.add,av.L2.F,Int.toNat_natCast,List.drop_length,List.map_nil,mX,List.take_length,List.append_nil]
   rfl
  ·rw[av.L2.step,bm (by omega),ao]
theorem Cq(l:List jB):(l.map BZ).map (·.1)=l:=by
 rw[List.map_map]
 have:((fun x:j5=>x.1)∘BZ)=id:=rfl
 rw[this,List.map_id]
theorem av.ok:av.Ok:=by
 rintro b ⟨hb,hl⟩
 have hb:Bytes b:=hb
 have hl:b.length≤1000000000:=hl
 have k0:=zd hb hl
 have k1:=uj k0 64
 have u1:=zo k0.1 (m:=64) (by decide)
 rw[av.eq,dN.run (d:=b) hl]
 simp only[aa,dN.add,dN.F,av.add,av.F,ig]
 rw[dC.run (d:=(64,(b,false,()))) k0.1]
 simp only[aa,dC.add,dC.F]
 generalize lj 64 (b,false,())=n at*
 have o2:=u7 n.1.toNat k1
 rw[av.L0.run (d:=(n.1,n.1,0,(0,()),0,(0,()),n.2,[])) ⟨k1,u1.2,0,rfl,by decide,rfl,rfl⟩]
 simp only[aa,av.L0.add,av.L0.F,Int.sub_zero,List.nil_append,Nat.zero_add]
 generalize ma n.1.toNat n.2=ops at*
 have k3:=uj o2.1.1 64
 have u3:=zo o2.1.1.1 (m:=64) (by decide)
 rw[dC.run (d:=(64,ops.2)) o2.1.1.1]
 simp only[aa,dC.add,dC.F]
 generalize lj 64 ops.2=m at*
 rw[av.L1.run (d:=(n.1,m.1,m.1,0,(0,()),n.1.toNat,0,(0,()),m.2,ops.1.map BZ,[])) ⟨k3,u3.2,0,rfl,by decide,rfl,rfl⟩]
 simp only[aa,av.L1.add,av.L1.F,Int.sub_zero,List.nil_append,Nat.zero_add]
 cases hx:mS m.1.toNat m.2 with
 |none=>rfl
 |some x=>
  have o4:=sh _ k3 hx
  have o5:=ir o4.1.1
  have ol:(ops.1.map BZ).length=n.1.toNat:=by rw[List.length_map];exact o2.2.1
  simp only[Sum.isLeft_inr,Sum.getRight?_inr,ao,aa]
  rw[bI.run (d:=x.2) o4.1.1.1]
  simp only[aa,bI.add,bI.F]
  rw[av.L2.run (d:=(n.1,m.1,(n.1.toNat:Int),0,(0,()),n.1.toNat,x.1.length,((di x.2).1,()),(di x.2).2,ops.1.map BZ,x.1)) ⟨o5.1.1,by rw[ol];omega,0,rfl,Nat.zero_le _,by rw[ol],by rw[ol],fun z hz=>by
   rw[List.drop_zero]at hz
   obtain⟨o,_,rfl⟩:=List.mem_map.1 hz
   rfl⟩]
  simp only[aa,av.L2.add,av.L2.F,Int.toNat_zero,List.drop_zero,List.take_zero,List.nil_append,Cq,wA]
  cases hy:mX ops.1 (di x.2).2 with
  |none=>rfl
  |some y=>
   have o6:=sV _ o5.1.1 hy
   have yl:y.1.length=n.1.toNat:=by rw[←o2.2.1,←o6.2.1,List.length_map]
   have yl2:(y.1.map Ex).length=n.1.toNat:=by rw[List.length_map];exact yl
   simp only[Sum.isLeft_inr,Sum.getRight?_inr,ao,aa,vT]
   by_cases c1:n.1 < 0
   ·rw[bA c1,ay,if_pos (Or.inl c1)];rfl
   rw[bm c1,ao]
   by_cases c2:m.1 < 0
   ·rw[bA c2,ay,if_pos (Or.inr (Or.inl c2))];rfl
   rw[bm c2,ao,fE.run (d:=y.2) trivial]
   simp only[aa,fE.add,fE.F,Bool.not_not]
   cases c3:y.2.2.1
   ·rw[ao,ei.run (d:=y.2) trivial]
    simp only[aa,ei.add,ei.F]
    by_cases c4:0 < y.2.1.length
    ·rw[dG (by omega),ay,if_pos (Or.inr (Or.inr (Or.inr (Or.inl c4))))];rfl
    ·rw[dx (by omega),ao,aR ⟨by trivial,by omega⟩,aR ⟨by trivial,by omega⟩,eV yl2,eV rfl,Dc,DG]
     simp only[ay]
     rw[al.run (d:=(y.1,x.1,(di x.2).1,())) ⟨fun o ho=>(o4.2.2 o ho).2.2,by show y.1.length≤_;omega,by show x.1.length≤_;have:=o4.2.1;omega⟩]
     simp only[aa,al.add,al.F]
     cases c5:fg (y.1,x.1,(di x.2).1,())
     ·rw[if_pos (Or.inr (Or.inr (Or.inr (Or.inr (by trivial)))))];rfl
     ·rw[if_neg (by
       rintro(z | z | z | z | z)
       ·exact c1 z
       ·exact c2 z
       ·cases z
       ·exact c4 z
       ·cases z)]
      rfl
   ·rw[ay,if_pos (Or.inr (Or.inr (Or.inl (by trivial))))];rfl
noncomputable def av.E:=Entry.cv [some tB] av.st av.aD av.add av.F av.out
noncomputable def av.call:av.D→Option av.X:=bJ av.E av.st
theorem av.run:bE av.call av.aD av.add av.F:=cQ (cP [.d tB] fun _=>by kernel_rfl)
noncomputable def av.sg:SG Tryz.prog:=⟨24,aW,av.E,.fn 4 (by kernel_rfl) av.ok (And.intro (.cv av.L0.ok (by kernel_rfl)) (And.intro (.cv av.L1.ok (by kernel_rfl)) (And.intro (.cv av.L2.ok (by kernel_rfl)) (And.intro (.cv av.L3.ok (by kernel_rfl)) trivial))))⟩
set_option synthInstance.maxSize 5000
theorem sD(k:Int)(m:List Int):C1 (gE k m):=by
 unfold gE
 split
 ·exact⟨(CB _).u,(yD _ _).u⟩
 ·exact⟨⟨Int.le_refl 0,by decide⟩,Int.le_refl 0,by decide⟩
theorem vY:∀(l l':List eR) (b:List Int),l.map (·.1)=l'.map (·.1)→l.foldl rk b=l'.foldl rk b
 |[],[],_,_=>rfl
 |[],_::_,_,h=>by cases h
 |_::_,[],_,h=>by cases h
 |x::l,y::l',b,h=>by
  rw[List.map_cons,List.map_cons,List.cons.injEq]at h
  have e:rk b x=rk b y:=by unfold rk;rw[h.1]
  rw[List.foldl_cons,List.foldl_cons,e,vY l l' _ h.2]
theorem Aa{l l':List eR}(t:List fL×Int×Unit)(h:l.map (·.1)=l'.map (·.1)):kA (l,t)=kA (l',t):=by
 have hl:l.length=l'.length:=by have:=congrArg List.length h;simpa using this
 unfold kA
 simp only[hl]
 rw[vY l l' _ h]
theorem wb:∀(l l':List eR) (m:List (jB×Bool)),l.map (·.1)=l'.map (·.1)→qY m l=true→(∀x∈l',gn x.2.1=true)→qY m l'=true
 |[],[],_,_,_,_=>rfl
 |[],_::_,_,h,_,_=>by cases h
 |_::_,[],_,h,_,_=>by cases h
 |x::l,y::l',m,h,hi,hw=>by
  rw[List.map_cons,List.map_cons,List.cons.injEq]at h
  rw[qY,Bool.and_eq_true,Bool.and_eq_true]at hi ⊢
  have hx:=hi.1.2
  unfold qX at hx
  rw[Bool.and_eq_true]at hx
  refine⟨⟨?_,?_⟩,?_⟩
  ·have:=hi.1.1
   unfold rS at this ⊢
   rw[←h.1]
   exact this
  ·unfold qX
   rw[←h.1,hx.1,hw y List.mem_cons_self]
   rfl
  ·rw[←h.1]
   exact wb l l' _ h.2 hi.2 fun z hz=>hw z (List.mem_cons_of_mem _ hz)
theorem BN{l l':List eR}{t:List fL×Int×Unit}(h:l.map (·.1)=l'.map (·.1))(hok:fg (l,t)=true)(hw:∀x∈l',gn x.2.1=true):fg (l',t)=true:=by
 have hl:l.length=l'.length:=by have:=congrArg List.length h;simpa using this
 unfold fg vm at hok ⊢
 rw[Bool.and_eq_true,Bool.and_eq_true]at hok ⊢
 simp only[hl]at hok
 exact⟨hok.1,wb l l' _ h hok.2.1 hw,hok.2.2⟩
theorem zl{l l':List eR}{t:List fL×Int×Unit}(h:l.map (·.1)=l'.map (·.1))(h1:fg (l,t)=true)(h2:fg (l',t)=true):oY (l',t)=oY (l,t):=by
 unfold oY
 rw[h1,h2,Aa t h]
theorem yn{l l':List eR}{t:List fL×Int×Unit}(h:l.map (·.1)=l'.map (·.1))(h1:fg (l,t)=true)(h2:fg (l',t)=true):gw (l',t)=gw (l,t):=by
 unfold gw
 rw[h1,h2]
 exact h.symm
theorem Bi{l l':List eR}{t:List fL×Int×Unit}(h:l.map (·.1)=l'.map (·.1))(h1:fg (l,t)=true)(h2:fg (l',t)=true):gv (l',t)=gv (l,t):=by
 unfold gv
 rw[h1,h2,zl h h1 h2]
def hH(t:eD)(k:Nat)(w:j6):eD:=(t.1.set k ((nth cH t.1 k).1,w,()),t.2)
theorem pQ(l:List eR)(k:Nat)(w:j6)(h:k < l.length):l.map (·.1)=(l.set k ((nth cH l k).1,w,())).map (·.1):=by
 have n1:nth cH l k=l[k]:=bZ (t:=cH) h
 rw[n1,List.map_set]
 have e:(l[k].1:jB)=(l.map (·.1))[k]'(by rw[List.length_map];exact h):=by rw[List.getElem_map]
 show _=(l.map (·.1)).set k l[k].1
 rw[e,List.set_getElem_self]
theorem w6{l:List eR}{k:Nat}{w:j6}{x:eR}(h:k < l.length)(hx:x∈l.set k ((nth cH l k).1,w,())):x∈l∨(x.1=l[k].1∧x.2.1=w):=by
 have n1:nth cH l k=l[k]:=bZ (t:=cH) h
 rw[n1]at hx
 rcases List.mem_or_eq_of_mem_set hx with h1 | h1
 ·exact .inl h1
 ·exact .inr ⟨by rw[h1],by rw[h1]⟩
theorem mH{t:eD}{k:Nat}{w:j6}(h:k < t.1.length)(hok:fg t=true)(hw:gn w=true):fg (hH t k w)=true:=by
 obtain⟨_,b1,_⟩:=gS hok
 refine BN (l:=t.1) (pQ t.1 k w h) hok fun x hx=> ?_
 rcases w6 h hx with h1 | h1
 ·have:=gh _ _ b1 x h1
  unfold qX at this
  rw[Bool.and_eq_true]at this
  exact this.2
 ·rw[h1.2];exact hw
theorem yj{t:eD}{k:Nat}{w:j6}(h:k < t.1.length)(hv:qF t)(hu:oo w)(hl:w.2.1.length≤1000000000):qF (hH t k w):=by
 refine⟨⟨hv.1.1,by show(t.1.set k _).length≤_;rw[List.length_set];exact hv.1.2.1,hv.1.2.2⟩,fun x hx=> ?_,hv.2.2⟩
 rcases w6 h hx with h1 | h1
 ·exact hv.2.1 x h1
 ·refine⟨?_,by rw[h1.2];exact hu,by rw[h1.2];exact hl⟩
  rw[h1.1]
  exact(hv.2.1 _ (List.getElem_mem h)).1
theorem vc{t:eD}{k:Nat}{w:j6}(h:k < t.1.length)(hok:fg t=true)(hw:gn w=true):oY (hH t k w)=oY t∧gw (hH t k w)=gw t∧gv (hH t k w)=gv t:=
 ⟨zl (l:=t.1) (pQ t.1 k w h) hok (mH h hok hw),yn (l:=t.1) (pQ t.1 k w h) hok (mH h hok hw),Bi (l:=t.1) (pQ t.1 k w h) hok (mH h hok hw)⟩
theorem vb{t:eD}{k:Nat}{w:j6}(h:k < t.1.length):nth cH (hH t k w).1 k=((nth cH t.1 k).1,w,()):=yZ (t:=cH) h
theorem sC(t:eD)(k:Nat)(w:j6):(hH t k w).1.length=t.1.length:=List.length_set
def jP(t:eD)(br:Int)(ks:List Int)(sc:Int):j6:=(br,ks.map (fun k=>gE k (oY t)),sc,())
theorem nO(t:eD)(i br:Int)(ks:List Int)(sc:Int):BF t i br ks sc=if jQ t i br ks then(hH t i.toNat (jP t br ks sc),0) else(([],[],0,()),1):=rfl
theorem sF{t:eD}{i br:Int}{ks:List Int}(h:jQ t i br ks=true):fg t=true∧(0≤i∧i < t.1.length∧0≤br∧br < 4∧ks.length≤12)∧∀k∈ks,k < 2305843009213688669∧k≠0:=by
 unfold jQ at h
 simp only[Bool.and_eq_true,decide_eq_true_eq,Bool.not_eq_true']at h
 refine⟨h.1,h.2.1,fun k hk=> ?_⟩
 have:=h.2.2
 rw[List.any_eq_false]at this
 have:=this k hk
 unfold pe at this
 simpa using this
theorem vf{t:eD}{i br:Int}{ks:List Int}(sc:Int)(h:jQ t i br ks=true):gn (jP t br ks sc)=true:=by
 have e:=(sF h).2.1
 unfold gn jP
 rw[aR ⟨e.2.2.1,e.2.2.2.1⟩,aR (by rw[List.length_map];exact e.2.2.2.2)]
 rfl
theorem Dz(t:eD)(br:Int)(ks:List Int){sc:Int}(h:ik sc):oo (jP t br ks sc):=⟨fun s hs=>by
  obtain⟨k,_,rfl⟩:=List.mem_map.1 (show s∈ks.map fun k=>gE k (oY t) from hs)
  exact sD k _,h⟩
theorem sG{t:eD}{i br sc:Int}{ks:List Int}(hv:qF t)(h:jQ t i br ks=true)(hs:ik sc):
  fg (hH t i.toNat (jP t br ks sc))=true∧qF (hH t i.toNat (jP t br ks sc))∧oY (hH t i.toNat (jP t br ks sc))=oY t∧gw (hH t i.toNat (jP t br ks sc))=gw t∧gv (hH t i.toNat (jP t br ks sc))=gv t:=by
 obtain⟨hok,e,_⟩:=sF h
 have hk:i.toNat < t.1.length:=by omega
 have hw:=vf sc h
 exact⟨mH hk hok hw,yj hk hv (Dz t br ks hs) (by show(ks.map _).length≤_;rw[List.length_map];omega),vc hk hok hw⟩
def DR(t:eD):Prop:=(∀x∈t.1,Sm x.1.1∧oo x.2.1)∧(∀o∈t.2.1,yB o.2.1)∧t.2.2.1≤9223372036854775807
theorem mf{t:eD}(h:nP t=true):t.1.length≤66∧t.2.1.length≤66∧(∀x∈t.1,x.2.1.2.1.length≤14)∧∀o∈t.2.1,o.2.1.1.length≤6∧∀b∈o.2.1.1,b.1.length≤14:=by
 unfold nP at h
 simp only[Bool.and_eq_true,decide_eq_true_eq,List.all_eq_true]at h
 refine⟨h.1.1,h.1.2,fun x hx=> ?_,fun o ho=> ?_⟩
 ·have:=h.2.1 x hx
  unfold j3 at this
  simpa using this
 ·have:=h.2.2 o ho
  unfold iJ at this
  simp only[Bool.and_eq_true,decide_eq_true_eq,List.all_eq_true]at this
  refine⟨this.1,fun b hb=> ?_⟩
  have:=this.2 b hb
  unfold j2 at this
  simpa using this
theorem sL{t:eD}(hg:DR t)(h:nP t=true):qF t∧oC t∧CH t:=by
 obtain⟨h1,h2,h3,h4⟩:=mf h
 refine⟨⟨⟨fun o ho=>⟨hg.2.1 o ho,by have:=(h4 o ho).1;omega⟩,by omega,by omega⟩,fun x hx=>⟨(hg.1 x hx).1,(hg.1 x hx).2,by have:=h3 x hx;omega⟩,hg.2.2⟩,⟨⟨by omega,fun x hx=>by have:=h3 x hx;omega⟩,by omega,fun o ho=>⟨by have:=(h4 o ho).1;omega,fun b hb=>by have:=(h4 o ho).2 b hb;omega⟩⟩,⟨by omega,fun x hx=>by have:=h3 x hx;omega⟩,by omega,fun o ho=>⟨by have:=(h4 o ho).1;omega,fun b hb=>by have:=(h4 o ho).2 b hb;omega⟩⟩
theorem w8{t:eD}(h:fg t=true):oC t:=by
 obtain⟨⟨_,a2,a3,_⟩,b1,b2⟩:=gS h
 exact⟨⟨by omega,fun x hx=>by have:=ky (gh _ _ b1 x hx);omega⟩,by omega,fun o ho=>by
  have:=Bg (jb _ _ b2 o ho).2
  exact⟨by omega,fun b hb=>by have:=this.2 b hb;omega⟩⟩
theorem ml{α:Type}{f:α→List Int}{l:List α}(h:∀x∈l,Bytes (f x)):Bytes (l.flatMap f):=fun b hb=>by
 obtain⟨x,hx,hb⟩:=List.mem_flatMap.1 hb
 exact h x hx b hb
theorem nD{α:Type}{f:α→List Int}{n:Nat}:∀ {l:List α},(∀x∈l,(f x).length≤n)→(l.flatMap f).length≤n*l.length
 |[],_=>Nat.zero_le _
 |x::l,h=>by
  rw[List.flatMap_cons,List.length_append,List.length_cons,Nat.mul_add,Nat.mul_one]
  have h1:=h x List.mem_cons_self
  have h2:=nD (l:=l) fun y hy=>h y (List.mem_cons_of_mem _ hy)
  omega
theorem uf{t:eD}(hv:qF t):Bytes (sT t)∧(sT t).length≤1000000:=by
 cases hok:fg t
 ·unfold sT
  rw[hok]
  exact⟨fun x hx=>(by cases hx),Nat.zero_le _⟩
 obtain⟨⟨a1,a2,a3,a4⟩,b1,b2⟩:=gS hok
 have hin:∀x∈t.1,_:=fun x hx=>ky (gh _ _ b1 x hx)
 rw[vl hok]
 have n0:∀ {n:Nat},n≤1000→mZ (n:Int):=fun h=>ju (by omega)
 have e1:∀x∈t.1,Bytes (xu x.1)∧(xu x.1).length≤43:=fun x hx=>by
  have hi:=hin x hx
  have hr:=gT x.1.2.1
  have hs:=(hv.2.1 x hx).1
  exact⟨eU hs.2 (gp ⟨hi.1,by omega⟩),by unfold xu;rw[List.length_append,hs.1];omega⟩
 have e2:∀o∈t.2.1,Bytes (mb o)∧(mb o).length≤1022:=fun o ho=>by
  have hi:=(jb _ _ b2 o ho).1
  have hr:=gT o.1
  have hr2:=gT (px o.2.1).length
  have hl:=oc o.2.1
  exact⟨eU (gp ⟨hi.1,by omega⟩) (eU (gp (n0 hl)) (zT _)),by unfold mb;rw[List.length_append,List.length_append];omega⟩
 have e3:∀x∈t.1,Bytes (lO x.2.1)∧(lO x.2.1).length≤300:=fun x hx=>by
  have hi:=hin x hx
  have hr:=gT x.2.1.1
  have hr2:=gT x.2.1.2.1.length
  have hf:=nD (f:=At) (n:=16) (l:=x.2.1.2.1) fun s _=>by unfold At;rw[List.length_append,bR,bR];omega
  refine⟨eU (gp ⟨hi.2.2.1,by omega⟩) (eU (gp (n0 (by omega))) (eU (ml fun s _=>eU (lX _) (lX _)) (lX _))),?_⟩
  unfold lO
  simp only[List.length_append,bR]
  omega
 have f1:=nD (f:=fun x:eR=>xu x.1) (n:=43) (l:=t.1) fun x hx=>(e1 x hx).2
 have f2:=nD (f:=mb) (n:=1022) (l:=t.2.1) fun x hx=>(e2 x hx).2
 have f3:=nD (f:=fun x:eR=>lO x.2.1) (n:=300) (l:=t.1) fun x hx=>(e3 x hx).2
 have r1:=gT t.1.length
 have r2:=gT t.2.1.length
 have r3:=gT t.2.2.1
 refine⟨eU (gp (n0 (by omega))) (eU (ml fun x hx=>(e1 x hx).1) (eU (gp (n0 (by omega))) (eU (ml fun x hx=>(e2 x hx).1) (eU (gp ⟨a4,hv.2.2⟩) (ml fun x hx=>(e3 x hx).1))))),?_⟩
 unfold DO
 simp only[List.length_append]
 omega
theorem zk{t:eD}(h:fg t=true):0 < (sT t).length:=by
 rw[vl h]
 unfold DO
 rw[List.length_append]
 have:0 < (fu (t.1.length:Int)).length:=by unfold fu;rw[List.length_append];exact Nat.succ_pos _
 omega
theorem yt{t:eD}(h:fg t=false):sT t=[]:=by unfold sT;rw[h];rfl
set_option synthInstance.maxSize 5000
def Ea:ByteArray:=⟨#[107,101,121]⟩
abbrev dr.D:=Bs
def dr.st:dr.D→SA:=fun seed=>([.d tH seed],[])
abbrev dr.Y:=Int
abbrev dr.X:=Int
def dr.out:dr.X→aZ:=fun x=>⟨.d tu x,[],[]⟩
def dr.add:dr.D→dr.Y→dr.X:=fun seed y=>y
def dr.aD:dr.D→Prop:=fun s=>s.length=32
def dr.F:dr.D→dr.Y:=fun s=>nA (xk Ea [s])
noncomputable def dr.G:dV:=eY (P:=Tryz.prog) [bW.sg,bC.sg]
noncomputable def dr.an:eJ:= {}
noncomputable def dr.A:= @cK Tryz.prog dr.G dr.an 0 Tryz.f74 _ dr.st
abbrev dr.Ok:=cM @dr.A dr.aD dr.add dr.F dr.out
theorem dr.eq{R:Type}(seed:Bs)(k:aZ→Option R):dr.A seed k=
 ae (bW.call ((⟨#[107,101,121]⟩:ByteArray),[(cut seed 0 32)])) fun x1=>
 ae (bC.call x1) fun x2=>
 k (dr.out x2):=by kernel_rfl
theorem dr.ok:dr.Ok:=by
 intro s h
 have h:s.length=32:=h
 rw[dr.eq,eV h]
 rw[bW.run (d:=((⟨#[107,101,121]⟩:ByteArray),[s])) (sM (by decide) (by omega))]
 simp only[aa,bW.add,bW.F]
 rw[bC.run (d:=tag (bk (⟨#[107,101,121]⟩:ByteArray)) [s]) (vi _ _)]
 rfl
noncomputable def dr.E:=Entry.cv [some tH] dr.st dr.aD dr.add dr.F dr.out
noncomputable def dr.call:dr.D→Option dr.X:=bJ dr.E dr.st
theorem dr.run:bE dr.call dr.aD dr.add dr.F:=cQ (cP [.d tB] fun _=>by kernel_rfl)
noncomputable def dr.sg:SG Tryz.prog:=⟨74,aW,dr.E,.fn 0 (by kernel_rfl) dr.ok trivial⟩
abbrev dp.D:=Int
def dp.st:dp.D→SA:=fun p=>([.d tu p],[])
abbrev dp.Y:=Lk
abbrev dp.X:=Lk
def dp.out:dp.X→aZ:=fun x=>⟨.d kq x,[],[]⟩
def dp.add:dp.D→dp.Y→dp.X:=fun p y=>y
def dp.aD:dp.D→Prop:=fun _=>True
def dp.F:dp.D→dp.Y:=fun p=>(([([p],0,0,0,())],()):Lk)
noncomputable def dp.G:dV:=eY (P:=Tryz.prog) []
noncomputable def dp.an:eJ:= {}
noncomputable def dp.A:= @cK Tryz.prog dp.G dp.an 0 Tryz.f75 _ dp.st
abbrev dp.Ok:=cM @dp.A dp.aD dp.add dp.F dp.out
theorem dp.eq{R:Type}(p:Int)(k:aZ→Option R):dp.A p k=
 k (dp.out ([([p],((0:Int),((0:Int),((0:Int),()))))],())):=by kernel_rfl
theorem dp.ok:dp.Ok:=by
 intro p _
 rw[dp.eq]
 rfl
noncomputable def dp.E:=Entry.cv [some tu] dp.st dp.aD dp.add dp.F dp.out
noncomputable def dp.call:dp.D→Option dp.X:=bJ dp.E dp.st
theorem dp.run:bE dp.call dp.aD dp.add dp.F:=cQ (cP [.d tu] fun _=>by kernel_rfl)
noncomputable def dp.sg:SG Tryz.prog:=⟨75,aW,dp.E,.fn 0 (by kernel_rfl) dp.ok trivial⟩
def kK:Int:=2280522697135155589
def pK:Int:=261844167819670384
theorem EJ:nA (xk Ea [1::List.replicate 31 0])=kK:=by decide+kernel
theorem AA:gH kK=pK:=by decide+kernel
def CQ:Lk:=([([pK],0,0,0,())],())
def lq(n:Int):eR:=((List.replicate 32 0,n,()),(0,[],0,()),())
def t13:eD:=([lq 3,lq 4],[(5,CQ,()),(0,CQ,()),(0,CQ,())],300,())
def xL:eD:=([],[],0,())
def EB:eD:=([lq 0,lq 0],[],0,())
theorem Br:fg t13=true:=by decide+kernel
theorem CU:fg xL=false:=by decide+kernel
theorem Ee:fg EB=false:=by decide+kernel
theorem Ei:jQ t13 1 2 [kK]=true:=by decide+kernel
theorem Ej:jQ t13 2 2 [kK]=false:=by decide+kernel
theorem Ek:jQ t13 1 2 [0]=false:=by decide+kernel
theorem A8(n:Int):E8 (lq n):=⟨⟨by show(List.replicate 32 (0:Int)).length=32;rw[List.length_replicate],fun x hx=>by obtain rfl:=(List.mem_replicate.1 hx).2;exact⟨by decide,by decide⟩⟩,⟨fun s hs=>(by cases hs),by show(0:Int)≤0;decide,by show(0:Int) < 18446744073709551616;decide⟩,Nat.zero_le _⟩
theorem D9:C0 CQ:=⟨fun b hb=>by
 have hb:b∈ [(([pK],(0:Int),(0:Int),(0:Int),()):gm)]:=hb
 rw[List.mem_singleton]at hb
 subst hb
 exact⟨fun x hx=>by
  have hx:x∈ [pK]:=hx
  rw[List.mem_singleton]at hx
  subst hx
  exact⟨by decide,by decide⟩,by decide,by decide⟩,by decide⟩
theorem CD:qF t13:=⟨⟨fun o ho=>by
  have ho:o∈ [((5:Int),CQ,()),(0,CQ,()),(0,CQ,())]:=ho
  simp only[List.mem_cons,List.not_mem_nil,or_false]at ho
  rcases ho with rfl | rfl | rfl <;> exact D9,by decide,by decide⟩,fun x hx=>by
  have hx:x∈ [lq 3,lq 4]:=hx
  simp only[List.mem_cons,List.not_mem_nil,or_false]at hx
  rcases hx with rfl | rfl <;> exact A8 _,by decide⟩
theorem Eo:qF xL:=⟨⟨fun o ho=>(by cases ho),by decide,by decide⟩,fun x hx=>(by cases hx),by decide⟩
theorem E6:qF EB:=⟨⟨fun o ho=>(by cases ho),by decide,by decide⟩,fun x hx=>by
  have hx:x∈ [lq 0,lq 0]:=hx
  simp only[List.mem_cons,List.not_mem_nil,or_false]at hx
  rcases hx with rfl | rfl <;> exact A8 _,by decide⟩
theorem vH(k:Int):ik (gH k):=(wX _ _).u
theorem Em:ik 7:=⟨by decide,by decide⟩
theorem D7:∀x∈ [kK],ik x:=fun x hx=>by
 rw[List.mem_singleton]at hx
 subst hx
 exact⟨by decide,by decide⟩
theorem tm:∃(m:List Int) (u:eD) (s:Sg) (bs:List Int),tid.call t13=some m∧bp.call (t13,1,2,[kK],7)=some (u,0)∧bp.call (t13,2,2,[kK],7)=some (xL,1)∧bp.call (t13,1,2,[0],7)=some (xL,1)∧
  aI.call u=some bs∧av.call bs=some (u,true)∧al.call EB=some false∧bq.call t13=some [(m,0,()),(m,1,()),(m,2,())]∧aN.call t13=some [(lq 3).1,(lq 4).1]∧u.1.length=2∧(nth cH u.1 1).2.1=(2,[s],7,())∧
  al.call t13=some true∧tid.call u=some m∧bS.call (pK,m,s)=some true∧aJ.call t13=some 54∧aJ.call u=some 66∧dD.call (u,u)=some true∧dD.call (t13,u)=some false∧tid.call xL=some (List.replicate 32 0)∧al.call xL=some false:=by
 have all:=sG CD Ei Em
 obtain⟨u,hu⟩:∃u,hH t13 (Int.toNat 1) (jP t13 2 [kK] 7)=u:=⟨_,rfl⟩
 have hat:nth cH u.1 1=((nth cH t13.1 1).1,jP t13 2 [kK] 7,()):=by rw[←hu];exact vb (by decide)
 have hlen:u.1.length=2:=by rw[←hu,sC];rfl
 have ho:u.2.1.length=3:=by rw[←hu];rfl
 have hf:u.1=[lq 3,((lq 4).1,jP t13 2 [kK] 7,())]:=by rw[←hu];rfl
 rw[hu]at all
 obtain⟨a1,a2,a3,a4,a5⟩:=all
 have hne:t13≠u:=fun e=>by
  have e1:t13.1=u.1:=by rw[←e]
  rw[hf]at e1
  have e2: [lq 3,lq 4]=[lq 3,((lq 4).1,jP t13 2 [kK] 7,())]:=e1
  rw[List.cons.injEq,List.cons.injEq]at e2
  have e3:(lq 4).2.1.1=(jP t13 2 [kK] 7).1:=by rw[e2.2.1]
  cases e3
 obtain⟨m,hm⟩:∃m,oY t13=m:=⟨_,rfl⟩
 have bl:=uf a2
 refine⟨m,u,gE kK m,sT u,?_,?_,?_,?_,aI.run (d:=u) a2,?_,?_,?_,?_,hlen,?_,?_,?_,?_,?_,?_,?_,?_,?_,?_⟩
 ·rw[←hm];exact tid.run (d:=t13) CD
 ·rw[bp.run (d:=(t13,1,2,[kK],7)) ⟨CD,D7,by decide⟩,←hu]
  simp only[bp.add,bp.F,nO,Ei,if_true]
 ·rw[bp.run (d:=(t13,2,2,[kK],7)) ⟨CD,D7,by decide⟩]
  simp only[bp.add,bp.F,nO,Ej,Bool.false_eq_true,if_false]
  rfl
 ·rw[bp.run (d:=(t13,1,2,[0],7)) ⟨CD,fun x hx=>by rw[List.mem_singleton]at hx;subst hx;exact⟨by decide,by decide⟩,by decide⟩]
  simp only[bp.add,bp.F,nO,Ek,Bool.false_eq_true,if_false]
  rfl
 ·rw[av.run (d:=sT u) ⟨bl.1,by show(sT u).length≤_;have:=bl.2;omega⟩]
  simp only[av.add,av.F,oU a2 a1]
 ·rw[al.run (d:=EB) E6.1]
  simp only[al.add,al.F,Ee]
 ·rw[bq.run (d:=t13) CD]
  simp only[bq.add,bq.F]
  unfold gv
  rw[Br,hm]
  rfl
 ·rw[aN.run (d:=t13) CD.1]
  simp only[aN.add,aN.F]
  unfold gw
  rw[Br]
  rfl
 ·rw[hat]
  show jP t13 2 [kK] 7=_
  unfold jP
  rw[hm]
  rfl
 ·rw[al.run (d:=t13) CD.1]
  simp only[al.add,al.F,Br]
 ·rw[tid.run (d:=u) a2]
  simp only[tid.add,tid.F,a3,hm]
 ·rw[bS.run (d:=(pK,m,gE kK m)) ⟨by rw[←AA];exact vH _,by rw[←hm];exact yu,sD _ _⟩]
  simp only[bS.add,bS.F,←AA]
  rw[zi kK m (by decide) (by decide)]
 ·rw[aJ.run (d:=t13) CD]
  simp only[aJ.add,aJ.F]
  unfold jA
  rw[Br]
  rfl
 ·rw[aJ.run (d:=u) a2]
  simp only[aJ.add,aJ.F]
  unfold jA
  rw[a1,hf,ho]
  rfl
 ·rw[dD.run (d:=(u,u)) (w8 a1)]
  simp only[dD.add,dD.F,decide_true]
 ·rw[dD.run (d:=(t13,u)) (w8 Br)]
  simp only[dD.add,dD.F,decide_eq_false hne]
 ·rw[tid.run (d:=xL) Eo]
  simp only[tid.add,tid.F]
  unfold oY
  rw[CU]
  rfl
 ·rw[al.run (d:=xL) Eo.1]
  simp only[al.add,al.F,CU]
theorem AE(m:List Int):Ty.beq tH m m=true:=nh tH m rfl
abbrev bB.D:=Unit
def bB.st:bB.D→SA:=fun _=>([],[])
abbrev bB.Y:=Bool
abbrev bB.X:=Bool
def bB.out:bB.X→aZ:=fun x=>⟨.d .bool x,[],[]⟩
def bB.add:bB.D→bB.Y→bB.X:=fun _ y=>y
def bB.aD:bB.D→Prop:=fun _=>True
def bB.F:bB.D→bB.Y:=fun _=>true
noncomputable def bB.G:dV:=eY (P:=Tryz.prog) [dr.sg,dm.sg,dp.sg,bp.sg,aI.sg,av.sg,al.sg,bq.sg,aN.sg,tid.sg,bS.sg,aJ.sg,dD.sg]
noncomputable def bB.an:eJ:= {}
noncomputable def bB.A:= @cK Tryz.prog bB.G bB.an 0 Tryz.f21 _ bB.st
abbrev bB.Ok:=cM @bB.A bB.aD bB.add bB.F bB.out
theorem bB.eq{R:Type}(k:aZ→Option R):bB.A () k=
  ae (dr.call [(1:Int),(0:Int),(0:Int),(0:Int),(0:Int),(0:Int),(0:Int),(0:Int),(0:Int),(0:Int),(0:Int),(0:Int),(0:Int),(0:Int),(0:Int),(0:Int),(0:Int),(0:Int),(0:Int),(0:Int),(0:Int),(0:Int),(0:Int),(0:Int),(0:Int),(0:Int),(0:Int),(0:Int),(0:Int),(0:Int),(0:Int),(0:Int)]) fun x4=>
  ae (dm.call x4) fun x8=>
  ae (dp.call x8) fun x18=>
  ae (dp.call x8) fun x19=>
  ae (dp.call x8) fun x20=>
  ae (bp.call (([(((List.replicate 32 (0:Int)),((3:Int),())),(((0:Int),(([]:List Sg),((0:Int),()))),())),(((List.replicate 32 (0:Int)),((4:Int),())),(((0:Int),(([]:List Sg),((0:Int),()))),()))],([((5:Int),(x18,())),((0:Int),(x19,())),((0:Int),(x20,()))],((300:Int),()))),(1:Int),(2:Int),[x4],(7:Int))) fun x24=>
  ae (bp.call (([(((List.replicate 32 (0:Int)),((3:Int),())),(((0:Int),(([]:List Sg),((0:Int),()))),())),(((List.replicate 32 (0:Int)),((4:Int),())),(((0:Int),(([]:List Sg),((0:Int),()))),()))],([((5:Int),(x18,())),((0:Int),(x19,())),((0:Int),(x20,()))],((300:Int),()))),(2:Int),(2:Int),[x4],(7:Int))) fun x28=>
  ae (bp.call (([(((List.replicate 32 (0:Int)),((3:Int),())),(((0:Int),(([]:List Sg),((0:Int),()))),())),(((List.replicate 32 (0:Int)),((4:Int),())),(((0:Int),(([]:List Sg),((0:Int),()))),()))],([((5:Int),(x18,())),((0:Int),(x19,())),((0:Int),(x20,()))],((300:Int),()))),(1:Int),(2:Int),[(0:Int)],(7:Int))) fun x32=>
  ae (aI.call x24.1) fun x39=>
  ae (av.call x39) fun x40=>
  ae (al.call ([(((List.replicate 32 (0:Int)),((0:Int),())),(((0:Int),(([]:List Sg),((0:Int),()))),())),(((List.replicate 32 (0:Int)),((0:Int),())),(((0:Int),(([]:List Sg),((0:Int),()))),()))],(([]:List fL),((0:Int),())))) fun x44=>
  ae (bq.call ([(((List.replicate 32 (0:Int)),((3:Int),())),(((0:Int),(([]:List Sg),((0:Int),()))),())),(((List.replicate 32 (0:Int)),((4:Int),())),(((0:Int),(([]:List Sg),((0:Int),()))),()))],([((5:Int),(x18,())),((0:Int),(x19,())),((0:Int),(x20,()))],((300:Int),())))) fun x48=>
  ae (aN.call ([(((List.replicate 32 (0:Int)),((3:Int),())),(((0:Int),(([]:List Sg),((0:Int),()))),())),(((List.replicate 32 (0:Int)),((4:Int),())),(((0:Int),(([]:List Sg),((0:Int),()))),()))],([((5:Int),(x18,())),((0:Int),(x19,())),((0:Int),(x20,()))],((300:Int),())))) fun x52=>
  aF ((gM x24.2 (0:Int))) (
   k (bB.out false)) (
   aF ((gM (((List.length x24.1.1):Nat):Int) (2:Int))) (
    k (bB.out false)) (
    aF (dS (1:Int) (((List.length x24.1.1):Nat):Int)) (
    aF ((gM (((List.length (nth cH x24.1.1 1).2.1.2.1):Nat):Int) (1:Int))) (
     k (bB.out false)) (
     aF ((gM (((List.length x48):Nat):Int) (3:Int))) (
      k (bB.out false)) (
      aF ((gM (((List.length x52):Nat):Int) (2:Int))) (
       k (bB.out false)) (
       aF (dS (1:Int) (((List.length x24.1.1):Nat):Int)) (
       ae (al.call ([(((List.replicate 32 (0:Int)),((3:Int),())),(((0:Int),(([]:List Sg),((0:Int),()))),())),(((List.replicate 32 (0:Int)),((4:Int),())),(((0:Int),(([]:List Sg),((0:Int),()))),()))],([((5:Int),(x18,())),((0:Int),(x19,())),((0:Int),(x20,()))],((300:Int),())))) fun x65=>
       aF (x65) (
        aF ((kR x28.2 (1:Int))) (
         aF ((kR x32.2 (1:Int))) (
          ae (tid.call x24.1) fun x66=>
          ae (tid.call ([(((List.replicate 32 (0:Int)),((3:Int),())),(((0:Int),(([]:List Sg),((0:Int),()))),())),(((List.replicate 32 (0:Int)),((4:Int),())),(((0:Int),(([]:List Sg),((0:Int),()))),()))],([((5:Int),(x18,())),((0:Int),(x19,())),((0:Int),(x20,()))],((300:Int),())))) fun x67=>
          aF ((Ty.beq tH x66 x67)) (
           ae (tid.call ([(((List.replicate 32 (0:Int)),((3:Int),())),(((0:Int),(([]:List Sg),((0:Int),()))),())),(((List.replicate 32 (0:Int)),((4:Int),())),(((0:Int),(([]:List Sg),((0:Int),()))),()))],([((5:Int),(x18,())),((0:Int),(x19,())),((0:Int),(x20,()))],((300:Int),())))) fun x68=>
           aF (dS (0:Int) (((List.length (nth cH x24.1.1 1).2.1.2.1):Nat):Int)) (
           ae (bS.call (x8,x68,(nth jc (nth cH x24.1.1 1).2.1.2.1 0))) fun x69=>
           aF (x69) (
            aF ((kR (nth cH x24.1.1 1).2.1.1 (2:Int))) (
             aF ((kR (nth cH x24.1.1 1).2.1.2.2.1 (7:Int))) (
              ae (aJ.call ([(((List.replicate 32 (0:Int)),((3:Int),())),(((0:Int),(([]:List Sg),((0:Int),()))),())),(((List.replicate 32 (0:Int)),((4:Int),())),(((0:Int),(([]:List Sg),((0:Int),()))),()))],([((5:Int),(x18,())),((0:Int),(x19,())),((0:Int),(x20,()))],((300:Int),())))) fun x70=>
              aF ((kR x70 (54:Int))) (
               ae (aJ.call x24.1) fun x71=>
               aF ((kR x71 (66:Int))) (
                aF (x40.2) (
                 ae (dD.call (x40.1,x24.1)) fun x72=>
                 aF (x72) (
                  ae (dD.call (([(((List.replicate 32 (0:Int)),((3:Int),())),(((0:Int),(([]:List Sg),((0:Int),()))),())),(((List.replicate 32 (0:Int)),((4:Int),())),(((0:Int),(([]:List Sg),((0:Int),()))),()))],([((5:Int),(x18,())),((0:Int),(x19,())),((0:Int),(x20,()))],((300:Int),()))),x24.1)) fun x73=>
                  aF ((!x73)) (
                   aF ((!x44)) (
                    aF (dS (2:Int) (((List.length x48):Nat):Int)) (
                    ae (tid.call ([(((List.replicate 32 (0:Int)),((3:Int),())),(((0:Int),(([]:List Sg),((0:Int),()))),())),(((List.replicate 32 (0:Int)),((4:Int),())),(((0:Int),(([]:List Sg),((0:Int),()))),()))],([((5:Int),(x18,())),((0:Int),(x19,())),((0:Int),(x20,()))],((300:Int),())))) fun x74=>
                    aF ((Ty.beq iC (nth iC x48 2) (x74,((2:Int),())))) (
                     aF (dS (1:Int) (((List.length x52):Nat):Int)) (
                     aF ((Ty.beq iC (nth iC x52 1) ((List.replicate 32 (0:Int)),((4:Int),())))) (
                      ae (tid.call (([]:List eR),(([]:List fL),((0:Int),())))) fun x75=>
                      aF ((Ty.beq tH x75 (List.replicate 32 (0:Int)))) (
                       ae (al.call (([]:List eR),(([]:List fL),((0:Int),())))) fun x76=>
                       k (bB.out (!x76))) (
                       k (bB.out false))) (
                      k (bB.out false))) none) (
                     k (bB.out false))) none) (
                    k (bB.out false))) (
                   k (bB.out false))) (
                  k (bB.out false))) (
                 k (bB.out false))) (
                k (bB.out false))) (
               k (bB.out false))) (
              k (bB.out false))) (
             k (bB.out false))) (
            k (bB.out false))) none) (
           k (bB.out false))) (
          k (bB.out false))) (
         k (bB.out false))) (
        k (bB.out false))) none)))) none)):=by kernel_rfl
theorem bB.ok:bB.Ok:=by
 rintro⟨⟩ _
 obtain⟨m,u,s,bs,f1,f2,f3,f4,f5,f6,f7,f8,f9,f10,f11,f12,f13,f14,f15,f16,f17,f18,f19,f20⟩:=tm
 have c1:dr.call (1::List.replicate 31 0)=some kK:=by rw[←EJ];exact dr.run (d:=1::List.replicate 31 0) (by show(1::List.replicate 31 (0:Int)).length=32;rw[List.length_cons,List.length_replicate])
 have c2:dm.call kK=some pK:=by rw[←AA];exact dm.run (d:=kK) ⟨by decide,by decide⟩
 have c3:dp.call pK=some CQ:=dp.run (d:=pK) trivial
 rw[bB.eq]
 refine(congrArg (fun z=>ae z _) c1).trans ?_
 rw[aa,c2,aa,c3]
 simp only[aa]
 refine(congrArg (fun z=>ae z _) f2).trans ?_
 rw[aa]
 refine(congrArg (fun z=>ae z _) f3).trans ?_
 rw[aa]
 refine(congrArg (fun z=>ae z _) f4).trans ?_
 rw[aa]
 simp only[f5,f6,aa,f10,f11]
 refine(congrArg (fun z=>ae z _) f7).trans ?_
 rw[aa]
 refine(congrArg (fun z=>ae z _) f8).trans ?_
 rw[aa]
 refine(congrArg (fun z=>ae z _) f9).trans ?_
 rw[aa]
 rw[show gM ((2:Nat):Int) 2=false from rfl,bh (by decide) (by decide),show gM (([s].length:Nat):Int) 1=false from rfl,show gM (([(m,(0:Int),()),(m,1,()),(m,2,())].length:Nat):Int) 3=false from rfl,show gM (([(lq 3).1,(lq 4).1].length:Nat):Int) 2=false from rfl]
 simp only[ao,ay,show gM (0:Int) 0=false from rfl]
 refine(congrArg (fun z=>ae z _) f12).trans ?_
 rw[aa,ay,dq rfl,ay,ay,f13,aa]
 refine(congrArg (fun z=>ae z _) f1).trans ?_
 rw[aa,AE,ay]
 refine(congrArg (fun z=>ae z _) f1).trans ?_
 rw[aa,show dS 0 (([s].length:Nat):Int)=true from rfl,ay]
 refine(congrArg (fun z=>ae z _) f14).trans ?_
 rw[aa,ay,dq rfl,ay,dq rfl,ay]
 refine(congrArg (fun z=>ae z _) f15).trans ?_
 rw[aa,dq rfl,ay,f16,aa,dq rfl,ay,f17,aa,ay]
 refine(congrArg (fun z=>ae z _) f18).trans ?_
 rw[aa]
 simp only[Bool.not_false,ay]
 rw[show dS 2 (([(m,(0:Int),()),(m,1,()),(m,2,())].length:Nat):Int)=true from rfl,ay]
 refine(congrArg (fun z=>ae z _) f1).trans ?_
 rw[aa,pZ]
 refine(congrArg (fun z=>aF z _ _) (aR (p:=((m,(2:Int),()):jB)=(m,2,())) rfl)).trans ?_
 rw[ay,show dS 1 (([(lq 3).1,(lq 4).1].length:Nat):Int)=true from rfl,ay,pZ]
 refine(congrArg (fun z=>aF z _ _) (aR (p:=((List.replicate 32 (0:Int),(4:Int),()):jB)=(List.replicate 32 0,4,())) rfl)).trans ?_
 rw[ay]
 refine(congrArg (fun z=>ae z _) f19).trans ?_
 rw[aa,AE,ay]
 refine(congrArg (fun z=>ae z _) f20).trans ?_
 rfl
noncomputable def bB.E:=Entry.cv [] bB.st bB.aD bB.add bB.F bB.out
noncomputable def bB.call:bB.D→Option bB.X:=bJ bB.E bB.st
theorem bB.run:bE bB.call bB.aD bB.add bB.F:=cQ (cP [] fun _=>by kernel_rfl)
noncomputable def bB.sg:SG Tryz.prog:=⟨21,aW,bB.E,.fn 0 (by kernel_rfl) bB.ok trivial⟩
set_option synthInstance.maxSize 5000
abbrev cm.D:=eD×Bs
def cm.st:cm.D→SA:=fun(t,b)=>([.d fw t,.d tB b],[])
abbrev cm.Y:=Bool
abbrev cm.X:=Bool
def cm.out:cm.X→aZ:=fun x=>⟨.d .bool x,[],[]⟩
def cm.add:cm.D→cm.Y→cm.X:=fun(t,b) y=>y
def cm.aD:cm.D→Prop:=fun(t,b)=>DR t∧Bytes b
def cm.F:cm.D→cm.Y:=fun _=>true
theorem zh(s:ByteArray):seq s s=true:=by simp[seq]
theorem so:ig []=Bm:=by rfl
theorem tZ:oC xL:=⟨⟨Nat.zero_le _,fun x hx=>(by cases hx)⟩,Nat.zero_le _,fun x hx=>(by cases hx)⟩
theorem xB(x:Bool):Ty.beq .bool x x=true:=by cases x <;> rfl
noncomputable def cm.G:dV:=eY (P:=Tryz.prog) [bB.sg,ab.sg,aI.sg,av.sg,al.sg,aj.sg]
noncomputable def cm.an:eJ:= {}
noncomputable def cm.A:= @cK Tryz.prog cm.G cm.an 0 Tryz.f5 _ cm.st
abbrev cm.Ok:=cM @cm.A cm.aD cm.add cm.F cm.out
theorem cm.eq{R:Type}(t:eD)(b:Bs)(k:aZ→Option R):cm.A (t,b) k=
  ae (bB.call ()) fun x4=>
  ae (ab.call t) fun x8=>
  aF ((!x8)) (
   k (cm.out x4)) (
   aF ((mv (((List.length b):Nat):Int) (5000:Int))) (
    k (cm.out x4)) (
    ae (aI.call t) fun x12=>
    ae (av.call x12) fun x16=>
    ae (al.call t) fun x23=>
    aF ((!(Ty.beq .bool x23 (mv (((List.length x12):Nat):Int) (0:Int))))) (
     k (cm.out false)) (
     aF ((!(Ty.beq .bool x16.2 (mv (((List.length x12):Nat):Int) (0:Int))))) (
      k (cm.out false)) (
      aF (x16.2) (
       ae (aj.call (x16.1,t)) fun x24=>
       aF ((!x24)) (
        k (cm.out false)) (
        ae (av.call b) fun x28=>
        aF (x4) (
         aF (x28.2) (
          ae (al.call x28.1) fun x34=>
          aF (x34) (
           ae (aI.call x28.1) fun x35=>
           aF ((seq (gj x35) (gj b))) (
            k (cm.out true)) (
            aF ((!x28.2)) (
             ae (aj.call (x28.1,(([]:List eR),(([]:List fL),((0:Int),()))))) fun x36=>
             k (cm.out x36)) (
             k (cm.out false)))) (
           aF ((!x28.2)) (
            ae (aj.call (x28.1,(([]:List eR),(([]:List fL),((0:Int),()))))) fun x37=>
            k (cm.out x37)) (
            k (cm.out false)))) (
          aF ((!x28.2)) (
           ae (aj.call (x28.1,(([]:List eR),(([]:List fL),((0:Int),()))))) fun x38=>
           k (cm.out x38)) (
           k (cm.out false)))) (
         k (cm.out false)))) (
       ae (av.call b) fun x42=>
       aF (x4) (
        aF (x42.2) (
         ae (al.call x42.1) fun x48=>
         aF (x48) (
          ae (aI.call x42.1) fun x49=>
          aF ((seq (gj x49) (gj b))) (
           k (cm.out true)) (
           aF ((!x42.2)) (
            ae (aj.call (x42.1,(([]:List eR),(([]:List fL),((0:Int),()))))) fun x50=>
            k (cm.out x50)) (
            k (cm.out false)))) (
          aF ((!x42.2)) (
           ae (aj.call (x42.1,(([]:List eR),(([]:List fL),((0:Int),()))))) fun x51=>
           k (cm.out x51)) (
           k (cm.out false)))) (
         aF ((!x42.2)) (
          ae (aj.call (x42.1,(([]:List eR),(([]:List fL),((0:Int),()))))) fun x52=>
          k (cm.out x52)) (
          k (cm.out false)))) (
        k (cm.out false))))))):=by kernel_rfl
theorem cm.ok:cm.Ok:=by
 intro(t,b) ⟨hg,hb⟩
 rw[cm.eq,bB.run (d:=()) trivial]
 simp only[aa]
 rw[ab.run (d:=t) trivial]
 simp only[aa,ab.add,ab.F,bB.add,bB.F,cm.add,cm.F]
 cases hs:nP t
 ·rfl
 obtain⟨hv,hsh,_⟩:=sL hg hs
 simp only[Bool.not_true,ao]
 by_cases hl:b.length≤5000
 case neg=>rw[dG (by omega),ay]
 rw[dx (by omega),ao,aI.run (d:=t) hv]
 simp only[aa,aI.add,aI.F]
 have bl:=uf hv
 have c2:av.call (sT t)=some (ig (sT t)):=av.run (d:=sT t) ⟨bl.1,by have:=bl.2;omega⟩
 have c3:al.call t=some (fg t):=al.run (d:=t) hv.1
 have c4:av.call b=some (ig b):=av.run (d:=b) ⟨hb,by omega⟩
 have c5:aj.call (t,t)=some true:=by
  rw[aj.run (d:=(t,t)) hsh]
  simp only[aj.add,aj.F,decide_true]
 have e1:Ty.beq .bool (fg t) (mv (((sT t).length:Nat):Int) 0)=true:=by
  cases hok:fg t
  ·rw[yt hok];rfl
  ·rw[dG (by have:=zk hok;omega)];rfl
 have e2:Ty.beq .bool (ig (sT t)).2 (mv (((sT t).length:Nat):Int) 0)=true:=by
  cases hok:fg t
  ·rw[yt hok,so];rfl
  ·rw[oU hv hok,dG (by have:=zk hok;omega)];rfl
 rw[c2,c3]
 simp only[aa,e1,e2,Bool.not_true,ao]
 have c6:aj.call (xL,xL)=some true:=by
  rw[aj.run (d:=(xL,xL)) tZ]
  simp only[aj.add,aj.F,decide_true]
 have c7:aj.call ((([]:List eR),(([]:List fL),((0:Int),()))),(([]:List eR),(([]:List fL),((0:Int),()))))=some true:=c6
 have hT:av.call b=some ((([]:List eR),(([]:List fL),((0:Int),()))),false)∨∃u,av.call b=some (u,true)∧al.call u=some true∧aI.call u=some b:=by
  cases hr:(ig b).2
  ·left
   rw[c4,Ae hr]
   rfl
  ·right
   obtain⟨u,e,hok,hu,hbb⟩:=Ad hb (by omega) hr
   refine⟨u,by rw[c4,e],?_,?_⟩
   ·rw[al.run (d:=u) hu.1]
    simp only[al.add,al.F,hok]
   ·rw[aI.run (d:=u) hu]
    simp only[aI.add,aI.F,hbb]
 have hU:(ig (sT t)).2=false∨ig (sT t)=(t,true):=by
  cases hok:fg t
  ·left
   rw[yt hok,so]
   rfl
  ·exact .inr (oU hv hok)
 rcases hU with h1 | h1 <;> rcases hT with h2 | ⟨u,h2,h3,h4⟩
 ·rw[h1,h2]
  simp only[aa,ay,ao,c7,Bool.not_false]
 ·rw[h1,h2]
  simp only[aa,ay,ao,h3,h4,zh]
 ·rw[h1,h2]
  simp only[aa,ay,ao,c5,c7,Bool.not_false,Bool.not_true]
 ·rw[h1,h2]
  simp only[aa,ay,ao,c5,h3,h4,zh,Bool.not_true]
noncomputable def cm.E:=Entry.cv [some fw,some tB] cm.st cm.aD cm.add cm.F cm.out
noncomputable def cm.call:cm.D→Option cm.X:=bJ cm.E cm.st
theorem cm.run:bE cm.call cm.aD cm.add cm.F:=cQ (cP [.d fw,.d tB] fun _=>by kernel_rfl)
noncomputable def cm.sg:SG Tryz.prog:=⟨5,aW,cm.E,.fn 0 (by kernel_rfl) cm.ok trivial⟩
set_option synthInstance.maxSize 5000
abbrev au.L0.D:=Int×Bs×Int×eD×Bool×Int×eD×j6
def au.L0.st:au.L0.D→AS:=fun(inv_2,keys_2,secret_2,t_2,head,i,n13,n15)=>⟨([.undef,.d ti inv_2,.undef,.d tU keys_2,.d tu secret_2,.ej fw t_2]++ba 5 ([.d .bool head,.undef,.ptr (.new 13 0) 0 [] 0,.undef,.ptr (.new 15 0) 0 [] 0,.d ti i]++ba 182 [])),[],(bK 13 ([[.obj 0 false (.d fw n13)],[],[.obj 0 false (.d mK n15)]]++bK 183 []))⟩
abbrev au.L0.Y0:=Unit
abbrev au.L0.X0:=Unit
def au.L0.bw:au.L0.X0→Exit×AS:=fun x=>(.ret,⟨(ba 10 ([.d .bool false]++ba 188 [])),[],(List.replicate 199 [])⟩)
abbrev au.L0.Y1:=Unit
abbrev au.L0.X1:=Int×Bs×Int×eD×Bool×eD
def au.L0.eO:au.L0.X1→Exit×AS:=fun x=>(.exit 0,⟨([.undef,.d ti x.1,.undef,.d tU x.2.1,.d tu x.2.2.1,.ej fw x.2.2.2.1]++ba 5 ([.d .bool x.2.2.2.2.1,.undef,.ptr (.new 13 0) 0 [] 0]++ba 185 [])),[],(bK 13 ([[.obj 0 false (.d fw x.2.2.2.2.2)]]++bK 185 []))⟩)
abbrev au.L0.X:=(au.L0.X0)⊕(au.L0.X1)
abbrev au.L0.Y:=(au.L0.Y0)⊕(au.L0.Y1)
def au.L0.out:au.L0.X→Out (Exit×AS):=fun x=> .br x.isLeft (.get x.getLeft? fun a=> .ok (au.L0.bw a)) (.get x.getRight? fun b=> .ok (au.L0.eO b))
def au.L0.add:au.L0.D→au.L0.Y→au.L0.X:=fun(inv_2,keys_2,secret_2,t_2,head,i,n13,n15) y=>match y with | .inl y=> .inl y | .inr z=> .inr ((inv_2,keys_2,secret_2,t_2,head,n13))
abbrev au.L1.D:=Int×Bs×Int×eD×Bool×Int×eD
def au.L1.st:au.L1.D→AS:=fun(inv_3,keys_3,secret_3,t_3,head_2,i_2,n13_2)=>⟨([.undef,.d ti inv_3,.undef,.d tU keys_3,.d tu secret_3,.ej fw t_3]++ba 5 ([.d .bool head_2,.undef,.ptr (.new 13 0) 0 [] 0,.undef,.undef,.undef,.d ti i_2]++ba 181 [])),[],(bK 13 ([[.obj 0 false (.d fw n13_2)]]++bK 185 []))⟩
abbrev au.L1.Y0:=Unit
abbrev au.L1.X0:=Unit
def au.L1.bw:au.L1.X0→Exit×AS:=fun x=>(.ret,⟨(ba 10 ([.d .bool false]++ba 188 [])),[],(List.replicate 199 [])⟩)
abbrev au.L1.Y1:=Unit
abbrev au.L1.X1:=Int×Bs×Int×eD×Bool×eD
def au.L1.eO:au.L1.X1→Exit×AS:=fun x=>(.exit 2,⟨([.undef,.d ti x.1,.undef,.d tU x.2.1,.d tu x.2.2.1,.ej fw x.2.2.2.1]++ba 5 ([.d .bool x.2.2.2.2.1,.undef,.ptr (.new 13 0) 0 [] 0]++ba 185 [])),[],(bK 13 ([[.obj 0 false (.d fw x.2.2.2.2.2)]]++bK 185 []))⟩)
abbrev au.L1.X:=(au.L1.X0)⊕(au.L1.X1)
abbrev au.L1.Y:=(au.L1.Y0)⊕(au.L1.Y1)
def au.L1.out:au.L1.X→Out (Exit×AS):=fun x=> .br x.isLeft (.get x.getLeft? fun a=> .ok (au.L1.bw a)) (.get x.getRight? fun b=> .ok (au.L1.eO b))
def au.L1.add:au.L1.D→au.L1.Y→au.L1.X:=fun(inv_3,keys_3,secret_3,t_3,head_2,i_2,n13_2) y=>match y with | .inl y=> .inl y | .inr z=> .inr ((inv_3,keys_3,secret_3,t_3,head_2,n13_2))
abbrev au.mY.X:=Bool×Int×Int×eD×eD
def au.mY.st:au.mY.X→AS:=fun(head,f,n,n13,n18)=>⟨(ba 11 ([.d .bool head,.undef,.ptr (.new 13 0) 0 [] 0]++ba 4 ([.ptr (.new 18 0) 0 [] 0,.d ti f,.d ti n]++ba 178 []))),[],(bK 13 ([[.obj 0 false (.d fw n13)]]++bK 4 ([[.obj 0 false (.d fw n18)]]++bK 180 [])))⟩
noncomputable def au.mY.J:rz:=rz.of {bn:=[11,13,18,19,20],sites:=[13,18]} au.mY.st
noncomputable def au.mY.fin:au.mY.X→Option au.mY.X:=fun x=>(au.mY.J).DN .normal (au.mY.st x)
theorem au.mY.xR(x:au.mY.X):au.mY.fin x=some x:=rz.Ds (eI [.d .bool,.d ti,.d ti,.d fw,.d fw] fun _=>by kernel_rfl) x
abbrev au.D:=eD×Int×Int×Bs×Int
def au.st:au.D→SA:=fun(t,inv,branch,keys,secret)=>([.d fw t,.d ti inv,.d ti branch,.d tU keys,.d tu secret],[])
abbrev au.Y:=Bool
abbrev au.X:=Bool
def au.out:au.X→aZ:=fun x=>⟨.d .bool x,[],[]⟩
def au.add:au.D→au.Y→au.X:=fun(t,inv,branch,keys,secret) y=>y
def au.L0.aD:au.L0.D→Prop:=fun(inv,ks,sc,t,hd,i,u,w)=>qF t∧ks.length≤14∧(∀x∈ks,0 < x∧x < 2305843009213688669)∧w.2.1=ks.map (fun k=>gE k (oY t))∧∃k:Nat,k≤ks.length∧i=k
def au.L0.F:au.L0.D→au.L0.Y:=fun _=> .inr ()
def au.L1.aD:au.L1.D→Prop:=fun(inv,ks,sc,t,hd,i,u)=>t.1.length≤1000∧u.1.length=t.1.length∧(∀x∈t.1,x.2.1.2.1.length≤1000000000)∧(∀k:Nat,(k:Int)≠inv→nth cH u.1 k=nth cH t.1 k)∧∃k:Nat,k≤t.1.length∧i=k
def au.L1.F:au.L1.D→au.L1.Y:=fun _=> .inr ()
def au.aD:au.D→Prop:=fun(t,inv,br,ks,sc)=>DR t∧(∀x∈ks,ik x)∧ik sc
def au.F:au.D→au.Y:=fun _=>true
def sX(x:eR):Int:=(10+8*x.2.1.2.1.length)+(if x.2.1.2.2.1=0 then 0 else 4)
def wS:List eR→Int
 |[]=>0
 |x::l=>sX x+wS l
theorem yM:∀(l:List eR) (n:Int),l.foldl mN n=n+wS l
 |[],n=>by rw[wS];exact(Int.add_zero n).symm
 |x::l,n=>by
  have e:mN n x=n+sX x:=by unfold mN sX;omega
  rw[List.foldl_cons,yM l,e,wS]
  omega
theorem BS:∀(l:List eR) (k:Nat) (x:eR) (h:k < l.length),wS (l.set k x)=wS l - sX l[k]+sX x
 |y::l,0,x,_=>by
  show sX x+wS l=sX y+wS l - sX y+sX x
  omega
 |y::l,k+1,x,h=>by
  have h':k < l.length:=by rw[List.length_cons]at h;omega
  have e:=BS l k x h'
  show sX y+wS (l.set k x)=sX y+wS l - sX l[k]+sX x
  omega
theorem E7(x:eR):0≤sX x∧sX x≤14+8*x.2.1.2.1.length:=by unfold sX;split <;> omega
theorem Ep:∀(l:List eR),(∀x∈l,x.2.1.2.1.length≤12)→0≤wS l∧wS l≤200*l.length
 |[],_=>⟨Int.le_refl 0,Int.le_refl 0⟩
 |x::l,h=>by
  have h1:=h x List.mem_cons_self
  have h2:=Ep l fun y hy=>h y (List.mem_cons_of_mem _ hy)
  have h3:=E7 x
  rw[wS,List.length_cons]
  omega
theorem qD{t:eD}(h:fg t=true):jA t=10+8*t.2.1.length+wS t.1:=by
 unfold jA
 rw[h]
 exact yM t.1 _
theorem pX{t:eD}(h:fg t=true):0≤jA t∧jA t≤100000:=by
 obtain⟨⟨_,a2,a3,_⟩,b1,b2⟩:=gS h
 have:=Ep t.1 fun x hx=>(ky (gh _ _ b1 x hx)).2.2.2.2
 rw[qD h]
 omega
theorem nN{t:eD}{k:Nat}{w:j6}(h:k < t.1.length)(hok:fg t=true)(hw:gn w=true):jA (hH t k w)=jA t - sX t.1[k]+((10+8*w.2.1.length)+(if w.2.2.1=0 then 0 else 4)):=by
 rw[qD (mH h hok hw),qD hok]
 have:=BS t.1 k ((nth cH t.1 k).1,w,()) h
 show 10+8*(t.2.1.length:Int)+wS (t.1.set k ((nth cH t.1 k).1,w,()))=_
 rw[this]
 show _=10+8*(t.2.1.length:Int)+wS t.1 - sX t.1[k]+sX ((nth cH t.1 k).1,w,())
 omega
noncomputable def au.G:dV:=eY (P:=Tryz.prog) [bB.sg,ab.sg,bp.sg,aj.sg,tid.sg,al.sg,aN.sg,az.sg,bq.sg,dm.sg,bS.sg,aU.sg,aJ.sg]
noncomputable def au.L0.E:=bP.cv au.L0.st au.L0.aD au.L0.add au.L0.F au.L0.out
noncomputable def au.L0.call:au.L0.D→Option au.L0.X:=dk au.L0.E au.L0.st
noncomputable def au.L1.E:=bP.cv au.L1.st au.L1.aD au.L1.add au.L1.F au.L1.out
noncomputable def au.L1.call:au.L1.D→Option au.L1.X:=dk au.L1.E au.L1.st
noncomputable def au.an:eJ:= {loops:=jJ [(14,{bn:=[1,3,4,5,11,13,15,16],sites:=[13,15]}),(19,{bn:=[1,3,4,5,11,13,17],sites:=[13]})],outs:=jI [(14,{bn:=[1,3,4,5,11,13],sites:=[13]},{bn:=[10]}),(19,{bn:=[1,3,4,5,11,13],sites:=[13]},{bn:=[10]})],fJ:=kz [(14,au.L0.E),(19,au.L1.E)],CP:=kz [(27,au.mY.J)]}
noncomputable def au.A:= @cK Tryz.prog au.G au.an 0 Tryz.f6 _ au.st
abbrev au.Ok:=cM @au.A au.aD au.add au.F au.out
noncomputable def au.L0.R:= @bV Tryz.prog au.G au.an 0 Tryz.f6 0 _ au.L0.st
abbrev au.L0.Ok:=eA Tryz.prog au.G au.an 0 Tryz.f6 0 au.L0.st au.L0.aD au.L0.add au.L0.F au.L0.out
noncomputable def au.L1.R:= @bV Tryz.prog au.G au.an 0 Tryz.f6 1 _ au.L1.st
abbrev au.L1.Ok:=eA Tryz.prog au.G au.an 0 Tryz.f6 1 au.L1.st au.L1.aD au.L1.add au.L1.F au.L1.out
theorem au.L0.run:bE au.L0.call au.L0.aD au.L0.add au.L0.F:=eK (eI [.d ti,.d tU,.d tu,.d fw,.d .bool,.d ti,.d fw,.d mK] fun _=>by kernel_rfl)
theorem au.L0.aG:iO @au.L0.R au.L0.st au.L0.aD au.L0.add au.L0.F au.L0.out au.L0.Ok:=jk
theorem au.L0.step{R:Type}(inv_2:Int)(keys_2:Bs)(secret_2:Int)(t_2:eD)(head:Bool)(i:Int)(n13:eD)(n15:j6)(kn:AS→Option R)(kx:Exit→AS→Option R):au.L0.R (inv_2,keys_2,secret_2,t_2,head,i,n13,n15) kn kx=
  aF ((gb i (((List.length keys_2):Nat):Int))) (
   aF (dS i (((List.length keys_2):Nat):Int)) (
   ae (dm.call (nth tu keys_2 (Int.toNat i))) fun x10=>
   ae (tid.call t_2) fun x11=>
   aF (dS i (((List.length n15.2.1):Nat):Int)) (
   ae (bS.call (x10,x11,(nth jc n15.2.1 (Int.toNat i)))) fun x12=>
   aF ((!x12)) (
    kx (au.L0.bw ()).1 (au.L0.bw ()).2) (
    kn (au.L0.st (inv_2,keys_2,secret_2,t_2,head,(bO .i64 i (1:Int)),n13,n15)))) none) none) (
   kx (au.L0.eO (inv_2,keys_2,secret_2,t_2,head,n13)).1 (au.L0.eO (inv_2,keys_2,secret_2,t_2,head,n13)).2):=by kernel_rfl
theorem au.L1.run:bE au.L1.call au.L1.aD au.L1.add au.L1.F:=eK (eI [.d ti,.d tU,.d tu,.d fw,.d .bool,.d ti,.d fw] fun _=>by kernel_rfl)
theorem au.L1.aG:iO @au.L1.R au.L1.st au.L1.aD au.L1.add au.L1.F au.L1.out au.L1.Ok:=jk
theorem au.L1.step{R:Type}(inv_3:Int)(keys_3:Bs)(secret_3:Int)(t_3:eD)(head_2:Bool)(i_2:Int)(n13_2:eD)(kn:AS→Option R)(kx:Exit→AS→Option R):au.L1.R (inv_3,keys_3,secret_3,t_3,head_2,i_2,n13_2) kn kx=
  aF ((gb i_2 (((List.length t_3.1):Nat):Int))) (
   aF ((gM i_2 inv_3)) (
    aF (dS i_2 (((List.length t_3.1):Nat):Int)) (
    aF (dS i_2 (((List.length n13_2.1):Nat):Int)) (
    ae (aU.call ((nth cH t_3.1 (Int.toNat i_2)).2.1,(nth cH n13_2.1 (Int.toNat i_2)).2.1)) fun x4=>
    aF ((!x4)) (
     kx (au.L1.bw ()).1 (au.L1.bw ()).2) (
     kn (au.L1.st (inv_3,keys_3,secret_3,t_3,head_2,(bO .i64 i_2 (1:Int)),n13_2)))) none) none) (
    kn (au.L1.st (inv_3,keys_3,secret_3,t_3,head_2,(bO .i64 i_2 (1:Int)),n13_2)))) (
   kx (au.L1.eO (inv_3,keys_3,secret_3,t_3,head_2,n13_2)).1 (au.L1.eO (inv_3,keys_3,secret_3,t_3,head_2,n13_2)).2):=by kernel_rfl
theorem au.eq{R:Type}(t:eD)(inv:Int)(branch:Int)(keys:Bs)(secret:Int)(k:aZ→Option R):au.A (t,inv,branch,keys,secret) k=
  ae (bB.call ()) fun x4=>
  ae (ab.call t) fun x8=>
  aF ((!x8)) (
   k (au.out x4)) (
   aF ((mv (((List.length keys):Nat):Int) (14:Int))) (
    k (au.out x4)) (
    ae (bp.call (t,inv,branch,keys,secret)) fun x12=>
    aF ((gM x12.2 (0:Int))) (
     aF (x4) (
      ae (aj.call (x12.1,(([]:List eR),(([]:List fL),((0:Int),()))))) fun x16=>
      k (au.out x16)) (
      k (au.out false))) (
     aF ((gM (((List.length x12.1.1):Nat):Int) (((List.length t.1):Nat):Int))) (
      k (au.out false)) (
      aF ((gb inv (0:Int))) (
       k (au.out false)) (
       aF ((l6 inv (((List.length t.1):Nat):Int))) (
        k (au.out false)) (
        ae (tid.call x12.1) fun x44=>
        ae (tid.call t) fun x45=>
        aF ((!(Ty.beq tH x44 x45))) (
         k (au.out false)) (
         ae (al.call x12.1) fun x46=>
         aF ((!x46)) (
          k (au.out false)) (
          ae (aN.call x12.1) fun x47=>
          ae (aN.call t) fun x48=>
          ae (az.call (x47,x48)) fun x49=>
          aF ((!x49)) (
           k (au.out false)) (
           ae (bq.call x12.1) fun x50=>
           ae (bq.call t) fun x51=>
           ae (az.call (x50,x51)) fun x52=>
           aF ((!x52)) (
            k (au.out false)) (
            aF (dS inv (((List.length x12.1.1):Nat):Int)) (
            aF ((gM (nth cH x12.1.1 (Int.toNat inv)).2.1.1 branch)) (
             k (au.out false)) (
             aF ((gM (nth cH x12.1.1 (Int.toNat inv)).2.1.2.2.1 secret)) (
              k (au.out false)) (
              aF ((gM (((List.length (nth cH x12.1.1 (Int.toNat inv)).2.1.2.1):Nat):Int) (((List.length keys):Nat):Int))) (
               k (au.out false)) (
               ae (au.L0.call (inv,keys,secret,t,x4,(0:Int),x12.1,(nth cH x12.1.1 (Int.toNat inv)).2.1)) fun x68=>
               aF (x68.isLeft) (
                ae (x68.getLeft?) fun a69=>
                k (au.out false)) (
                ae (x68.getRight?) fun b70=>
                ae (au.L1.call (b70.1,b70.2.1,b70.2.2.1,b70.2.2.2.1,b70.2.2.2.2.1,(0:Int),b70.2.2.2.2.2)) fun x78=>
                aF (x78.isLeft) (
                 ae (x78.getLeft?) fun a79=>
                 k (au.out false)) (
                 ae (x78.getRight?) fun b80=>
                 aF (dS b80.1 (((List.length b80.2.2.2.1.1):Nat):Int)) (
                 ae (bp.call (b80.2.2.2.2.2,b80.1,(nth cH b80.2.2.2.1.1 (Int.toNat b80.1)).2.1.1,([]:List Int),(0:Int))) fun x84=>
                 ae (
                  aF ((gM b80.2.2.1 (0:Int))) (
                   au.mY.fin (b80.2.2.2.2.1,x84.2,(bO .i64 (eW .i64 (8:Int) (((List.length b80.2.1):Nat):Int)) (4:Int)),b80.2.2.2.2.2,x84.1)) (
                   au.mY.fin (b80.2.2.2.2.1,x84.2,(eW .i64 (8:Int) (((List.length b80.2.1):Nat):Int)),b80.2.2.2.2.2,x84.1))) fun x85=>
                 aF (x85.1) (
                  aF ((kR x85.2.1 (0:Int))) (
                   ae (aJ.call x85.2.2.2.1) fun x88=>
                   ae (aJ.call x85.2.2.2.2) fun x89=>
                   k (au.out (kR x88 (bO .i64 x89 x85.2.2.1)))) (
                   k (au.out false))) (
                  k (au.out false))) none)))))) none)))))))))):=by kernel_rfl
theorem au.L0.ok:au.L0.Ok:=by
 refine au.L0.aG (fun(inv,ks,sc,t,hd,i,u,w)=>ks.length - i.toNat) ?_
 rintro⟨inv,ks,sc,t,hd,i,u,w⟩ ⟨hv,hl,hk,hw,k,hkl,rfl⟩
 have hl:ks.length≤14:=hl
 have hkl:k≤ks.length:=hkl
 have hw:w.2.1=ks.map (fun k=>gE k (oY t)):=hw
 have hwl:w.2.1.length=ks.length:=by rw[hw,List.length_map]
 by_cases h:k < ks.length
 ·left
  have n1:nth tu ks k=ks[k]:=bZ (t:=tu) h
  have n2:nth jc w.2.1 k=gE ks[k] (oY t):=by
   rw[show nth jc w.2.1 k=w.2.1[k]'(by omega) from bZ (t:=jc) (by omega)]
   simp only[hw,List.getElem_map]
  have e:=hk _ (List.getElem_mem h)
  refine⟨(inv,ks,sc,t,hd,((k+1:Nat):Int),u,w),⟨hv,hl,hk,hw,k+1,by omega,rfl⟩,by simp only[Int.toNat_natCast];omega,rfl,fun kn kx=> ?_⟩
  rw[au.L0.step,bA (by omega),bh (by omega) (by omega),bh (by omega) (by omega),Int.toNat_natCast,n1,n2,N.kr (by omega)]
  rw[dm.run (d:=ks[k]) ⟨by omega,by omega⟩,tid.run (d:=t) hv]
  simp only[ay,aa,dm.add,dm.F,tid.add,tid.F]
  rw[bS.run (d:=(gH ks[k],oY t,gE ks[k] (oY t))) ⟨vH _,yu,sD _ _⟩]
  simp only[aa,bS.add,bS.F]
  rw[zi ks[k] (oY t) e.1 e.2]
  rfl
 ·right
  refine⟨_,rfl,fun kn kx=> ?_⟩
  rw[au.L0.step,bm (by omega),ao]
theorem au.L1.ok:au.L1.Ok:=by
 refine au.L1.aG (fun(inv,ks,sc,t,hd,i,u)=>t.1.length - i.toNat) ?_
 rintro⟨inv,ks,sc,t,hd,i,u⟩ ⟨hl,hul,hx,hs,k,hkl,rfl⟩
 have hl:t.1.length≤1000:=hl
 have hkl:k≤t.1.length:=hkl
 have hul:u.1.length=t.1.length:=hul
 by_cases h:k < t.1.length
 ·left
  have n1:nth cH t.1 k=t.1[k]:=bZ (t:=cH) h
  refine⟨(inv,ks,sc,t,hd,((k+1:Nat):Int),u),⟨hl,hul,hx,hs,k+1,by omega,rfl⟩,by simp only[Int.toNat_natCast];omega,rfl,fun kn kx=> ?_⟩
  rw[au.L1.step,bA (by omega),N.kr (by omega),ay]
  by_cases hi:(k:Int)=inv
  ·rw[bM hi,ao]
  ·rw[dA hi,ay,bh (by omega) (by omega),ay,bh (by omega) (by omega),ay,Int.toNat_natCast,hs k hi,n1]
   rw[aU.run (d:=(t.1[k].2.1,t.1[k].2.1)) (hx _ (List.getElem_mem h))]
   simp only[aa,aU.add,aU.F,decide_true,Bool.not_true,ao]
 ·right
  refine⟨_,rfl,fun kn kx=> ?_⟩
  rw[au.L1.step,bm (by omega),ao]
theorem au.ok:au.Ok:=by
 intro(t,inv,br,ks,sc) ⟨hg,hk,hsc⟩
 have hk:∀x∈ks,ik x:=hk
 rw[au.eq,bB.run (d:=()) trivial]
 simp only[aa]
 rw[ab.run (d:=t) trivial]
 simp only[aa,ab.add,ab.F,bB.add,bB.F,au.add,au.F]
 cases hs:nP t
 ·rfl
 obtain⟨hv,hsh,_⟩:=sL hg hs
 simp only[Bool.not_true,ao]
 by_cases hl:ks.length≤14
 case neg=>rw[dG (by omega),ay]
 rw[dx (by omega),ao,bp.run (d:=(t,inv,br,ks,sc)) ⟨hv,hk,by omega⟩]
 simp only[aa,bp.add,bp.F,nO]
 cases ho:jQ t inv br ks
 ·have c6:aj.call ((([]:List eR),(([]:List fL),((0:Int),()))),(([]:List eR),(([]:List fL),((0:Int),()))))=some true:=by
   refine(aj.run (d:=(xL,xL)) tZ).trans ?_
   simp only[aj.add,aj.F,decide_true]
  simp only[Bool.false_eq_true,if_false,show gM (1:Int) 0=true from rfl,ay]
  rw[c6,aa]
 obtain⟨hok,hb,hks⟩:=sF ho
 obtain⟨a1,a2,a3,a4,a5⟩:=sG hv ho hsc
 obtain⟨k,rfl⟩:∃k:Nat,inv=k:=⟨inv.toNat,by omega⟩
 have hkl:k < t.1.length:=by omega
 have hn:=(mf hs).1
 have hwk:=vf sc ho
 have hwt:=nN hkl hok hwk
 simp only[if_true,show gM (0:Int) 0=false from rfl,ao,Int.toNat_natCast]at a1 a2 a3 a4 a5 ⊢
 obtain⟨u,hu⟩:∃u,hH t k (jP t br ks sc)=u:=⟨_,rfl⟩
 have hat:nth cH u.1 k=((nth cH t.1 k).1,jP t br ks sc,()):=by rw[←hu];exact vb hkl
 have hul:u.1.length=t.1.length:=by rw[←hu,sC]
 have hat':u.1[k]'(by omega)=((nth cH t.1 k).1,jP t br ks sc,()):=by rw[←hat];exact(bZ (t:=cH) (by omega)).symm
 have hoth:∀j:Nat,(j:Int)≠k→nth cH u.1 j=nth cH t.1 j:=fun j hj=>by
  rw[←hu]
  show nth cH (t.1.set k _) j=_
  unfold nth
  rw[List.getD_eq_getElem?_getD,List.getElem?_set_ne (by omega),List.getD_eq_getElem?_getD]
 rw[hu]at a1 a2 a3 a4 a5 hwt ⊢
 rw[bM (by omega),ao,bm (by omega),ao,eM (by omega),ao,tid.run (d:=u) a2,tid.run (d:=t) hv]
 simp only[aa,tid.add,tid.F,a3,AE,Bool.not_true,ao]
 rw[al.run (d:=u) a2.1,aN.run (d:=u) a2.1,aN.run (d:=t) hv.1]
 simp only[aa,al.add,al.F,a1,Bool.not_true,ao,aN.add,aN.F,a4]
 rw[az.run (d:=(gw t,gw t)) (by show(gw t).length≤_;unfold gw;rw[hok,if_pos rfl,List.length_map];omega)]
 simp only[aa,az.add,az.F,decide_true,Bool.not_true,ao]
 rw[bq.run (d:=u) a2,bq.run (d:=t) hv]
 simp only[aa,bq.add,bq.F,a5]
 rw[az.run (d:=(gv t,gv t)) (by show(gv t).length≤_;unfold gv l7;rw[hok,if_pos rfl,List.length_map,List.length_range'];have:=(gS hok).1.2.2.1;omega)]
 simp only[aa,az.add,az.F,decide_true,Bool.not_true,ao]
 rw[bh (by omega) (by omega),ay,hat]
 have w1:(jP t br ks sc).1=br:=rfl
 have w2:(jP t br ks sc).2.2.1=sc:=rfl
 have w3:(jP t br ks sc).2.1.length=ks.length:=List.length_map _
 simp only[w1,w2,w3]
 rw[bM rfl,bM rfl,bM rfl]
 simp only[ao]
 rw[au.L0.run (d:=((k:Int),ks,sc,t,true,0,u,jP t br ks sc)) ⟨hv,hl,fun x hx=>⟨by have:=(hk x hx).1;have:=(hks x hx).2;omega,(hks x hx).1⟩,rfl,0,Nat.zero_le _,rfl⟩]
 simp only[aa,au.L0.add,au.L0.F,Sum.isLeft_inr,ao,Sum.getRight?_inr]
 rw[au.L1.run (d:=((k:Int),ks,sc,t,true,0,u)) ⟨by have:=(mf hs).1;show t.1.length≤_;omega,hul,fun x hx=>by have:=(mf hs).2.2.1 x hx;omega,hoth,0,Nat.zero_le _,rfl⟩]
 simp only[aa,au.L1.add,au.L1.F,Sum.isLeft_inr,ao,Sum.getRight?_inr]
 have n1:nth cH t.1 k=t.1[k]:=bZ (t:=cH) hkl
 have hbr:=ky (gh _ _ (gS hok).2.1 _ (List.getElem_mem hkl))
 have hoV:jQ u (k:Int) t.1[k].2.1.1 []=true:=by
  unfold jQ
  rw[a1,aR ⟨by omega,by omega,hbr.2.2.1,hbr.2.2.2.1,Nat.zero_le _⟩]
  rfl
 rw[bh (by omega) (by omega),ay,Int.toNat_natCast,n1,bp.run (d:=(u,(k:Int),t.1[k].2.1.1,[],0)) ⟨a2,fun x hx=>(by cases hx),Nat.zero_le _⟩]
 simp only[aa,bp.add,bp.F,nO,hoV,if_true,Int.toNat_natCast]
 have b:=sG a2 hoV ⟨Int.le_refl 0,by decide⟩
 simp only[Int.toNat_natCast]at b
 have hwv:=nN (w:=jP u t.1[k].2.1.1 [] 0) (show k < u.1.length by omega) a1 (vf 0 hoV)
 obtain⟨v,hvv⟩:∃v,hH u k (jP u t.1[k].2.1.1 [] 0)=v:=⟨_,rfl⟩
 rw[hvv]at b hwv ⊢
 have e2:sX u.1[k]=10+8*ks.length+(if sc=0 then 0 else 4):=by
  rw[hat']
  unfold sX
  simp only[w2,w3]
 have e3:(jP u t.1[k].2.1.1 [] 0).2.1.length=0:=rfl
 have e4:(jP u t.1[k].2.1.1 [] 0).2.2.1=0:=rfl
 rw[e2,e3,e4,if_pos rfl]at hwv
 have c1:=pX a1
 have c2:=pX b.1
 rw[N.Dl (by omega),fS (by omega) (by omega)]
 simp only[au.mY.xR,aa]
 by_cases hz:sc=0
 ·rw[bM hz,ao]
  simp only[au.mY.xR,aa,ay,show kR (0:Int) 0=true from rfl]
  rw[aJ.run (d:=u) a2,aJ.run (d:=v) b.2.1]
  simp only[aa,aJ.add,aJ.F]
  rw[if_pos hz]at hwv
  rw[fS (by omega) (by omega),dq (by omega)]
 ·rw[dA hz,ay]
  simp only[au.mY.xR,aa,ay,show kR (0:Int) 0=true from rfl]
  rw[aJ.run (d:=u) a2,aJ.run (d:=v) b.2.1]
  simp only[aa,aJ.add,aJ.F]
  rw[if_neg hz]at hwv
  rw[fS (by omega) (by omega),dq (by omega)]
noncomputable def au.E:=Entry.cv [some fw,some ti,some ti,some tU,some tu] au.st au.aD au.add au.F au.out
noncomputable def au.call:au.D→Option au.X:=bJ au.E au.st
theorem au.run:bE au.call au.aD au.add au.F:=cQ (cP [.d fw,.d ti,.d ti,.d tU,.d tu] fun _=>by kernel_rfl)
noncomputable def au.sg:SG Tryz.prog:=⟨6,aW,au.E,.fn 2 (by kernel_rfl) au.ok (And.intro (.cv au.L0.ok (by kernel_rfl)) (And.intro (.cv au.L1.ok (by kernel_rfl)) trivial))⟩
set_option synthInstance.maxSize 5000
abbrev bf.D:=j6
def bf.st:bf.D→SA:=fun wv=>([.d mK wv],[])
abbrev bf.Y:=Int
abbrev bf.X:=Int
def bf.out:bf.X→aZ:=fun x=>⟨.d ti x,[],[]⟩
def bf.add:bf.D→bf.Y→bf.X:=fun wv y=>y
def bf.aD:bf.D→Prop:=fun w=>w.2.1.length≤1000
def bf.F:bf.D→bf.Y:=fun w=>8*(w.2.1.length:Int)+(if w.2.2.1=0 then 0 else 4)
noncomputable def bf.G:dV:=eY (P:=Tryz.prog) []
noncomputable def bf.an:eJ:= {}
noncomputable def bf.A:= @cK Tryz.prog bf.G bf.an 0 Tryz.f46 _ bf.st
abbrev bf.Ok:=cM @bf.A bf.aD bf.add bf.F bf.out
theorem bf.eq{R:Type}(wv:j6)(k:aZ→Option R):bf.A wv k=
  aF ((gM wv.2.2.1 (0:Int))) (
   k (bf.out (bO .i64 (eW .i64 (8:Int) (((List.length wv.2.1):Nat):Int)) (4:Int)))) (
   k (bf.out (eW .i64 (8:Int) (((List.length wv.2.1):Nat):Int)))):=by kernel_rfl
theorem bf.ok:bf.Ok:=by
 intro w h
 have h:w.2.1.length≤1000:=h
 rw[bf.eq,N.Dl (by omega)]
 simp only[bf.add,bf.F]
 by_cases hz:w.2.2.1=0
 ·rw[bM hz,ao,if_pos hz,Int.natCast_mul,Int.add_zero]
  rfl
 ·rw[dA hz,ay,if_neg hz,fS (by omega) (by omega),Int.natCast_mul]
  rfl
noncomputable def bf.E:=Entry.cv [some mK] bf.st bf.aD bf.add bf.F bf.out
noncomputable def bf.call:bf.D→Option bf.X:=bJ bf.E bf.st
theorem bf.run:bE bf.call bf.aD bf.add bf.F:=cQ (cP [.d mK] fun _=>by kernel_rfl)
noncomputable def bf.sg:SG Tryz.prog:=⟨46,aW,bf.E,.fn 0 (by kernel_rfl) bf.ok trivial⟩
abbrev ag.L0.D:=eD×j6×Bool×Bool×(List jB)×(List jB)×Int×Nat×Nat×(Int×Unit)×(List eR)×(List fL)
def ag.L0.st:ag.L0.D→AS:=fun(t_2,a_2,head,x,m,sv,i,n9L,n9L_2,n9,n47,n47_2)=>⟨([.undef,.undef,.undef,.ej fw t_2,.ej mK a_2,.undef,.undef,.d .bool head,.undef,.ptr (.new 9 0) 0 [] 0,.undef,.d .bool x,.undef,.d (.slice iC) m,.d (.slice iC) sv,.d ti i]++ba 168 []),[],(bK 9 ([[.obj 0 false (.pr (.bU (.new 47 0) 0 [] 0 0 n9L) (.pr (.bU (.new 47 1) 0 [] 0 0 n9L_2) (.d (.pair ti .unit) n9)))]]++bK 37 ([[.obj 0 true (.vec 57 cH n47),.obj 0 true (.vec 62 eX n47_2)]]++bK 136 [])))⟩
abbrev ag.L0.Y0:=Unit
abbrev ag.L0.X0:=Unit
def ag.L0.bw:ag.L0.X0→Exit×AS:=fun x=>(.ret,⟨(ba 6 ([.d .bool false]++ba 177 [])),[],(List.replicate 184 [])⟩)
abbrev ag.L0.Y1:=Unit
abbrev ag.L0.X1:=eD×j6×Bool×Bool×(List jB)×Nat×Nat×(Int×Unit)×(List eR)×(List fL)
def ag.L0.eO:ag.L0.X1→Exit×AS:=fun x=>(.exit 0,⟨([.undef,.undef,.undef,.ej fw x.1,.ej mK x.2.1,.undef,.undef,.d .bool x.2.2.1,.undef,.ptr (.new 9 0) 0 [] 0,.undef,.d .bool x.2.2.2.1,.undef,.undef,.d (.slice iC) x.2.2.2.2.1]++ba 169 []),[],(bK 9 ([[.obj 0 false (.pr (.bU (.new 47 0) 0 [] 0 0 x.2.2.2.2.2.1) (.pr (.bU (.new 47 1) 0 [] 0 0 x.2.2.2.2.2.2.1) (.d (.pair ti .unit) x.2.2.2.2.2.2.2.1)))]]++bK 37 ([[.obj 0 true (.vec 57 cH x.2.2.2.2.2.2.2.2.1),.obj 0 true (.vec 62 eX x.2.2.2.2.2.2.2.2.2)]]++bK 136 [])))⟩)
abbrev ag.L0.X:=(ag.L0.X0)⊕(ag.L0.X1)
abbrev ag.L0.Y:=(ag.L0.Y0)⊕(ag.L0.Y1)
def ag.L0.out:ag.L0.X→Out (Exit×AS):=fun x=> .br x.isLeft (.get x.getLeft? fun a=> .ok (ag.L0.bw a)) (.get x.getRight? fun b=> .ok (ag.L0.eO b))
def ag.L0.add:ag.L0.D→ag.L0.Y→ag.L0.X:=fun(t_2,a_2,head,x,m,sv,i,n9L,n9L_2,n9,n47,n47_2) y=>match y with | .inl y=> .inl y | .inr z=> .inr ((t_2,a_2,head,x,sv,n9L,n9L_2,n9,n47,n47_2))
abbrev ag.L1.D:=eD×j6×Bool×Bool×(List jB)×Int×Nat×Nat×(Int×Unit)×(List eR)×(List fL)
def ag.L1.st:ag.L1.D→AS:=fun(t_3,a_3,head_2,x_2,sv_2,i_2,n9L_3,n9L_4,n9_2,n47_3,n47_4)=>⟨([.undef,.undef,.undef,.ej fw t_3,.ej mK a_3,.undef,.undef,.d .bool head_2,.undef,.ptr (.new 9 0) 0 [] 0,.undef,.d .bool x_2,.undef,.undef,.d (.slice iC) sv_2,.undef,.d ti i_2]++ba 167 []),[],(bK 9 ([[.obj 0 false (.pr (.bU (.new 47 0) 0 [] 0 0 n9L_3) (.pr (.bU (.new 47 1) 0 [] 0 0 n9L_4) (.d (.pair ti .unit) n9_2)))]]++bK 37 ([[.obj 0 true (.vec 57 cH n47_3),.obj 0 true (.vec 62 eX n47_4)]]++bK 136 [])))⟩
abbrev ag.L1.Y0:=Unit
abbrev ag.L1.X0:=Unit
def ag.L1.bw:ag.L1.X0→Exit×AS:=fun x=>(.ret,⟨(ba 6 ([.d .bool false]++ba 177 [])),[],(List.replicate 184 [])⟩)
abbrev ag.L1.Y1:=Unit
abbrev ag.L1.X1:=eD×j6×Bool×Bool×Nat×Nat×(Int×Unit)×(List eR)×(List fL)
def ag.L1.eO:ag.L1.X1→Exit×AS:=fun x=>(.exit 2,⟨([.undef,.undef,.undef,.ej fw x.1,.ej mK x.2.1,.undef,.undef,.d .bool x.2.2.1,.undef,.ptr (.new 9 0) 0 [] 0,.undef,.d .bool x.2.2.2.1]++ba 172 []),[],(bK 9 ([[.obj 0 false (.pr (.bU (.new 47 0) 0 [] 0 0 x.2.2.2.2.1) (.pr (.bU (.new 47 1) 0 [] 0 0 x.2.2.2.2.2.1) (.d (.pair ti .unit) x.2.2.2.2.2.2.1)))]]++bK 37 ([[.obj 0 true (.vec 57 cH x.2.2.2.2.2.2.2.1),.obj 0 true (.vec 62 eX x.2.2.2.2.2.2.2.2)]]++bK 136 [])))⟩)
abbrev ag.L1.X:=(ag.L1.X0)⊕(ag.L1.X1)
abbrev ag.L1.Y:=(ag.L1.Y0)⊕(ag.L1.Y1)
def ag.L1.out:ag.L1.X→Out (Exit×AS):=fun x=> .br x.isLeft (.get x.getLeft? fun a=> .ok (ag.L1.bw a)) (.get x.getRight? fun b=> .ok (ag.L1.eO b))
def ag.L1.add:ag.L1.D→ag.L1.Y→ag.L1.X:=fun(t_3,a_3,head_2,x_2,sv_2,i_2,n9L_3,n9L_4,n9_2,n47_3,n47_4) y=>match y with | .inl y=> .inl y | .inr z=> .inr ((t_3,a_3,head_2,x_2,n9L_3,n9L_4,n9_2,n47_3,n47_4))
abbrev ag.D:=eD×j6×j6
def ag.st:ag.D→SA:=fun(t,a,b)=>([.d fw t,.d mK a,.d mK b],[])
abbrev ag.Y:=Bool
abbrev ag.X:=Bool
def ag.out:ag.X→aZ:=fun x=>⟨.d .bool x,[],[]⟩
def ag.add:ag.D→ag.Y→ag.X:=fun(t,a,b) y=>y
def ag.L0.aD:ag.L0.D→Prop:=fun(t,a,hd,x,m,sv,i,n1,n2,n9,is,os)=>qF t∧fg t=true∧m=gv t∧∃k:Nat,k≤t.2.1.length∧i=k
def ag.L0.F:ag.L0.D→ag.L0.Y:=fun _=> .inr ()
def ag.L1.aD:ag.L1.D→Prop:=fun(t,a,hd,x,sv,i,n1,n2,n9,is,os)=>t.1.length≤1000∧sv=t.1.map (·.1)∧∃k:Nat,k≤t.1.length∧i=k
def ag.L1.F:ag.L1.D→ag.L1.Y:=fun _=> .inr ()
def ag.aD:ag.D→Prop:=fun(t,a,b)=>DR t∧oo a∧oo b
def ag.F:ag.D→ag.Y:=fun _=>true
noncomputable def ag.G:dV:=eY (P:=Tryz.prog) [bB.sg,ab.sg,al.sg,ah.sg,tid.sg,bq.sg,aN.sg,aJ.sg,bf.sg]
noncomputable def ag.L0.E:=bP.cv ag.L0.st ag.L0.aD ag.L0.add ag.L0.F ag.L0.out
noncomputable def ag.L0.call:ag.L0.D→Option ag.L0.X:=dk ag.L0.E ag.L0.st
noncomputable def ag.L1.E:=bP.cv ag.L1.st ag.L1.aD ag.L1.add ag.L1.F ag.L1.out
noncomputable def ag.L1.call:ag.L1.D→Option ag.L1.X:=dk ag.L1.E ag.L1.st
noncomputable def ag.an:eJ:= {loops:=jJ [(18,{bn:=[3,4,7,9,11,13,14,15],sites:=[9,47]}),(23,{bn:=[3,4,7,9,11,14,16],sites:=[9,47]})],outs:=jI [(18,{bn:=[3,4,7,9,11,14],sites:=[9,47]},{bn:=[6]}),(23,{bn:=[3,4,7,9,11],sites:=[9,47]},{bn:=[6]})],fJ:=kz [(18,ag.L0.E),(23,ag.L1.E)]}
noncomputable def ag.A:= @cK Tryz.prog ag.G ag.an 0 Tryz.f7 _ ag.st
abbrev ag.Ok:=cM @ag.A ag.aD ag.add ag.F ag.out
noncomputable def ag.L0.R:= @bV Tryz.prog ag.G ag.an 0 Tryz.f7 0 _ ag.L0.st
abbrev ag.L0.Ok:=eA Tryz.prog ag.G ag.an 0 Tryz.f7 0 ag.L0.st ag.L0.aD ag.L0.add ag.L0.F ag.L0.out
noncomputable def ag.L1.R:= @bV Tryz.prog ag.G ag.an 0 Tryz.f7 1 _ ag.L1.st
abbrev ag.L1.Ok:=eA Tryz.prog ag.G ag.an 0 Tryz.f7 1 ag.L1.st ag.L1.aD ag.L1.add ag.L1.F ag.L1.out
theorem ag.L0.run:bE ag.L0.call ag.L0.aD ag.L0.add ag.L0.F:=eK (eI [.d fw,.d mK,.d .bool,.d .bool,.d (.slice iC),.d (.slice iC),.d ti,.n,.n,.d (.pair ti .unit),.d (.slice cH),.d (.slice eX)] fun _=>by kernel_rfl)
theorem ag.L0.aG:iO @ag.L0.R ag.L0.st ag.L0.aD ag.L0.add ag.L0.F ag.L0.out ag.L0.Ok:=jk
theorem ag.L0.step{R:Type}(t_2:eD)(a_2:j6)(head:Bool)(x:Bool)(m:(List jB))(sv:(List jB))(i:Int)(n9L:Nat)(n9L_2:Nat)(n9:(Int×Unit))(n47:(List eR))(n47_2:(List fL))(kn:AS→Option R)(kx:Exit→AS→Option R):ag.L0.R (t_2,a_2,head,x,m,sv,i,n9L,n9L_2,n9,n47,n47_2) kn kx=
  aF ((gb i (((List.length m):Nat):Int))) (
   aF (dS i (((List.length m):Nat):Int)) (
   ae (tid.call t_2) fun x4=>
   aF ((!(Ty.beq tH (nth iC m (Int.toNat i)).1 x4))) (
    kx (ag.L0.bw ()).1 (ag.L0.bw ()).2) (
    aF (dS i (((List.length m):Nat):Int)) (
    aF ((gM (nth iC m (Int.toNat i)).2.1 i)) (
     kx (ag.L0.bw ()).1 (ag.L0.bw ()).2) (
     kn (ag.L0.st (t_2,a_2,head,x,m,sv,(bO .i64 i (1:Int)),n9L,n9L_2,n9,n47,n47_2)))) none)) none) (
   kx (ag.L0.eO (t_2,a_2,head,x,sv,n9L,n9L_2,n9,n47,n47_2)).1 (ag.L0.eO (t_2,a_2,head,x,sv,n9L,n9L_2,n9,n47,n47_2)).2):=by kernel_rfl
theorem ag.L1.run:bE ag.L1.call ag.L1.aD ag.L1.add ag.L1.F:=eK (eI [.d fw,.d mK,.d .bool,.d .bool,.d (.slice iC),.d ti,.n,.n,.d (.pair ti .unit),.d (.slice cH),.d (.slice eX)] fun _=>by kernel_rfl)
theorem ag.L1.aG:iO @ag.L1.R ag.L1.st ag.L1.aD ag.L1.add ag.L1.F ag.L1.out ag.L1.Ok:=jk
theorem ag.L1.step{R:Type}(t_3:eD)(a_3:j6)(head_2:Bool)(x_2:Bool)(sv_2:(List jB))(i_2:Int)(n9L_3:Nat)(n9L_4:Nat)(n9_2:(Int×Unit))(n47_3:(List eR))(n47_4:(List fL))(kn:AS→Option R)(kx:Exit→AS→Option R):ag.L1.R (t_3,a_3,head_2,x_2,sv_2,i_2,n9L_3,n9L_4,n9_2,n47_3,n47_4) kn kx=
  aF ((gb i_2 (((List.length sv_2):Nat):Int))) (
   aF (dS i_2 (((List.length sv_2):Nat):Int)) (
   aF (dS i_2 (((List.length t_3.1):Nat):Int)) (
   aF ((!(Ty.beq iC (nth iC sv_2 (Int.toNat i_2)) (nth cH t_3.1 (Int.toNat i_2)).1))) (
    kx (ag.L1.bw ()).1 (ag.L1.bw ()).2) (
    kn (ag.L1.st (t_3,a_3,head_2,x_2,sv_2,(bO .i64 i_2 (1:Int)),n9L_3,n9L_4,n9_2,n47_3,n47_4)))) none) none) (
   kx (ag.L1.eO (t_3,a_3,head_2,x_2,n9L_3,n9L_4,n9_2,n47_3,n47_4)).1 (ag.L1.eO (t_3,a_3,head_2,x_2,n9L_3,n9L_4,n9_2,n47_3,n47_4)).2):=by kernel_rfl
theorem ag.eq{R:Type}(t:eD)(a:j6)(b:j6)(k:aZ→Option R):ag.A (t,a,b) k=
  ae (bB.call ()) fun x4=>
  ae (ab.call t) fun x8=>
  aF ((!x8)) (
   k (ag.out x4)) (
   ae (al.call t) fun x12=>
   aF ((!x12)) (
    k (ag.out x4)) (
    aF ((kR (((List.length t.1):Nat):Int) (0:Int))) (
     k (ag.out x4)) (
     aF ((mv (((List.length a.2.1):Nat):Int) (14:Int))) (
      k (ag.out x4)) (
      aF ((mv (((List.length b.2.1):Nat):Int) (14:Int))) (
       k (ag.out x4)) (
       ae (ah.call t) fun x16=>
       ae (ah.call t) fun x20=>
       aF (dS (0:Int) ((x16.1:Nat):Int)) (
       aF (decide (0 < (List.length x16.2.2.2.1))) (
       aF (decide (0 < (List.length x16.2.2.2.1))) (
       aF (dS (bT .i64 ((x20.1:Nat):Int) (1:Int)) ((x20.1:Nat):Int)) (
       aF (decide ((0+(Int.toNat (bT .i64 ((x20.1:Nat):Int) (1:Int)))) < (List.length x20.2.2.2.1))) (
       aF (decide ((((0+(Int.toNat (bT .i64 ((x20.1:Nat):Int) (1:Int))))*36)+33)=((0+((Int.toNat (bT .i64 ((x20.1:Nat):Int) (1:Int)))*36))+33))) (
       aF (decide ((0+(Int.toNat (bT .i64 ((x20.1:Nat):Int) (1:Int)))) < (List.length x20.2.2.2.1))) (
       aF (decide (0=0∧(0+x16.1)≤(List.length (List.set x16.2.2.2.1 0 ((nth cH x16.2.2.2.1 0).1,(a,(nth cH x16.2.2.2.1 0).2.2)))))) (
       aF (decide (0=0∧(0+x16.2.1)≤(List.length x16.2.2.2.2))) (
       ae (al.call ((cut (List.set x16.2.2.2.1 0 ((nth cH x16.2.2.2.1 0).1,(a,(nth cH x16.2.2.2.1 0).2.2))) 0 x16.1),((cut x16.2.2.2.2 0 x16.2.1),x16.2.2.1))) fun x24=>
       aF (decide (0=0∧(0+x20.1)≤(List.length (List.set x20.2.2.2.1 (0+(Int.toNat (bT .i64 ((x20.1:Nat):Int) (1:Int)))) ((nth cH x20.2.2.2.1 (0+(Int.toNat (bT .i64 ((x20.1:Nat):Int) (1:Int))))).1,(b,(nth cH x20.2.2.2.1 (0+(Int.toNat (bT .i64 ((x20.1:Nat):Int) (1:Int))))).2.2)))))) (
       aF (decide (0=0∧(0+x20.2.1)≤(List.length x20.2.2.2.2))) (
       ae (al.call ((cut (List.set x20.2.2.2.1 (0+(Int.toNat (bT .i64 ((x20.1:Nat):Int) (1:Int)))) ((nth cH x20.2.2.2.1 (0+(Int.toNat (bT .i64 ((x20.1:Nat):Int) (1:Int))))).1,(b,(nth cH x20.2.2.2.1 (0+(Int.toNat (bT .i64 ((x20.1:Nat):Int) (1:Int))))).2.2))) 0 x20.1),((cut x20.2.2.2.2 0 x20.2.1),x20.2.2.1))) fun x28=>
       aF ((l6 a.1 (0:Int))) (
        aF ((tK a.1 (3:Int))) (
         aF ((!(Ty.beq .bool x24 (tK (((List.length a.2.1):Nat):Int) (12:Int))))) (
          k (ag.out false)) (
          aF (x24) (
           aF (x28) (
            aF (decide (0=0∧(0+x16.1)≤(List.length (List.set x16.2.2.2.1 0 ((nth cH x16.2.2.2.1 0).1,(a,(nth cH x16.2.2.2.1 0).2.2)))))) (
            aF (decide (0=0∧(0+x16.2.1)≤(List.length x16.2.2.2.2))) (
            ae (tid.call ((cut (List.set x16.2.2.2.1 0 ((nth cH x16.2.2.2.1 0).1,(a,(nth cH x16.2.2.2.1 0).2.2))) 0 x16.1),((cut x16.2.2.2.2 0 x16.2.1),x16.2.2.1))) fun x65=>
            ae (tid.call t) fun x66=>
            aF ((!(Ty.beq tH x65 x66))) (
             k (ag.out false)) (
             aF (decide (0=0∧(0+x20.1)≤(List.length (List.set x20.2.2.2.1 (0+(Int.toNat (bT .i64 ((x20.1:Nat):Int) (1:Int)))) ((nth cH x20.2.2.2.1 (0+(Int.toNat (bT .i64 ((x20.1:Nat):Int) (1:Int))))).1,(b,(nth cH x20.2.2.2.1 (0+(Int.toNat (bT .i64 ((x20.1:Nat):Int) (1:Int))))).2.2)))))) (
             aF (decide (0=0∧(0+x20.2.1)≤(List.length x20.2.2.2.2))) (
             ae (tid.call ((cut (List.set x20.2.2.2.1 (0+(Int.toNat (bT .i64 ((x20.1:Nat):Int) (1:Int)))) ((nth cH x20.2.2.2.1 (0+(Int.toNat (bT .i64 ((x20.1:Nat):Int) (1:Int))))).1,(b,(nth cH x20.2.2.2.1 (0+(Int.toNat (bT .i64 ((x20.1:Nat):Int) (1:Int))))).2.2))) 0 x20.1),((cut x20.2.2.2.2 0 x20.2.1),x20.2.2.1))) fun x67=>
             aF (decide (0=0∧(0+x16.1)≤(List.length (List.set x16.2.2.2.1 0 ((nth cH x16.2.2.2.1 0).1,(a,(nth cH x16.2.2.2.1 0).2.2)))))) (
             aF (decide (0=0∧(0+x16.2.1)≤(List.length x16.2.2.2.2))) (
             ae (tid.call ((cut (List.set x16.2.2.2.1 0 ((nth cH x16.2.2.2.1 0).1,(a,(nth cH x16.2.2.2.1 0).2.2))) 0 x16.1),((cut x16.2.2.2.2 0 x16.2.1),x16.2.2.1))) fun x68=>
             aF ((!(Ty.beq tH x67 x68))) (
              k (ag.out false)) (
              ae (bq.call t) fun x72=>
              ae (aN.call t) fun x76=>
              aF ((gM (((List.length x72):Nat):Int) (((List.length t.2.1):Nat):Int))) (
               k (ag.out false)) (
               aF ((gM (((List.length x76):Nat):Int) (((List.length t.1):Nat):Int))) (
                k (ag.out false)) (
                ae (ag.L0.call (t,a,x4,x24,x72,x76,(0:Int),x16.1,x16.2.1,x16.2.2.1,(List.set x16.2.2.2.1 0 ((nth cH x16.2.2.2.1 0).1,(a,(nth cH x16.2.2.2.1 0).2.2))),x16.2.2.2.2)) fun x84=>
                aF (x84.isLeft) (
                 ae (x84.getLeft?) fun a85=>
                 k (ag.out false)) (
                 ae (x84.getRight?) fun b86=>
                 ae (ag.L1.call (b86.1,b86.2.1,b86.2.2.1,b86.2.2.2.1,b86.2.2.2.2.1,(0:Int),b86.2.2.2.2.2.1,b86.2.2.2.2.2.2.1,b86.2.2.2.2.2.2.2.1,b86.2.2.2.2.2.2.2.2.1,b86.2.2.2.2.2.2.2.2.2)) fun x90=>
                 aF (x90.isLeft) (
                  ae (x90.getLeft?) fun a91=>
                  k (ag.out false)) (
                  ae (x90.getRight?) fun b92=>
                  aF (b92.2.2.1) (
                   aF ((!b92.2.2.2.1)) (
                    k (ag.out true)) (
                    aF (decide (0=0∧(0+b92.2.2.2.2.1)≤(List.length b92.2.2.2.2.2.2.2.1))) (
                    aF (decide (0=0∧(0+b92.2.2.2.2.2.1)≤(List.length b92.2.2.2.2.2.2.2.2))) (
                    ae (aJ.call ((cut b92.2.2.2.2.2.2.2.1 0 b92.2.2.2.2.1),((cut b92.2.2.2.2.2.2.2.2 0 b92.2.2.2.2.2.1),b92.2.2.2.2.2.2.1))) fun x97=>
                    ae (aJ.call b92.1) fun x98=>
                    ae (bf.call b92.2.1) fun x99=>
                    aF (dS (0:Int) (((List.length b92.1.1):Nat):Int)) (
                    ae (bf.call (nth cH b92.1.1 0).2.1) fun x100=>
                    k (ag.out (kR (bT .i64 x97 x98) (bT .i64 x99 x100)))) none) none) none)) (
                   k (ag.out false)))))))) none) none) none) none)) none) none) (
            ae (bq.call t) fun x104=>
            ae (aN.call t) fun x108=>
            aF ((gM (((List.length x104):Nat):Int) (((List.length t.2.1):Nat):Int))) (
             k (ag.out false)) (
             aF ((gM (((List.length x108):Nat):Int) (((List.length t.1):Nat):Int))) (
              k (ag.out false)) (
              ae (ag.L0.call (t,a,x4,x24,x104,x108,(0:Int),x16.1,x16.2.1,x16.2.2.1,(List.set x16.2.2.2.1 0 ((nth cH x16.2.2.2.1 0).1,(a,(nth cH x16.2.2.2.1 0).2.2))),x16.2.2.2.2)) fun x112=>
              aF (x112.isLeft) (
               ae (x112.getLeft?) fun a113=>
               k (ag.out false)) (
               ae (x112.getRight?) fun b114=>
               ae (ag.L1.call (b114.1,b114.2.1,b114.2.2.1,b114.2.2.2.1,b114.2.2.2.2.1,(0:Int),b114.2.2.2.2.2.1,b114.2.2.2.2.2.2.1,b114.2.2.2.2.2.2.2.1,b114.2.2.2.2.2.2.2.2.1,b114.2.2.2.2.2.2.2.2.2)) fun x118=>
               aF (x118.isLeft) (
                ae (x118.getLeft?) fun a119=>
                k (ag.out false)) (
                ae (x118.getRight?) fun b120=>
                aF (b120.2.2.1) (
                 aF ((!b120.2.2.2.1)) (
                  k (ag.out true)) (
                  aF (decide (0=0∧(0+b120.2.2.2.2.1)≤(List.length b120.2.2.2.2.2.2.2.1))) (
                  aF (decide (0=0∧(0+b120.2.2.2.2.2.1)≤(List.length b120.2.2.2.2.2.2.2.2))) (
                  ae (aJ.call ((cut b120.2.2.2.2.2.2.2.1 0 b120.2.2.2.2.1),((cut b120.2.2.2.2.2.2.2.2 0 b120.2.2.2.2.2.1),b120.2.2.2.2.2.2.1))) fun x125=>
                  ae (aJ.call b120.1) fun x126=>
                  ae (bf.call b120.2.1) fun x127=>
                  aF (dS (0:Int) (((List.length b120.1.1):Nat):Int)) (
                  ae (bf.call (nth cH b120.1.1 0).2.1) fun x128=>
                  k (ag.out (kR (bT .i64 x125 x126) (bT .i64 x127 x128)))) none) none) none)) (
                 k (ag.out false)))))))) (
           ae (bq.call t) fun x132=>
           ae (aN.call t) fun x136=>
           aF ((gM (((List.length x132):Nat):Int) (((List.length t.2.1):Nat):Int))) (
            k (ag.out false)) (
            aF ((gM (((List.length x136):Nat):Int) (((List.length t.1):Nat):Int))) (
             k (ag.out false)) (
             ae (ag.L0.call (t,a,x4,x24,x132,x136,(0:Int),x16.1,x16.2.1,x16.2.2.1,(List.set x16.2.2.2.1 0 ((nth cH x16.2.2.2.1 0).1,(a,(nth cH x16.2.2.2.1 0).2.2))),x16.2.2.2.2)) fun x140=>
             aF (x140.isLeft) (
              ae (x140.getLeft?) fun a141=>
              k (ag.out false)) (
              ae (x140.getRight?) fun b142=>
              ae (ag.L1.call (b142.1,b142.2.1,b142.2.2.1,b142.2.2.2.1,b142.2.2.2.2.1,(0:Int),b142.2.2.2.2.2.1,b142.2.2.2.2.2.2.1,b142.2.2.2.2.2.2.2.1,b142.2.2.2.2.2.2.2.2.1,b142.2.2.2.2.2.2.2.2.2)) fun x146=>
              aF (x146.isLeft) (
               ae (x146.getLeft?) fun a147=>
               k (ag.out false)) (
               ae (x146.getRight?) fun b148=>
               aF (b148.2.2.1) (
                aF ((!b148.2.2.2.1)) (
                 k (ag.out true)) (
                 aF (decide (0=0∧(0+b148.2.2.2.2.1)≤(List.length b148.2.2.2.2.2.2.2.1))) (
                 aF (decide (0=0∧(0+b148.2.2.2.2.2.1)≤(List.length b148.2.2.2.2.2.2.2.2))) (
                 ae (aJ.call ((cut b148.2.2.2.2.2.2.2.1 0 b148.2.2.2.2.1),((cut b148.2.2.2.2.2.2.2.2 0 b148.2.2.2.2.2.1),b148.2.2.2.2.2.2.1))) fun x153=>
                 ae (aJ.call b148.1) fun x154=>
                 ae (bf.call b148.2.1) fun x155=>
                 aF (dS (0:Int) (((List.length b148.1.1):Nat):Int)) (
                 ae (bf.call (nth cH b148.1.1 0).2.1) fun x156=>
                 k (ag.out (kR (bT .i64 x153 x154) (bT .i64 x155 x156)))) none) none) none)) (
                k (ag.out false))))))))) (
         aF ((!(Ty.beq .bool x24 false))) (
          k (ag.out false)) (
          aF (x24) (
           aF (x28) (
            aF (decide (0=0∧(0+x16.1)≤(List.length (List.set x16.2.2.2.1 0 ((nth cH x16.2.2.2.1 0).1,(a,(nth cH x16.2.2.2.1 0).2.2)))))) (
            aF (decide (0=0∧(0+x16.2.1)≤(List.length x16.2.2.2.2))) (
            ae (tid.call ((cut (List.set x16.2.2.2.1 0 ((nth cH x16.2.2.2.1 0).1,(a,(nth cH x16.2.2.2.1 0).2.2))) 0 x16.1),((cut x16.2.2.2.2 0 x16.2.1),x16.2.2.1))) fun x157=>
            ae (tid.call t) fun x158=>
            aF ((!(Ty.beq tH x157 x158))) (
             k (ag.out false)) (
             aF (decide (0=0∧(0+x20.1)≤(List.length (List.set x20.2.2.2.1 (0+(Int.toNat (bT .i64 ((x20.1:Nat):Int) (1:Int)))) ((nth cH x20.2.2.2.1 (0+(Int.toNat (bT .i64 ((x20.1:Nat):Int) (1:Int))))).1,(b,(nth cH x20.2.2.2.1 (0+(Int.toNat (bT .i64 ((x20.1:Nat):Int) (1:Int))))).2.2)))))) (
             aF (decide (0=0∧(0+x20.2.1)≤(List.length x20.2.2.2.2))) (
             ae (tid.call ((cut (List.set x20.2.2.2.1 (0+(Int.toNat (bT .i64 ((x20.1:Nat):Int) (1:Int)))) ((nth cH x20.2.2.2.1 (0+(Int.toNat (bT .i64 ((x20.1:Nat):Int) (1:Int))))).1,(b,(nth cH x20.2.2.2.1 (0+(Int.toNat (bT .i64 ((x20.1:Nat):Int) (1:Int))))).2.2))) 0 x20.1),((cut x20.2.2.2.2 0 x20.2.1),x20.2.2.1))) fun x159=>
             aF (decide (0=0∧(0+x16.1)≤(List.length (List.set x16.2.2.2.1 0 ((nth cH x16.2.2.2.1 0).1,(a,(nth cH x16.2.2.2.1 0).2.2)))))) (
             aF (decide (0=0∧(0+x16.2.1)≤(List.length x16.2.2.2.2))) (
             ae (tid.call ((cut (List.set x16.2.2.2.1 0 ((nth cH x16.2.2.2.1 0).1,(a,(nth cH x16.2.2.2.1 0).2.2))) 0 x16.1),((cut x16.2.2.2.2 0 x16.2.1),x16.2.2.1))) fun x160=>
             aF ((!(Ty.beq tH x159 x160))) (
              k (ag.out false)) (
              ae (bq.call t) fun x164=>
              ae (aN.call t) fun x168=>
              aF ((gM (((List.length x164):Nat):Int) (((List.length t.2.1):Nat):Int))) (
               k (ag.out false)) (
               aF ((gM (((List.length x168):Nat):Int) (((List.length t.1):Nat):Int))) (
                k (ag.out false)) (
                ae (ag.L0.call (t,a,x4,x24,x164,x168,(0:Int),x16.1,x16.2.1,x16.2.2.1,(List.set x16.2.2.2.1 0 ((nth cH x16.2.2.2.1 0).1,(a,(nth cH x16.2.2.2.1 0).2.2))),x16.2.2.2.2)) fun x172=>
                aF (x172.isLeft) (
                 ae (x172.getLeft?) fun a173=>
                 k (ag.out false)) (
                 ae (x172.getRight?) fun b174=>
                 ae (ag.L1.call (b174.1,b174.2.1,b174.2.2.1,b174.2.2.2.1,b174.2.2.2.2.1,(0:Int),b174.2.2.2.2.2.1,b174.2.2.2.2.2.2.1,b174.2.2.2.2.2.2.2.1,b174.2.2.2.2.2.2.2.2.1,b174.2.2.2.2.2.2.2.2.2)) fun x178=>
                 aF (x178.isLeft) (
                  ae (x178.getLeft?) fun a179=>
                  k (ag.out false)) (
                  ae (x178.getRight?) fun b180=>
                  aF (b180.2.2.1) (
                   aF ((!b180.2.2.2.1)) (
                    k (ag.out true)) (
                    aF (decide (0=0∧(0+b180.2.2.2.2.1)≤(List.length b180.2.2.2.2.2.2.2.1))) (
                    aF (decide (0=0∧(0+b180.2.2.2.2.2.1)≤(List.length b180.2.2.2.2.2.2.2.2))) (
                    ae (aJ.call ((cut b180.2.2.2.2.2.2.2.1 0 b180.2.2.2.2.1),((cut b180.2.2.2.2.2.2.2.2 0 b180.2.2.2.2.2.1),b180.2.2.2.2.2.2.1))) fun x185=>
                    ae (aJ.call b180.1) fun x186=>
                    ae (bf.call b180.2.1) fun x187=>
                    aF (dS (0:Int) (((List.length b180.1.1):Nat):Int)) (
                    ae (bf.call (nth cH b180.1.1 0).2.1) fun x188=>
                    k (ag.out (kR (bT .i64 x185 x186) (bT .i64 x187 x188)))) none) none) none)) (
                   k (ag.out false)))))))) none) none) none) none)) none) none) (
            ae (bq.call t) fun x192=>
            ae (aN.call t) fun x196=>
            aF ((gM (((List.length x192):Nat):Int) (((List.length t.2.1):Nat):Int))) (
             k (ag.out false)) (
             aF ((gM (((List.length x196):Nat):Int) (((List.length t.1):Nat):Int))) (
              k (ag.out false)) (
              ae (ag.L0.call (t,a,x4,x24,x192,x196,(0:Int),x16.1,x16.2.1,x16.2.2.1,(List.set x16.2.2.2.1 0 ((nth cH x16.2.2.2.1 0).1,(a,(nth cH x16.2.2.2.1 0).2.2))),x16.2.2.2.2)) fun x200=>
              aF (x200.isLeft) (
               ae (x200.getLeft?) fun a201=>
               k (ag.out false)) (
               ae (x200.getRight?) fun b202=>
               ae (ag.L1.call (b202.1,b202.2.1,b202.2.2.1,b202.2.2.2.1,b202.2.2.2.2.1,(0:Int),b202.2.2.2.2.2.1,b202.2.2.2.2.2.2.1,b202.2.2.2.2.2.2.2.1,b202.2.2.2.2.2.2.2.2.1,b202.2.2.2.2.2.2.2.2.2)) fun x206=>
               aF (x206.isLeft) (
                ae (x206.getLeft?) fun a207=>
                k (ag.out false)) (
                ae (x206.getRight?) fun b208=>
                aF (b208.2.2.1) (
                 aF ((!b208.2.2.2.1)) (
                  k (ag.out true)) (
                  aF (decide (0=0∧(0+b208.2.2.2.2.1)≤(List.length b208.2.2.2.2.2.2.2.1))) (
                  aF (decide (0=0∧(0+b208.2.2.2.2.2.1)≤(List.length b208.2.2.2.2.2.2.2.2))) (
                  ae (aJ.call ((cut b208.2.2.2.2.2.2.2.1 0 b208.2.2.2.2.1),((cut b208.2.2.2.2.2.2.2.2 0 b208.2.2.2.2.2.1),b208.2.2.2.2.2.2.1))) fun x213=>
                  ae (aJ.call b208.1) fun x214=>
                  ae (bf.call b208.2.1) fun x215=>
                  aF (dS (0:Int) (((List.length b208.1.1):Nat):Int)) (
                  ae (bf.call (nth cH b208.1.1 0).2.1) fun x216=>
                  k (ag.out (kR (bT .i64 x213 x214) (bT .i64 x215 x216)))) none) none) none)) (
                 k (ag.out false)))))))) (
           ae (bq.call t) fun x220=>
           ae (aN.call t) fun x224=>
           aF ((gM (((List.length x220):Nat):Int) (((List.length t.2.1):Nat):Int))) (
            k (ag.out false)) (
            aF ((gM (((List.length x224):Nat):Int) (((List.length t.1):Nat):Int))) (
             k (ag.out false)) (
             ae (ag.L0.call (t,a,x4,x24,x220,x224,(0:Int),x16.1,x16.2.1,x16.2.2.1,(List.set x16.2.2.2.1 0 ((nth cH x16.2.2.2.1 0).1,(a,(nth cH x16.2.2.2.1 0).2.2))),x16.2.2.2.2)) fun x228=>
             aF (x228.isLeft) (
              ae (x228.getLeft?) fun a229=>
              k (ag.out false)) (
              ae (x228.getRight?) fun b230=>
              ae (ag.L1.call (b230.1,b230.2.1,b230.2.2.1,b230.2.2.2.1,b230.2.2.2.2.1,(0:Int),b230.2.2.2.2.2.1,b230.2.2.2.2.2.2.1,b230.2.2.2.2.2.2.2.1,b230.2.2.2.2.2.2.2.2.1,b230.2.2.2.2.2.2.2.2.2)) fun x234=>
              aF (x234.isLeft) (
               ae (x234.getLeft?) fun a235=>
               k (ag.out false)) (
               ae (x234.getRight?) fun b236=>
               aF (b236.2.2.1) (
                aF ((!b236.2.2.2.1)) (
                 k (ag.out true)) (
                 aF (decide (0=0∧(0+b236.2.2.2.2.1)≤(List.length b236.2.2.2.2.2.2.2.1))) (
                 aF (decide (0=0∧(0+b236.2.2.2.2.2.1)≤(List.length b236.2.2.2.2.2.2.2.2))) (
                 ae (aJ.call ((cut b236.2.2.2.2.2.2.2.1 0 b236.2.2.2.2.1),((cut b236.2.2.2.2.2.2.2.2 0 b236.2.2.2.2.2.1),b236.2.2.2.2.2.2.1))) fun x241=>
                 ae (aJ.call b236.1) fun x242=>
                 ae (bf.call b236.2.1) fun x243=>
                 aF (dS (0:Int) (((List.length b236.1.1):Nat):Int)) (
                 ae (bf.call (nth cH b236.1.1 0).2.1) fun x244=>
                 k (ag.out (kR (bT .i64 x241 x242) (bT .i64 x243 x244)))) none) none) none)) (
                k (ag.out false)))))))))) (
        aF ((!(Ty.beq .bool x24 false))) (
         k (ag.out false)) (
         aF (x24) (
          aF (x28) (
           aF (decide (0=0∧(0+x16.1)≤(List.length (List.set x16.2.2.2.1 0 ((nth cH x16.2.2.2.1 0).1,(a,(nth cH x16.2.2.2.1 0).2.2)))))) (
           aF (decide (0=0∧(0+x16.2.1)≤(List.length x16.2.2.2.2))) (
           ae (tid.call ((cut (List.set x16.2.2.2.1 0 ((nth cH x16.2.2.2.1 0).1,(a,(nth cH x16.2.2.2.1 0).2.2))) 0 x16.1),((cut x16.2.2.2.2 0 x16.2.1),x16.2.2.1))) fun x245=>
           ae (tid.call t) fun x246=>
           aF ((!(Ty.beq tH x245 x246))) (
            k (ag.out false)) (
            aF (decide (0=0∧(0+x20.1)≤(List.length (List.set x20.2.2.2.1 (0+(Int.toNat (bT .i64 ((x20.1:Nat):Int) (1:Int)))) ((nth cH x20.2.2.2.1 (0+(Int.toNat (bT .i64 ((x20.1:Nat):Int) (1:Int))))).1,(b,(nth cH x20.2.2.2.1 (0+(Int.toNat (bT .i64 ((x20.1:Nat):Int) (1:Int))))).2.2)))))) (
            aF (decide (0=0∧(0+x20.2.1)≤(List.length x20.2.2.2.2))) (
            ae (tid.call ((cut (List.set x20.2.2.2.1 (0+(Int.toNat (bT .i64 ((x20.1:Nat):Int) (1:Int)))) ((nth cH x20.2.2.2.1 (0+(Int.toNat (bT .i64 ((x20.1:Nat):Int) (1:Int))))).1,(b,(nth cH x20.2.2.2.1 (0+(Int.toNat (bT .i64 ((x20.1:Nat):Int) (1:Int))))).2.2))) 0 x20.1),((cut x20.2.2.2.2 0 x20.2.1),x20.2.2.1))) fun x247=>
            aF (decide (0=0∧(0+x16.1)≤(List.length (List.set x16.2.2.2.1 0 ((nth cH x16.2.2.2.1 0).1,(a,(nth cH x16.2.2.2.1 0).2.2)))))) (
            aF (decide (0=0∧(0+x16.2.1)≤(List.length x16.2.2.2.2))) (
            ae (tid.call ((cut (List.set x16.2.2.2.1 0 ((nth cH x16.2.2.2.1 0).1,(a,(nth cH x16.2.2.2.1 0).2.2))) 0 x16.1),((cut x16.2.2.2.2 0 x16.2.1),x16.2.2.1))) fun x248=>
            aF ((!(Ty.beq tH x247 x248))) (
             k (ag.out false)) (
             ae (bq.call t) fun x252=>
             ae (aN.call t) fun x256=>
             aF ((gM (((List.length x252):Nat):Int) (((List.length t.2.1):Nat):Int))) (
              k (ag.out false)) (
              aF ((gM (((List.length x256):Nat):Int) (((List.length t.1):Nat):Int))) (
               k (ag.out false)) (
               ae (ag.L0.call (t,a,x4,x24,x252,x256,(0:Int),x16.1,x16.2.1,x16.2.2.1,(List.set x16.2.2.2.1 0 ((nth cH x16.2.2.2.1 0).1,(a,(nth cH x16.2.2.2.1 0).2.2))),x16.2.2.2.2)) fun x260=>
               aF (x260.isLeft) (
                ae (x260.getLeft?) fun a261=>
                k (ag.out false)) (
                ae (x260.getRight?) fun b262=>
                ae (ag.L1.call (b262.1,b262.2.1,b262.2.2.1,b262.2.2.2.1,b262.2.2.2.2.1,(0:Int),b262.2.2.2.2.2.1,b262.2.2.2.2.2.2.1,b262.2.2.2.2.2.2.2.1,b262.2.2.2.2.2.2.2.2.1,b262.2.2.2.2.2.2.2.2.2)) fun x266=>
                aF (x266.isLeft) (
                 ae (x266.getLeft?) fun a267=>
                 k (ag.out false)) (
                 ae (x266.getRight?) fun b268=>
                 aF (b268.2.2.1) (
                  aF ((!b268.2.2.2.1)) (
                   k (ag.out true)) (
                   aF (decide (0=0∧(0+b268.2.2.2.2.1)≤(List.length b268.2.2.2.2.2.2.2.1))) (
                   aF (decide (0=0∧(0+b268.2.2.2.2.2.1)≤(List.length b268.2.2.2.2.2.2.2.2))) (
                   ae (aJ.call ((cut b268.2.2.2.2.2.2.2.1 0 b268.2.2.2.2.1),((cut b268.2.2.2.2.2.2.2.2 0 b268.2.2.2.2.2.1),b268.2.2.2.2.2.2.1))) fun x273=>
                   ae (aJ.call b268.1) fun x274=>
                   ae (bf.call b268.2.1) fun x275=>
                   aF (dS (0:Int) (((List.length b268.1.1):Nat):Int)) (
                   ae (bf.call (nth cH b268.1.1 0).2.1) fun x276=>
                   k (ag.out (kR (bT .i64 x273 x274) (bT .i64 x275 x276)))) none) none) none)) (
                  k (ag.out false)))))))) none) none) none) none)) none) none) (
           ae (bq.call t) fun x280=>
           ae (aN.call t) fun x284=>
           aF ((gM (((List.length x280):Nat):Int) (((List.length t.2.1):Nat):Int))) (
            k (ag.out false)) (
            aF ((gM (((List.length x284):Nat):Int) (((List.length t.1):Nat):Int))) (
             k (ag.out false)) (
             ae (ag.L0.call (t,a,x4,x24,x280,x284,(0:Int),x16.1,x16.2.1,x16.2.2.1,(List.set x16.2.2.2.1 0 ((nth cH x16.2.2.2.1 0).1,(a,(nth cH x16.2.2.2.1 0).2.2))),x16.2.2.2.2)) fun x288=>
             aF (x288.isLeft) (
              ae (x288.getLeft?) fun a289=>
              k (ag.out false)) (
              ae (x288.getRight?) fun b290=>
              ae (ag.L1.call (b290.1,b290.2.1,b290.2.2.1,b290.2.2.2.1,b290.2.2.2.2.1,(0:Int),b290.2.2.2.2.2.1,b290.2.2.2.2.2.2.1,b290.2.2.2.2.2.2.2.1,b290.2.2.2.2.2.2.2.2.1,b290.2.2.2.2.2.2.2.2.2)) fun x294=>
              aF (x294.isLeft) (
               ae (x294.getLeft?) fun a295=>
               k (ag.out false)) (
               ae (x294.getRight?) fun b296=>
               aF (b296.2.2.1) (
                aF ((!b296.2.2.2.1)) (
                 k (ag.out true)) (
                 aF (decide (0=0∧(0+b296.2.2.2.2.1)≤(List.length b296.2.2.2.2.2.2.2.1))) (
                 aF (decide (0=0∧(0+b296.2.2.2.2.2.1)≤(List.length b296.2.2.2.2.2.2.2.2))) (
                 ae (aJ.call ((cut b296.2.2.2.2.2.2.2.1 0 b296.2.2.2.2.1),((cut b296.2.2.2.2.2.2.2.2 0 b296.2.2.2.2.2.1),b296.2.2.2.2.2.2.1))) fun x301=>
                 ae (aJ.call b296.1) fun x302=>
                 ae (bf.call b296.2.1) fun x303=>
                 aF (dS (0:Int) (((List.length b296.1.1):Nat):Int)) (
                 ae (bf.call (nth cH b296.1.1 0).2.1) fun x304=>
                 k (ag.out (kR (bT .i64 x301 x302) (bT .i64 x303 x304)))) none) none) none)) (
                k (ag.out false)))))))) (
          ae (bq.call t) fun x308=>
          ae (aN.call t) fun x312=>
          aF ((gM (((List.length x308):Nat):Int) (((List.length t.2.1):Nat):Int))) (
           k (ag.out false)) (
           aF ((gM (((List.length x312):Nat):Int) (((List.length t.1):Nat):Int))) (
            k (ag.out false)) (
            ae (ag.L0.call (t,a,x4,x24,x308,x312,(0:Int),x16.1,x16.2.1,x16.2.2.1,(List.set x16.2.2.2.1 0 ((nth cH x16.2.2.2.1 0).1,(a,(nth cH x16.2.2.2.1 0).2.2))),x16.2.2.2.2)) fun x316=>
            aF (x316.isLeft) (
             ae (x316.getLeft?) fun a317=>
             k (ag.out false)) (
             ae (x316.getRight?) fun b318=>
             ae (ag.L1.call (b318.1,b318.2.1,b318.2.2.1,b318.2.2.2.1,b318.2.2.2.2.1,(0:Int),b318.2.2.2.2.2.1,b318.2.2.2.2.2.2.1,b318.2.2.2.2.2.2.2.1,b318.2.2.2.2.2.2.2.2.1,b318.2.2.2.2.2.2.2.2.2)) fun x322=>
             aF (x322.isLeft) (
              ae (x322.getLeft?) fun a323=>
              k (ag.out false)) (
              ae (x322.getRight?) fun b324=>
              aF (b324.2.2.1) (
               aF ((!b324.2.2.2.1)) (
                k (ag.out true)) (
                aF (decide (0=0∧(0+b324.2.2.2.2.1)≤(List.length b324.2.2.2.2.2.2.2.1))) (
                aF (decide (0=0∧(0+b324.2.2.2.2.2.1)≤(List.length b324.2.2.2.2.2.2.2.2))) (
                ae (aJ.call ((cut b324.2.2.2.2.2.2.2.1 0 b324.2.2.2.2.1),((cut b324.2.2.2.2.2.2.2.2 0 b324.2.2.2.2.2.1),b324.2.2.2.2.2.2.1))) fun x329=>
                ae (aJ.call b324.1) fun x330=>
                ae (bf.call b324.2.1) fun x331=>
                aF (dS (0:Int) (((List.length b324.1.1):Nat):Int)) (
                ae (bf.call (nth cH b324.1.1 0).2.1) fun x332=>
                k (ag.out (kR (bT .i64 x329 x330) (bT .i64 x331 x332)))) none) none) none)) (
               k (ag.out false)))))))))) none) none) none) none) none) none) none) none) none) none) none))))):=by kernel_rfl
theorem Cp{t:eD}{k:Nat}(hok:fg t=true)(h:k < t.2.1.length):(nth iC (gv t) k)=(oY t,((k:Int),())):=by
 have hl:k < (gv t).length:=by unfold gv l7;rw[hok,if_pos rfl,List.length_map,List.length_range'];exact h
 rw[show nth iC (gv t) k=(gv t)[k] from bZ (t:=iC) hl]
 have e:gv t=l7 (oY t) 0 t.2.1.length:=by unfold gv;rw[hok,if_pos rfl]
 simp only[e]
 unfold l7
 rw[List.getElem_map,List.getElem_range']
 simp
theorem wu{t:eD}(hok:fg t=true):(gv t).length=t.2.1.length:=by
 unfold gv l7
 rw[hok,if_pos rfl,List.length_map,List.length_range']
theorem ag.L0.ok:ag.L0.Ok:=by
 refine ag.L0.aG (fun(t,a,hd,x,m,sv,i,n1,n2,n9,is,os)=>t.2.1.length - i.toNat) ?_
 rintro⟨t,a,hd,x,m,sv,i,n1,n2,n9,is,os⟩ ⟨hv,hok,rfl,k,hkl,rfl⟩
 have hkl:k≤t.2.1.length:=hkl
 have hok:fg t=true:=hok
 have hml:=wu hok
 have hn:=(gS hok).1.2.2.1
 by_cases h:k < t.2.1.length
 ·left
  refine⟨(t,a,hd,x,gv t,sv,((k+1:Nat):Int),n1,n2,n9,is,os),⟨hv,hok,rfl,k+1,by omega,rfl⟩,by simp only[Int.toNat_natCast];omega,rfl,fun kn kx=> ?_⟩
  rw[ag.L0.step,bA (by omega),bh (by omega) (by omega),Int.toNat_natCast,Cp hok h,tid.run (d:=t) hv,N.kr (by omega)]
  simp only[ay,aa,tid.add,tid.F,AE,Bool.not_true,ao]
  rw[bM rfl,ao]
 ·right
  refine⟨_,rfl,fun kn kx=> ?_⟩
  rw[ag.L0.step,bm (by omega),ao]
theorem ag.L1.ok:ag.L1.Ok:=by
 refine ag.L1.aG (fun(t,a,hd,x,sv,i,n1,n2,n9,is,os)=>t.1.length - i.toNat) ?_
 rintro⟨t,a,hd,x,sv,i,m1,m2,n9,is,os⟩ ⟨hl,rfl,k,hkl,rfl⟩
 have hkl:k≤t.1.length:=hkl
 have hl:t.1.length≤1000:=hl
 have hml:(t.1.map (·.1)).length=t.1.length:=List.length_map _
 by_cases h:k < t.1.length
 ·left
  have n1:nth cH t.1 k=t.1[k]:=bZ (t:=cH) h
  have n2:nth iC (t.1.map (·.1)) k=t.1[k].1:=by
   rw[show nth iC (t.1.map (·.1)) k=(t.1.map (·.1))[k]'(by omega) from bZ (t:=iC) (by omega),List.getElem_map]
  refine⟨(t,a,hd,x,t.1.map (·.1),((k+1:Nat):Int),m1,m2,n9,is,os),⟨hl,rfl,k+1,by omega,rfl⟩,by simp only[Int.toNat_natCast];omega,rfl,fun kn kx=> ?_⟩
  rw[ag.L1.step,bA (by omega),bh (by omega) (by omega),bh (by omega) (by omega),Int.toNat_natCast,n1,n2,N.kr (by omega),pZ,aR rfl]
  rfl
 ·right
  refine⟨_,rfl,fun kn kx=> ?_⟩
  rw[ag.L1.step,bm (by omega),ao]
theorem w5{t:eD}{k:Nat}{w:j6}(h:k < t.1.length)(hok:fg t=true):fg (hH t k w)=gn w:=by
 cases hw:gn w
 ·cases hx:fg (hH t k w)
  ·rfl
  ·have hl:k < (hH t k w).1.length:=by rw[sC];exact h
   have:=gh _ _ (gS hx).2.1 _ (List.getElem_mem hl)
   unfold qX at this
   rw[show(hH t k w).1[k]=nth cH (hH t k w).1 k from(bZ (t:=cH) hl).symm,vb h,Bool.and_eq_true]at this
   rw[show gn w=true from this.2]at hw
   cases hw
 ·exact mH h hok hw
theorem ag.ok:ag.Ok:=by
 intro(t,a,b) ⟨hg,ha,hb⟩
 have ha:oo a:=ha
 have hb:oo b:=hb
 rw[ag.eq,bB.run (d:=()) trivial]
 simp only[aa]
 rw[ab.run (d:=t) trivial]
 simp only[aa,ab.add,ab.F,bB.add,bB.F,ag.add,ag.F]
 cases hs:nP t
 ·rfl
 obtain⟨hv,hsh,hcp⟩:=sL hg hs
 rw[al.run (d:=t) hv.1]
 simp only[Bool.not_true,ao,aa,al.add,al.F]
 cases hok:fg t
 ·rfl
 simp only[Bool.not_true,ao]
 by_cases h0:t.1.length=0
 ·rw[dq (by omega),ay]
 by_cases hla:a.2.1.length≤14
 case neg=>rw[eC (by omega),ao,dG (by omega),ay]
 by_cases hlb:b.2.1.length≤14
 case neg=>rw[eC (by omega),ao,dx (by omega),ao,dG (by omega),ay]
 have hn:=(mf hs).1
 have hno:=(mf hs).2.1
 obtain⟨n,hnn⟩:∃n,t.1.length=n+1:=⟨t.1.length - 1,by omega⟩
 have hsub:bT .i64 ((t.1.length:Nat):Int) 1=(n:Int):=by rw[fb (by omega) (by omega)];omega
 have cp:ah.call t=some (t.1.length,t.2.1.length,(t.2.2.1,()),t.1,t.2.1):=ah.run (d:=t) hcp
 have n0:nth cH t.1 0=t.1[0]'(by omega):=bZ (t:=cH) (by omega)
 have hU:((t.1.set 0 ((nth cH t.1 0).1,(a,(nth cH t.1 0).2.2)),(t.2.1,(t.2.2.1,()))):eD)=hH t 0 a:=rfl
 have hV:((t.1.set n ((nth cH t.1 n).1,(b,(nth cH t.1 n).2.2)),(t.2.1,(t.2.2.1,()))):eD)=hH t n b:=rfl
 have cU:=yj (k:=0) (show 0 < t.1.length by omega) hv ha (by omega)
 have cV:=yj (k:=n) (show n < t.1.length by omega) hv hb (by omega)
 have iU:=w5 (w:=a) (k:=0) (show 0 < t.1.length by omega) hok
 have iV:=w5 (w:=b) (k:=n) (show n < t.1.length by omega) hok
 have r1:al.call (hH t 0 a)=some (gn a):=by rw[←iU];exact al.run (d:=hH t 0 a) cU.1
 have r2:al.call (hH t n b)=some (gn b):=by rw[←iV];exact al.run (d:=hH t n b) cV.1
 have m1:bq.call t=some (gv t):=bq.run (d:=t) hv
 have m2:aN.call t=some (t.1.map (·.1)):=by
  have e:gw t=t.1.map (·.1):=by unfold gw;rw[hok,if_pos rfl]
  rw[←e]
  exact aN.run (d:=t) hv.1
 have d1:tid.call t=some (oY t):=tid.run (d:=t) hv
 have d2:gn a=true→tid.call (hH t 0 a)=some (oY t):=fun h=>by
  rw[←(vc (k:=0) (show 0 < t.1.length by omega) hok h).1]
  exact tid.run (d:=hH t 0 a) cU
 have d3:gn b=true→tid.call (hH t n b)=some (oY t):=fun h=>by
  rw[←(vc (k:=n) (show n < t.1.length by omega) hok h).1]
  exact tid.run (d:=hH t n b) cV
 have l0:∀x,ag.L0.call (t,a,true,x,gv t,t.1.map (·.1),(0:Int),t.1.length,t.2.1.length,(t.2.2.1,()),t.1.set 0 ((nth cH t.1 0).1,(a,(nth cH t.1 0).2.2)),t.2.1)=some (.inr (t,a,true,x,t.1.map (·.1),t.1.length,t.2.1.length,(t.2.2.1,()),t.1.set 0 ((nth cH t.1 0).1,(a,(nth cH t.1 0).2.2)),t.2.1)):=fun x=>by
  refine(ag.L0.run (d:=(t,a,true,x,gv t,t.1.map (·.1),(0:Int),t.1.length,t.2.1.length,(t.2.2.1,()),t.1.set 0 ((nth cH t.1 0).1,(a,(nth cH t.1 0).2.2)),t.2.1)) ⟨hv,hok,rfl,0,Nat.zero_le _,rfl⟩).trans ?_
  rfl
 have l1:∀x,ag.L1.call (t,a,true,x,t.1.map (·.1),(0:Int),t.1.length,t.2.1.length,(t.2.2.1,()),t.1.set 0 ((nth cH t.1 0).1,(a,(nth cH t.1 0).2.2)),t.2.1)=some (.inr (t,a,true,x,t.1.length,t.2.1.length,(t.2.2.1,()),t.1.set 0 ((nth cH t.1 0).1,(a,(nth cH t.1 0).2.2)),t.2.1)):=fun x=>by
  refine(ag.L1.run (d:=(t,a,true,x,t.1.map (·.1),(0:Int),t.1.length,t.2.1.length,(t.2.2.1,()),t.1.set 0 ((nth cH t.1 0).1,(a,(nth cH t.1 0).2.2)),t.2.1)) ⟨by omega,rfl,0,Nat.zero_le _,rfl⟩).trans ?_
  rfl
 have wt1:aJ.call t=some (jA t):=aJ.run (d:=t) hv
 have wt2:aJ.call (hH t 0 a)=some (jA (hH t 0 a)):=aJ.run (d:=hH t 0 a) cU
 have h12:=(ky (gh _ _ (gS hok).2.1 _ (List.getElem_mem (show 0 < t.1.length by omega)))).2.2.2.2
 have g1:bf.call a=some (8*(a.2.1.length:Int)+(if a.2.2.1=0 then 0 else 4)):=bf.run (d:=a) (by show a.2.1.length≤1000;omega)
 have g2:bf.call (nth cH t.1 0).2.1=some (8*((t.1[0]'(by omega)).2.1.2.1.length:Int)+(if(t.1[0]'(by omega)).2.1.2.2.1=0 then 0 else 4)):=by rw[n0];exact bf.run (d:=(t.1[0]'(by omega)).2.1) (by show(t.1[0]'(by omega)).2.1.2.1.length≤1000;omega)
 have e5:gn a=true→kR (bT .i64 (jA (hH t 0 a)) (jA t)) (bT .i64 (8*(a.2.1.length:Int)+(if a.2.2.1=0 then 0 else 4)) (8*((t.1[0]'(by omega)).2.1.2.1.length:Int)+(if(t.1[0]'(by omega)).2.1.2.2.1=0 then 0 else 4)))=true:=fun hw=>by
  have f1:=nN (k:=0) (show 0 < t.1.length by omega) hok hw
  have f2:=pX hok
  have f3:=pX (mH (k:=0) (show 0 < t.1.length by omega) hok hw)
  unfold sX at f1
  have b1:(0:Int)≤(if a.2.2.1=0 then 0 else 4)∧(if a.2.2.1=0 then 0 else 4:Int)≤4:=by split <;> omega
  have b2:(0:Int)≤(if(t.1[0]'(by omega)).2.1.2.2.1=0 then 0 else 4)∧(if(t.1[0]'(by omega)).2.1.2.2.1=0 then 0 else 4:Int)≤4:=by split <;> omega
  rw[fb (by omega) (by omega),fb (by omega) (by omega)]
  exact dq (by omega)
 have ls1:∀x:eR,(t.1.set 0 x).length=t.1.length:=fun x=>List.length_set
 have ls2:∀x:eR,(t.1.set n x).length=t.1.length:=fun x=>List.length_set
 have q1:∀x:eR,cut (t.1.set 0 x) 0 t.1.length=t.1.set 0 x:=fun x=>eV (ls1 x)
 have q2:∀x:eR,cut (t.1.set n x) 0 t.1.length=t.1.set n x:=fun x=>eV (ls2 x)
 have q3:cut t.2.1 0 t.2.1.length=t.2.1:=eV rfl
 have i1:dS 0 ((t.1.length:Nat):Int)=true:=bh (by omega) (by omega)
 have i2:dS (n:Int) ((t.1.length:Nat):Int)=true:=bh (by omega) (by omega)
 have i3:decide (0 < t.1.length)=true:=aR (by omega)
 have i4:decide (n < t.1.length)=true:=aR (by omega)
 have i5:gM (((gv t).length:Nat):Int) ((t.2.1.length:Nat):Int)=false:=bM (by rw[wu hok])
 have i6:gM (((t.1.map (·.1)).length:Nat):Int) ((t.1.length:Nat):Int)=false:=bM (by rw[List.length_map])
 rw[eC (by omega),ao,dx (by omega),ao,dx (by omega),ao,cp]
 have hA:gn a=(decide (0≤a.1∧a.1 < 4) && (decide (a.2.1.length≤12))):=rfl
 have bb:∀x:Bool,Ty.beq .bool x x=true:=xB
 by_cases z1:0≤a.1
 case neg=>
  have y4:gn a=false:=by rw[hA,aO (by omega),Bool.false_and]
  have y1:l6 a.1 0=false:=eM (by omega)
  cases y5:gn b <;> simp only[aa,cp,hsub,Int.toNat_natCast,Nat.zero_add,Nat.zero_mul,i1,i2,i3,i4,i5,i6,ls1,ls2,q1,q2,q3,Nat.le_refl,and_self,decide_true,ay,ao,hU,hV,r1,r2,y1,y4,y5,bb,Bool.not_true,Bool.not_false,m1,m2,l0,l1,Sum.isLeft_inr,Sum.getRight?_inr]
 by_cases z2:a.1≤3
 case neg=>
  have y4:gn a=false:=by rw[hA,aO (by omega),Bool.false_and]
  have y1:l6 a.1 0=true:=fF (by omega)
  have y2:tK a.1 3=false:=je (by omega)
  cases y5:gn b <;> simp only[aa,cp,hsub,Int.toNat_natCast,Nat.zero_add,Nat.zero_mul,i1,i2,i3,i4,i5,i6,ls1,ls2,q1,q2,q3,Nat.le_refl,and_self,decide_true,ay,ao,hU,hV,r1,r2,y1,y4,y5,bb,Bool.not_true,Bool.not_false,m1,m2,l0,l1,Sum.isLeft_inr,Sum.getRight?_inr,y2]
 by_cases z3:a.2.1.length≤12
 case neg=>
  have y4:gn a=false:=by rw[hA,aO (p:=a.2.1.length≤12) z3,Bool.and_false]
  have y1:l6 a.1 0=true:=fF (by omega)
  have y2:tK a.1 3=true:=j7 (by omega)
  have y3:tK ((a.2.1.length:Nat):Int) 12=false:=je (by omega)
  cases y5:gn b <;> simp only[aa,cp,hsub,Int.toNat_natCast,Nat.zero_add,Nat.zero_mul,i1,i2,i3,i4,i5,i6,ls1,ls2,q1,q2,q3,Nat.le_refl,and_self,decide_true,ay,ao,hU,hV,r1,r2,y1,y4,y5,bb,Bool.not_true,Bool.not_false,m1,m2,l0,l1,Sum.isLeft_inr,Sum.getRight?_inr,y2,y3]
 have y4:gn a=true:=by rw[hA,aR (p:=a.2.1.length≤12) z3,aR (by omega)];rfl
 have y1:l6 a.1 0=true:=fF (by omega)
 have y2:tK a.1 3=true:=j7 (by omega)
 have y3:tK ((a.2.1.length:Nat):Int) 12=true:=j7 (by omega)
 have d2:=d2 y4
 have e5:=e5 y4
 cases y5:gn b
 ·simp only[aa,cp,hsub,Int.toNat_natCast,Nat.zero_add,Nat.zero_mul,i1,i2,i3,i4,i5,i6,ls1,ls2,q1,q2,q3,Nat.le_refl,and_self,decide_true,ay,ao,hU,hV,r1,r2,y1,y4,y5,bb,Bool.not_true,Bool.not_false,m1,m2,l0,l1,Sum.isLeft_inr,Sum.getRight?_inr,y2,y3,d1,d2,e5,wt1,wt2,g1,g2]
 ·have d3:=d3 y5
  simp only[aa,cp,hsub,Int.toNat_natCast,Nat.zero_add,Nat.zero_mul,i1,i2,i3,i4,i5,i6,ls1,ls2,q1,q2,q3,Nat.le_refl,and_self,decide_true,ay,ao,hU,hV,r1,r2,y1,y4,y5,bb,Bool.not_true,Bool.not_false,m1,m2,l0,l1,Sum.isLeft_inr,Sum.getRight?_inr,y2,y3,d1,d2,d3,e5,wt1,wt2,g1,g2,AE]
noncomputable def ag.E:=Entry.cv [some fw,some mK,some mK] ag.st ag.aD ag.add ag.F ag.out
noncomputable def ag.call:ag.D→Option ag.X:=bJ ag.E ag.st
theorem ag.run:bE ag.call ag.aD ag.add ag.F:=cQ (cP [.d fw,.d mK,.d mK] fun _=>by kernel_rfl)
noncomputable def ag.sg:SG Tryz.prog:=⟨7,aW,ag.E,.fn 2 (by kernel_rfl) ag.ok (And.intro (.cv ag.L0.ok (by kernel_rfl)) (And.intro (.cv ag.L1.ok (by kernel_rfl)) trivial))⟩
end Go.Ab
