/-
  Made short by a program of mine (wip/tools/mini.py).
-/
import Derived.Test.YtcdokckdlaegdaaGreatS18x4
set_option linter.unusedVariables false
set_option linter.unusedSimpArgs false
namespace Go.Ab
open Go.Proofs
set_option maxRecDepth 100000
set_option linter.unusedVariables false
set_option linter.unusedSimpArgs false
set_option synthInstance.maxSize 5000
abbrev eR.D:=Bs×Bs
def eR.st:eR.D→SA:=fun(b,h)=>([.d tB b,.d tH h],[])
abbrev eR.Y:=Bs
abbrev eR.X:=Bs
def eR.out:eR.X→aT:=fun x=>⟨.d tB x,[],[]⟩
def eR.add:eR.D→eR.Y→eR.X:=fun(b,h) y=>y
def eR.aq:eR.D→Prop:=fun(b,h)=>b.length+h.length≤100000000∧h.length=32
def eR.F:eR.D→eR.Y:=fun(b,h)=>b++h
noncomputable def eR.G:dX:=eX (P:=Tryz.prog) [dZ.sg]
noncomputable def eR.an:ej:= {}
noncomputable def eR.A:= @cq Tryz.prog eR.G eR.an 0 Tryz.f108 _ eR.st
abbrev eR.Ok:=cr @eR.A eR.aq eR.add eR.F eR.out
theorem eR.eq{R:Type}(b:Bs)(h:Bs)(k:aT→Option R):eR.A (b,h) k=
 ab (dZ.call (b,(cut h 0 32))) fun x1=>
 k (eR.out x1):=by kernel_rfl
theorem eR.ok:eR.Ok:=by
 rintro⟨b,h⟩ ⟨h1,h2⟩
 have h1:b.length+h.length≤100000000:=h1
 have h2:h.length=32:=h2
 rw[eR.eq,gG h2,dZ.run (d:=(b,h)) h1]
 rfl
noncomputable def eR.E:=Entry.cF [some tB,some tH] eR.st eR.aq eR.add eR.F eR.out
noncomputable def eR.call:eR.D→Option eR.X:=bC eR.E eR.st
theorem eR.run:bD eR.call eR.aq eR.add eR.F:=cz (cv [.d tB,.d tB] fun _=>by kernel_rfl)
noncomputable def eR.sg:SG Tryz.prog:=⟨108,aK,eR.E,.fn 0 (by kernel_rfl) eR.ok trivial⟩
abbrev eJ.D:=Bs×Bs
def eJ.st:eJ.D→SA:=fun(b,c)=>([.d tB b,.d tB c],[])
abbrev eJ.Y:=Bs
abbrev eJ.X:=Bs
def eJ.out:eJ.X→aT:=fun x=>⟨.d tB x,[],[]⟩
def eJ.add:eJ.D→eJ.Y→eJ.X:=fun(b,c) y=>y
def eJ.aq:eJ.D→Prop:=fun(b,c)=>b.length+c.length≤90000000
def eJ.F:eJ.D→eJ.Y:=fun(b,c)=>b++(vu c.length++c)
noncomputable def eJ.G:dX:=eX (P:=Tryz.prog) [da.sg,av.sg]
noncomputable def eJ.an:ej:= {res:=[some tB]}
noncomputable def eJ.A:= @cq Tryz.prog eJ.G eJ.an 0 Tryz.f109 _ eJ.st
abbrev eJ.Ok:=cr @eJ.A eJ.aq eJ.add eJ.F eJ.out
theorem eJ.eq{R:Type}(b:Bs)(c:Bs)(k:aT→Option R):eJ.A (b,c) k=
 ab (da.call (((List.length c):Nat):Int)) fun x1=>
 ab (av.call [b,x1,c]) fun x2=>
 k (eJ.out x2):=by kernel_rfl
theorem eJ.ok:eJ.Ok:=by
 rintro⟨b,c⟩ h
 have h:b.length+c.length≤90000000:=h
 have hl:=rK c.length
 rw[eJ.eq,da.run (d:=(c.length:Int)) ⟨by omega,by omega⟩]
 simp only[aa,da.add,da.F]
 rw[av.run (d:=[b,vu c.length,c]) ⟨by show [b,vu c.length,c].length≤_;simp,by show kH [b,vu c.length,c]≤_;simp only[kH,List.flatten_cons,List.flatten_nil,List.append_nil,List.length_append];omega⟩]
 simp only[aa,av.add,av.F,eJ.add,eJ.F,List.flatten_cons,List.flatten_nil,List.append_nil]
noncomputable def eJ.E:=Entry.cF [some tB,some tB] eJ.st eJ.aq eJ.add eJ.F eJ.out
noncomputable def eJ.call:eJ.D→Option eJ.X:=bC eJ.E eJ.st
theorem eJ.run:bD eJ.call eJ.aq eJ.add eJ.F:=cz (cv [.d tB,.d tB] fun _=>by kernel_rfl)
noncomputable def eJ.sg:SG Tryz.prog:=⟨109,aK,eJ.E,.fn 0 (by kernel_rfl) eJ.ok trivial⟩
def vR(b:List Int)(x:jc):List Int:=fT (b++x.1.1) x.1.2.1
def wk(b:List Int)(o:jA):List Int:=fT b o.1++(vu (Ej o.2.1).length++Ej o.2.1)
def pv(t:gX):List Int:=fT (t.2.1.foldl wk (fT (t.1.foldl vR (fT [] t.1.length)) t.2.1.length)) t.2.2.1
def xm(t:gX):List Int:=if iq t then tag (bA (⟨#[116,120]⟩:ByteArray)) [pv t] else List.replicate 32 0
def Jv(x:jc):Prop:=Sm x.1.1∧GK x.2.1∧x.2.1.2.1.length≤9223372036854775807
def sa(t:gX):Prop:=Jl t∧(∀x∈t.1,Jv x)∧t.2.2.1≤9223372036854775807
theorem ph:∀(l:List jc) (m:List (oQ×Bool)),oq m l=true→∀x∈l,sB x=true
 |[],_,_,x,hx=>by cases hx
 |y::l,m,h,x,hx=>by
  rw[oq,Bool.and_eq_true,Bool.and_eq_true]at h
  rcases List.mem_cons.1 hx with rfl | hx
  ·exact h.1.2
  ·exact ph l _ h.2 x hx
theorem qF:∀(l:List jA) (s:Int),kO s l=true→∀o∈l,(0≤o.1∧o.1≤1125899906842624)∧iV o.2.1=true
 |[],_,_,o,ho=>by cases ho
 |y::l,s,h,o,ho=>by
  rw[kO,Bool.and_eq_true,Bool.and_eq_true]at h
  rcases List.mem_cons.1 ho with rfl | ho
  ·have h1:=h.1.1
   unfold nN nv at h1
   simp only[Bool.and_eq_true,decide_eq_true_eq]at h1
   exact⟨h1.2.1,h.1.2⟩
  ·exact qF l _ h.2 o ho
theorem AU{x:jc}(h:sB x=true):0≤x.1.2.1∧x.1.2.1 < 64∧0≤x.2.1.1∧x.2.1.1 < 4∧x.2.1.2.1.length≤12:=by
 unfold sB oP at h
 simp only[Bool.and_eq_true,decide_eq_true_eq]at h
 exact⟨h.1.1,h.1.2,h.2.1.1,h.2.1.2,h.2.2⟩
theorem qN{t:gX}(h:iq t=true):(1≤t.1.length∧t.1.length≤64∧t.2.1.length≤64∧0≤t.2.2.1)∧oq [] t.1=true∧kO 0 t.2.1=true:=by
 unfold iq qM at h
 simp only[Bool.and_eq_true,decide_eq_true_eq]at h
 exact h
theorem BV(b:List Int)(x:jc):(vR b x).length≤b.length+x.1.1.length+11:=by
 have:=gR (b++x.1.1) x.1.2.1
 rw[List.length_append]at this
 exact this
theorem zF(b:List Int)(o:jA):(wk b o).length≤b.length+1022:=by
 have h1:=gR b o.1
 have h2:=rK (Ej o.2.1).length
 have h3:=xS o.2.1
 unfold wk
 rw[List.length_append,List.length_append]
 omega
abbrev aJ.L0.D:=gX×Bs×(List jc)×Int×Int
def aJ.L0.st:aJ.L0.D→AS:=fun(t_2,b,t13,t14,t15)=>⟨([.undef,.eI kq t_2,.undef,.d tB b]++bu 9 ([.d (.slice jV) t13,.d ti t14,.d ti t15]++bu 38 [])),[],(List.replicate 54 [])⟩
abbrev aJ.L0.Y0:=Bs
abbrev aJ.L0.X0:=(gX)×(Bs)
def aJ.L0.bM:aJ.L0.X0→Exit×AS:=fun x=>(.exit 0,⟨([.undef,.eI kq x.1,.undef,.d tB x.2]++bu 50 []),[],(List.replicate 54 [])⟩)
abbrev aJ.L0.X:=aJ.L0.X0
abbrev aJ.L0.Y:=aJ.L0.Y0
def aJ.L0.out:aJ.L0.X→Out (Exit×AS):=fun x=> .ok (aJ.L0.bM x)
def aJ.L0.add:aJ.L0.D→aJ.L0.Y→aJ.L0.X:=fun(t_2,b,t13,t14,t15) y=>(t_2,y)
abbrev aJ.L1.D:=gX×Bs×(List jA)×Int×Int
def aJ.L1.st:aJ.L1.D→AS:=fun(t_3,b_2,t35,t36,t37)=>⟨([.undef,.eI kq t_3,.undef,.d tB b_2]++bu 31 ([.d (.slice nb) t35,.d ti t36,.d ti t37]++bu 16 [])),[],(List.replicate 54 [])⟩
abbrev aJ.L1.Y0:=Bs
abbrev aJ.L1.X0:=(gX)×(Bs)
def aJ.L1.bM:aJ.L1.X0→Exit×AS:=fun x=>(.exit 2,⟨([.undef,.eI kq x.1,.undef,.d tB x.2]++bu 50 []),[],(List.replicate 54 [])⟩)
abbrev aJ.L1.X:=aJ.L1.X0
abbrev aJ.L1.Y:=aJ.L1.Y0
def aJ.L1.out:aJ.L1.X→Out (Exit×AS):=fun x=> .ok (aJ.L1.bM x)
def aJ.L1.add:aJ.L1.D→aJ.L1.Y→aJ.L1.X:=fun(t_3,b_2,t35,t36,t37) y=>(t_3,y)
abbrev aJ.D:=gX
def aJ.st:aJ.D→SA:=fun t=>([.d kq t],[])
abbrev aJ.Y:=Bs
abbrev aJ.X:=Bs
def aJ.out:aJ.X→aT:=fun x=>⟨.d tB x,[],[]⟩
def aJ.add:aJ.D→aJ.Y→aJ.X:=fun t y=>y
def aJ.L0.aq:aJ.L0.D→Prop:=fun(t,b,l,n,i)=>(l).length≤1000000000∧∃k:Nat,k≤(l).length∧i=k∧n=(l).length∧(l.length≤64)∧(∀x∈l,x.1.1.length=32∧x.1.2.1≤9223372036854775807)∧(b.length≤100+50*k)
def aJ.L0.F:aJ.L0.D→aJ.L0.Y:=fun(t,b,l,n,i)=>(List.drop (Int.toNat i) l).foldl vR b
def aJ.L1.aq:aJ.L1.D→Prop:=fun(t,b,l,n,i)=>(l).length≤1000000000∧∃k:Nat,k≤(l).length∧i=k∧n=(l).length∧(l.length≤64)∧(∀o∈l,o.1≤9223372036854775807∧nX o.2.1)∧(b.length≤4000+1100*k)
def aJ.L1.F:aJ.L1.D→aJ.L1.Y:=fun(t,b,l,n,i)=>(List.drop (Int.toNat i) l).foldl wk b
def aJ.aq:aJ.D→Prop:=fun t=>iq t=true∧sa t
def aJ.F:aJ.D→aJ.Y:=fun t=>pv t
noncomputable def aJ.G:dX:=eX (P:=Tryz.prog) [eA.sg,eR.sg,aG.sg,eJ.sg]
noncomputable def aJ.L0.E:=cf.cF aJ.L0.st aJ.L0.aq aJ.L0.add aJ.L0.F aJ.L0.out
noncomputable def aJ.L0.call:aJ.L0.D→Option aJ.L0.X:=dO aJ.L0.E aJ.L0.st
noncomputable def aJ.L1.E:=cf.cF aJ.L1.st aJ.L1.aq aJ.L1.add aJ.L1.F aJ.L1.out
noncomputable def aJ.L1.call:aJ.L1.D→Option aJ.L1.X:=dO aJ.L1.E aJ.L1.st
noncomputable def aJ.an:ej:= {loops:=ky [(3,{bt:=[1,3,13,14,15]}),(9,{bt:=[1,3,35,36,37]})],outs:=kr [(3,{bt:=[1,3]},{bt:=[2]}),(9,{bt:=[1,3]},{bt:=[2]})],gk:=kY [(3,aJ.L0.E),(9,aJ.L1.E)],res:=[some tB]}
noncomputable def aJ.A:= @cq Tryz.prog aJ.G aJ.an 0 Tryz.f52 _ aJ.st
abbrev aJ.Ok:=cr @aJ.A aJ.aq aJ.add aJ.F aJ.out
noncomputable def aJ.L0.R:= @cP Tryz.prog aJ.G aJ.an 0 Tryz.f52 0 _ aJ.L0.st
abbrev aJ.L0.Ok:=fg Tryz.prog aJ.G aJ.an 0 Tryz.f52 0 aJ.L0.st aJ.L0.aq aJ.L0.add aJ.L0.F aJ.L0.out
noncomputable def aJ.L1.R:= @cP Tryz.prog aJ.G aJ.an 0 Tryz.f52 1 _ aJ.L1.st
abbrev aJ.L1.Ok:=fg Tryz.prog aJ.G aJ.an 0 Tryz.f52 1 aJ.L1.st aJ.L1.aq aJ.L1.add aJ.L1.F aJ.L1.out
theorem aJ.L0.run:bD aJ.L0.call aJ.L0.aq aJ.L0.add aJ.L0.F:=fw (fk [.d kq,.d tB,.d (.slice jV),.d ti,.d ti] fun _=>by kernel_rfl)
theorem aJ.L0.aF:gg @aJ.L0.R aJ.L0.st aJ.L0.aq aJ.L0.add aJ.L0.F aJ.L0.bM aJ.L0.Ok:=gj
theorem aJ.L0.step{R:Type}(t_2:gX)(b:Bs)(t13:(List jc))(t14:Int)(t15:Int)(kn:AS→Option R)(kx:Exit→AS→Option R):aJ.L0.R (t_2,b,t13,t14,t15) kn kx=
  aC ((gM t15 t14)) (
   aC (dY t15 (((List.length t13):Nat):Int)) (
   ab (eR.call (b,(nth jV t13 (Int.toNat t15)).1.1)) fun x1=>
   ab (eA.call (x1,(nth jV t13 (Int.toNat t15)).1.2.1)) fun x2=>
   kn (aJ.L0.st (t_2,x2,t13,t14,(bw .i64 t15 (1:Int))))) none) (
   kx (aJ.L0.bM (t_2,b)).1 (aJ.L0.bM (t_2,b)).2):=by kernel_rfl
theorem aJ.L1.run:bD aJ.L1.call aJ.L1.aq aJ.L1.add aJ.L1.F:=fw (fk [.d kq,.d tB,.d (.slice nb),.d ti,.d ti] fun _=>by kernel_rfl)
theorem aJ.L1.aF:gg @aJ.L1.R aJ.L1.st aJ.L1.aq aJ.L1.add aJ.L1.F aJ.L1.bM aJ.L1.Ok:=gj
theorem aJ.L1.step{R:Type}(t_3:gX)(b_2:Bs)(t35:(List jA))(t36:Int)(t37:Int)(kn:AS→Option R)(kx:Exit→AS→Option R):aJ.L1.R (t_3,b_2,t35,t36,t37) kn kx=
  aC ((gM t37 t36)) (
   aC (dY t37 (((List.length t35):Nat):Int)) (
   ab (eA.call (b_2,(nth nb t35 (Int.toNat t37)).1)) fun x1=>
   ab (aG.call (nth nb t35 (Int.toNat t37)).2.1) fun x2=>
   ab (eJ.call (x1,x2)) fun x3=>
   kn (aJ.L1.st (t_3,x3,t35,t36,(bw .i64 t37 (1:Int))))) none) (
   kx (aJ.L1.bM (t_3,b_2)).1 (aJ.L1.bM (t_3,b_2)).2):=by kernel_rfl
theorem aJ.eq{R:Type}(t:gX)(k:aT→Option R):aJ.A t k=
 ab (eA.call (([]:List Int),(((List.length t.1):Nat):Int))) fun x1=>
 ab (aJ.L0.call (t,x1,t.1,(((List.length t.1):Nat):Int),(0:Int))) fun x4=>
 ab (eA.call (x4.2,(((List.length x4.1.2.1):Nat):Int))) fun x5=>
 ab (aJ.L1.call (x4.1,x5,x4.1.2.1,(((List.length x4.1.2.1):Nat):Int),(0:Int))) fun x9=>
 ab (eA.call (x9.2,x9.1.2.2.1)) fun x10=>
 k (aJ.out x10):=by kernel_rfl
theorem aJ.L0.ok:aJ.L0.Ok:=by
 refine aJ.L0.aF (fun(t,b,l,n,i)=>(l).length - Int.toNat i) ?_
 rintro⟨t,b,l,n,i⟩ ⟨hlen,k,hk,rfl,rfl,h64,hx,hb⟩
 have hlen:(l).length≤1000000000:=hlen
 have hk:k≤(l).length:=hk
 have h64:l.length≤64:=h64
 have hx:∀x∈l,x.1.1.length=32∧x.1.2.1≤9223372036854775807:=hx
 have hb:b.length≤100+50*k:=hb
 by_cases h:k < (l).length
 ·left
  have n1:nth jV l k=l[k]:=dT (t:=jV) h
  have hd:List.drop k l=l[k]::List.drop (k+1) l:=List.drop_eq_getElem_cons h
  refine⟨(t,(vR b l[k]),l,((l).length:Int),((k+1:Nat):Int)),⟨hlen,k+1,by omega,rfl,rfl,h64,hx,by have:=BV b l[k];have:=(hx _ (List.getElem_mem h)).1;omega⟩,by simp only[Int.toNat_natCast];omega,?_,fun kn kx=> ?_⟩
  ·simp only[aJ.L0.add,aJ.L0.F,Int.toNat_natCast,hd,List.foldl_cons]
  ·rw[aJ.L0.step,bB (by omega),bz (by omega) (by omega),Int.toNat_natCast,n1]
   simp only[ah]
   have e:=hx _ (List.getElem_mem h)
   have e2:(b++l[k].1.1).length=b.length+l[k].1.1.length:=List.length_append
   rw[eR.run (d:=(b,l[k].1.1)) ⟨by show b.length+l[k].1.1.length≤_;omega,e.1⟩]
   simp only[aa,eR.add,eR.F]
   rw[eA.run (d:=(b++l[k].1.1,l[k].1.2.1)) ⟨by show(b++l[k].1.1).length≤_;omega,e.2⟩]
   simp only[aa,eA.add,eA.F]
   rw[N.mC (by omega)]
   rfl
 ·right
  obtain rfl:k=(l).length:=by omega
  intro R kn kx
  rw[aJ.L0.step,bm (by omega),ae]
  simp only[aJ.L0.add,aJ.L0.F,Int.toNat_natCast,List.drop_length,List.foldl_nil]
theorem aJ.L1.ok:aJ.L1.Ok:=by
 refine aJ.L1.aF (fun(t,b,l,n,i)=>(l).length - Int.toNat i) ?_
 rintro⟨t,b,l,n,i⟩ ⟨hlen,k,hk,rfl,rfl,h64,hx,hb⟩
 have hlen:(l).length≤1000000000:=hlen
 have hk:k≤(l).length:=hk
 have h64:l.length≤64:=h64
 have hx:∀o∈l,o.1≤9223372036854775807∧nX o.2.1:=hx
 have hb:b.length≤4000+1100*k:=hb
 by_cases h:k < (l).length
 ·left
  have n1:nth nb l k=l[k]:=dT (t:=nb) h
  have hd:List.drop k l=l[k]::List.drop (k+1) l:=List.drop_eq_getElem_cons h
  refine⟨(t,(wk b l[k]),l,((l).length:Int),((k+1:Nat):Int)),⟨hlen,k+1,by omega,rfl,rfl,h64,hx,by have:=zF b l[k];omega⟩,by simp only[Int.toNat_natCast];omega,?_,fun kn kx=> ?_⟩
  ·simp only[aJ.L1.add,aJ.L1.F,Int.toNat_natCast,hd,List.foldl_cons]
  ·rw[aJ.L1.step,bB (by omega),bz (by omega) (by omega),Int.toNat_natCast,n1]
   simp only[ah]
   have e:=hx _ (List.getElem_mem h)
   have e1:=gR b l[k].1
   have e2:=xS l[k].2.1
   rw[eA.run (d:=(b,l[k].1)) ⟨by show b.length≤_;omega,e.1⟩]
   simp only[aa,eA.add,eA.F]
   rw[aG.run (d:=l[k].2.1) e.2]
   simp only[aa,aG.add,aG.F]
   rw[eJ.run (d:=(fT b l[k].1,Ej l[k].2.1)) (by show(fT b l[k].1).length+(Ej l[k].2.1).length≤_;omega)]
   simp only[aa,eJ.add,eJ.F]
   rw[N.mC (by omega)]
   rfl
 ·right
  obtain rfl:k=(l).length:=by omega
  intro R kn kx
  rw[aJ.L1.step,bm (by omega),ae]
  simp only[aJ.L1.add,aJ.L1.F,Int.toNat_natCast,List.drop_length,List.foldl_nil]
theorem xP:∀(l:List jc) (b:List Int),(∀x∈l,x.1.1.length=32)→(l.foldl vR b).length≤b.length+43*l.length
 |[],b,_=>Nat.le_refl _
 |x::l,b,h=>by
  have h1:=BV b x
  have h2:=h x List.mem_cons_self
  have h3:=xP l (vR b x) fun y hy=>h y (List.mem_cons_of_mem _ hy)
  rw[List.foldl_cons,List.length_cons]
  omega
theorem vh:∀(l:List jA) (b:List Int),(l.foldl wk b).length≤b.length+1022*l.length
 |[],b=>Nat.le_refl _
 |x::l,b=>by
  have h1:=zF b x
  have h3:=vh l (wk b x)
  rw[List.foldl_cons,List.length_cons]
  omega
theorem Bf{t:gX}(hok:iq t=true)(hv:sa t):(pv t).length≤70000:=by
 obtain⟨⟨_,a2,a3,_⟩,_,_⟩:=qN hok
 have h1:=xP t.1 (fT [] t.1.length) fun x hx=>(hv.2.1 x hx).1.1
 have h2:=gR [] t.1.length
 have h3:=gR (t.1.foldl vR (fT [] t.1.length)) t.2.1.length
 have h4:=vh t.2.1 (fT (t.1.foldl vR (fT [] t.1.length)) t.2.1.length)
 have h5:=gR (t.2.1.foldl wk (fT (t.1.foldl vR (fT [] t.1.length)) t.2.1.length)) t.2.2.1
 have h0:([]:List Int).length=0:=rfl
 unfold pv
 omega
theorem aJ.ok:aJ.Ok:=by
 rintro t ⟨hok,hv⟩
 have hv:sa t:=hv
 obtain⟨⟨_,a2,a3,_⟩,b1,b2⟩:=qN hok
 have h0:([]:List Int).length=0:=rfl
 have l0:=gR [] t.1.length
 have l1:=xP t.1 (fT [] t.1.length) fun x hx=>(hv.2.1 x hx).1.1
 have l2:=gR (t.1.foldl vR (fT [] t.1.length)) t.2.1.length
 have l3:=vh t.2.1 (fT (t.1.foldl vR (fT [] t.1.length)) t.2.1.length)
 rw[aJ.eq,eA.run (d:=([],(t.1.length:Int))) ⟨by show([]:List Int).length≤_;omega,by show(t.1.length:Int)≤_;omega⟩]
 simp only[aa,eA.add,eA.F]
 rw[aJ.L0.run (d:=(t,fT [] t.1.length,t.1,t.1.length,0)) ⟨by show t.1.length≤_;omega,0,Nat.zero_le _,rfl,rfl,a2,fun x hx=>⟨(hv.2.1 x hx).1.1,by have:=AU (ph _ _ b1 x hx);omega⟩,by show(fT [] t.1.length).length≤_;omega⟩]
 simp only[aa,aJ.L0.add,aJ.L0.F,Int.toNat_zero,List.drop_zero]
 rw[eA.run (d:=(t.1.foldl vR (fT [] t.1.length),(t.2.1.length:Int))) ⟨by show(t.1.foldl vR (fT [] t.1.length)).length≤_;omega,by show(t.2.1.length:Int)≤_;omega⟩]
 simp only[aa,eA.add,eA.F]
 rw[aJ.L1.run (d:=(t,fT (t.1.foldl vR (fT [] t.1.length)) t.2.1.length,t.2.1,t.2.1.length,0)) ⟨by show t.2.1.length≤_;omega,0,Nat.zero_le _,rfl,rfl,a3,fun o ho=>⟨by have:=(qF _ _ b2 o ho).1;omega,hv.1.1 o ho⟩,by show(fT (t.1.foldl vR (fT [] t.1.length)) t.2.1.length).length≤_;omega⟩]
 simp only[aa,aJ.L1.add,aJ.L1.F,Int.toNat_zero,List.drop_zero]
 rw[eA.run (d:=(t.2.1.foldl wk (fT (t.1.foldl vR (fT [] t.1.length)) t.2.1.length),t.2.2.1)) ⟨by show(t.2.1.foldl wk (fT (t.1.foldl vR (fT [] t.1.length)) t.2.1.length)).length≤_;omega,hv.2.2⟩]
 rfl
noncomputable def aJ.E:=Entry.cF [some kq] aJ.st aJ.aq aJ.add aJ.F aJ.out
noncomputable def aJ.call:aJ.D→Option aJ.X:=bC aJ.E aJ.st
theorem aJ.run:bD aJ.call aJ.aq aJ.add aJ.F:=cz (cv [.d kq] fun _=>by kernel_rfl)
noncomputable def aJ.sg:SG Tryz.prog:=⟨52,aK,aJ.E,.fn 2 (by kernel_rfl) aJ.ok (And.intro (.cF aJ.L0.ok (by kernel_rfl)) (And.intro (.cF aJ.L1.ok (by kernel_rfl)) trivial))⟩
set_option synthInstance.maxSize 5000
def pJ(n:Int)(x:jc):Int:=n+(10+8*x.2.1.2.1.length)+(if x.2.1.2.2.1=0 then 0 else 4)
def td(t:gX):Int:=if iq t then t.1.foldl pJ (10+8*t.2.1.length) else 0
def kS(t:gX):List oQ:=if iq t then t.1.map (·.1) else []
def mh(id:List Int)(k n:Nat):List oQ:=(List.range' k n).map fun i:Nat=>(id,((i:Int),()))
def jm(t:gX):List oQ:=if iq t then mh (xm t) 0 t.2.1.length else []
abbrev tid.D:=gX
def tid.st:tid.D→SA:=fun t=>([.d kq t],[])
abbrev tid.Y:=Bs
abbrev tid.X:=Bs
def tid.out:tid.X→aT:=fun x=>⟨.d tH x,[],[]⟩
def tid.add:tid.D→tid.Y→tid.X:=fun t y=>y
def tid.aq:tid.D→Prop:=fun t=>sa t
def tid.F:tid.D→tid.Y:=fun t=>xm t
noncomputable def tid.G:dX:=eX (P:=Tryz.prog) [au.sg,aJ.sg,cG.sg]
noncomputable def tid.an:ej:= {}
noncomputable def tid.A:= @cq Tryz.prog tid.G tid.an 0 Tryz.f19 _ tid.st
abbrev tid.Ok:=cr @tid.A tid.aq tid.add tid.F tid.out
theorem tid.eq{R:Type}(t:gX)(k:aT→Option R):tid.A t k=
  ab (au.call t) fun x1=>
  aC ((!x1)) (
   k (tid.out (List.replicate 32 (0:Int)))) (
   ab (aJ.call t) fun x2=>
   ab (cG.call ((⟨#[116,120]⟩:ByteArray),[x2])) fun x3=>
   k (tid.out x3)):=by kernel_rfl
theorem tid.ok:tid.Ok:=by
 intro t hv
 have hv:sa t:=hv
 rw[tid.eq,au.run (d:=t) hv.1]
 simp only[aa,au.add,au.F,tid.add,tid.F,xm]
 cases hok:iq t
 ·rfl
 ·have hl:=Bf hok hv
  rw[aJ.run (d:=t) ⟨hok,hv⟩]
  simp only[Bool.not_true,ae,if_true,aa,aJ.add,aJ.F]
  rw[cG.run (d:=((⟨#[116,120]⟩:ByteArray),[pv t])) (Ae (by decide) (by omega))]
  rfl
noncomputable def tid.E:=Entry.cF [some kq] tid.st tid.aq tid.add tid.F tid.out
noncomputable def tid.call:tid.D→Option tid.X:=bC tid.E tid.st
theorem tid.run:bD tid.call tid.aq tid.add tid.F:=cz (cv [.d kq] fun _=>by kernel_rfl)
noncomputable def tid.sg:SG Tryz.prog:=⟨19,aK,tid.E,.fn 0 (by kernel_rfl) tid.ok trivial⟩
abbrev aU.L0.D:=Int×(List jc)×Int×Int
def aU.L0.st:aU.L0.D→AS:=fun(n,t15,t16,t17)=>⟨([.undef,.undef,.undef,.d ti n]++bu 11 ([.d (.slice jV) t15,.d ti t16,.d ti t17]++bu 19 [])),[],(List.replicate 37 [])⟩
abbrev aU.L0.Y0:=Int
abbrev aU.L0.X0:=Int
def aU.L0.bM:aU.L0.X0→Exit×AS:=fun x=>(.exit 0,⟨([.undef,.undef,.undef,.d ti x]++bu 33 []),[],(List.replicate 37 [])⟩)
abbrev aU.L0.X:=aU.L0.X0
abbrev aU.L0.Y:=aU.L0.Y0
def aU.L0.out:aU.L0.X→Out (Exit×AS):=fun x=> .ok (aU.L0.bM x)
def aU.L0.add:aU.L0.D→aU.L0.Y→aU.L0.X:=fun(n,t15,t16,t17) y=>y
abbrev aU.D:=gX
def aU.st:aU.D→SA:=fun t=>([.d kq t],[])
abbrev aU.Y:=Int
abbrev aU.X:=Int
def aU.out:aU.X→aT:=fun x=>⟨.d ti x,[],[]⟩
def aU.add:aU.D→aU.Y→aU.X:=fun t y=>y
def aU.L0.aq:aU.L0.D→Prop:=fun(n,l,m,i)=>(l).length≤1000000000∧∃k:Nat,k≤(l).length∧i=k∧m=(l).length∧(l.length≤64)∧(∀x∈l,x.2.1.2.1.length≤12)∧(0≤n)∧(n≤1000+200*(k:Int))
def aU.L0.F:aU.L0.D→aU.L0.Y:=fun(n,l,m,i)=>(List.drop (Int.toNat i) l).foldl pJ n
def aU.aq:aU.D→Prop:=fun t=>sa t
def aU.F:aU.D→aU.Y:=fun t=>td t
noncomputable def aU.G:dX:=eX (P:=Tryz.prog) [au.sg]
noncomputable def aU.L0.E:=cf.cF aU.L0.st aU.L0.aq aU.L0.add aU.L0.F aU.L0.out
noncomputable def aU.L0.call:aU.L0.D→Option aU.L0.X:=dO aU.L0.E aU.L0.st
noncomputable def aU.an:ej:= {loops:=ky [(5,{bt:=[3,15,16,17]})],outs:=kr [(5,{bt:=[3]},{bt:=[2]})],gk:=kY [(5,aU.L0.E)]}
noncomputable def aU.A:= @cq Tryz.prog aU.G aU.an 0 Tryz.f23 _ aU.st
abbrev aU.Ok:=cr @aU.A aU.aq aU.add aU.F aU.out
noncomputable def aU.L0.R:= @cP Tryz.prog aU.G aU.an 0 Tryz.f23 0 _ aU.L0.st
abbrev aU.L0.Ok:=fg Tryz.prog aU.G aU.an 0 Tryz.f23 0 aU.L0.st aU.L0.aq aU.L0.add aU.L0.F aU.L0.out
theorem aU.L0.run:bD aU.L0.call aU.L0.aq aU.L0.add aU.L0.F:=fw (fk [.d ti,.d (.slice jV),.d ti,.d ti] fun _=>by kernel_rfl)
theorem aU.L0.aF:gg @aU.L0.R aU.L0.st aU.L0.aq aU.L0.add aU.L0.F aU.L0.bM aU.L0.Ok:=gj
theorem aU.L0.step{R:Type}(n:Int)(t15:(List jc))(t16:Int)(t17:Int)(kn:AS→Option R)(kx:Exit→AS→Option R):aU.L0.R (n,t15,t16,t17) kn kx=
  aC ((gM t17 t16)) (
   aC (dY t17 (((List.length t15):Nat):Int)) (
   aC ((qS (nth jV t15 (Int.toNat t17)).2.1.2.2.1 (0:Int))) (
    kn (aU.L0.st ((bw .i64 (bw .i64 n (bw .i64 (10:Int) (eS .i64 (8:Int) (((List.length (nth jV t15 (Int.toNat t17)).2.1.2.1):Nat):Int)))) (4:Int)),t15,t16,(bw .i64 t17 (1:Int))))) (
    kn (aU.L0.st ((bw .i64 n (bw .i64 (10:Int) (eS .i64 (8:Int) (((List.length (nth jV t15 (Int.toNat t17)).2.1.2.1):Nat):Int)))),t15,t16,(bw .i64 t17 (1:Int)))))) none) (
   kx (aU.L0.bM n).1 (aU.L0.bM n).2):=by kernel_rfl
theorem aU.eq{R:Type}(t:gX)(k:aT→Option R):aU.A t k=
  ab (au.call t) fun x1=>
  aC ((!x1)) (
   k (aU.out (0:Int))) (
   ab (aU.L0.call ((bw .i64 (10:Int) (eS .i64 (8:Int) (((List.length t.2.1):Nat):Int))),t.1,(((List.length t.1):Nat):Int),(0:Int))) fun x2=>
   k (aU.out x2)):=by kernel_rfl
theorem aU.L0.ok:aU.L0.Ok:=by
 refine aU.L0.aF (fun(n,l,m,i)=>(l).length - Int.toNat i) ?_
 rintro⟨n,l,m,i⟩ ⟨hlen,k,hk,rfl,rfl,h64,hx,h0,h1⟩
 have hlen:(l).length≤1000000000:=hlen
 have hk:k≤(l).length:=hk
 have h64:l.length≤64:=h64
 have hx:∀x∈l,x.2.1.2.1.length≤12:=hx
 have h0:0≤n:=h0
 have h1:n≤1000+200*(k:Int):=h1
 by_cases h:k < (l).length
 ·left
  have n1:nth jV l k=l[k]:=dT (t:=jV) h
  have hd:List.drop k l=l[k]::List.drop (k+1) l:=List.drop_eq_getElem_cons h
  refine⟨((pJ n l[k]),l,((l).length:Int),((k+1:Nat):Int)),⟨hlen,k+1,by omega,rfl,rfl,h64,hx,by unfold pJ;split <;> omega,by have:=hx _ (List.getElem_mem h);unfold pJ;split <;> omega⟩,by simp only[Int.toNat_natCast];omega,?_,fun kn kx=> ?_⟩
  ·simp only[aU.L0.add,aU.L0.F,Int.toNat_natCast,hd,List.foldl_cons]
  ·rw[aU.L0.step,bB (by omega),bz (by omega) (by omega),Int.toNat_natCast,n1]
   simp only[ah]
   have e:=hx _ (List.getElem_mem h)
   rw[N.IE (by omega)]
   have e2:bw .i64 10 ((8*l[k].2.1.2.1.length:Nat):Int)=10+8*(l[k].2.1.2.1.length:Int):=by rw[dL (by omega) (by omega)];omega
   rw[e2,dL (x:=n) (by omega) (by omega),N.mC (by omega)]
   unfold pJ
   by_cases hs:l[k].2.1.2.2.1=0
   ·rw[gO hs,ae,if_pos hs,Int.add_zero]
   ·rw[iM hs,ah,if_neg hs,dL (by omega) (by omega)]
 ·right
  obtain rfl:k=(l).length:=by omega
  intro R kn kx
  rw[aU.L0.step,bm (by omega),ae]
  simp only[aU.L0.add,aU.L0.F,Int.toNat_natCast,List.drop_length,List.foldl_nil]
theorem aU.ok:aU.Ok:=by
 intro t hv
 have hv:sa t:=hv
 rw[aU.eq,au.run (d:=t) hv.1]
 simp only[aa,au.add,au.F,aU.add,aU.F,td]
 cases hok:iq t
 ·rfl
 ·obtain⟨⟨_,a2,a3,_⟩,b1,b2⟩:=qN hok
  rw[N.IE (by omega),dL (by omega) (by omega),aU.L0.run (d:=(10+((8*t.2.1.length:Nat):Int),t.1,t.1.length,0)) ⟨by show t.1.length≤_;omega,0,Nat.zero_le _,rfl,rfl,a2,fun x hx=>(AU (ph _ _ b1 x hx)).2.2.2.2,by show(0:Int)≤10+((8*t.2.1.length:Nat):Int);omega,by show 10+((8*t.2.1.length:Nat):Int)≤_;omega⟩]
  simp only[aa,aU.L0.add,aU.L0.F,Int.toNat_zero,List.drop_zero,Bool.not_true,ae,if_true,Int.natCast_mul]
  rfl
noncomputable def aU.E:=Entry.cF [some kq] aU.st aU.aq aU.add aU.F aU.out
noncomputable def aU.call:aU.D→Option aU.X:=bC aU.E aU.st
theorem aU.run:bD aU.call aU.aq aU.add aU.F:=cz (cv [.d kq] fun _=>by kernel_rfl)
noncomputable def aU.sg:SG Tryz.prog:=⟨23,aK,aU.E,.fn 1 (by kernel_rfl) aU.ok (And.intro (.cF aU.L0.ok (by kernel_rfl)) trivial)⟩
abbrev bU.L0.D:=Nat×Int×Int×Bs×(List oQ)
def bU.L0.st:bU.L0.D→AS:=fun(lL,t12,t13,n3,n21)=>⟨([.undef,.undef,.cT (.new 21 0) 0 [] 0 0 lL,.ptr (.new 3 0) 0 [] 0]++bu 8 ([.d ti t12,.d ti t13]++bu 10 [])),[],([[],[],[],[.obj 0 false (.d tH n3)]]++cw 17 [[.obj 0 false (.vec 35 qf n21)],[],[]])⟩
abbrev bU.L0.Y0:=Nat×(List oQ)
abbrev bU.L0.X0:=Nat×(List oQ)
def bU.L0.bM:bU.L0.X0→Exit×AS:=fun x=>(.exit 0,⟨([.undef,.undef,.cT (.new 21 0) 0 [] 0 0 x.1]++bu 21 []),[],(cw 21 [[.obj 0 false (.vec 35 qf x.2)],[],[]])⟩)
abbrev bU.L0.X:=bU.L0.X0
abbrev bU.L0.Y:=bU.L0.Y0
def bU.L0.out:bU.L0.X→Out (Exit×AS):=fun x=> .ok (bU.L0.bM x)
def bU.L0.add:bU.L0.D→bU.L0.Y→bU.L0.X:=fun(lL,t12,t13,n3,n21) y=>y
abbrev bU.D:=gX
def bU.st:bU.D→SA:=fun t=>([.d kq t],[])
abbrev bU.Y:=(List oQ)
abbrev bU.X:=(List oQ)
def bU.out:bU.X→aT:=fun x=>⟨.d (.slice qf) x,[],[]⟩
def bU.add:bU.D→bU.Y→bU.X:=fun t y=>y
def bU.L0.aq:bU.L0.D→Prop:=fun(L,n,i,id,r)=>∃k m:Nat,k≤m∧i=k∧n=m∧m≤1000∧L=r.length∧L=k
def bU.L0.F:bU.L0.D→bU.L0.Y:=fun(L,n,i,id,r)=>(L+(n - i).toNat,r++mh id i.toNat (n - i).toNat)
def bU.aq:bU.D→Prop:=fun t=>sa t
def bU.F:bU.D→bU.Y:=fun t=>jm t
noncomputable def bU.G:dX:=eX (P:=Tryz.prog) [tid.sg,au.sg]
noncomputable def bU.L0.E:=cf.cF bU.L0.st bU.L0.aq bU.L0.add bU.L0.F bU.L0.out
noncomputable def bU.L0.call:bU.L0.D→Option bU.L0.X:=dO bU.L0.E bU.L0.st
noncomputable def bU.an:ej:= {loops:=ky [(5,{bt:=[2,3,12,13],sites:=[3,21],kc:=[⟨2,[],21,145⟩]})],outs:=kr [(5,{bt:=[2],sites:=[21]},{bt:=[2]})],gk:=kY [(5,bU.L0.E)],res:=[some (.slice qf)]}
noncomputable def bU.A:= @cq Tryz.prog bU.G bU.an 0 Tryz.f54 _ bU.st
abbrev bU.Ok:=cr @bU.A bU.aq bU.add bU.F bU.out
noncomputable def bU.L0.R:= @cP Tryz.prog bU.G bU.an 0 Tryz.f54 0 _ bU.L0.st
abbrev bU.L0.Ok:=fg Tryz.prog bU.G bU.an 0 Tryz.f54 0 bU.L0.st bU.L0.aq bU.L0.add bU.L0.F bU.L0.out
theorem bU.L0.run:bD bU.L0.call bU.L0.aq bU.L0.add bU.L0.F:=fw (fk [.n,.d ti,.d ti,.d tB,.d (.slice qf)] fun _=>by kernel_rfl)
theorem bU.L0.aF:gg @bU.L0.R bU.L0.st bU.L0.aq bU.L0.add bU.L0.F bU.L0.bM bU.L0.Ok:=gj
theorem bU.L0.step{R:Type}(lL:Nat)(t12:Int)(t13:Int)(n3:Bs)(n21:(List oQ))(kn:AS→Option R)(kx:Exit→AS→Option R):bU.L0.R (lL,t12,t13,n3,n21) kn kx=
  aC ((gM t13 t12)) (
   aC (decide (lL≤(List.length n21))) (
   aC (dK (lL+1) 40) (
   kn (bU.L0.st ((lL+1),t12,(bw .i64 t13 (1:Int)),n3,((List.take lL n21)++ [(n3,(t13,()))])))) none) none) (
   kx (bU.L0.bM (lL,n21)).1 (bU.L0.bM (lL,n21)).2):=by kernel_rfl
theorem bU.eq{R:Type}(t:gX)(k:aT→Option R):bU.A t k=
  ab (tid.call t) fun x1=>
  ab (au.call t) fun x2=>
  aC ((!x2)) (
   k (bU.out ([]:List oQ))) (
   ab (bU.L0.call (0,(((List.length t.2.1):Nat):Int),(0:Int),x1,([]:List oQ))) fun x3=>
   aC (decide (0=0∧(0+x3.1)≤(List.length x3.2))) (
   k (bU.out (cut x3.2 0 x3.1))) none):=by kernel_rfl
theorem CZ(id:List Int)(k n:Nat):(mh id k n).length=n:=by simp[mh]
theorem A1(id:List Int)(k n:Nat):mh id k (n+1)=(id,((k:Int),()))::mh id (k+1) n:=by
 unfold mh
 rw[List.range'_succ,List.map_cons]
theorem bU.L0.ok:bU.L0.Ok:=by
 refine bU.L0.aF (fun(L,n,i,id,r)=>(n - i).toNat) ?_
 rintro⟨L,n,i,id,r⟩ ⟨k,m,hk,rfl,rfl,hm,rfl,hrk⟩
 have hrk:r.length=k:=hrk
 by_cases h:k < m
 ·left
  have e1:((m:Int) - (k:Int)).toNat=(m - (k+1))+1:=by omega
  have e2:((m:Int) - ((k+1:Nat):Int)).toNat=m - (k+1):=by omega
  refine⟨(r.length+1,(m:Int),((k+1:Nat):Int),id,r++ [(id,((k:Int),()))]),⟨k+1,m,by omega,rfl,rfl,hm,by rw[List.length_append];rfl,by show r.length+1=_;omega⟩,by show((m:Int) - ((k+1:Nat):Int)).toNat < ((m:Int) - (k:Int)).toNat;omega,?_,fun kn kx=> ?_⟩
  ·simp only[bU.L0.add,bU.L0.F,e1,e2,Int.toNat_natCast,A1,List.append_assoc,List.singleton_append]
   rw[show r.length+1+(m - (k+1))=r.length+(m - (k+1)+1) by omega]
  ·rw[bU.L0.step,bB (by omega),aD (Nat.le_refl _),eO (by omega) (by omega),N.mC (by omega),List.take_length]
   rfl
 ·right
  obtain rfl:k=m:=by omega
  intro R kn kx
  rw[bU.L0.step,bm (by omega),ae]
  simp only[bU.L0.add,bU.L0.F,Int.sub_self,Int.toNat_zero,Nat.add_zero]
  rw[show mh id (k:Int).toNat 0=[] from rfl,List.append_nil]
theorem bU.ok:bU.Ok:=by
 intro t hv
 have hv:sa t:=hv
 rw[bU.eq,tid.run (d:=t) hv,au.run (d:=t) hv.1]
 simp only[aa,tid.add,tid.F,au.add,au.F,bU.add,bU.F,jm]
 cases hok:iq t
 ·rfl
 ·obtain⟨⟨_,a2,a3,_⟩,b1,b2⟩:=qN hok
  have hl:=CZ (xm t) 0 t.2.1.length
  rw[bU.L0.run (d:=(0,t.2.1.length,0,xm t,[])) ⟨0,t.2.1.length,Nat.zero_le _,rfl,rfl,by omega,rfl,rfl⟩]
  simp only[Bool.not_true,ae,if_true,aa,bU.L0.add,bU.L0.F,Int.sub_zero,Int.toNat_natCast,Int.toNat_zero,List.nil_append,Nat.zero_add]
  rw[aD ⟨by trivial,by rw[hl];exact Nat.le_refl _⟩,ah,gG hl]
noncomputable def bU.E:=Entry.cF [some kq] bU.st bU.aq bU.add bU.F bU.out
noncomputable def bU.call:bU.D→Option bU.X:=bC bU.E bU.st
theorem bU.run:bD bU.call bU.aq bU.add bU.F:=cz (cv [.d kq] fun _=>by kernel_rfl)
noncomputable def bU.sg:SG Tryz.prog:=⟨54,aK,bU.E,.fn 1 (by kernel_rfl) bU.ok (And.intro (.cF bU.L0.ok (by kernel_rfl)) trivial)⟩
set_option synthInstance.maxSize 5000
abbrev fV.D:=(List jc)
def fV.st:fV.D→SA:=fun sv=>([.d (.slice jV) sv],[])
abbrev fV.Y:=Nat×(List jc)
abbrev fV.X:=Nat×(List jc)
def fV.out:fV.X→aT:=fun x=>⟨.cT (.new 0 0) 0 [] 0 0 x.1,[],[.obj 0 false (.vec 93 jV x.2)]⟩
def fV.add:fV.D→fV.Y→fV.X:=fun sv y=>y
def fV.aq:fV.D→Prop:=fun l=>l.length≤1000000
def fV.F:fV.D→fV.Y:=fun l=>(l.length,l)
noncomputable def fV.G:dX:=eX (P:=Tryz.prog) []
noncomputable def fV.an:ej:= {bZ:=[5],kc:=[⟨2,[],5,59⟩]}
noncomputable def fV.A:= @cq Tryz.prog fV.G fV.an 0 Tryz.f139 _ fV.st
abbrev fV.Ok:=cr @fV.A fV.aq fV.add fV.F fV.out
theorem fV.eq{R:Type}(sv:(List jc))(k:aT→Option R):fV.A sv k=
  aC (decide (0 < (List.length sv))) (
   aC (dK (0+(List.length sv)) 80) (
   k (fV.out ((0+(List.length sv)),((List.take 0 (List.replicate 0 (((List.replicate 32 (0:Int)),((0:Int),())),(((0:Int),(([]:List Sg),((0:Int),()))),()))))++sv)))) none) (
   nd (
    k (fV.out (0,([]:List jc)))) (
    aC (dK (0+(List.length sv)) 80) (
    k (fV.out ((0+(List.length sv)),((List.take 0 (List.replicate 0 (((List.replicate 32 (0:Int)),((0:Int),())),(((0:Int),(([]:List Sg),((0:Int),()))),()))))++sv)))) none)):=by kernel_rfl
theorem fV.ok:fV.Ok:=by
 intro l hl
 have hl:l.length≤1000000:=hl
 have hr:dK l.length 80=true:=eO (by omega) (by omega)
 rw[fV.eq]
 simp only[Nat.zero_add,hr,ah,List.take_zero,List.nil_append,fV.add,fV.F]
 by_cases h:0 < l.length
 ·simp only[aD h,ah]
 ·have:l=[]:=List.eq_nil_of_length_eq_zero (by omega)
  subst this
  simp only[List.length_nil,pV,bN (Nat.lt_irrefl 0),ae]
noncomputable def fV.E:=Entry.cF [some (.slice jV)] fV.st fV.aq fV.add fV.F fV.out
noncomputable def fV.call:fV.D→Option fV.X:=bC fV.E fV.st
theorem fV.run:bD fV.call fV.aq fV.add fV.F:=cz (cv [.d (.slice jV)] fun _=>by kernel_rfl)
noncomputable def fV.sg:SG Tryz.prog:=⟨139,aK,fV.E,.fn 0 (by kernel_rfl) fV.ok trivial⟩
abbrev eo.D:=(List jA)
def eo.st:eo.D→SA:=fun sv=>([.d (.slice nb) sv],[])
abbrev eo.Y:=Nat×(List jA)
abbrev eo.X:=Nat×(List jA)
def eo.out:eo.X→aT:=fun x=>⟨.cT (.new 0 0) 0 [] 0 0 x.1,[],[.obj 0 false (.vec 100 nb x.2)]⟩
def eo.add:eo.D→eo.Y→eo.X:=fun sv y=>y
def eo.aq:eo.D→Prop:=fun l=>l.length≤1000000
def eo.F:eo.D→eo.Y:=fun l=>(l.length,l)
noncomputable def eo.G:dX:=eX (P:=Tryz.prog) []
noncomputable def eo.an:ej:= {bZ:=[5],kc:=[⟨2,[],5,60⟩]}
noncomputable def eo.A:= @cq Tryz.prog eo.G eo.an 0 Tryz.f140 _ eo.st
abbrev eo.Ok:=cr @eo.A eo.aq eo.add eo.F eo.out
theorem eo.eq{R:Type}(sv:(List jA))(k:aT→Option R):eo.A sv k=
  aC (decide (0 < (List.length sv))) (
   aC (dK (0+(List.length sv)) 32) (
   k (eo.out ((0+(List.length sv)),((List.take 0 (List.replicate 0 ((0:Int),((([]:List oF),()),()))))++sv)))) none) (
   nd (
    k (eo.out (0,([]:List jA)))) (
    aC (dK (0+(List.length sv)) 32) (
    k (eo.out ((0+(List.length sv)),((List.take 0 (List.replicate 0 ((0:Int),((([]:List oF),()),()))))++sv)))) none)):=by kernel_rfl
theorem eo.ok:eo.Ok:=by
 intro l hl
 have hl:l.length≤1000000:=hl
 have hr:dK l.length 32=true:=eO (by omega) (by omega)
 rw[eo.eq]
 simp only[Nat.zero_add,hr,ah,List.take_zero,List.nil_append,eo.add,eo.F]
 by_cases h:0 < l.length
 ·simp only[aD h,ah]
 ·have:l=[]:=List.eq_nil_of_length_eq_zero (by omega)
  subst this
  simp only[List.length_nil,pV,bN (Nat.lt_irrefl 0),ae]
noncomputable def eo.E:=Entry.cF [some (.slice nb)] eo.st eo.aq eo.add eo.F eo.out
noncomputable def eo.call:eo.D→Option eo.X:=bC eo.E eo.st
theorem eo.run:bD eo.call eo.aq eo.add eo.F:=cz (cv [.d (.slice nb)] fun _=>by kernel_rfl)
noncomputable def eo.sg:SG Tryz.prog:=⟨140,aK,eo.E,.fn 0 (by kernel_rfl) eo.ok trivial⟩
abbrev fU.D:=(List oF)
def fU.st:fU.D→SA:=fun sv=>([.d (.slice oS) sv],[])
abbrev fU.Y:=Nat×(List oF)
abbrev fU.X:=Nat×(List oF)
def fU.out:fU.X→aT:=fun x=>⟨.cT (.new 0 0) 0 [] 0 0 x.1,[],[.obj 0 false (.vec 58 oS x.2)]⟩
def fU.add:fU.D→fU.Y→fU.X:=fun sv y=>y
def fU.aq:fU.D→Prop:=fun l=>l.length≤1000000
def fU.F:fU.D→fU.Y:=fun l=>(l.length,l)
noncomputable def fU.G:dX:=eX (P:=Tryz.prog) []
noncomputable def fU.an:ej:= {bZ:=[5],kc:=[⟨2,[],5,30⟩]}
noncomputable def fU.A:= @cq Tryz.prog fU.G fU.an 0 Tryz.f112 _ fU.st
abbrev fU.Ok:=cr @fU.A fU.aq fU.add fU.F fU.out
theorem fU.eq{R:Type}(sv:(List oF))(k:aT→Option R):fU.A sv k=
  aC (decide (0 < (List.length sv))) (
   aC (dK (0+(List.length sv)) 48) (
   k (fU.out ((0+(List.length sv)),((List.take 0 (List.replicate 0 (([]:List Int),((0:Int),((0:Int),((0:Int),()))))))++sv)))) none) (
   nd (
    k (fU.out (0,([]:List oF)))) (
    aC (dK (0+(List.length sv)) 48) (
    k (fU.out ((0+(List.length sv)),((List.take 0 (List.replicate 0 (([]:List Int),((0:Int),((0:Int),((0:Int),()))))))++sv)))) none)):=by kernel_rfl
theorem fU.ok:fU.Ok:=by
 intro l hl
 have hl:l.length≤1000000:=hl
 have hr:dK l.length 48=true:=eO (by omega) (by omega)
 rw[fU.eq]
 simp only[Nat.zero_add,hr,ah,List.take_zero,List.nil_append,fU.add,fU.F]
 by_cases h:0 < l.length
 ·simp only[aD h,ah]
 ·have:l=[]:=List.eq_nil_of_length_eq_zero (by omega)
  subst this
  simp only[List.length_nil,pV,bN (Nat.lt_irrefl 0),ae]
noncomputable def fU.E:=Entry.cF [some (.slice oS)] fU.st fU.aq fU.add fU.F fU.out
noncomputable def fU.call:fU.D→Option fU.X:=bC fU.E fU.st
theorem fU.run:bD fU.call fU.aq fU.add fU.F:=cz (cv [.d (.slice oS)] fun _=>by kernel_rfl)
noncomputable def fU.sg:SG Tryz.prog:=⟨112,aK,fU.E,.fn 0 (by kernel_rfl) fU.ok trivial⟩
abbrev er.D:=(List Sg)
def er.st:er.D→SA:=fun sv=>([.d (.slice Dq) sv],[])
abbrev er.Y:=(List Sg)
abbrev er.X:=(List Sg)
def er.out:er.X→aT:=fun x=>⟨.d (.slice Dq) x,[],[]⟩
def er.add:er.D→er.Y→er.X:=fun sv y=>y
def er.aq:er.D→Prop:=fun l=>l.length≤1000000
def er.F:er.D→er.Y:=fun l=>l
noncomputable def er.G:dX:=eX (P:=Tryz.prog) []
noncomputable def er.an:ej:= {bZ:=[5],res:=[some (.slice Dq)]}
noncomputable def er.A:= @cq Tryz.prog er.G er.an 0 Tryz.f141 _ er.st
abbrev er.Ok:=cr @er.A er.aq er.add er.F er.out
theorem er.eq{R:Type}(sv:(List Sg))(k:aT→Option R):er.A sv k=
  aC (decide (0 < (List.length sv))) (
   aC (dK (0+(List.length sv)) 16) (
   aC (decide (0=0∧(0+(0+(List.length sv)))≤(List.length ((List.take 0 (List.replicate 0 ((0:Int),((0:Int),()))))++sv)))) (
   k (er.out (cut ((List.take 0 (List.replicate 0 ((0:Int),((0:Int),()))))++sv) 0 (0+(List.length sv))))) none) none) (
   nd (
    k (er.out ([]:List Sg))) (
    aC (dK (0+(List.length sv)) 16) (
    aC (decide (0=0∧(0+(0+(List.length sv)))≤(List.length ((List.take 0 (List.replicate 0 ((0:Int),((0:Int),()))))++sv)))) (
    k (er.out (cut ((List.take 0 (List.replicate 0 ((0:Int),((0:Int),()))))++sv) 0 (0+(List.length sv))))) none) none)):=by kernel_rfl
theorem er.ok:er.Ok:=by
 intro l hl
 have hl:l.length≤1000000:=hl
 have hr:dK l.length 16=true:=eO (by omega) (by omega)
 rw[er.eq]
 simp only[Nat.zero_add,hr,ah,List.take_zero,List.nil_append,Nat.le_refl,and_self,decide_true,gG,er.add,er.F]
 by_cases h:0 < l.length
 ·simp only[aD h,ah]
 ·have:l=[]:=List.eq_nil_of_length_eq_zero (by omega)
  subst this
  simp only[List.length_nil,pV,bN (Nat.lt_irrefl 0),ae]
noncomputable def er.E:=Entry.cF [some (.slice Dq)] er.st er.aq er.add er.F er.out
noncomputable def er.call:er.D→Option er.X:=bC er.E er.st
theorem er.run:bD er.call er.aq er.add er.F:=cz (cv [.d (.slice Dq)] fun _=>by kernel_rfl)
noncomputable def er.sg:SG Tryz.prog:=⟨141,aK,er.E,.fn 0 (by kernel_rfl) er.ok trivial⟩
abbrev aj.L0.D:=Int×Int×Nat×Nat×(Int×Unit)×(Int×Unit)×(List jc)×(List jA)
def aj.L0.st:aj.L0.D→AS:=fun(t17,t18,n1L,n1L_2,n1,n2,n9,n12)=>⟨([.undef,.ptr (.new 1 0) 0 [] 0,.ptr (.new 2 0) 0 [] 0]++bu 14 ([.d ti t17,.d ti t18]++bu 56 [])),[],([[],[.obj 0 false (.pr (.cT (.new 9 0) 0 [] 0 0 n1L) (.pr (.cT (.new 12 0) 0 [] 0 0 n1L_2) (.d (.pair ti .unit) n1)))],[.obj 0 false (.pr (.dP) (.pr (.dP) (.d (.pair ti .unit) n2)))]]++cw 6 ([[.obj 0 false (.vec 93 jV n9)],[],[],[.obj 0 false (.vec 100 nb n12)]]++cw 62 []))⟩
abbrev aj.L0.Y0:=(List jc)
abbrev aj.L0.X0:=(Nat×Nat×(Int×Unit)×(Int×Unit)×(List jA))×((List jc))
def aj.L0.bM:aj.L0.X0→Exit×AS:=fun x=>(.exit 0,⟨([.undef,.ptr (.new 1 0) 0 [] 0,.ptr (.new 2 0) 0 [] 0]++bu 72 []),[],([[],[.obj 0 false (.pr (.cT (.new 9 0) 0 [] 0 0 x.1.1) (.pr (.cT (.new 12 0) 0 [] 0 0 x.1.2.1) (.d (.pair ti .unit) x.1.2.2.1)))],[.obj 0 false (.pr (.dP) (.pr (.dP) (.d (.pair ti .unit) x.1.2.2.2.1)))]]++cw 6 ([[.obj 0 false (.vec 93 jV x.2)],[],[],[.obj 0 false (.vec 100 nb x.1.2.2.2.2)]]++cw 62 []))⟩)
abbrev aj.L0.X:=aj.L0.X0
abbrev aj.L0.Y:=aj.L0.Y0
def aj.L0.out:aj.L0.X→Out (Exit×AS):=fun x=> .ok (aj.L0.bM x)
def aj.L0.add:aj.L0.D→aj.L0.Y→aj.L0.X:=fun(t17,t18,n1L,n1L_2,n1,n2,n9,n12) y=>((n1L,n1L_2,n1,n2,n12),y)
abbrev aj.L1.D:=Int×Int×Nat×Nat×(Int×Unit)×(Int×Unit)×(List jc)×(List jA)
def aj.L1.st:aj.L1.D→AS:=fun(t38,t39,n1L_3,n1L_4,n1_2,n2_2,n9_2,n12_2)=>⟨([.undef,.ptr (.new 1 0) 0 [] 0,.ptr (.new 2 0) 0 [] 0]++bu 35 ([.d ti t38,.d ti t39]++bu 35 [])),[],([[],[.obj 0 false (.pr (.cT (.new 9 0) 0 [] 0 0 n1L_3) (.pr (.cT (.new 12 0) 0 [] 0 0 n1L_4) (.d (.pair ti .unit) n1_2)))],[.obj 0 false (.pr (.dP) (.pr (.dP) (.d (.pair ti .unit) n2_2)))]]++cw 6 ([[.obj 0 false (.vec 93 jV n9_2)],[],[],[.obj 0 false (.vec 100 nb n12_2)]]++cw 62 []))⟩
abbrev aj.L1.Y0:=Nat×Nat×(Int×Unit)×(Int×Unit)×(List jc)×(List jA)
abbrev aj.L1.X0:=Nat×Nat×(Int×Unit)×(Int×Unit)×(List jc)×(List jA)
def aj.L1.bM:aj.L1.X0→Exit×AS:=fun x=>(.exit 2,⟨([.undef,.ptr (.new 1 0) 0 [] 0,.ptr (.new 2 0) 0 [] 0]++bu 72 []),[],([[],[.obj 0 false (.pr (.cT (.new 9 0) 0 [] 0 0 x.1) (.pr (.cT (.new 12 0) 0 [] 0 0 x.2.1) (.d (.pair ti .unit) x.2.2.1)))],[.obj 0 false (.pr (.dP) (.pr (.dP) (.d (.pair ti .unit) x.2.2.2.1)))]]++cw 6 ([[.obj 0 false (.vec 93 jV x.2.2.2.2.1)],[],[],[.obj 0 false (.vec 100 nb x.2.2.2.2.2)]]++cw 62 []))⟩)
abbrev aj.L1.X:=aj.L1.X0
abbrev aj.L1.Y:=aj.L1.Y0
def aj.L1.out:aj.L1.X→Out (Exit×AS):=fun x=> .ok (aj.L1.bM x)
def aj.L1.add:aj.L1.D→aj.L1.Y→aj.L1.X:=fun(t38,t39,n1L_3,n1L_4,n1_2,n2_2,n9_2,n12_2) y=>y
abbrev aj.L2.D:=Int×Nat×Int×Int×Int×Int×Nat×Nat×(Int×Unit)×(Int×Unit)×(List jc)×(List jA)×(List oF)
def aj.L2.st:aj.L2.D→AS:=fun(kv,lL,t38_2,t39_2,t51,t52,n1L_5,n1L_6,n1_3,n2_3,n9_3,n12_3,n49)=>⟨([.undef,.ptr (.new 1 0) 0 [] 0,.ptr (.new 2 0) 0 [] 0,.undef,.d ti kv,.cT (.new 49 0) 0 [] 0 0 lL]++bu 32 ([.d ti t38_2,.d ti t39_2]++bu 11 ([.d ti t51,.d ti t52]++bu 22 []))),[],([[],[.obj 0 false (.pr (.cT (.new 9 0) 0 [] 0 0 n1L_5) (.pr (.cT (.new 12 0) 0 [] 0 0 n1L_6) (.d (.pair ti .unit) n1_3)))],[.obj 0 false (.pr (.dP) (.pr (.dP) (.d (.pair ti .unit) n2_3)))]]++cw 6 ([[.obj 0 false (.vec 93 jV n9_3)],[],[],[.obj 0 false (.vec 100 nb n12_3)]]++cw 36 ([[.obj 0 false (.vec 58 oS n49)]]++cw 25 [])))⟩
abbrev aj.L2.Y0:=(List oF)×(List oF)
abbrev aj.L2.X0:=(Int×Int×Int×Nat×Nat×(Int×Unit)×(Int×Unit)×(List jc)×(List jA))×((List oF)×(List oF))
def aj.L2.bM:aj.L2.X0→Exit×AS:=fun x=>(.exit 4,⟨([.undef,.ptr (.new 1 0) 0 [] 0,.ptr (.new 2 0) 0 [] 0,.undef,.d ti x.1.1,.d (.slice oS) x.2.1]++bu 32 ([.d ti x.1.2.1,.d ti x.1.2.2.1]++bu 35 [])),[],([[],[.obj 0 false (.pr (.cT (.new 9 0) 0 [] 0 0 x.1.2.2.2.1) (.pr (.cT (.new 12 0) 0 [] 0 0 x.1.2.2.2.2.1) (.d (.pair ti .unit) x.1.2.2.2.2.2.1)))],[.obj 0 false (.pr (.dP) (.pr (.dP) (.d (.pair ti .unit) x.1.2.2.2.2.2.2.1)))]]++cw 6 ([[.obj 0 false (.vec 93 jV x.1.2.2.2.2.2.2.2.1)],[],[],[.obj 0 false (.vec 100 nb x.1.2.2.2.2.2.2.2.2)]]++cw 36 ([[.obj 0 true (.vec 58 oS x.2.2)]]++cw 25 [])))⟩)
abbrev aj.L2.X:=aj.L2.X0
abbrev aj.L2.Y:=aj.L2.Y0
def aj.L2.out:aj.L2.X→Out (Exit×AS):=fun x=> .ok (aj.L2.bM x)
def aj.L2.add:aj.L2.D→aj.L2.Y→aj.L2.X:=fun(kv,lL,t38_2,t39_2,t51,t52,n1L_5,n1L_6,n1_3,n2_3,n9_3,n12_3,n49) y=>((kv,t38_2,t39_2,n1L_5,n1L_6,n1_3,n2_3,n9_3,n12_3),y)
abbrev aj.D:=gX
def aj.st:aj.D→SA:=fun t=>([.d kq t],[])
abbrev aj.Y:=Nat×((List jA)×(Int×Unit))×(List jc)
abbrev aj.X:=Nat×((List jA)×(Int×Unit))×(List jc)
def aj.out:aj.X→aT:=fun x=>⟨.pr (.cT (.new 0 0) 0 [] 0 0 x.1) (.d (.pair (.slice nb) (.pair ti .unit)) x.2.1),[],[.obj 0 false (.vec 93 jV x.2.2)]⟩
def aj.add:aj.D→aj.Y→aj.X:=fun t y=>y
def aj.L0.aq:aj.L0.D→Prop:=fun(m,i,L,L2,u,v,l,os)=>(l.length≤1000∧∀x∈l,x.2.1.2.1.length≤1000000)∧∃k:Nat,k≤l.length∧i=k∧m=l.length∧L=l.length
def aj.L0.F:aj.L0.D→aj.L0.Y:=fun(m,i,L,L2,u,v,l,os)=>l
def aj.L2.aq:aj.L2.D→Prop:=fun(kv,L,m1,i1,m,i,L5,L6,u,v,ls,os,bs)=>(bs.length≤1000∧∀x∈bs,x.1.length≤1000000)∧∃k:Nat,k≤bs.length∧i=k∧m=bs.length∧L=bs.length
def aj.L2.F:aj.L2.D→aj.L2.Y:=fun(kv,L,m1,i1,m,i,L5,L6,u,v,ls,os,bs)=>(bs,bs)
def aj.L1.aq:aj.L1.D→Prop:=fun(m,i,L3,L,u,v,ls,os)=>(os.length≤1000∧∀x∈os,x.2.1.1.length≤1000∧∀b∈x.2.1.1,b.1.length≤1000000)∧∃k:Nat,k≤os.length∧i=k∧m=os.length∧L=os.length
def aj.L1.F:aj.L1.D→aj.L1.Y:=fun(m,i,L3,L,u,v,ls,os)=>(L3,L,u,v,ls,os)
def aj.aq:aj.D→Prop:=fun t=>iq t=true
def aj.F:aj.D→aj.Y:=fun t=>(t.1.length,(t.2.1,t.2.2),t.1)
noncomputable def aj.G:dX:=eX (P:=Tryz.prog) [fV.sg,eo.sg,er.sg,fU.sg,dq.sg]
noncomputable def aj.L0.E:=cf.cF aj.L0.st aj.L0.aq aj.L0.add aj.L0.F aj.L0.out
noncomputable def aj.L0.call:aj.L0.D→Option aj.L0.X:=dO aj.L0.E aj.L0.st
noncomputable def aj.L1.E:=cf.cF aj.L1.st aj.L1.aq aj.L1.add aj.L1.F aj.L1.out
noncomputable def aj.L1.call:aj.L1.D→Option aj.L1.X:=dO aj.L1.E aj.L1.st
noncomputable def aj.L2.E:=cf.cF aj.L2.st aj.L2.aq aj.L2.add aj.L2.F aj.L2.out
noncomputable def aj.L2.call:aj.L2.D→Option aj.L2.X:=dO aj.L2.E aj.L2.st
noncomputable def aj.an:ej:= {bZ:=[1],loops:=ky [(3,{bt:=[1,2,17,18],sites:=[1,2,9,12]}),(8,{bt:=[1,2,38,39],sites:=[1,2,9,12]}),(12,{bt:=[1,2,4,5,38,39,51,52],sites:=[1,2,9,12,49]})],outs:=kr [(3,{bt:=[1,2],sites:=[1,2,9,12]},{bt:=[2]}),(8,{bt:=[1,2],sites:=[1,2,9,12]},{bt:=[2]}),(12,{bt:=[1,2,4,5,38,39],sites:=[1,2,9,12,49],data:=[(5,(.slice oS))]},{bt:=[2]})],gk:=kY [(3,aj.L0.E),(8,aj.L1.E),(12,aj.L2.E)],yT:=[⟨2,[.snd,.fst],(.slice nb)⟩]}
noncomputable def aj.A:= @cq Tryz.prog aj.G aj.an 0 Tryz.f128 _ aj.st
abbrev aj.Ok:=cr @aj.A aj.aq aj.add aj.F aj.out
noncomputable def aj.L0.R:= @cP Tryz.prog aj.G aj.an 0 Tryz.f128 0 _ aj.L0.st
abbrev aj.L0.Ok:=fg Tryz.prog aj.G aj.an 0 Tryz.f128 0 aj.L0.st aj.L0.aq aj.L0.add aj.L0.F aj.L0.out
noncomputable def aj.L1.R:= @cP Tryz.prog aj.G aj.an 0 Tryz.f128 1 _ aj.L1.st
abbrev aj.L1.Ok:=fg Tryz.prog aj.G aj.an 0 Tryz.f128 1 aj.L1.st aj.L1.aq aj.L1.add aj.L1.F aj.L1.out
noncomputable def aj.L2.R:= @cP Tryz.prog aj.G aj.an 0 Tryz.f128 2 _ aj.L2.st
abbrev aj.L2.Ok:=fg Tryz.prog aj.G aj.an 0 Tryz.f128 2 aj.L2.st aj.L2.aq aj.L2.add aj.L2.F aj.L2.out
theorem aj.L0.run:bD aj.L0.call aj.L0.aq aj.L0.add aj.L0.F:=fw (fk [.d ti,.d ti,.n,.n,.d (.pair ti .unit),.d (.pair ti .unit),.d (.slice jV),.d (.slice nb)] fun _=>by kernel_rfl)
theorem aj.L0.aF:gg @aj.L0.R aj.L0.st aj.L0.aq aj.L0.add aj.L0.F aj.L0.bM aj.L0.Ok:=gj
theorem aj.L0.step{R:Type}(t17:Int)(t18:Int)(n1L:Nat)(n1L_2:Nat)(n1:(Int×Unit))(n2:(Int×Unit))(n9:(List jc))(n12:(List jA))(kn:AS→Option R)(kx:Exit→AS→Option R):aj.L0.R (t17,t18,n1L,n1L_2,n1,n2,n9,n12) kn kx=
  aC ((gM t18 t17)) (
   aC (dY t18 ((n1L:Nat):Int)) (
   aC (decide ((0+(Int.toNat t18)) < (List.length n9))) (
   aC (decide ((((0+(Int.toNat t18))*36)+34)=(((0+((Int.toNat t18)*36))+33)+1))) (
   ab (er.call (nth jV n9 (0+(Int.toNat t18))).2.1.2.1) fun x1=>
   aC (dY t18 ((n1L:Nat):Int)) (
   aC (decide ((0+(Int.toNat t18)) < (List.length n9))) (
   aC (decide ((((0+(Int.toNat t18))*36)+34)=(((0+((Int.toNat t18)*36))+33)+1))) (
   aC (decide ((0+(Int.toNat t18)) < (List.length n9))) (
   kn (aj.L0.st (t17,(bw .i64 t18 (1:Int)),n1L,n1L_2,n1,n2,(List.set n9 (0+(Int.toNat t18)) ((nth jV n9 (0+(Int.toNat t18))).1,(((nth jV n9 (0+(Int.toNat t18))).2.1.1,(x1,(nth jV n9 (0+(Int.toNat t18))).2.1.2.2)),(nth jV n9 (0+(Int.toNat t18))).2.2))),n12))) none) none) none) none) none) none) none) (
   kx (aj.L0.bM ((n1L,n1L_2,n1,n2,n12),n9)).1 (aj.L0.bM ((n1L,n1L_2,n1,n2,n12),n9)).2):=by kernel_rfl
theorem aj.L1.run:bD aj.L1.call aj.L1.aq aj.L1.add aj.L1.F:=fw (fk [.d ti,.d ti,.n,.n,.d (.pair ti .unit),.d (.pair ti .unit),.d (.slice jV),.d (.slice nb)] fun _=>by kernel_rfl)
theorem aj.L1.aF:gg @aj.L1.R aj.L1.st aj.L1.aq aj.L1.add aj.L1.F aj.L1.bM aj.L1.Ok:=gj
theorem aj.L1.step{R:Type}(t38:Int)(t39:Int)(n1L_3:Nat)(n1L_4:Nat)(n1_2:(Int×Unit))(n2_2:(Int×Unit))(n9_2:(List jc))(n12_2:(List jA))(kn:AS→Option R)(kx:Exit→AS→Option R):aj.L1.R (t38,t39,n1L_3,n1L_4,n1_2,n2_2,n9_2,n12_2) kn kx=
  aC ((gM t39 t38)) (
   aC (dY t39 ((n1L_4:Nat):Int)) (
   aC (decide ((0+(Int.toNat t39)) < (List.length n12_2))) (
   aC (decide ((((0+(Int.toNat t39))*2)+1)=(((0+((Int.toNat t39)*2))+1)+0))) (
   ab (fU.call (nth nb n12_2 (0+(Int.toNat t39))).2.1.1) fun x1=>
   ab (aj.L2.call (t39,x1.1,t38,t39,((x1.1:Nat):Int),(0:Int),n1L_3,n1L_4,n1_2,n2_2,n9_2,n12_2,x1.2)) fun x2=>
   aC (dY x2.1.1 ((x2.1.2.2.2.2.1:Nat):Int)) (
   aC (decide ((0+(Int.toNat x2.1.1)) < (List.length x2.1.2.2.2.2.2.2.2.2))) (
   aC (decide ((((0+(Int.toNat x2.1.1))*2)+1)=(((0+((Int.toNat x2.1.1)*2))+1)+0))) (
   aC (decide ((0+(Int.toNat x2.1.1)) < (List.length x2.1.2.2.2.2.2.2.2.2))) (
   kn (aj.L1.st (x2.1.2.1,(bw .i64 x2.1.2.2.1 (1:Int)),x2.1.2.2.2.1,x2.1.2.2.2.2.1,x2.1.2.2.2.2.2.1,x2.1.2.2.2.2.2.2.1,x2.1.2.2.2.2.2.2.2.1,(List.set x2.1.2.2.2.2.2.2.2.2 (0+(Int.toNat x2.1.1)) ((nth nb x2.1.2.2.2.2.2.2.2.2 (0+(Int.toNat x2.1.1))).1,((x2.2.1,(nth nb x2.1.2.2.2.2.2.2.2.2 (0+(Int.toNat x2.1.1))).2.1.2),(nth nb x2.1.2.2.2.2.2.2.2.2 (0+(Int.toNat x2.1.1))).2.2)))))) none) none) none) none) none) none) none) (
   kx (aj.L1.bM (n1L_3,n1L_4,n1_2,n2_2,n9_2,n12_2)).1 (aj.L1.bM (n1L_3,n1L_4,n1_2,n2_2,n9_2,n12_2)).2):=by kernel_rfl
theorem aj.L2.run:bD aj.L2.call aj.L2.aq aj.L2.add aj.L2.F:=fw (fk [.d ti,.n,.d ti,.d ti,.d ti,.d ti,.n,.n,.d (.pair ti .unit),.d (.pair ti .unit),.d (.slice jV),.d (.slice nb),.d (.slice oS)] fun _=>by kernel_rfl)
theorem aj.L2.aF:gg @aj.L2.R aj.L2.st aj.L2.aq aj.L2.add aj.L2.F aj.L2.bM aj.L2.Ok:=gj
theorem aj.L2.step{R:Type}(kv:Int)(lL:Nat)(t38_2:Int)(t39_2:Int)(t51:Int)(t52:Int)(n1L_5:Nat)(n1L_6:Nat)(n1_3:(Int×Unit))(n2_3:(Int×Unit))(n9_3:(List jc))(n12_3:(List jA))(n49:(List oF))(kn:AS→Option R)(kx:Exit→AS→Option R):aj.L2.R (kv,lL,t38_2,t39_2,t51,t52,n1L_5,n1L_6,n1_3,n2_3,n9_3,n12_3,n49) kn kx=
  aC ((gM t52 t51)) (
   aC (dY t52 ((lL:Nat):Int)) (
   aC (decide ((0+(Int.toNat t52)) < (List.length n49))) (
   aC (decide ((((0+(Int.toNat t52))*4)+0)=((0+((Int.toNat t52)*4))+0))) (
   ab (dq.call (nth oS n49 (0+(Int.toNat t52))).1) fun x1=>
   aC (dY t52 ((lL:Nat):Int)) (
   aC (decide ((0+(Int.toNat t52)) < (List.length n49))) (
   aC (decide ((((0+(Int.toNat t52))*4)+0)=((0+((Int.toNat t52)*4))+0))) (
   aC (decide ((0+(Int.toNat t52)) < (List.length n49))) (
   kn (aj.L2.st (kv,lL,t38_2,t39_2,t51,(bw .i64 t52 (1:Int)),n1L_5,n1L_6,n1_3,n2_3,n9_3,n12_3,(List.set n49 (0+(Int.toNat t52)) (x1,(nth oS n49 (0+(Int.toNat t52))).2))))) none) none) none) none) none) none) none) (
   aC (decide (0=0∧(0+lL)≤(List.length n49))) (
   kx (aj.L2.bM ((kv,t38_2,t39_2,n1L_5,n1L_6,n1_3,n2_3,n9_3,n12_3),((cut n49 0 lL),n49))).1 (aj.L2.bM ((kv,t38_2,t39_2,n1L_5,n1L_6,n1_3,n2_3,n9_3,n12_3),((cut n49 0 lL),n49))).2) none):=by kernel_rfl
theorem aj.eq{R:Type}(t:gX)(k:aT→Option R):aj.A t k=
 ab (fV.call t.1) fun x1=>
 ab (eo.call t.2.1) fun x2=>
 ab (aj.L0.call (((x1.1:Nat):Int),(0:Int),x1.1,x2.1,t.2.2,((0:Int),()),x1.2,x2.2)) fun x4=>
 ab (aj.L1.call (((x4.1.2.1:Nat):Int),(0:Int),x4.1.1,x4.1.2.1,x4.1.2.2.1,x4.1.2.2.2.1,x4.2,x4.1.2.2.2.2)) fun x8=>
 aC (decide (0=0∧(0+x8.2.1)≤(List.length x8.2.2.2.2.2))) (
 k (aj.out (x8.1,((cut x8.2.2.2.2.2 0 x8.2.1),x8.2.2.1),x8.2.2.2.2.1))) none:=by kernel_rfl
theorem aj.L0.ok:aj.L0.Ok:=by
 refine aj.L0.aF (fun(m,i,L,L2,u,v,l,os)=>l.length - Int.toNat i) ?_
 rintro⟨m,i,L,L2,u,v,l,os⟩ ⟨⟨hlen,hx⟩,k,hk,rfl,rfl,rfl⟩
 have hlen:l.length≤1000:=hlen
 have hk:k≤l.length:=hk
 by_cases h:k < l.length
 ·left
  have n1:nth jV l k=l[k]:=dT (t:=jV) h
  have hs:l.set k l[k]=l:=List.set_getElem_self h
  have e:=hx _ (List.getElem_mem h)
  refine⟨((l.length:Int),((k+1:Nat):Int),l.length,L2,u,v,l,os),⟨⟨hlen,hx⟩,k+1,by omega,rfl,rfl,rfl⟩,by simp only[Int.toNat_natCast];omega,rfl,fun kn kx=> ?_⟩
  rw[aj.L0.step,bB (by omega),bz (by omega) (by omega)]
  simp only[Int.toNat_natCast,Nat.zero_add,Nat.add_zero,Nat.add_assoc,Nat.reduceAdd,ah,aD h,decide_true,n1]
  rw[er.run (d:=l[k].2.1.2.1) e]
  simp only[aa,er.add,er.F]
  rw[N.mC (by omega)]
  exact congrArg (fun z=>kn (aj.L0.st (_,_,_,_,_,_,z,_))) hs
 ·right
  obtain rfl:k=l.length:=by omega
  intro R kn kx
  rw[aj.L0.step,bm (by omega),ae]
  rfl
theorem aj.L2.ok:aj.L2.Ok:=by
 refine aj.L2.aF (fun(kv,L,m1,i1,m,i,L5,L6,u,v,ls,os,bs)=>bs.length - Int.toNat i) ?_
 rintro⟨kv,L,m1,i1,m,i,L5,L6,u,v,ls,os,bs⟩ ⟨⟨hlen,hx⟩,k,hk,rfl,rfl,rfl⟩
 have hlen:bs.length≤1000:=hlen
 have hk:k≤bs.length:=hk
 by_cases h:k < bs.length
 ·left
  have n1:nth oS bs k=bs[k]:=dT (t:=oS) h
  have hs:bs.set k bs[k]=bs:=List.set_getElem_self h
  have e:=hx _ (List.getElem_mem h)
  refine⟨(kv,bs.length,m1,i1,(bs.length:Int),((k+1:Nat):Int),L5,L6,u,v,ls,os,bs),⟨⟨hlen,hx⟩,k+1,by omega,rfl,rfl,rfl⟩,by simp only[Int.toNat_natCast];omega,rfl,fun kn kx=> ?_⟩
  rw[aj.L2.step,bB (by omega),bz (by omega) (by omega)]
  simp only[Int.toNat_natCast,Nat.zero_add,Nat.add_zero,Nat.add_assoc,Nat.reduceAdd,ah,aD h,decide_true,n1]
  rw[dq.run (d:=bs[k].1) e]
  simp only[aa,dq.add,dq.F]
  rw[N.mC (by omega)]
  exact congrArg (fun z=>kn (aj.L2.st (_,_,_,_,_,_,_,_,_,_,_,_,z))) hs
 ·right
  obtain rfl:k=bs.length:=by omega
  intro R kn kx
  rw[aj.L2.step,bm (by omega),ae]
  simp only[Nat.zero_add,Nat.le_refl,and_self,decide_true,ah,gG]
  rfl
theorem aj.L1.ok:aj.L1.Ok:=by
 refine aj.L1.aF (fun(m,i,L3,L,u,v,ls,os)=>os.length - Int.toNat i) ?_
 rintro⟨m,i,L3,L,u,v,ls,os⟩ ⟨⟨hlen,hx⟩,k,hk,rfl,rfl,rfl⟩
 have hlen:os.length≤1000:=hlen
 have hk:k≤os.length:=hk
 by_cases h:k < os.length
 ·left
  have n1:nth nb os k=os[k]:=dT (t:=nb) h
  have hs:os.set k os[k]=os:=List.set_getElem_self h
  have e:=hx _ (List.getElem_mem h)
  refine⟨((os.length:Int),((k+1:Nat):Int),L3,os.length,u,v,ls,os),⟨⟨hlen,hx⟩,k+1,by omega,rfl,rfl,rfl⟩,by simp only[Int.toNat_natCast];omega,rfl,fun kn kx=> ?_⟩
  rw[aj.L1.step,bB (by omega),bz (by omega) (by omega)]
  simp only[Int.toNat_natCast,Nat.zero_add,Nat.add_zero,Nat.add_assoc,Nat.reduceAdd,ah,aD h,decide_true,n1]
  rw[fU.run (d:=os[k].2.1.1) (by show os[k].2.1.1.length≤_;have:=e.1;omega)]
  simp only[aa,fU.add,fU.F]
  rw[aj.L2.run (d:=((k:Int),os[k].2.1.1.length,(os.length:Int),(k:Int),(os[k].2.1.1.length:Int),0,L3,os.length,u,v,ls,os,os[k].2.1.1)) ⟨e,0,Nat.zero_le _,rfl,rfl,rfl⟩]
  simp only[aa,aj.L2.add,aj.L2.F,Int.toNat_natCast,n1,ah,aD h,bz (show(0:Int)≤(k:Int) by omega) (show(k:Int) < (os.length:Int) by omega)]
  rw[N.mC (by omega)]
  exact congrArg (fun z=>kn (aj.L1.st (_,_,_,_,_,_,_,z))) hs
 ·right
  obtain rfl:k=os.length:=by omega
  intro R kn kx
  rw[aj.L1.step,bm (by omega),ae]
  rfl
theorem Hh{l:Lk}(h:iV l=true):l.1.length≤4∧∀b∈l.1,b.1.length≤12:=by
 unfold iV at h
 simp only[Bool.and_eq_true,List.all_eq_true,decide_eq_true_eq]at h
 refine⟨h.2.2,fun b hb=> ?_⟩
 have:=h.1 b hb
 unfold nr at this
 simp only[Bool.and_eq_true,decide_eq_true_eq]at this
 exact this.1
theorem aj.ok:aj.Ok:=by
 rintro⟨is,os,nt,u⟩ hok
 obtain⟨⟨_,a2,a3,_⟩,b1,b2⟩:=qN hok
 have a2:is.length≤64:=a2
 have a3:os.length≤64:=a3
 rw[aj.eq,fV.run (d:=is) (by show is.length≤_;omega),eo.run (d:=os) (by show os.length≤_;omega)]
 simp only[aa,fV.add,fV.F,eo.add,eo.F]
 rw[aj.L0.run (d:=(is.length,0,is.length,os.length,(nt,u),(0,()),is,os)) ⟨⟨by show is.length≤_;omega,fun x hx=>by have:=(AU (ph _ _ b1 x hx)).2.2.2.2;omega⟩,0,Nat.zero_le _,rfl,rfl,rfl⟩]
 simp only[aa,aj.L0.add,aj.L0.F]
 rw[aj.L1.run (d:=(os.length,0,is.length,os.length,(nt,u),(0,()),is,os)) ⟨⟨by show os.length≤_;omega,fun x hx=>by
  have:=Hh (qF _ _ b2 x hx).2
  exact⟨by omega,fun b hb=>by have:=this.2 b hb;omega⟩⟩,0,Nat.zero_le _,rfl,rfl,rfl⟩]
 simp only[aa,aj.L1.add,aj.L1.F,Nat.zero_add,Nat.le_refl,and_self,decide_true,ah,gG]
 rfl
noncomputable def aj.E:=Entry.cF [some kq] aj.st aj.aq aj.add aj.F aj.out
noncomputable def aj.call:aj.D→Option aj.X:=bC aj.E aj.st
theorem aj.run:bD aj.call aj.aq aj.add aj.F:=cz (cv [.d kq] fun _=>by kernel_rfl)
noncomputable def aj.sg:SG Tryz.prog:=⟨128,aK,aj.E,.fn 3 (by kernel_rfl) aj.ok (And.intro (.cF aj.L0.ok (by kernel_rfl)) (And.intro (.cF aj.L1.ok (by kernel_rfl)) (And.intro (.cF aj.L2.ok (by kernel_rfl)) trivial)))⟩
set_option synthInstance.maxSize 5000
theorem px(x:Int)(m:Int):∀k:Nat,(x%m)^k%m=x^k%m
 | 0=>by rw[Int.pow_zero,Int.pow_zero]
 |k+1=>by rw[Int.pow_succ,Int.pow_succ,Int.mul_emod,px x m k,Int.emod_emod_of_dvd _ (Int.dvd_refl m),←Int.mul_emod]
theorem HF(a:Int)(k:Nat):(a*a)^k=a^(2*k):=by
 rw[Int.pow_mul,Int.pow_succ,Int.pow_succ,Int.pow_zero,Int.one_mul]
theorem EI:∀(f:Nat) (a:Int) (n:Nat) (out:Int),n < 2^f→Pn out→yy f a n out=out*a^n%4611686018427377339
 | 0,a,n,out,h,ho=>by
  obtain rfl:n=0:=by omega
  rw[mN,Int.pow_zero,Int.mul_one,Int.emod_eq_of_lt ho.1 ho.2]
 |f+1,a,n,out,h,ho=>by
  have e:(2:Nat)^(f+1)=2^f*2:=Nat.pow_succ 2 f
  rw[yy]
  split
  ·rename_i h0
   subst h0
   rw[Int.pow_zero,Int.mul_one,Int.emod_eq_of_lt ho.1 ho.2]
  ·have hp:Pn (if n%2=1 then lj out a else out):=by
    split
    ·exact mz _ _
    ·exact ho
   rw[EI f _ _ _ (by omega) hp,Int.mul_emod]
   have e1:(lj a a)^(n / 2)%4611686018427377339=a^(2*(n / 2))%4611686018427377339:=by
    unfold lj
    rw[px,HF]
   have e2:(if n%2=1 then lj out a else out)%4611686018427377339=(out*a^(n%2))%4611686018427377339:=by
    split
    ·rename_i h1
     rw[h1,Int.pow_succ,Int.pow_zero,Int.one_mul]
     exact Int.emod_emod_of_dvd _ (Int.dvd_refl _)
    ·have h1:n%2=0:=by omega
     rw[h1,Int.pow_zero,Int.mul_one]
   rw[e1,e2,←Int.mul_emod,Int.mul_assoc,←Int.pow_add]
   have e3:n%2+2*(n / 2)=n:=by omega
   rw[e3]
theorem vk(a:Int)(n:Nat)(h:n < 18446744073709551616):pw a n=a^n%4611686018427377339:=by
 unfold pw
 rw[EI 64 a n 1 h ⟨by omega,by omega⟩,Int.one_mul]
theorem one_pow(k:Nat):(1:Int)^k=1:=Int.one_pow
theorem EK(a:Int)(k q:Nat)(hk:k < 18446744073709551616)(hq:q < 18446744073709551616)(h:pw a q=1):pw (pw a k) q=1:=by
 rw[vk _ _ hq]at h
 rw[vk _ _ hq,vk _ _ hk,px,←Int.pow_mul,Nat.mul_comm,Int.pow_mul,←px,h,one_pow]
 rfl
theorem wT:pw 4 2305843009213688669=1:=by decide+kernel
theorem Da:pw 1 2305843009213688669=1:=by decide+kernel
theorem B0:lf 4=true:=by rw[lf,wT];rfl
theorem B1:lf 1=true:=by rw[lf,Da];rfl
theorem yg{a:Int}(h:Pn a)(q:Nat)(hq:0 < q)(hq2:q < 18446744073709551616)(hp:pw a q=1):0 < a:=by
 rcases Int.lt_or_eq_of_le h.1 with h0 | h0
 ·exact h0
 ·subst h0
  rw[vk _ _ hq2,Int.zero_pow (by omega)]at hp
  cases hp
theorem Eb{a:Int}(h:Pn a)(hp:pw a 2305843009213688669=1):lf a=true:=by
 have h0:=yg h 2305843009213688669 (by decide) (by decide) hp
 rw[lf,hp,decide_eq_true ⟨h0,h.2⟩];rfl
theorem sF{a:Int}(h:lf a=true):pw a 2305843009213688669=1∧Pn a:=by
 rw[lf,Bool.and_eq_true,decide_eq_true_eq,decide_eq_true_eq]at h
 exact⟨h.2,by omega,h.1.2⟩
theorem Hd{a:Int}(h:lf a=true)(k:Nat)(hk:k < 18446744073709551616):lf (pw a k)=true:=
 Eb (Cd _ _) (EK a k _ hk (by decide) (sF h).1)
theorem Ec(a:Int):lf (tk a)=true:=by
 unfold tk
 cases h:lf a
 ·exact B1
 ·exact h
theorem CV(p k:Int):lf (nF p k)=true:=Hd (Ec p) _ (by omega)
theorem Iv{a:Int}(h:lf a=true):tk a=a:=by rw[tk,h];rfl
theorem uS(k:Int):lf (gm k)=true:=CV 4 k
set_option synthInstance.maxSize 5000
def pm(m:Nat):Nat→Nat→Nat→Nat→Nat
 | 0,_,_,out=>out%m
 |f+1,a,n,out=>if n=0 then out%m else pm m f (a*a%m) (n / 2) (if n%2=1 then out*a%m else out)
theorem GA(m:Nat):∀(f a n out:Nat),n < 2^f→pm m f a n out=out*a^n%m
 | 0,a,n,out,h=>by
  obtain rfl:n=0:=by omega
  rw[pm,Nat.pow_zero,Nat.mul_one]
 |f+1,a,n,out,h=>by
  have e:(2:Nat)^(f+1)=2^f*2:=Nat.pow_succ (n:=2) (m:=f)
  rw[pm]
  split
  ·rename_i h0
   subst h0
   rw[Nat.pow_zero,Nat.mul_one]
  ·rw[GA m f _ _ _ (by omega),Nat.mul_mod]
   have e1:(a*a%m)^(n / 2)%m=a^(2*(n / 2))%m:=by
    rw[←Nat.pow_mod,Nat.pow_mul,Nat.pow_two]
   have e2:(if n%2=1 then out*a%m else out)%m=(out*a^(n%2))%m:=by
    split
    ·rename_i h1
     rw[h1,Nat.pow_one,Nat.mod_mod]
    ·have h1:n%2=0:=by omega
     rw[h1,Nat.pow_zero,Nat.mul_one]
   rw[e1,e2,←Nat.mul_mod,Nat.mul_assoc,←Nat.pow_add]
   have e3:n%2+2*(n / 2)=n:=by omega
   rw[e3]
theorem D7:∀(r q:Nat) (f:Nat→Nat),(∀i,i < q→f i < r)→(∀i j,i < j→j < q→f i≠f j)→q≤r
 | 0,q,f,h,_=>by
  rcases Nat.eq_zero_or_pos q with h0 | h0
  ·omega
  ·exact absurd (h 0 h0) (Nat.not_lt_zero _)
 |r+1,q,f,h,g=>by
  by_cases hx:∃i,i < q∧f i=r
  ·obtain⟨i,hi,hr⟩:=hx
   have e:=D7 r (q - 1) (fun j=>if j < i then f j else f (j+1)) (fun j hj=>by
    by_cases h1:j < i
    ·have a:=h j (by omega)
     have b:=g j i h1 hi
     simp only[h1,if_true]
     omega
    ·have a:=h (j+1) (by omega)
     have b:=g i (j+1) (by omega) (by omega)
     simp only[h1,if_false]
     omega) (fun j k hjk hk=>by
    by_cases h1:j < i
    ·by_cases h2:k < i
     ·simp only[h1,h2,if_true]
      exact g j k hjk (by omega)
     ·simp only[h1,h2,if_true,if_false]
      exact g j (k+1) (by omega) (by omega)
    ·have h2:¬k < i:=by omega
     simp only[h1,h2,if_false]
     exact g (j+1) (k+1) (by omega) (by omega))
   omega
  ·have e:=D7 r q f (fun i hi=>by
    have a:=h i hi
    have b:f i≠r:=fun x=>hx ⟨i,hi,x⟩
    omega) g
   omega
theorem Cb(a m:Nat)(h1:1%m=1):∀i j:Nat,a^i%m=1→a^j%m=1→a^(Nat.gcd i j)%m=1:=by
 intro i
 induction i using Nat.strongRecOn with
 |ind i ih=>
  intro j hi hj
  rcases Nat.eq_zero_or_pos i with h0 | h0
  ·subst h0;rw[Nat.gcd_zero_left];exact hj
  ·rw[Nat.gcd_rec]
   refine ih (j%i) (Nat.mod_lt _ h0) i ?_ hi
   have e:a^j=(a^i)^(j / i)*a^(j%i):=by rw[←Nat.pow_mul,←Nat.pow_add,Nat.div_add_mod]
   rw[e,Nat.mul_mod,Nat.pow_mod,hi,Nat.one_pow,h1,Nat.one_mul,Nat.mod_mod]at hj
   exact hj
def Dy(n:Nat):Prop:=∀d,d∣n→d=1∨d=n
theorem Cc{n k:Nat}(h:Dy n)(h0:0 < k)(hk:k < n):Nat.gcd k n=1:=by
 rcases h _ (Nat.gcd_dvd_right k n) with h1 | h1
 ·exact h1
 ·have:=Nat.le_of_dvd h0 (Nat.gcd_dvd_left k n);omega
theorem zA{n:Nat}(hn:1 < n)(h:∀r,1 < r→r*r≤n→¬r∣n):Dy n:=by
 intro d hd
 obtain⟨e,he⟩:=hd
 have hd0:0 < d:=Nat.pos_of_ne_zero (by intro x;rw[x,Nat.zero_mul]at he;omega)
 have he0:0 < e:=Nat.pos_of_ne_zero (by intro x;rw[x,Nat.mul_zero]at he;omega)
 by_cases h1:d=1
 ·exact .inl h1
 by_cases h2:e=1
 ·right;rw[he,h2,Nat.mul_one]
 exfalso
 rcases Nat.le_total d e with hle | hle
 ·exact h d (by omega) (by rw[he];exact Nat.mul_le_mul_left d hle) ⟨e,he⟩
 ·exact h e (by omega) (by rw[he];exact Nat.mul_le_mul_right e hle) ⟨d,by rw[he,Nat.mul_comm]⟩
theorem Hs{n q b:Nat}(hn:1 < n)(hq:Dy q)(hq1:1 < q)(hqq:n < q*q)(hb:b^q%n=1)(hg:Nat.gcd (b - 1) n=1)(hb0:0 < b):Dy n:=by
 refine zA hn fun r hr hrr hrn=> ?_
 have h1r:1%r=1:=Nat.mod_eq_of_lt hr
 have hbr:b^q%r=1:=by
  have:=Nat.mod_mod_of_dvd (b^q) hrn
  rw[←this,hb,h1r]
 have hne:b%r≠1:=by
  intro hx
  have hd:r∣b - 1:=by have e:=Nat.dvd_sub_mod (n:=r) b;rw[hx]at e;exact e
  have:=Nat.dvd_gcd hd hrn
  rw[hg]at this
  have:=Nat.le_of_dvd (by omega) this
  omega
 have key:q≤r:=by
  refine D7 r q (fun i=>b^i%r) (fun i _=>Nat.mod_lt _ (by omega)) fun i j hij hj he=> ?_
  have e1:b^(j - i)%r=1:=by
   have x1:b^(q - i)*b^i%r=b^(q - i)*b^j%r:=by rw[Nat.mul_mod,he,←Nat.mul_mod]
   rw[←Nat.pow_add,←Nat.pow_add,show q - i+i=q by omega,show q - i+j=q+(j - i) by omega,Nat.pow_add,Nat.mul_mod,hbr,Nat.one_mul,Nat.mod_mod]at x1
   exact x1.symm
  have e2:=Cb b r h1r (j - i) q e1 hbr
  rw[Cc hq (by omega) (by omega),Nat.pow_one]at e2
  exact hne e2
 have:q*q≤r*r:=Nat.mul_le_mul key key
 omega
def Eu(n:Nat):Nat→Bool
 | 0=>true
 |k+1=>n%(k+2) !=0 && Eu n k
theorem zz(n:Nat):∀k,Eu n k=true→∀d,1 < d→d≤k+1→¬d∣n
 | 0,_,d,h1,h2=>by omega
 |k+1,h,d,h1,h2=>by
  rw[Eu,Bool.and_eq_true]at h
  by_cases hd:d=k+2
  ·intro hx
   have:=Nat.mod_eq_zero_of_dvd hx
   rw[hd]at this
   rw[this]at h
   exact absurd h.1 (by decide)
  ·exact zz n k h.2 d h1 (by omega)
theorem I2:Dy 7930907:=by
 refine zA (by decide) fun r hr hrr=>zz 7930907 2820 (by decide+kernel) r hr ?_
 apply Nat.le_of_not_lt
 intro h
 have:2822*2822≤r*r:=Nat.mul_le_mul (by omega) (by omega)
 omega
theorem rD{n q:Nat}(a e:Nat)(hq:Dy q)(hq1:1 < q)(hn:1 < n)(hqq:n < q*q)(he:e < 2^64)(hq2:q < 2^64)(h1:pm n 64 (pm n 64 a e 1) q 1=1)(h2:Nat.gcd (pm n 64 a e 1 - 1) n=1)(h3:0 < pm n 64 a e 1):Dy n:=by
 generalize pm n 64 a e 1=b at*
 rw[GA _ _ _ _ _ hq2,Nat.one_mul]at h1
 exact Hs hn hq hq1 hqq h1 h2 h3
theorem I1:Dy 11864636873:=rD (q:=7930907) 2 1496 I2 (by decide) (by decide) (by decide) (by decide) (by decide) (by decide+kernel) (by decide+kernel) (by decide+kernel)
theorem I0:Dy 1732236983459:=rD (q:=11864636873) 2 146 I1 (by decide) (by decide) (by decide) (by decide) (by decide) (by decide+kernel) (by decide+kernel) (by decide+kernel)
theorem IZ:Dy 249442125618097:=rD (q:=1732236983459) 2 144 I0 (by decide) (by decide) (by decide) (by decide) (by decide) (by decide+kernel) (by decide+kernel) (by decide+kernel)
theorem I3:Dy 2305843009213688669:=rD (q:=249442125618097) 2 9244 IZ (by decide) (by decide) (by decide) (by decide) (by decide) (by decide+kernel) (by decide+kernel) (by decide+kernel)
def gP(n:Nat):Int:=((4^n%4611686018427377339:Nat):Int)
theorem wm(a m q:Nat)(h1:1%m=1)(h:a^q%m=1)(n:Nat):a^(n%q)%m=a^n%m:=by
 have e:a^n=(a^q)^(n / q)*a^(n%q):=by rw[←Nat.pow_mul,←Nat.pow_add,Nat.div_add_mod]
 rw[e,Nat.mul_mod,Nat.pow_mod (a^q),h,Nat.one_pow,h1,Nat.one_mul,Nat.mod_mod]
theorem Gd:∀q:Nat,q=2305843009213688669→4^q%4611686018427377339=1:=by
 intro q hq
 have h:=wT
 rw[vk _ _ (by decide)]at h
 rw[←hq]at h
 have e:(((4^q%4611686018427377339:Nat)):Int)=1:=by
  rw[Int.natCast_emod,Int.natCast_pow]
  exact h
 omega
theorem G9(n:Nat):gP (n%2305843009213688669)=gP n:=by
 unfold gP
 obtain⟨q,hq⟩:∃q:Nat,q=2305843009213688669:=⟨_,rfl⟩
 rw[←hq,wm 4 4611686018427377339 q (by decide) (Gd q hq)]
theorem Ia(n:Nat)(h:n < 18446744073709551616):pw 4 n=gP n:=by
 rw[vk _ _ h]
 unfold gP
 rw[Int.natCast_emod,Int.natCast_pow]
 rfl
theorem Ha(k:Int)(h:0≤k):(k%2305843009213688669).toNat=k.toNat%2305843009213688669:=by omega
theorem Fw(k:Int)(h:0≤k):gm k=gP k.toNat:=by
 show pw (tk 4) _=_
 rw[Iv B0,Ia _ (by omega),Ha k h,G9]
theorem H9{n:Nat}(h:0 < n)(hn:n < 2305843009213688669):gP n≠1:=by
 intro he
 unfold gP at he
 have he:4^n%4611686018427377339=1:=by omega
 obtain⟨q,hq⟩:∃q:Nat,q=2305843009213688669:=⟨_,rfl⟩
 have e:=Cb 4 4611686018427377339 (by decide) n q he (Gd q hq)
 rw[Cc (by rw[hq];exact I3) h (by omega)]at e
 exact absurd e (by decide)
set_option synthInstance.maxSize 5000
def nB{α:Type}(p:α→Bool):List α→Int→Int⊕Unit
 |[],_=> .inr ()
 |x::xs,i=>if p x then .inl i else nB p xs (i+1)
def v8{α:Type}(p:α→Bool)(l:List α):Int:=match nB p l 0 with | .inl i=>i | .inr _=> -1
theorem y5{α:Type}(p:α→Bool):∀(l:List α) (i:Int),0≤i→(match nB p l i with | .inl i=>decide (i≥0) | .inr _=>false)=l.any p
 |[],_,_=>rfl
 |x::l,i,h=>by
  rw[nB,List.any_cons]
  cases hp:p x
  ·simp only[Bool.false_eq_true,if_false,Bool.false_or]
   exact y5 p l (i+1) (by omega)
  ·simp[h]
theorem rf{α:Type}(p:α→Bool)(l:List α):kX (v8 p l) 0=l.any p:=by
 have:=y5 p l 0 (by omega)
 unfold v8 kX
 cases h:nB p l 0
 ·rw[h]at this;exact this
 ·rw[h]at this;rw[←this];rfl
def qp(k:Int):Bool:=decide (¬(k < 2305843009213688669∧k≠0))
def l9(t:gX)(i br:Int)(ks:List Int):Bool:=iq t && (decide (0≤i∧i < t.1.length∧0≤br∧br < 4∧ks.length≤12) && !(ks.any qp))
def jT(t:gX)(i br:Int)(ks:List Int)(sc:Int):gX×Int:=
 if l9 t i br ks then((t.1.set i.toNat ((nth jV t.1 i.toNat).1,(br,ks.map (fun k=>pC k (xm t)),sc,()),()),t.2),0) else(([],[],0,()),1)
theorem E6{t:gX}:Sm (xm t):=by
 unfold xm
 split
 ·exact vH _ _
 ·exact⟨by rw[List.length_replicate],fun x hx=>by obtain rfl:=(List.mem_replicate.1 hx).2;exact⟨by decide,by decide⟩⟩
abbrev eN.D:=Int
def eN.st:eN.D→SA:=fun kv=>([.d tu kv],[])
abbrev eN.Y:=Bool
abbrev eN.X:=Bool
def eN.out:eN.X→aT:=fun x=>⟨.d .bool x,[],[]⟩
def eN.add:eN.D→eN.Y→eN.X:=fun kv y=>y
def eN.aq:eN.D→Prop:=fun _=>True
def eN.F:eN.D→eN.Y:=fun k=>qp k
noncomputable def eN.G:dX:=eX (P:=Tryz.prog) [dz.sg]
noncomputable def eN.an:ej:= {}
noncomputable def eN.A:= @cq Tryz.prog eN.G eN.an 0 Tryz.f125 _ eN.st
abbrev eN.Ok:=cr @eN.A eN.aq eN.add eN.F eN.out
theorem eN.eq{R:Type}(kv:Int)(k:aT→Option R):eN.A kv k=
  aC ((ia kv (0:Int))) (
   k (eN.out true)) (
   ab (dz.call kv) fun x1=>
   k (eN.out (!x1))):=by kernel_rfl
theorem eN.ok:eN.Ok:=by
 intro(k:Int) _
 rw[eN.eq,dz.run (d:=k) trivial]
 simp only[eN.add,eN.F,qp,aa,dz.add,dz.F]
 by_cases h:k=0
 ·rw[eu h,ah,aD (by omega)]
 ·rw[dR h,ae]
  by_cases h2:k < 2305843009213688669
  ·rw[bB h2,bN (by omega)];rfl
  ·rw[bm h2,aD (by omega)];rfl
noncomputable def eN.E:=Entry.cF [some tu] eN.st eN.aq eN.add eN.F eN.out
noncomputable def eN.call:eN.D→Option eN.X:=bC eN.E eN.st
theorem eN.run:bD eN.call eN.aq eN.add eN.F:=cz (cv [.d tu] fun _=>by kernel_rfl)
noncomputable def eN.sg:SG Tryz.prog:=⟨125,aK,eN.E,.fn 0 (by kernel_rfl) eN.ok trivial⟩
abbrev bg.L0.D:=Bs×Int×Int
def bg.L0.st:bg.L0.D→AS:=fun(sv_2,t7,t8)=>⟨([.d tU sv_2,.fn 125 (.nil)]++bu 5 ([.d ti t7,.d ti t8]++bu 10 [])),[],(List.replicate 19 [])⟩
abbrev bg.L0.Y0:=Int
abbrev bg.L0.X0:=Int
def bg.L0.bM:bg.L0.X0→Exit×AS:=fun x=>(.ret,⟨(bu 4 ([.d ti x]++bu 14 [])),[],(List.replicate 19 [])⟩)
abbrev bg.L0.Y1:=Unit
abbrev bg.L0.X1:=Unit
def bg.L0.iG:bg.L0.X1→Exit×AS:=fun x=>(.exit 0,⟨(bu 19 []),[],(List.replicate 19 [])⟩)
abbrev bg.L0.X:=(bg.L0.X0)⊕(bg.L0.X1)
abbrev bg.L0.Y:=(bg.L0.Y0)⊕(bg.L0.Y1)
def bg.L0.out:bg.L0.X→Out (Exit×AS):=fun x=> .br x.isLeft (.get x.getLeft? fun a=> .ok (bg.L0.bM a)) (.get x.getRight? fun b=> .ok (bg.L0.iG b))
def bg.L0.add:bg.L0.D→bg.L0.Y→bg.L0.X:=fun(sv_2,t7,t8) y=>match y with | .inl y=> .inl y | .inr z=> .inr (z)
abbrev bg.D:=Bs
def bg.st:bg.D→SA:=fun sv=>([.d tU sv,.fn 125 (.nil)],[])
abbrev bg.Y:=Int
abbrev bg.X:=Int
def bg.out:bg.X→aT:=fun x=>⟨.d ti x,[],[]⟩
def bg.add:bg.D→bg.Y→bg.X:=fun sv y=>y
def bg.L0.aq:bg.L0.D→Prop:=fun(l,n,i)=>(∀x∈l,True)∧l.length≤1000000000∧n=l.length∧∃k:Nat,k≤l.length∧i=k
def bg.L0.F:bg.L0.D→bg.L0.Y:=fun(l,n,i)=>nB qp (l.drop i.toNat) i
def bg.aq:bg.D→Prop:=fun l=>(∀x∈l,True)∧l.length≤1000000000
def bg.F:bg.D→bg.Y:=fun l=>v8 qp l
noncomputable def bg.G:dX:=eX (P:=Tryz.prog) [eN.sg]
noncomputable def bg.L0.E:=cf.cF bg.L0.st bg.L0.aq bg.L0.add bg.L0.F bg.L0.out
noncomputable def bg.L0.call:bg.L0.D→Option bg.L0.X:=dO bg.L0.E bg.L0.st
noncomputable def bg.an:ej:= {loops:=ky [(2,{bt:=[0,1,7,8]})],outs:=kr [(2,{},{bt:=[4]})],gk:=kY [(2,bg.L0.E)]}
noncomputable def bg.A:= @cq Tryz.prog bg.G bg.an 0 Tryz.f163 _ bg.st
abbrev bg.Ok:=cr @bg.A bg.aq bg.add bg.F bg.out
noncomputable def bg.L0.R:= @cP Tryz.prog bg.G bg.an 0 Tryz.f163 0 _ bg.L0.st
abbrev bg.L0.Ok:=fg Tryz.prog bg.G bg.an 0 Tryz.f163 0 bg.L0.st bg.L0.aq bg.L0.add bg.L0.F bg.L0.out
theorem bg.L0.run:bD bg.L0.call bg.L0.aq bg.L0.add bg.L0.F:=fw (fk [.d tU,.d ti,.d ti] fun _=>by kernel_rfl)
theorem bg.L0.aF:oU @bg.L0.R bg.L0.st bg.L0.aq bg.L0.add bg.L0.F bg.L0.out bg.L0.Ok:=p9
theorem bg.L0.step{R:Type}(sv_2:Bs)(t7:Int)(t8:Int)(kn:AS→Option R)(kx:Exit→AS→Option R):bg.L0.R (sv_2,t7,t8) kn kx=
  aC ((gM t8 t7)) (
   aC (dY t8 (((List.length sv_2):Nat):Int)) (
   ab (eN.call (nth tu sv_2 (Int.toNat t8))) fun x1=>
   aC (x1) (
    kx (bg.L0.bM t8).1 (bg.L0.bM t8).2) (
    kn (bg.L0.st (sv_2,t7,(bw .i64 t8 (1:Int)))))) none) (
   kx (bg.L0.iG ()).1 (bg.L0.iG ()).2):=by kernel_rfl
theorem bg.eq{R:Type}(sv:Bs)(k:aT→Option R):bg.A sv k=
  ab (bg.L0.call (sv,(((List.length sv):Nat):Int),(0:Int))) fun x2=>
  aC (x2.isLeft) (
   ab (x2.getLeft?) fun a3=>
   k (bg.out a3)) (
   ab (x2.getRight?) fun b4=>
   k (bg.out (-1:Int))):=by kernel_rfl
theorem bg.L0.ok:bg.L0.Ok:=by
 refine bg.L0.aF (fun(l,n,i)=>l.length - i.toNat) ?_
 rintro⟨l,n,i⟩ ⟨hl,hb,rfl,k,hk,rfl⟩
 have hb:l.length≤1000000000:=hb
 have hk:k≤l.length:=hk
 by_cases h:k < l.length
 ·have hx:=hl _ (List.getElem_mem h)
  have n1:nth tu l k=l[k]:=dT (t:=tu) h
  have hd:nB qp (l.drop k) k=if qp l[k] then .inl (k:Int) else nB qp (l.drop (k+1)) ((k+1:Nat):Int):=by rw[List.drop_eq_getElem_cons h];rfl
  have step:∀ {R:Type} (kn:AS→Option R) (kx:Exit→AS→Option R),bg.L0.R (l,(l.length:Int),(k:Int)) kn kx=aC (qp l[k]) (kx (bg.L0.bM (k:Int)).1 (bg.L0.bM (k:Int)).2) (kn (bg.L0.st (l,(l.length:Int),((k+1:Nat):Int)))):=by
   intro R kn kx
   rw[bg.L0.step,bB (by omega),bz (by omega) (by omega),Int.toNat_natCast,n1,eN.run (d:=l[k]) hx,N.mC (by omega)]
   rfl
  cases hp:qp l[k]
  ·left
   refine⟨(l,l.length,((k+1:Nat):Int)),⟨hl,hb,rfl,k+1,by omega,rfl⟩,by simp only[Int.toNat_natCast];omega,?_,fun kn kx=> ?_⟩
   ·simp only[bg.L0.add,bg.L0.F,Int.toNat_natCast,hd,hp,Bool.false_eq_true,if_false]
   ·rw[step,hp,ae]
  ·right
   refine⟨bg.L0.bM (k:Int),?_,fun kn kx=> ?_⟩
   ·simp only[bg.L0.add,bg.L0.F,Int.toNat_natCast,hd,hp,if_true]
    rfl
   ·rw[step,hp,ah]
 ·right
  obtain rfl:k=l.length:=by omega
  refine⟨bg.L0.iG (),?_,fun kn kx=> ?_⟩
  ·simp only[bg.L0.add,bg.L0.F,Int.toNat_natCast,List.drop_length]
   rfl
  ·rw[bg.L0.step,bm (by omega),ae]
theorem bg.ok:bg.Ok:=by
 rintro l ⟨hl,hb⟩
 rw[bg.eq,bg.L0.run (d:=(l,l.length,0)) ⟨hl,hb,rfl,0,by omega,rfl⟩]
 simp only[aa,bg.L0.add,bg.L0.F,Int.toNat_zero,List.drop_zero,bg.add,bg.F,v8]
 cases nB qp l 0 <;> rfl
noncomputable def bg.E:=Entry.cF [some tU,none] bg.st bg.aq bg.add bg.F bg.out
noncomputable def bg.call:bg.D→Option bg.X:=bC bg.E bg.st
theorem bg.run:bD bg.call bg.aq bg.add bg.F:=cz (cv [.d tU] fun _=>by kernel_rfl)
noncomputable def bg.sg:SG Tryz.prog:=⟨163,aK,bg.E,.fn 1 (by kernel_rfl) bg.ok (And.intro (.cF bg.L0.ok (by kernel_rfl)) trivial)⟩
abbrev bY.D:=Bs
def bY.st:bY.D→SA:=fun sv=>([.d tU sv,.fn 125 (.nil)],[])
abbrev bY.Y:=Bool
abbrev bY.X:=Bool
def bY.out:bY.X→aT:=fun x=>⟨.d .bool x,[],[]⟩
def bY.add:bY.D→bY.Y→bY.X:=fun sv y=>y
def bY.aq:bY.D→Prop:=fun l=>(∀x∈l,True)∧l.length≤1000000000
def bY.F:bY.D→bY.Y:=fun l=>l.any qp
noncomputable def bY.G:dX:=eX (P:=Tryz.prog) [bg.sg]
noncomputable def bY.an:ej:= {}
noncomputable def bY.A:= @cq Tryz.prog bY.G bY.an 0 Tryz.f127 _ bY.st
abbrev bY.Ok:=cr @bY.A bY.aq bY.add bY.F bY.out
theorem bY.eq{R:Type}(sv:Bs)(k:aT→Option R):bY.A sv k=
 ab (bg.call sv) fun x1=>
 k (bY.out (kX x1 (0:Int))):=by kernel_rfl
theorem bY.ok:bY.Ok:=by
 rintro l ⟨hl,hb⟩
 rw[bY.eq,bg.run (d:=l) ⟨hl,hb⟩]
 simp only[aa,bg.add,bg.F,rf]
 rfl
noncomputable def bY.E:=Entry.cF [some tU,none] bY.st bY.aq bY.add bY.F bY.out
noncomputable def bY.call:bY.D→Option bY.X:=bC bY.E bY.st
theorem bY.run:bD bY.call bY.aq bY.add bY.F:=cz (cv [.d tU] fun _=>by kernel_rfl)
noncomputable def bY.sg:SG Tryz.prog:=⟨127,aK,bY.E,.fn 0 (by kernel_rfl) bY.ok trivial⟩
abbrev bR.L0.D:=Int×Bs×Int×Int×gX×(Int×Unit)×Int×Nat×(Int×Unit)×Bs×(List Sg)
def bR.L0.st:bR.L0.D→AS:=fun(inv_2,t52,t53,t54,n5,n10,n13,n13L,n13_2,n14,n64)=>⟨([.undef,.d ti inv_2,.undef,.undef,.undef,.ptr (.new 5 0) 0 [] 0]++bu 4 ([.ptr (.new 10 0) 0 [] 0,.undef,.undef,.ptr (.new 13 0) 0 [] 0,.ptr (.new 14 0) 0 [] 0]++bu 37 ([.d tU t52,.d ti t53,.d ti t54]++bu 21 []))),[],(cw 5 ([[.obj 0 false (.d kq n5)]]++cw 4 ([[.obj 0 false (.pr (.dP) (.pr (.dP) (.d (.pair ti .unit) n10)))],[],[],[.obj 0 false (.pr (.d ti n13) (.pr (.cT (.new 64 0) 0 [] 0 0 n13L) (.d (.pair tu .unit) n13_2)))],[.obj 0 false (.d tH n14)]]++cw 49 ([[.obj 0 false (.vec 131 Dq n64)]]++cw 11 []))))⟩
abbrev bR.L0.Y0:=At×(List Sg)
abbrev bR.L0.X0:=(Int×gX×(Int×Unit))×(At×(List Sg))
def bR.L0.bM:bR.L0.X0→Exit×AS:=fun x=>(.exit 0,⟨([.undef,.d ti x.1.1,.undef,.undef,.undef,.ptr (.new 5 0) 0 [] 0]++bu 4 ([.ptr (.new 10 0) 0 [] 0,.undef,.undef,.ptr (.new 13 0) 0 [] 0]++bu 62 [])),[],(cw 5 ([[.obj 0 false (.d kq x.1.2.1)]]++cw 4 ([[.obj 0 false (.pr (.dP) (.pr (.dP) (.d (.pair ti .unit) x.1.2.2)))],[],[],[.obj 0 false (.d It x.2.1)]]++cw 50 ([[.obj 0 true (.vec 131 Dq x.2.2)]]++cw 11 []))))⟩)
abbrev bR.L0.X:=bR.L0.X0
abbrev bR.L0.Y:=bR.L0.Y0
def bR.L0.out:bR.L0.X→Out (Exit×AS):=fun x=> .ok (bR.L0.bM x)
def bR.L0.add:bR.L0.D→bR.L0.Y→bR.L0.X:=fun(inv_2,t52,t53,t54,n5,n10,n13,n13L,n13_2,n14,n64) y=>((inv_2,n5,n10),y)
abbrev bR.D:=gX×Int×Int×Bs×Int
def bR.st:bR.D→SA:=fun(t,inv,branch,keys,secret)=>([.d kq t,.d ti inv,.d ti branch,.d tU keys,.d tu secret],[])
abbrev bR.Y:=gX×Int
abbrev bR.X:=gX×Int
def bR.out:bR.X→aT:=fun x=>⟨.cons (.d kq x.1) (.cons (.d ti x.2) (.nil)),[],[]⟩
def bR.add:bR.D→bR.Y→bR.X:=fun(t,inv,branch,keys,secret) y=>y
def bR.L0.aq:bR.L0.D→Prop:=fun(i0,l,n,i,t,e,br,L,sc,id,r)=>l.length≤1000∧(∀x∈l,fh x)∧Sm id∧∃k:Nat,k≤l.length∧i=k∧n=l.length∧L=r.length∧r.length≤1000+k
def bR.L0.F:bR.L0.D→bR.L0.Y:=fun(i0,l,n,i,t,e,br,L,sc,id,r)=>((br,r++(l.drop i.toNat).map (fun k=>pC k id),sc),r++(l.drop i.toNat).map (fun k=>pC k id))
def bR.aq:bR.D→Prop:=fun(t,i,br,ks,sc)=>sa t∧(∀x∈ks,fh x)∧ks.length≤1000000000
def bR.F:bR.D→bR.Y:=fun(t,i,br,ks,sc)=>jT t i br ks sc
noncomputable def bR.G:dX:=eX (P:=Tryz.prog) [au.sg,fK.sg,bY.sg,tid.sg,eG.sg,aj.sg]
noncomputable def bR.L0.E:=cf.cF bR.L0.st bR.L0.aq bR.L0.add bR.L0.F bR.L0.out
noncomputable def bR.L0.call:bR.L0.D→Option bR.L0.X:=dO bR.L0.E bR.L0.st
noncomputable def bR.an:ej:= {bZ:=[5],loops:=ky [(7,{bt:=[1,5,10,13,14,52,53,54],sites:=[5,10,13,14,64],kc:=[⟨13,[.snd,.fst],64,89⟩]})],outs:=kr [(7,{bt:=[1,5,10,13],sites:=[5,10,13,64],yT:=[⟨13,[.snd,.fst],(.slice Dq)⟩]},{bt:=[10,11]})],gk:=kY [(7,bR.L0.E)],res:=[some kq,none]}
noncomputable def bR.A:= @cq Tryz.prog bR.G bR.an 0 Tryz.f75 _ bR.st
abbrev bR.Ok:=cr @bR.A bR.aq bR.add bR.F bR.out
noncomputable def bR.L0.R:= @cP Tryz.prog bR.G bR.an 0 Tryz.f75 0 _ bR.L0.st
abbrev bR.L0.Ok:=fg Tryz.prog bR.G bR.an 0 Tryz.f75 0 bR.L0.st bR.L0.aq bR.L0.add bR.L0.F bR.L0.out
theorem bR.L0.run:bD bR.L0.call bR.L0.aq bR.L0.add bR.L0.F:=fw (fk [.d ti,.d tU,.d ti,.d ti,.d kq,.d (.pair ti .unit),.d ti,.n,.d (.pair tu .unit),.d tB,.d (.slice Dq)] fun _=>by kernel_rfl)
theorem bR.L0.aF:gg @bR.L0.R bR.L0.st bR.L0.aq bR.L0.add bR.L0.F bR.L0.bM bR.L0.Ok:=gj
theorem bR.L0.step{R:Type}(inv_2:Int)(t52:Bs)(t53:Int)(t54:Int)(n5:gX)(n10:(Int×Unit))(n13:Int)(n13L:Nat)(n13_2:(Int×Unit))(n14:Bs)(n64:(List Sg))(kn:AS→Option R)(kx:Exit→AS→Option R):bR.L0.R (inv_2,t52,t53,t54,n5,n10,n13,n13L,n13_2,n14,n64) kn kx=
  aC ((gM t54 t53)) (
   aC (dY t54 (((List.length t52):Nat):Int)) (
   ab (eG.call ((nth tu t52 (Int.toNat t54)),n14)) fun x4=>
   aC (decide (n13L≤(List.length n64))) (
   aC (dK (n13L+1) 16) (
   kn (bR.L0.st (inv_2,t52,t53,(bw .i64 t54 (1:Int)),n5,n10,n13,(n13L+1),n13_2,n14,((List.take n13L n64)++ [x4])))) none) none) none) (
   aC (decide (0=0∧(0+n13L)≤(List.length n64))) (
   kx (bR.L0.bM ((inv_2,n5,n10),((n13,((cut n64 0 n13L),n13_2)),n64))).1 (bR.L0.bM ((inv_2,n5,n10),((n13,((cut n64 0 n13L),n13_2)),n64))).2) none):=by kernel_rfl
theorem bR.eq{R:Type}(t:gX)(inv:Int)(branch:Int)(keys:Bs)(secret:Int)(k:aT→Option R):bR.A (t,inv,branch,keys,secret) k=
  ab (au.call t) fun x10=>
  aC ((!x10)) (
   k (bR.out ((([]:List jc),(([]:List jA),((0:Int),()))),(1:Int)))) (
   aC ((gM inv (0:Int))) (
    k (bR.out ((([]:List jc),(([]:List jA),((0:Int),()))),(1:Int)))) (
    aC ((kX inv (((List.length t.1):Nat):Int))) (
     k (bR.out ((([]:List jc),(([]:List jA),((0:Int),()))),(1:Int)))) (
     ab (fK.call (branch,(([]:List Sg),(secret,())))) fun x11=>
     aC ((!x11)) (
      k (bR.out ((([]:List jc),(([]:List jA),((0:Int),()))),(1:Int)))) (
      aC ((na (((List.length keys):Nat):Int) (12:Int))) (
       k (bR.out ((([]:List jc),(([]:List jA),((0:Int),()))),(1:Int)))) (
       ab (bY.call keys) fun x12=>
       aC (x12) (
        k (bR.out ((([]:List jc),(([]:List jA),((0:Int),()))),(1:Int)))) (
        ab (tid.call t) fun x16=>
        ab (bR.L0.call (inv,keys,(((List.length keys):Nat):Int),(0:Int),t,((0:Int),()),branch,0,(secret,()),x16,([]:List Sg))) fun x26=>
        ab (aj.call x26.1.2.1) fun x30=>
        aC (dY x26.1.1 ((x30.1:Nat):Int)) (
        aC (decide ((0+(Int.toNat x26.1.1)) < (List.length x30.2.2))) (
        aC (decide ((((0+(Int.toNat x26.1.1))*36)+33)=((0+((Int.toNat x26.1.1)*36))+33))) (
        aC (decide ((0+(Int.toNat x26.1.1)) < (List.length x30.2.2))) (
        aC (decide (0=0∧(0+x30.1)≤(List.length (List.set x30.2.2 (0+(Int.toNat x26.1.1)) ((nth jV x30.2.2 (0+(Int.toNat x26.1.1))).1,(x26.2.1,(nth jV x30.2.2 (0+(Int.toNat x26.1.1))).2.2)))))) (
        k (bR.out (((cut (List.set x30.2.2 (0+(Int.toNat x26.1.1)) ((nth jV x30.2.2 (0+(Int.toNat x26.1.1))).1,(x26.2.1,(nth jV x30.2.2 (0+(Int.toNat x26.1.1))).2.2))) 0 x30.1),x30.2.1),(0:Int)))) none) none) none) none) none)))))):=by kernel_rfl
theorem bR.L0.ok:bR.L0.Ok:=by
 refine bR.L0.aF (fun(i0,l,n,i,t,e,br,L,sc,id,r)=>l.length - i.toNat) ?_
 rintro⟨i0,l,n,i,t,e,br,L,sc,id,r⟩ ⟨hlen,hu,hm,k,hk,rfl,rfl,rfl,hr⟩
 have hlen:l.length≤1000:=hlen
 have hk:k≤l.length:=hk
 have hr:r.length≤1000+k:=hr
 by_cases h:k < l.length
 ·left
  have n1:nth tu l k=l[k]:=dT (t:=tu) h
  have hd:List.drop k l=l[k]::List.drop (k+1) l:=List.drop_eq_getElem_cons h
  refine⟨(i0,l,l.length,((k+1:Nat):Int),t,e,br,r.length+1,sc,id,r++ [pC l[k] id]),⟨hlen,hu,hm,k+1,by omega,rfl,rfl,by rw[List.length_append];rfl,by rw[List.length_append];show r.length+1≤_;omega⟩,by simp only[Int.toNat_natCast];omega,?_,fun kn kx=> ?_⟩
  ·simp only[bR.L0.add,bR.L0.F,Int.toNat_natCast,hd,List.map_cons,List.append_assoc,List.singleton_append]
  ·rw[bR.L0.step,bB (by omega),bz (by omega) (by omega),Int.toNat_natCast,n1,eG.run (d:=(l[k],id)) ⟨hu _ (List.getElem_mem h),hm⟩]
   simp only[ah,aa,eG.add,eG.F]
   rw[aD (Nat.le_refl _),eO (by omega) (by omega),N.mC (by omega),List.take_length]
   rfl
 ·right
  obtain rfl:k=l.length:=by omega
  intro R kn kx
  rw[bR.L0.step,bm (by omega),ae]
  simp only[bR.L0.add,bR.L0.F,Int.toNat_natCast,List.drop_length,List.map_nil,List.append_nil,Nat.zero_add,Nat.le_refl,and_self,decide_true,ah,gG]
theorem bR.ok:bR.Ok:=by
 rintro⟨⟨is,os,nt,u⟩,i,br,ks,sc⟩ ⟨hv,hu,hl⟩
 have hv:sa (is,os,nt,u):=hv
 have hl:ks.length≤1000000000:=hl
 rw[bR.eq,au.run (d:=(is,os,nt,u)) hv.1]
 simp only[aa,au.add,au.F,bR.add,bR.F,jT,l9]
 rcases Bool.eq_false_or_eq_true (iq (is,os,nt,u)) with hok | hok
 rotate_left
 ·simp only[hok];rfl
 obtain⟨⟨_,a2,a3,_⟩,b1,b2⟩:=qN hok
 have a2:is.length≤64:=a2
 simp only[hok,Bool.not_true,ae,Bool.true_and]
 by_cases h1:i < 0
 ·rw[bB h1,ah,bN (by omega)];rfl
 rw[bm h1,ae]
 by_cases h2:i≥(is.length:Int)
 ·rw[gQ h2,ah,bN (by omega)];rfl
 rw[fx h2,ae,fK.run (d:=(br,([],(sc,())))) trivial]
 simp only[aa,fK.add,fK.F,oP]
 by_cases h3:0≤br∧br < 4
 ·rw[aD h3]
  by_cases h4:ks.length > 12
  ·rw[dS (by omega),bN (p:=0≤i∧i < (is.length:Int)∧0≤br∧br < 4∧ks.length≤12) (by omega)];rfl
  ·rw[cZ (by omega),aD (p:=0≤i∧i < (is.length:Int)∧0≤br∧br < 4∧ks.length≤12) (by omega),bY.run (d:=ks) ⟨fun _ _=>trivial,hl⟩]
   simp only[aa,bY.add,bY.F]
   rcases Bool.eq_false_or_eq_true (ks.any qp) with hb | hb
   rotate_left
   ·simp only[hb]
    obtain⟨k,rfl⟩:∃k:Nat,i=k:=⟨i.toNat,by omega⟩
    have hk:k < is.length:=by omega
    simp only[show(([]:List Sg).length≤12)=True from eq_true (Nat.zero_le _),decide_true,Bool.and_self,Bool.not_true,Bool.not_false,ae,Bool.true_and,if_true]
    rw[tid.run (d:=(is,os,nt,u)) hv]
    simp only[aa,tid.add,tid.F]
    rw[bR.L0.run (d:=((k:Int),ks,ks.length,0,(is,os,nt,u),(0,()),br,0,(sc,()),xm (is,os,nt,u),[])) ⟨by show ks.length≤_;omega,hu,E6,0,Nat.zero_le _,rfl,rfl,rfl,Nat.zero_le _⟩]
    simp only[aa,bR.L0.add,bR.L0.F,Int.toNat_zero,List.drop_zero,List.nil_append]
    rw[aj.run (d:=(is,os,nt,u)) hok]
    simp only[aa,aj.add,aj.F,Int.toNat_natCast,Nat.zero_add,Nat.add_zero,bz (show(0:Int)≤(k:Int) by omega) (show(k:Int) < (is.length:Int) by omega),ah,aD hk,decide_true,List.length_set,Nat.le_refl,and_self]
    rw[gG (by rw[List.length_set])]
   ·simp only[hb];rfl
 ·rw[bN h3,bN (p:=0≤i∧i < (is.length:Int)∧0≤br∧br < 4∧ks.length≤12) (by omega)];rfl
noncomputable def bR.E:=Entry.cF [some kq,some ti,some ti,some tU,some tu] bR.st bR.aq bR.add bR.F bR.out
noncomputable def bR.call:bR.D→Option bR.X:=bC bR.E bR.st
theorem bR.run:bD bR.call bR.aq bR.add bR.F:=cz (cv [.d kq,.d ti,.d ti,.d tU,.d tu] fun _=>by kernel_rfl)
noncomputable def bR.sg:SG Tryz.prog:=⟨75,aK,bR.E,.fn 1 (by kernel_rfl) bR.ok (And.intro (.cF bR.L0.ok (by kernel_rfl)) trivial)⟩
set_option synthInstance.maxSize 5000
abbrev gu.D:=Bs×Bs
def gu.st:gu.D→SA:=fun(a,b)=>([.d tB a,.d tB b],[])
abbrev gu.Y:=Int
abbrev gu.X:=Int
def gu.out:gu.X→aT:=fun x=>⟨.d ti x,[],[]⟩
def gu.add:gu.D→gu.Y→gu.X:=fun(a,b) y=>y
def gu.aq:gu.D→Prop:=fun _=>True
def gu.F:gu.D→gu.Y:=fun(a,b)=>AG a b
noncomputable def gu.G:dX:=eX (P:=Tryz.prog) [⟨133,aK,BJ.E,BJ.of (fn:=Tryz.f133) (by kernel_rfl) (by kernel_rfl) (by kernel_rfl) (by kernel_rfl) (by kernel_rfl)⟩]
noncomputable def gu.an:ej:= {}
noncomputable def gu.A:= @cq Tryz.prog gu.G gu.an 0 Tryz.f89 _ gu.st
abbrev gu.Ok:=cr @gu.A gu.aq gu.add gu.F gu.out
theorem gu.eq{R:Type}(a:Bs)(b:Bs)(k:aT→Option R):gu.A (a,b) k=
 ab (BJ.call (a,b)) fun x1=>
 k (gu.out x1):=by kernel_rfl
theorem gu.ok:gu.Ok:=by
 rintro⟨a,b⟩ _
 rw[gu.eq,BJ.run]
 rfl
noncomputable def gu.E:=Entry.cF [some tB,some tB] gu.st gu.aq gu.add gu.F gu.out
noncomputable def gu.call:gu.D→Option gu.X:=bC gu.E gu.st
theorem gu.run:bD gu.call gu.aq gu.add gu.F:=cz (cv [.d tB,.d tB] fun _=>by kernel_rfl)
noncomputable def gu.sg:SG Tryz.prog:=⟨89,aK,gu.E,.fn 0 (by kernel_rfl) gu.ok trivial⟩
abbrev fR.D:=Int
def fR.st:fR.D→SA:=fun x=>([.d ti x],[])
abbrev fR.Y:=Bool
abbrev fR.X:=Bool
def fR.out:fR.X→aT:=fun x=>⟨.d .bool x,[],[]⟩
def fR.add:fR.D→fR.Y→fR.X:=fun x y=>y
def fR.aq:fR.D→Prop:=fun _=>True
def fR.F:fR.D→fR.Y:=fun _=>false
noncomputable def fR.G:dX:=eX (P:=Tryz.prog) []
noncomputable def fR.an:ej:= {}
noncomputable def fR.A:= @cq Tryz.prog fR.G fR.an 0 Tryz.f132 _ fR.st
abbrev fR.Ok:=cr @fR.A fR.aq fR.add fR.F fR.out
theorem fR.eq{R:Type}(x:Int)(k:aT→Option R):fR.A x k=
 k (fR.out (qS x x)):=by kernel_rfl
theorem fR.ok:fR.Ok:=by
 intro x _
 rw[fR.eq]
 simp only[fR.add,fR.F,gO rfl]
noncomputable def fR.E:=Entry.cF [some ti] fR.st fR.aq fR.add fR.F fR.out
noncomputable def fR.call:fR.D→Option fR.X:=bC fR.E fR.st
theorem fR.run:bD fR.call fR.aq fR.add fR.F:=cz (cv [.d ti] fun _=>by kernel_rfl)
noncomputable def fR.sg:SG Tryz.prog:=⟨132,aK,fR.E,.fn 0 (by kernel_rfl) fR.ok trivial⟩
def qa(x y:Int):Int:=if x < y then -1 else if x > y then 1 else 0
abbrev fq.D:=Int×Int
def fq.st:fq.D→SA:=fun(x,yv)=>([.d ti x,.d ti yv],[])
abbrev fq.Y:=Int
abbrev fq.X:=Int
def fq.out:fq.X→aT:=fun x=>⟨.d ti x,[],[]⟩
def fq.add:fq.D→fq.Y→fq.X:=fun(x,yv) y=>y
def fq.aq:fq.D→Prop:=fun _=>True
def fq.F:fq.D→fq.Y:=fun(x,y)=>qa x y
noncomputable def fq.G:dX:=eX (P:=Tryz.prog) [fR.sg]
noncomputable def fq.an:ej:= {}
noncomputable def fq.A:= @cq Tryz.prog fq.G fq.an 0 Tryz.f88 _ fq.st
abbrev fq.Ok:=cr @fq.A fq.aq fq.add fq.F fq.out
theorem fq.eq{R:Type}(x:Int)(yv:Int)(k:aT→Option R):fq.A (x,yv) k=
  ab (fR.call x) fun x1=>
  ab (fR.call yv) fun x2=>
  aC (x1) (
   aC (x2) (
    k (fq.out (0:Int))) (
    k (fq.out (-1:Int)))) (
   aC (x2) (
    k (fq.out (1:Int))) (
    aC ((gM x yv)) (
     k (fq.out (-1:Int))) (
     aC ((na x yv)) (
      k (fq.out (1:Int))) (
      k (fq.out (0:Int)))))):=by kernel_rfl
theorem fq.ok:fq.Ok:=by
 rintro⟨x,y⟩ _
 rw[fq.eq,fR.run (d:=x) trivial]
 simp only[aa,fR.add,fR.F]
 rw[fR.run (d:=y) trivial]
 simp only[aa,fR.add,fR.F,ae,fq.add,fq.F,qa]
 by_cases h:x < y
 ·rw[bB h,ah,if_pos h]
 ·rw[bm h,ae,if_neg h]
  by_cases h2:x > y
  ·rw[dS h2,ah,if_pos h2]
  ·rw[cZ h2,ae,if_neg h2]
noncomputable def fq.E:=Entry.cF [some ti,some ti] fq.st fq.aq fq.add fq.F fq.out
noncomputable def fq.call:fq.D→Option fq.X:=bC fq.E fq.st
theorem fq.run:bD fq.call fq.aq fq.add fq.F:=cz (cv [.d ti,.d ti] fun _=>by kernel_rfl)
noncomputable def fq.sg:SG Tryz.prog:=⟨88,aK,fq.E,.fn 0 (by kernel_rfl) fq.ok trivial⟩
abbrev fi.L0.D:=Int×(List Int)×Int×Int
def fi.L0.st:fi.L0.D→AS:=fun(zero,t6,t7,t8)=>⟨([.undef,.undef,.undef,.d ti zero,.undef,.undef,.d (.slice ti) t6,.d ti t7,.d ti t8]++bu 9 []),[],(List.replicate 18 [])⟩
abbrev fi.L0.Y0:=Int
abbrev fi.L0.X0:=Int
def fi.L0.bM:fi.L0.X0→Exit×AS:=fun x=>(.ret,⟨([.undef,.undef,.d ti x]++bu 15 []),[],(List.replicate 18 [])⟩)
abbrev fi.L0.Y1:=Unit
abbrev fi.L0.X1:=Int
def fi.L0.iG:fi.L0.X1→Exit×AS:=fun x=>(.exit 0,⟨([.undef,.undef,.undef,.d ti x]++bu 14 []),[],(List.replicate 18 [])⟩)
abbrev fi.L0.X:=(fi.L0.X0)⊕(fi.L0.X1)
abbrev fi.L0.Y:=(fi.L0.Y0)⊕(fi.L0.Y1)
def fi.L0.out:fi.L0.X→Out (Exit×AS):=fun x=> .br x.isLeft (.get x.getLeft? fun a=> .ok (fi.L0.bM a)) (.get x.getRight? fun b=> .ok (fi.L0.iG b))
def fi.L0.add:fi.L0.D→fi.L0.Y→fi.L0.X:=fun(zero,t6,t7,t8) y=>match y with | .inl y=> .inl y | .inr z=> .inr (zero)
abbrev fi.D:=(List Int)
def fi.st:fi.D→SA:=fun iL=>([.d (.slice ti) iL],[])
abbrev fi.Y:=Int
abbrev fi.X:=Int
def fi.out:fi.X→aT:=fun x=>⟨.d ti x,[],[]⟩
def fi.add:fi.D→fi.Y→fi.X:=fun iL y=>y
def EA:List Int→Int
 |[]=>0
 |x::l=>if x≠0 then x else EA l
def Gy:List Int→Int⊕Unit
 |[]=> .inr ()
 |x::l=>if x≠0 then .inl x else Gy l
theorem Gz:∀l:List Int,EA l=match Gy l with | .inl x=>x | .inr _=>0
 |[]=>rfl
 |x::l=>by
  simp only[EA,Gy]
  split
  ·rfl
  ·exact Gz l
def fi.L0.aq:fi.L0.D→Prop:=fun(z,l,n,i)=>z=0∧l.length≤1000000000∧n=l.length∧∃k:Nat,k≤l.length∧i=k
def fi.L0.F:fi.L0.D→fi.L0.Y:=fun(z,l,n,i)=>Gy (l.drop i.toNat)
def fi.aq:fi.D→Prop:=fun l=>l.length≤1000000000
def fi.F:fi.D→fi.Y:=fun l=>EA l
noncomputable def fi.G:dX:=eX (P:=Tryz.prog) []
noncomputable def fi.L0.E:=cf.cF fi.L0.st fi.L0.aq fi.L0.add fi.L0.F fi.L0.out
noncomputable def fi.L0.call:fi.L0.D→Option fi.L0.X:=dO fi.L0.E fi.L0.st
noncomputable def fi.an:ej:= {loops:=ky [(3,{bt:=[3,6,7,8]})],outs:=kr [(3,{bt:=[3]},{bt:=[2]})],gk:=kY [(3,fi.L0.E)]}
noncomputable def fi.A:= @cq Tryz.prog fi.G fi.an 0 Tryz.f87 _ fi.st
abbrev fi.Ok:=cr @fi.A fi.aq fi.add fi.F fi.out
noncomputable def fi.L0.R:= @cP Tryz.prog fi.G fi.an 0 Tryz.f87 0 _ fi.L0.st
abbrev fi.L0.Ok:=fg Tryz.prog fi.G fi.an 0 Tryz.f87 0 fi.L0.st fi.L0.aq fi.L0.add fi.L0.F fi.L0.out
theorem fi.L0.run:bD fi.L0.call fi.L0.aq fi.L0.add fi.L0.F:=fw (fk [.d ti,.d (.slice ti),.d ti,.d ti] fun _=>by kernel_rfl)
theorem fi.L0.aF:oU @fi.L0.R fi.L0.st fi.L0.aq fi.L0.add fi.L0.F fi.L0.out fi.L0.Ok:=p9
theorem fi.L0.step{R:Type}(zero:Int)(t6:(List Int))(t7:Int)(t8:Int)(kn:AS→Option R)(kx:Exit→AS→Option R):fi.L0.R (zero,t6,t7,t8) kn kx=
  aC ((gM t8 t7)) (
   aC (dY t8 (((List.length t6):Nat):Int)) (
   aC ((qS (nth ti t6 (Int.toNat t8)) zero)) (
    kx (fi.L0.bM (nth ti t6 (Int.toNat t8))).1 (fi.L0.bM (nth ti t6 (Int.toNat t8))).2) (
    kn (fi.L0.st (zero,t6,t7,(bw .i64 t8 (1:Int)))))) none) (
   kx (fi.L0.iG zero).1 (fi.L0.iG zero).2):=by kernel_rfl
theorem fi.eq{R:Type}(iL:(List Int))(k:aT→Option R):fi.A iL k=
  ab (fi.L0.call ((0:Int),iL,(((List.length iL):Nat):Int),(0:Int))) fun x1=>
  aC (x1.isLeft) (
   ab (x1.getLeft?) fun a2=>
   k (fi.out a2)) (
   ab (x1.getRight?) fun b3=>
   k (fi.out b3)):=by kernel_rfl
theorem fi.L0.ok:fi.L0.Ok:=by
 refine fi.L0.aF (fun(z,l,n,i)=>l.length - i.toNat) ?_
 rintro⟨z,l,n,i⟩ ⟨rfl,hl,rfl,k,hk,rfl⟩
 by_cases h:k < l.length
 ·have hd:l.drop k=l[k]::l.drop (k+1):=List.drop_eq_getElem_cons h
  have n1:nth ti l k=l[k]:=dT (t:=ti) h
  by_cases h2:l[k]≠0
  ·right
   refine⟨fi.L0.bM l[k],?_,fun kn kx=> ?_⟩
   rotate_left
   ·rw[fi.L0.step,bB (by omega),ah,bz (by omega) (by omega),ah,Int.toNat_natCast,n1,iM h2,ah]
   ·simp only[fi.L0.add,fi.L0.F,Int.toNat_natCast,hd,Gy,if_pos h2]
    rfl
  ·left
   refine⟨(0,l,(l.length:Int),((k+1:Nat):Int)),⟨rfl,hl,rfl,k+1,by omega,rfl⟩,by simp only[Int.toNat_natCast];omega,?_,fun kn kx=> ?_⟩
   ·simp only[fi.L0.add,fi.L0.F,Int.toNat_natCast,hd,Gy,if_neg h2]
   ·rw[fi.L0.step,bB (by omega),ah,bz (by omega) (by omega),ah,Int.toNat_natCast,n1,gO (by omega),ae,N.mC (by omega)]
 ·right
  obtain rfl:k=l.length:=by omega
  refine⟨fi.L0.iG 0,?_,fun kn kx=> ?_⟩
  rotate_left
  ·rw[fi.L0.step,bm (by omega),ae]
  ·simp only[fi.L0.add,fi.L0.F,Int.toNat_natCast,List.drop_length,Gy]
   rfl
theorem fi.ok:fi.Ok:=by
 intro l hl
 rw[fi.eq,fi.L0.run (d:=(0,l,(l.length:Int),0)) ⟨rfl,hl,rfl,0,Nat.zero_le _,rfl⟩]
 simp only[aa,fi.L0.add,fi.L0.F,Int.toNat_zero,List.drop_zero,fi.add,fi.F]
 rw[Gz]
 cases Gy l <;> rfl
noncomputable def fi.E:=Entry.cF [some (.slice ti)] fi.st fi.aq fi.add fi.F fi.out
noncomputable def fi.call:fi.D→Option fi.X:=bC fi.E fi.st
theorem fi.run:bD fi.call fi.aq fi.add fi.F:=cz (cv [.d (.slice ti)] fun _=>by kernel_rfl)
noncomputable def fi.sg:SG Tryz.prog:=⟨87,aK,fi.E,.fn 1 (by kernel_rfl) fi.ok (And.intro (.cF fi.L0.ok (by kernel_rfl)) trivial)⟩
set_option synthInstance.maxSize 5000
theorem EW(k:Int)(m:List Int):Jk (pC k m):=by
 unfold pC
 split
 ·exact⟨(Cj _).u,(xw _ _).u⟩
 ·exact⟨⟨Int.le_refl 0,by decide⟩,Int.le_refl 0,by decide⟩
theorem yY:∀(l l':List jc) (b:List Int),l.map (·.1)=l'.map (·.1)→l.foldl vR b=l'.foldl vR b
 |[],[],_,_=>rfl
 |[],_::_,_,h=>by cases h
 |_::_,[],_,h=>by cases h
 |x::l,y::l',b,h=>by
  rw[List.map_cons,List.map_cons,List.cons.injEq]at h
  have e:vR b x=vR b y:=by unfold vR;rw[h.1]
  rw[List.foldl_cons,List.foldl_cons,e,yY l l' _ h.2]
theorem Dc{l l':List jc}(t:List jA×Int×Unit)(h:l.map (·.1)=l'.map (·.1)):pv (l,t)=pv (l',t):=by
 have hl:l.length=l'.length:=by have:=congrArg List.length h;simpa using this
 unfold pv
 simp only[hl]
 rw[yY l l' _ h]
theorem y7:∀(l l':List jc) (m:List (oQ×Bool)),l.map (·.1)=l'.map (·.1)→oq m l=true→(∀x∈l',oP x.2.1=true)→oq m l'=true
 |[],[],_,_,_,_=>rfl
 |[],_::_,_,h,_,_=>by cases h
 |_::_,[],_,h,_,_=>by cases h
 |x::l,y::l',m,h,hi,hw=>by
  rw[List.map_cons,List.map_cons,List.cons.injEq]at h
  rw[oq,Bool.and_eq_true,Bool.and_eq_true]at hi ⊢
  have hx:=hi.1.2
  unfold sB at hx
  rw[Bool.and_eq_true]at hx
  refine⟨⟨?_,?_⟩,?_⟩
  ·have:=hi.1.1
   unfold re at this ⊢
   rw[←h.1]
   exact this
  ·unfold sB
   rw[←h.1,hx.1,hw y List.mem_cons_self]
   rfl
  ·rw[←h.1]
   exact y7 l l' _ h.2 hi.2 fun z hz=>hw z (List.mem_cons_of_mem _ hz)
theorem E8{l l':List jc}{t:List jA×Int×Unit}(h:l.map (·.1)=l'.map (·.1))(hok:iq (l,t)=true)(hw:∀x∈l',oP x.2.1=true):iq (l',t)=true:=by
 have hl:l.length=l'.length:=by have:=congrArg List.length h;simpa using this
 unfold iq qM at hok ⊢
 rw[Bool.and_eq_true,Bool.and_eq_true]at hok ⊢
 simp only[hl]at hok
 exact⟨hok.1,y7 l l' _ h hok.2.1 hw,hok.2.2⟩
theorem Cm{l l':List jc}{t:List jA×Int×Unit}(h:l.map (·.1)=l'.map (·.1))(h1:iq (l,t)=true)(h2:iq (l',t)=true):xm (l',t)=xm (l,t):=by
 unfold xm
 rw[h1,h2,Dc t h]
theorem Bn{l l':List jc}{t:List jA×Int×Unit}(h:l.map (·.1)=l'.map (·.1))(h1:iq (l,t)=true)(h2:iq (l',t)=true):kS (l',t)=kS (l,t):=by
 unfold kS
 rw[h1,h2]
 exact h.symm
theorem Eo{l l':List jc}{t:List jA×Int×Unit}(h:l.map (·.1)=l'.map (·.1))(h1:iq (l,t)=true)(h2:iq (l',t)=true):jm (l',t)=jm (l,t):=by
 unfold jm
 rw[h1,h2,Cm h h1 h2]
def rR(t:gX)(k:Nat)(w:At):gX:=(t.1.set k ((nth jV t.1 k).1,w,()),t.2)
theorem rS(l:List jc)(k:Nat)(w:At)(h:k < l.length):l.map (·.1)=(l.set k ((nth jV l k).1,w,())).map (·.1):=by
 have n1:nth jV l k=l[k]:=dT (t:=jV) h
 rw[n1,List.map_set]
 have e:(l[k].1:oQ)=(l.map (·.1))[k]'(by rw[List.length_map];exact h):=by rw[List.getElem_map]
 show _=(l.map (·.1)).set k l[k].1
 rw[e,List.set_getElem_self]
theorem zR{l:List jc}{k:Nat}{w:At}{x:jc}(h:k < l.length)(hx:x∈l.set k ((nth jV l k).1,w,())):x∈l∨(x.1=l[k].1∧x.2.1=w):=by
 have n1:nth jV l k=l[k]:=dT (t:=jV) h
 rw[n1]at hx
 rcases List.mem_or_eq_of_mem_set hx with h1 | h1
 ·exact .inl h1
 ·exact .inr ⟨by rw[h1],by rw[h1]⟩
theorem ui{t:gX}{k:Nat}{w:At}(h:k < t.1.length)(hok:iq t=true)(hw:oP w=true):iq (rR t k w)=true:=by
 obtain⟨_,b1,_⟩:=qN hok
 refine E8 (l:=t.1) (rS t.1 k w h) hok fun x hx=> ?_
 rcases zR h hx with h1 | h1
 ·have:=ph _ _ b1 x h1
  unfold sB at this
  rw[Bool.and_eq_true]at this
  exact this.2
 ·rw[h1.2];exact hw
theorem Hy{t:gX}{k:Nat}{w:At}(h:k < t.1.length)(hv:sa t)(hu:GK w)(hl:w.2.1.length≤9223372036854775807):sa (rR t k w):=by
 refine⟨⟨hv.1.1,by show(t.1.set k _).length≤_;rw[List.length_set];exact hv.1.2.1,hv.1.2.2⟩,fun x hx=> ?_,hv.2.2⟩
 rcases zR h hx with h1 | h1
 ·exact hv.2.1 x h1
 ·refine⟨?_,by rw[h1.2];exact hu,by rw[h1.2];exact hl⟩
  rw[h1.1]
  exact(hv.2.1 _ (List.getElem_mem h)).1
theorem F1{t:gX}{k:Nat}{w:At}(h:k < t.1.length)(hok:iq t=true)(hw:oP w=true):xm (rR t k w)=xm t∧kS (rR t k w)=kS t∧jm (rR t k w)=jm t:=
 ⟨Cm (l:=t.1) (rS t.1 k w h) hok (ui h hok hw),Bn (l:=t.1) (rS t.1 k w h) hok (ui h hok hw),Eo (l:=t.1) (rS t.1 k w h) hok (ui h hok hw)⟩
theorem vA(t:gX)(k:Nat)(w:At):(rR t k w).1.length=t.1.length:=List.length_set
def s5(t:gX)(br:Int)(ks:List Int)(sc:Int):At:=(br,ks.map (fun k=>pC k (xm t)),sc,())
theorem vD(t:gX)(i br:Int)(ks:List Int)(sc:Int):jT t i br ks sc=if l9 t i br ks then(rR t i.toNat (s5 t br ks sc),0) else(([],[],0,()),1):=rfl
theorem zV{t:gX}{i br:Int}{ks:List Int}(h:l9 t i br ks=true):iq t=true∧(0≤i∧i < t.1.length∧0≤br∧br < 4∧ks.length≤12)∧∀k∈ks,k < 2305843009213688669∧k≠0:=by
 unfold l9 at h
 simp only[Bool.and_eq_true,decide_eq_true_eq,Bool.not_eq_true']at h
 refine⟨h.1,h.2.1,fun k hk=> ?_⟩
 have:=h.2.2
 rw[List.any_eq_false]at this
 have:=this k hk
 unfold qp at this
 simpa using this
theorem F2{t:gX}{i br:Int}{ks:List Int}(sc:Int)(h:l9 t i br ks=true):oP (s5 t br ks sc)=true:=by
 have e:=(zV h).2.1
 unfold oP s5
 rw[aD ⟨e.2.2.1,e.2.2.2.1⟩,aD (by rw[List.length_map];exact e.2.2.2.2)]
 rfl
theorem HC(t:gX)(br:Int)(ks:List Int){sc:Int}(h:fh sc):GK (s5 t br ks sc):=⟨fun s hs=>by
  obtain⟨k,_,rfl⟩:=List.mem_map.1 (show s∈ks.map fun k=>pC k (xm t) from hs)
  exact EW k _,h⟩
theorem zW{t:gX}{i br sc:Int}{ks:List Int}(hv:sa t)(h:l9 t i br ks=true)(hs:fh sc):
  iq (rR t i.toNat (s5 t br ks sc))=true∧sa (rR t i.toNat (s5 t br ks sc))∧xm (rR t i.toNat (s5 t br ks sc))=xm t∧kS (rR t i.toNat (s5 t br ks sc))=kS t∧jm (rR t i.toNat (s5 t br ks sc))=jm t:=by
 obtain⟨hok,e,_⟩:=zV h
 have hk:i.toNat < t.1.length:=by omega
 have hw:=F2 sc h
 exact⟨ui hk hok hw,Hy hk hv (HC t br ks hs) (by show(ks.map _).length≤_;rw[List.length_map];omega),F1 hk hok hw⟩
set_option synthInstance.maxSize 5000
theorem qY(k:Int):fh (gm k):=(Cd _ _).u
def mT:List Int:=[152,45,158,62,185,150,245,89,230,51,244,209,148,222,243,118,29,144,159,90,59,100,125,26,133,31,234,214,124,50,201,209]
theorem s3:pC 3 mT=(2066670005889522986,1913675330412042729,()):=by decide+kernel
set_option synthInstance.maxSize 5000
theorem u0:fh 0:=⟨Int.le_refl 0,by decide⟩
theorem IS:xM 0=true:=rfl
set_option synthInstance.maxSize 5000
abbrev aZ.L0.D:=Int×Int×Int
def aZ.L0.st:aZ.L0.D→AS:=fun(a_2,b_2,outv)=>⟨([.d tu a_2,.d tu b_2,.undef,.undef,.undef,.d tu outv]++bu 16 []),[],(List.replicate 22 [])⟩
abbrev aZ.L0.Y0:=Int
abbrev aZ.L0.X0:=Int
def aZ.L0.bM:aZ.L0.X0→Exit×AS:=fun x=>(.exit 0,⟨(bu 5 ([.d tu x]++bu 16 [])),[],(List.replicate 22 [])⟩)
abbrev aZ.L0.X:=aZ.L0.X0
abbrev aZ.L0.Y:=aZ.L0.Y0
def aZ.L0.out:aZ.L0.X→Out (Exit×AS):=fun x=> .ok (aZ.L0.bM x)
def aZ.L0.add:aZ.L0.D→aZ.L0.Y→aZ.L0.X:=fun(a_2,b_2,outv) y=>y
abbrev aZ.D:=Int×Int
def aZ.st:aZ.D→SA:=fun(a,b)=>([.d tu a,.d tu b],[])
abbrev aZ.Y:=Int
abbrev aZ.X:=Int
def aZ.out:aZ.X→aT:=fun x=>⟨.d tu x,[],[]⟩
def aZ.add:aZ.D→aZ.Y→aZ.X:=fun(a,b) y=>y
def aZ.L0.aq:aZ.L0.D→Prop:=fun(a,b,o)=>Pn a∧fh b∧Pn o
def aZ.L0.F:aZ.L0.D→aZ.L0.Y:=fun(a,b,o)=>(o+a*b)%4611686018427377339
def aZ.aq:aZ.D→Prop:=fun(a,b)=>Pn a∧fh b
def aZ.F:aZ.D→aZ.Y:=fun(a,b)=>lj a b
noncomputable def aZ.G:dX:=eX (P:=Tryz.prog) []
noncomputable def aZ.L0.E:=cf.cF aZ.L0.st aZ.L0.aq aZ.L0.add aZ.L0.F aZ.L0.out
noncomputable def aZ.L0.call:aZ.L0.D→Option aZ.L0.X:=dO aZ.L0.E aZ.L0.st
noncomputable def aZ.an:ej:= {loops:=ky [(2,{bt:=[0,1,5]})],outs:=kr [(2,{bt:=[5]},{bt:=[4]})],gk:=kY [(2,aZ.L0.E)]}
noncomputable def aZ.A:= @cq Tryz.prog aZ.G aZ.an 0 Tryz.f181 _ aZ.st
abbrev aZ.Ok:=cr @aZ.A aZ.aq aZ.add aZ.F aZ.out
noncomputable def aZ.L0.R:= @cP Tryz.prog aZ.G aZ.an 0 Tryz.f181 0 _ aZ.L0.st
abbrev aZ.L0.Ok:=fg Tryz.prog aZ.G aZ.an 0 Tryz.f181 0 aZ.L0.st aZ.L0.aq aZ.L0.add aZ.L0.F aZ.L0.out
theorem aZ.L0.run:bD aZ.L0.call aZ.L0.aq aZ.L0.add aZ.L0.F:=fw (fk [.d tu,.d tu,.d tu] fun _=>by kernel_rfl)
theorem aZ.L0.aF:gg @aZ.L0.R aZ.L0.st aZ.L0.aq aZ.L0.add aZ.L0.F aZ.L0.bM aZ.L0.Ok:=gj
theorem aZ.L0.step{R:Type}(a_2:Int)(b_2:Int)(outv:Int)(kn:AS→Option R)(kx:Exit→AS→Option R):aZ.L0.R (a_2,b_2,outv) kn kx=
  aC ((na b_2 (0:Int))) (
   aC ((ia (gd b_2 (2:Int)) (1:Int))) (
    kn (aZ.L0.st ((gd (bw .u64 a_2 a_2) (4611686018427377339:Int)),(kV .u64 b_2 (2:Int)),(gd (bw .u64 outv a_2) (4611686018427377339:Int))))) (
    kn (aZ.L0.st ((gd (bw .u64 a_2 a_2) (4611686018427377339:Int)),(kV .u64 b_2 (2:Int)),outv)))) (
   kx (aZ.L0.bM outv).1 (aZ.L0.bM outv).2):=by kernel_rfl
theorem aZ.eq{R:Type}(a:Int)(b:Int)(k:aT→Option R):aZ.A (a,b) k=
 ab (aZ.L0.call (a,b,(0:Int))) fun x1=>
 k (aZ.out x1):=by kernel_rfl
theorem CT(o a b:Int)(m:Int):(o+a*b)%m=((if b%2=1 then(o+a)%m else o)+(a+a)%m*(b / 2))%m:=by
 have e:b=2*(b / 2)+b%2:=by omega
 have hb:b%2=0∨b%2=1:=by omega
 generalize b / 2=q at*
 have l1:∀x y:Int,(x%m+(a+a)%m*y)%m=(x+(a+a)*y)%m:=fun x y=>by
  rw[Int.add_emod,Int.emod_emod_of_dvd _ (Int.dvd_refl m),Int.mul_emod,Int.emod_emod_of_dvd _ (Int.dvd_refl m),←Int.mul_emod,←Int.add_emod]
 have l2:∀x y:Int,(x+(a+a)%m*y)%m=(x+(a+a)*y)%m:=fun x y=>by
  rw[Int.add_emod,Int.mul_emod,Int.emod_emod_of_dvd _ (Int.dvd_refl m),←Int.mul_emod,←Int.add_emod]
 rcases hb with h | h
 ·rw[if_neg (by omega),l2]
  rw[h]at e
  rw[e,Int.add_zero,Int.add_mul,←Int.mul_assoc,Int.mul_comm a 2,Int.two_mul,Int.add_mul]
 ·rw[if_pos h,l1]
  rw[h]at e
  rw[e,Int.mul_add,Int.mul_one,←Int.mul_assoc,Int.mul_comm a 2,Int.two_mul]
  congr 1
  omega
theorem Gi{n:Int}(h:fh n):kV .u64 n 2=n / 2:=xQ h.1 (by omega) h.2
theorem aZ.L0.ok:aZ.L0.Ok:=by
 refine aZ.L0.aF (fun(a,b,o)=>b.toNat) ?_
 rintro⟨a,b,o⟩ ⟨ha,hb,ho⟩
 have ha:Pn a:=ha
 have hb:fh b:=hb
 have ho:Pn o:=ho
 obtain⟨a0,a1⟩:=ha
 obtain⟨b0,b1⟩:=hb
 obtain⟨o0,o1⟩:=ho
 by_cases h:0 < b
 ·left
  have e1:gd (bw .u64 a a) 4611686018427377339=(a+a)%4611686018427377339:=by
   have:bw .u64 a a=a+a:=by rw[iZ];omega
   rw[this,ik (by omega)]
  have e2:gd (bw .u64 o a) 4611686018427377339=(o+a)%4611686018427377339:=by
   have:bw .u64 o a=o+a:=by rw[iZ];omega
   rw[this,ik (by omega)]
  refine⟨((a+a)%4611686018427377339,b / 2,if b%2=1 then(o+a)%4611686018427377339 else o),⟨⟨by omega,by omega⟩,⟨by omega,by omega⟩,?_⟩,by simp only[];omega,?_,fun kn kx=> ?_⟩
  ·show Pn (if b%2=1 then(o+a)%4611686018427377339 else o)
   split
   ·exact⟨by omega,by omega⟩
   ·exact⟨o0,o1⟩
  ·exact congrArg _ (CT o a b 4611686018427377339).symm
  ·rw[aZ.L0.step,dS h,e1,e2,Gi ⟨b0,b1⟩,ik b0]
   by_cases h1:b%2=1
   ·rw[eu h1,if_pos h1];rfl
   ·rw[dR h1,if_neg h1];rfl
 ·right
  intro R kn kx
  obtain rfl:b=0:=by omega
  rw[aZ.L0.step,cZ (by omega)]
  simp only[ae,aZ.L0.add,aZ.L0.F]
  rw[show(o+a*0)%4611686018427377339=o by omega]
theorem aZ.ok:aZ.Ok:=by
 rintro⟨a,b⟩ ⟨ha,hb⟩
 rw[aZ.eq,aZ.L0.run (d:=(a,b,0)) ⟨ha,hb,by omega,by omega⟩]
 simp only[aa,aZ.L0.add,aZ.L0.F,Int.zero_add]
 rfl
noncomputable def aZ.E:=Entry.cF [some tu,some tu] aZ.st aZ.aq aZ.add aZ.F aZ.out
noncomputable def aZ.call:aZ.D→Option aZ.X:=bC aZ.E aZ.st
theorem aZ.run:bD aZ.call aZ.aq aZ.add aZ.F:=cz (cv [.d tu,.d tu] fun _=>by kernel_rfl)
noncomputable def aZ.sg:SG Tryz.prog:=⟨181,aK,aZ.E,.fn 1 (by kernel_rfl) aZ.ok (And.intro (.cF aZ.L0.ok (by kernel_rfl)) trivial)⟩
abbrev aY.L0.D:=Int×Int×Int
def aY.L0.st:aY.L0.D→AS:=fun(a_2,n_2,outv)=>⟨([.d tu a_2,.d tu n_2,.undef,.undef,.undef,.d tu outv]++bu 14 []),[],(List.replicate 20 [])⟩
abbrev aY.L0.Y0:=Int
abbrev aY.L0.X0:=Int
def aY.L0.bM:aY.L0.X0→Exit×AS:=fun x=>(.exit 0,⟨(bu 5 ([.d tu x]++bu 14 [])),[],(List.replicate 20 [])⟩)
abbrev aY.L0.X:=aY.L0.X0
abbrev aY.L0.Y:=aY.L0.Y0
def aY.L0.out:aY.L0.X→Out (Exit×AS):=fun x=> .ok (aY.L0.bM x)
def aY.L0.add:aY.L0.D→aY.L0.Y→aY.L0.X:=fun(a_2,n_2,outv) y=>y
abbrev aY.D:=Int×Int
def aY.st:aY.D→SA:=fun(a,n)=>([.d tu a,.d tu n],[])
abbrev aY.Y:=Int
abbrev aY.X:=Int
def aY.out:aY.X→aT:=fun x=>⟨.d tu x,[],[]⟩
def aY.add:aY.D→aY.Y→aY.X:=fun(a,n) y=>y
def aY.L0.aq:aY.L0.D→Prop:=fun(a,n,o)=>Pn a∧fh n∧Pn o
def aY.L0.F:aY.L0.D→aY.L0.Y:=fun(a,n,o)=>yy 64 a n.toNat o
def aY.aq:aY.D→Prop:=fun(a,n)=>Pn a∧fh n
def aY.F:aY.D→aY.Y:=fun(a,n)=>pw a n.toNat
noncomputable def aY.G:dX:=eX (P:=Tryz.prog) [aZ.sg]
noncomputable def aY.L0.E:=cf.cF aY.L0.st aY.L0.aq aY.L0.add aY.L0.F aY.L0.out
noncomputable def aY.L0.call:aY.L0.D→Option aY.L0.X:=dO aY.L0.E aY.L0.st
noncomputable def aY.an:ej:= {loops:=ky [(2,{bt:=[0,1,5]})],outs:=kr [(2,{bt:=[5]},{bt:=[4]})],gk:=kY [(2,aY.L0.E)]}
noncomputable def aY.A:= @cq Tryz.prog aY.G aY.an 0 Tryz.f156 _ aY.st
abbrev aY.Ok:=cr @aY.A aY.aq aY.add aY.F aY.out
noncomputable def aY.L0.R:= @cP Tryz.prog aY.G aY.an 0 Tryz.f156 0 _ aY.L0.st
abbrev aY.L0.Ok:=fg Tryz.prog aY.G aY.an 0 Tryz.f156 0 aY.L0.st aY.L0.aq aY.L0.add aY.L0.F aY.L0.out
theorem aY.L0.run:bD aY.L0.call aY.L0.aq aY.L0.add aY.L0.F:=fw (fk [.d tu,.d tu,.d tu] fun _=>by kernel_rfl)
theorem aY.L0.aF:gg @aY.L0.R aY.L0.st aY.L0.aq aY.L0.add aY.L0.F aY.L0.bM aY.L0.Ok:=gj
theorem aY.L0.step{R:Type}(a_2:Int)(n_2:Int)(outv:Int)(kn:AS→Option R)(kx:Exit→AS→Option R):aY.L0.R (a_2,n_2,outv) kn kx=
  aC ((na n_2 (0:Int))) (
   aC ((ia (gd n_2 (2:Int)) (1:Int))) (
    ab (aZ.call (outv,a_2)) fun x1=>
    ab (aZ.call (a_2,a_2)) fun x2=>
    kn (aY.L0.st (x2,(kV .u64 n_2 (2:Int)),x1))) (
    ab (aZ.call (a_2,a_2)) fun x3=>
    kn (aY.L0.st (x3,(kV .u64 n_2 (2:Int)),outv)))) (
   kx (aY.L0.bM outv).1 (aY.L0.bM outv).2):=by kernel_rfl
theorem aY.eq{R:Type}(a:Int)(n:Int)(k:aT→Option R):aY.A (a,n) k=
 ab (aY.L0.call (a,n,(1:Int))) fun x4=>
 k (aY.out x4):=by kernel_rfl
theorem aY.L0.ok:aY.L0.Ok:=by
 refine aY.L0.aF (fun(a,n,o)=>n.toNat) ?_
 rintro⟨a,n,o⟩ ⟨ha,hn,ho⟩
 have ha:Pn a:=ha
 have hn:fh n:=hn
 have ho:Pn o:=ho
 have n0:=hn.1
 have n1:=hn.2
 by_cases h:0 < n
 ·left
  have e:aY.L0.F (a,n,o)=aY.L0.F (lj a a,n / 2,if n%2=1 then lj o a else o):=by
   show yy 64 a n.toNat o=yy 64 (lj a a) (n / 2).toNat _
   rw[vj 64 65 a n.toNat o (by omega) (by omega)]
   have t1:(n / 2).toNat=n.toNat / 2:=by omega
   have t2:(n%2=1)=(n.toNat%2=1):=by apply propext;omega
   rw[t1]
   simp only[t2]
   show(if n.toNat=0 then o else _)=_
   rw[if_neg (by omega)]
  refine⟨(lj a a,n / 2,if n%2=1 then lj o a else o),⟨mz a a,⟨by omega,by omega⟩,?_⟩,by show(n / 2).toNat < n.toNat;omega,?_,fun kn kx=> ?_⟩
  ·show Pn (if n%2=1 then lj o a else o)
   split
   ·exact mz _ _
   ·exact ho
  ·exact congrArg _ e.symm
  ·rw[aY.L0.step,dS h,Gi hn,ik n0,aZ.run (d:=(o,a)) ⟨ho,ha.u⟩,aZ.run (d:=(a,a)) ⟨ha,ha.u⟩]
   by_cases h1:n%2=1
   ·rw[eu h1,if_pos h1];rfl
   ·rw[dR h1,if_neg h1];rfl
 ·right
  intro R kn kx
  obtain rfl:n=0:=by omega
  rw[aY.L0.step,cZ (by omega)]
  simp only[ae,aY.L0.add,aY.L0.F]
  rw[show yy 64 a (Int.toNat 0) o=o from mN _ _ _]
theorem aY.ok:aY.Ok:=by
 rintro⟨a,n⟩ ⟨ha,hn⟩
 rw[aY.eq,aY.L0.run (d:=(a,n,1)) ⟨ha,hn,by omega,by omega⟩]
 rfl
noncomputable def aY.E:=Entry.cF [some tu,some tu] aY.st aY.aq aY.add aY.F aY.out
noncomputable def aY.call:aY.D→Option aY.X:=bC aY.E aY.st
theorem aY.run:bD aY.call aY.aq aY.add aY.F:=cz (cv [.d tu,.d tu] fun _=>by kernel_rfl)
noncomputable def aY.sg:SG Tryz.prog:=⟨156,aK,aY.E,.fn 1 (by kernel_rfl) aY.ok (And.intro (.cF aY.L0.ok (by kernel_rfl)) trivial)⟩
abbrev cg.D:=Int
def cg.st:cg.D→SA:=fun p=>([.d tu p],[])
abbrev cg.Y:=Bool
abbrev cg.X:=Bool
def cg.out:cg.X→aT:=fun x=>⟨.d .bool x,[],[]⟩
def cg.add:cg.D→cg.Y→cg.X:=fun p y=>y
def cg.aq:cg.D→Prop:=fun p=>fh p
def cg.F:cg.D→cg.Y:=fun p=>lf p
noncomputable def cg.G:dX:=eX (P:=Tryz.prog) [aY.sg]
noncomputable def cg.an:ej:= {}
noncomputable def cg.A:= @cq Tryz.prog cg.G cg.an 0 Tryz.f119 _ cg.st
abbrev cg.Ok:=cr @cg.A cg.aq cg.add cg.F cg.out
theorem cg.eq{R:Type}(p:Int)(k:aT→Option R):cg.A p k=
  aC ((kX p (1:Int))) (
   aC ((gM p (4611686018427377339:Int))) (
    ab (aY.call (p,(2305843009213688669:Int))) fun x1=>
    k (cg.out (ia x1 (1:Int)))) (
    k (cg.out false))) (
   k (cg.out false)):=by kernel_rfl
theorem cg.ok:cg.Ok:=by
 intro(p:Int) hp
 have hp:fh p:=hp
 rw[cg.eq]
 simp only[cg.add,cg.F,lf]
 by_cases h:0 < p
 ·rw[gQ (by omega),ah]
  by_cases h2:p < 4611686018427377339
  ·rw[bB h2,ah,aD ⟨h,h2⟩,Bool.true_and,aY.run (d:=(p,2305843009213688669)) ⟨⟨by omega,h2⟩,by constructor <;> decide⟩]
   rfl
  ·rw[bm h2,ae,bN (fun x=>h2 x.2),Bool.false_and]
 ·rw[fx (by omega),ae,bN (fun x=>h x.1),Bool.false_and]
noncomputable def cg.E:=Entry.cF [some tu] cg.st cg.aq cg.add cg.F cg.out
noncomputable def cg.call:cg.D→Option cg.X:=bC cg.E cg.st
theorem cg.run:bD cg.call cg.aq cg.add cg.F:=cz (cv [.d tu] fun _=>by kernel_rfl)
noncomputable def cg.sg:SG Tryz.prog:=⟨119,aK,cg.E,.fn 0 (by kernel_rfl) cg.ok trivial⟩
abbrev cQ.D:=Int
def cQ.st:cQ.D→SA:=fun p=>([.d tu p],[])
abbrev cQ.Y:=Int
abbrev cQ.X:=Int
def cQ.out:cQ.X→aT:=fun x=>⟨.d tu x,[],[]⟩
def cQ.add:cQ.D→cQ.Y→cQ.X:=fun p y=>y
def cQ.aq:cQ.D→Prop:=fun p=>fh p
def cQ.F:cQ.D→cQ.Y:=fun p=>tk p
noncomputable def cQ.G:dX:=eX (P:=Tryz.prog) [cg.sg]
noncomputable def cQ.an:ej:= {}
noncomputable def cQ.A:= @cq Tryz.prog cQ.G cQ.an 0 Tryz.f157 _ cQ.st
abbrev cQ.Ok:=cr @cQ.A cQ.aq cQ.add cQ.F cQ.out
theorem cQ.eq{R:Type}(p:Int)(k:aT→Option R):cQ.A p k=
  ab (cg.call p) fun x1=>
  aC (x1) (
   k (cQ.out p)) (
   k (cQ.out (1:Int))):=by kernel_rfl
theorem cQ.ok:cQ.Ok:=by
 intro p hp
 rw[cQ.eq,cg.run (d:=p) hp]
 simp only[aa,cg.add,cg.F,cQ.add,cQ.F,tk]
 cases lf p <;> rfl
noncomputable def cQ.E:=Entry.cF [some tu] cQ.st cQ.aq cQ.add cQ.F cQ.out
noncomputable def cQ.call:cQ.D→Option cQ.X:=bC cQ.E cQ.st
theorem cQ.run:bD cQ.call cQ.aq cQ.add cQ.F:=cz (cv [.d tu] fun _=>by kernel_rfl)
noncomputable def cQ.sg:SG Tryz.prog:=⟨157,aK,cQ.E,.fn 0 (by kernel_rfl) cQ.ok trivial⟩
abbrev dg.D:=Int×Int
def dg.st:dg.D→SA:=fun(p,kv)=>([.d tu p,.d tu kv],[])
abbrev dg.Y:=Int
abbrev dg.X:=Int
def dg.out:dg.X→aT:=fun x=>⟨.d tu x,[],[]⟩
def dg.add:dg.D→dg.Y→dg.X:=fun(p,kv) y=>y
def dg.aq:dg.D→Prop:=fun(p,k)=>fh p∧fh k
def dg.F:dg.D→dg.Y:=fun(p,k)=>nF p k
noncomputable def dg.G:dX:=eX (P:=Tryz.prog) [cQ.sg,aY.sg]
noncomputable def dg.an:ej:= {}
noncomputable def dg.A:= @cq Tryz.prog dg.G dg.an 0 Tryz.f115 _ dg.st
abbrev dg.Ok:=cr @dg.A dg.aq dg.add dg.F dg.out
theorem dg.eq{R:Type}(p:Int)(kv:Int)(k:aT→Option R):dg.A (p,kv) k=
 ab (cQ.call p) fun x1=>
 ab (aY.call (x1,(gd kv (2305843009213688669:Int)))) fun x2=>
 k (dg.out x2):=by kernel_rfl
theorem dg.ok:dg.Ok:=by
 rintro⟨p,k⟩ ⟨hp,hk⟩
 have hk:fh k:=hk
 have e:=ik (y:=2305843009213688669) hk.1
 have b:fh (k%2305843009213688669):=⟨by omega,by omega⟩
 rw[dg.eq,cQ.run (d:=p) hp,e]
 simp only[aa,cQ.add,cQ.F]
 rw[aY.run (d:=(tk p,k%2305843009213688669)) ⟨E4 p,b⟩]
 rfl
noncomputable def dg.E:=Entry.cF [some tu,some tu] dg.st dg.aq dg.add dg.F dg.out
noncomputable def dg.call:dg.D→Option dg.X:=bC dg.E dg.st
theorem dg.run:bD dg.call dg.aq dg.add dg.F:=cz (cv [.d tu,.d tu] fun _=>by kernel_rfl)
noncomputable def dg.sg:SG Tryz.prog:=⟨115,aK,dg.E,.fn 0 (by kernel_rfl) dg.ok trivial⟩
abbrev cY.D:=Int
def cY.st:cY.D→SA:=fun kv=>([.d tu kv],[])
abbrev cY.Y:=Int
abbrev cY.X:=Int
def cY.out:cY.X→aT:=fun x=>⟨.d tu x,[],[]⟩
def cY.add:cY.D→cY.Y→cY.X:=fun kv y=>y
def cY.aq:cY.D→Prop:=fun k=>fh k
def cY.F:cY.D→cY.Y:=fun k=>gm k
noncomputable def cY.G:dX:=eX (P:=Tryz.prog) [dg.sg]
noncomputable def cY.an:ej:= {}
noncomputable def cY.A:= @cq Tryz.prog cY.G cY.an 0 Tryz.f62 _ cY.st
abbrev cY.Ok:=cr @cY.A cY.aq cY.add cY.F cY.out
theorem cY.eq{R:Type}(kv:Int)(k:aT→Option R):cY.A kv k=
 ab (dg.call ((4:Int),kv)) fun x1=>
 k (cY.out x1):=by kernel_rfl
theorem cY.ok:cY.Ok:=by
 intro k hk
 rw[cY.eq,dg.run (d:=(4,k)) ⟨⟨by omega,by omega⟩,hk⟩]
 rfl
noncomputable def cY.E:=Entry.cF [some tu] cY.st cY.aq cY.add cY.F cY.out
noncomputable def cY.call:cY.D→Option cY.X:=bC cY.E cY.st
theorem cY.run:bD cY.call cY.aq cY.add cY.F:=cz (cv [.d tu] fun _=>by kernel_rfl)
noncomputable def cY.sg:SG Tryz.prog:=⟨62,aK,cY.E,.fn 0 (by kernel_rfl) cY.ok trivial⟩
set_option synthInstance.maxSize 5000
abbrev bl.L0.D:=Bs×Int×Int
def bl.L0.st:bl.L0.D→AS:=fun(h_2,n,i)=>⟨([.undef,.eI tH h_2,.undef,.d tu n,.d ti i]++bu 25 []),[],(List.replicate 30 [])⟩
abbrev bl.L0.Y0:=Int
abbrev bl.L0.X0:=Int
def bl.L0.bM:bl.L0.X0→Exit×AS:=fun x=>(.exit 0,⟨([.undef,.undef,.undef,.d tu x]++bu 26 []),[],(List.replicate 30 [])⟩)
abbrev bl.L0.X:=bl.L0.X0
abbrev bl.L0.Y:=bl.L0.Y0
def bl.L0.out:bl.L0.X→Out (Exit×AS):=fun x=> .ok (bl.L0.bM x)
def bl.L0.add:bl.L0.D→bl.L0.Y→bl.L0.X:=fun(h_2,n,i) y=>y
abbrev bl.D:=Bs
def bl.st:bl.D→SA:=fun h=>([.d tH h],[])
abbrev bl.Y:=Int
abbrev bl.X:=Int
def bl.out:bl.X→aT:=fun x=>⟨.d tu x,[],[]⟩
def bl.add:bl.D→bl.Y→bl.X:=fun h y=>y
def bl.L0.aq:bl.L0.D→Prop:=fun(h,n,i)=>xr.b n∧h.length=32∧Bytes h∧∃k:Nat,k≤32∧i=k
def bl.L0.F:bl.L0.D→bl.L0.Y:=fun(h,n,i)=>(h.drop i.toNat).foldl (fun n b=>(n*256+b)%2305843009213688668) n
def bl.aq:bl.D→Prop:=fun h=>h.length=32∧Bytes h
def bl.F:bl.D→bl.Y:=fun h=>gV h
noncomputable def bl.G:dX:=eX (P:=Tryz.prog) []
noncomputable def bl.L0.E:=cf.cF bl.L0.st bl.L0.aq bl.L0.add bl.L0.F bl.L0.out
noncomputable def bl.L0.call:bl.L0.D→Option bl.L0.X:=dO bl.L0.E bl.L0.st
noncomputable def bl.an:ej:= {loops:=ky [(3,{bt:=[1,3,4]}),(6,{bt:=[1,3,4,5]})],outs:=kr [(3,{bt:=[3]},{bt:=[2]}),(6,{bt:=[1,3,4]},{bt:=[2]})],gk:=kY [(3,bl.L0.E)]}
noncomputable def bl.A:= @cq Tryz.prog bl.G bl.an 12 Tryz.f60 _ bl.st
abbrev bl.Ok:=cr @bl.A bl.aq bl.add bl.F bl.out
noncomputable def bl.L0.R:= @cP Tryz.prog bl.G bl.an 12 Tryz.f60 0 _ bl.L0.st
abbrev bl.L0.Ok:=fg Tryz.prog bl.G bl.an 12 Tryz.f60 0 bl.L0.st bl.L0.aq bl.L0.add bl.L0.F bl.L0.out
theorem bl.L0.run:bD bl.L0.call bl.L0.aq bl.L0.add bl.L0.F:=fw (fk [.d tH,.d tu,.d ti] fun _=>by kernel_rfl)
theorem bl.L0.aF:gg @bl.L0.R bl.L0.st bl.L0.aq bl.L0.add bl.L0.F bl.L0.bM bl.L0.Ok:=gj
theorem bl.L0.step{R:Type}(h_2:Bs)(n:Int)(i:Int)(kn:AS→Option R)(kx:Exit→AS→Option R):bl.L0.R (h_2,n,i) kn kx=
  aC ((gM i (32:Int))) (
   aC (dY i (32:Int)) (
   aC (dY i (32:Int)) (
   aC (dY i (32:Int)) (
   aC (dY i (32:Int)) (
   aC (dY i (32:Int)) (
   aC (dY i (32:Int)) (
   aC (dY i (32:Int)) (
   aC (dY i (32:Int)) (
   kn (bl.L0.st (h_2,(gd (bw .u64 (eS .u64 (2:Int) (gd (bw .u64 (eS .u64 (2:Int) (gd (bw .u64 (eS .u64 (2:Int) (gd (bw .u64 (eS .u64 (2:Int) (gd (bw .u64 (eS .u64 (2:Int) (gd (bw .u64 (eS .u64 (2:Int) (gd (bw .u64 (eS .u64 (2:Int) (gd (bw .u64 (eS .u64 (2:Int) n) (ct .and .u64 (bW .u64 (dI .u64 (nth tb h_2 (Int.toNat i))) (7:Int)) (1:Int))) (2305843009213688668:Int))) (ct .and .u64 (bW .u64 (dI .u64 (nth tb h_2 (Int.toNat i))) (6:Int)) (1:Int))) (2305843009213688668:Int))) (ct .and .u64 (bW .u64 (dI .u64 (nth tb h_2 (Int.toNat i))) (5:Int)) (1:Int))) (2305843009213688668:Int))) (ct .and .u64 (bW .u64 (dI .u64 (nth tb h_2 (Int.toNat i))) (4:Int)) (1:Int))) (2305843009213688668:Int))) (ct .and .u64 (bW .u64 (dI .u64 (nth tb h_2 (Int.toNat i))) (3:Int)) (1:Int))) (2305843009213688668:Int))) (ct .and .u64 (bW .u64 (dI .u64 (nth tb h_2 (Int.toNat i))) (2:Int)) (1:Int))) (2305843009213688668:Int))) (ct .and .u64 (bW .u64 (dI .u64 (nth tb h_2 (Int.toNat i))) (1:Int)) (1:Int))) (2305843009213688668:Int))) (ct .and .u64 (bW .u64 (dI .u64 (nth tb h_2 (Int.toNat i))) (0:Int)) (1:Int))) (2305843009213688668:Int)),(bw .i64 i (1:Int))))) none) none) none) none) none) none) none) none) (
   kx (bl.L0.bM n).1 (bl.L0.bM n).2):=by kernel_rfl
theorem bl.eq{R:Type}(h:Bs)(k:aT→Option R):bl.A h k=
 ab (bl.L0.call (h,(0:Int),(0:Int))) fun x1=>
 k (bl.out (bw .u64 x1 (1:Int))):=by kernel_rfl
theorem oZ{c:Int}(hc:vS c)(k:Nat)(hk:k≤7):ct .and .u64 (bW .u64 (dI .u64 c) (k:Int)) 1=c / 2^k%2:=by
 obtain⟨h1,h2⟩:=hc
 have e:dI .u64 c=c:=by rw[AT];omega
 have p:(0:Int) < 2^k:=Int.pow_pos (by omega)
 have q0:0≤c / 2^k:=Int.ediv_nonneg h1 (by omega)
 have q1:c / 2^k≤c:=Int.ediv_le_self _ h1
 rw[e,lF k (by rfl) (by omega),HW q0 (by omega)]
theorem DG:∀c:Fin 256,(c.val:Int) / 2^7%2*128+(c.val:Int) / 2^6%2*64+(c.val:Int) / 2^5%2*32+(c.val:Int) / 2^4%2*16+(c.val:Int) / 2^3%2*8+(c.val:Int) / 2^2%2*4+(c.val:Int) / 2^1%2*2+(c.val:Int) / 2^0%2=(c.val:Int):=by decide+kernel
theorem DH{c:Int}(hc:vS c):c / 2^7%2*128+c / 2^6%2*64+c / 2^5%2*32+c / 2^4%2*16+c / 2^3%2*8+c / 2^2%2*4+c / 2^1%2*2+c / 2^0%2=c:=by
 obtain⟨n,rfl⟩:∃n:Nat,c=n:=⟨c.toNat,by have:=hc.1;omega⟩
 exact DG ⟨n,by have:=hc.2;omega⟩
theorem CD{c:Int}(hc:vS c):∃d7 d6 d5 d4 d3 d2 d1 d0:Int,(0≤d7∧d7 < 2)∧(0≤d6∧d6 < 2)∧(0≤d5∧d5 < 2)∧(0≤d4∧d4 < 2)∧(0≤d3∧d3 < 2)∧(0≤d2∧d2 < 2)∧(0≤d1∧d1 < 2)∧(0≤d0∧d0 < 2)∧ct .and .u64 (bW .u64 (dI .u64 c) 7) 1=d7∧ct .and .u64 (bW .u64 (dI .u64 c) 6) 1=d6∧ct .and .u64 (bW .u64 (dI .u64 c) 5) 1=d5∧ct .and .u64 (bW .u64 (dI .u64 c) 4) 1=d4∧ct .and .u64 (bW .u64 (dI .u64 c) 3) 1=d3∧ct .and .u64 (bW .u64 (dI .u64 c) 2) 1=d2∧ct .and .u64 (bW .u64 (dI .u64 c) 1) 1=d1∧ct .and .u64 (bW .u64 (dI .u64 c) 0) 1=d0∧d7*128+d6*64+d5*32+d4*16+d3*8+d2*4+d1*2+d0=c:=by
 have z:∀x:Int,0≤x%2∧x%2 < 2:=fun x=>by omega
 exact⟨c / 2^7%2,c / 2^6%2,c / 2^5%2,c / 2^4%2,c / 2^3%2,c / 2^2%2,c / 2^1%2,c / 2^0%2,z _,z _,z _,z _,z _,z _,z _,z _,oZ hc 7 (by omega),oZ hc 6 (by omega),oZ hc 5 (by omega),oZ hc 4 (by omega),oZ hc 3 (by omega),oZ hc 2 (by omega),oZ hc 1 (by omega),oZ hc 0 (by omega),DH hc⟩
theorem o3{n b:Int}(hn:xr.b n)(hb:0≤b∧b < 2):gd (bw .u64 (eS .u64 2 n) b) 2305843009213688668=(2*n+b)%2305843009213688668∧xr.b ((2*n+b)%2305843009213688668):=by
 obtain⟨h1,h2⟩:=hn
 have e:bw .u64 (eS .u64 2 n) b=2*n+b:=by rw[lB,iZ];omega
 rw[e,ik (by omega)]
 exact⟨rfl,by omega,by omega⟩
theorem AL(n c d7 d6 d5 d4 d3 d2 d1 d0:Int)(M:Int)(h:d7*128+d6*64+d5*32+d4*16+d3*8+d2*4+d1*2+d0=c):
  (2*((2*((2*((2*((2*((2*((2*((2*n+d7)%M)+d6)%M)+d5)%M)+d4)%M)+d3)%M)+d2)%M)+d1)%M)+d0)%M=(n*256+c)%M:=by
 have l:∀x b:Int,(2*(x%M)+b)%M=(2*x+b)%M:=fun x b=>by
  rw[Int.add_emod,Int.mul_emod,Int.emod_emod_of_dvd _ (Int.dvd_refl M),←Int.mul_emod,←Int.add_emod]
 simp only[l]
 have e:2*(2*(2*(2*(2*(2*(2*(2*n+d7)+d6)+d5)+d4)+d3)+d2)+d1)+d0=n*256+c:=by omega
 rw[e]
theorem bl.L0.ok:bl.L0.Ok:=by
 refine bl.L0.aF (fun(h,n,i)=>32 - i.toNat) ?_
 rintro⟨h,n,i⟩ ⟨hn,hl,hb,k,hk,rfl⟩
 have hn:xr.b n:=hn
 have hl:h.length=32:=hl
 have hb:Bytes h:=hb
 by_cases hlt:k < 32
 ·left
  have hx:vS (h[k]'(by omega)):=hb _ (List.getElem_mem _)
  have n1:nth (.int .u8) h k=h[k]'(by omega):=dT (t:= .int .u8) (by omega)
  refine⟨(h,(n*256+h[k]'(by omega))%2305843009213688668,((k+1:Nat):Int)),⟨⟨by omega,by omega⟩,hl,hb,k+1,by omega,rfl⟩,by simp only[Int.toNat_natCast];omega,?_,fun kn kx=> ?_⟩
  ·simp only[bl.L0.add,bl.L0.F,Int.toNat_natCast]
   rw[List.drop_eq_getElem_cons (by omega:k < h.length)]
   rfl
  ·rw[bl.L0.step]
   generalize hc:h[k]'(by omega)=c at hx n1
   obtain⟨d7,d6,d5,d4,d3,d2,d1,d0,z7,z6,z5,z4,z3,z2,z1,z0,b7,b6,b5,b4,b3,b2,b1,b0,aN⟩:=CD hx
   obtain⟨f7,g7⟩:=o3 hn z7
   obtain⟨f6,g6⟩:=o3 g7 z6
   obtain⟨f5,g5⟩:=o3 g6 z5
   obtain⟨f4,g4⟩:=o3 g5 z4
   obtain⟨f3,g3⟩:=o3 g4 z3
   obtain⟨f2,g2⟩:=o3 g3 z2
   obtain⟨f1,g1⟩:=o3 g2 z1
   obtain⟨f0,g0⟩:=o3 g1 z0
   have e8:=AL n c _ _ _ _ _ _ _ _ 2305843009213688668 aN
   have hi:gM (k:Int) 32=true:=bB (by omega)
   have hib:dY (k:Int) 32=true:=bz (by omega) (by omega)
   have ha:bw .i64 (k:Int) 1=((k+1:Nat):Int):=by rw[dL (by omega) (by omega)];omega
   simp only[hi,hib,ha,ah,Int.toNat_natCast,n1,b7,b6,b5,b4,b3,b2,b1,b0,f7,f6,f5,f4,f3,f2,f1,f0,e8]
 ·right
  obtain rfl:k=32:=by omega
  intro R kn kx
  rw[bl.L0.step]
  simp(disch:=omega) only[↓S1,↓if_pos,↓if_neg,if_pos,if_neg,if_true,if_false,S2,bl.L0.add,bl.L0.F]
  rw[List.drop_of_length_le (by omega)]
  rfl
theorem bl.ok:bl.Ok:=by
 rintro h ⟨hl,hb⟩
 have e:=uK h 0 ⟨by omega,by omega⟩
 have h1:=e.1
 have h2:=e.2
 rw[bl.eq,bl.L0.run (d:=(h,0,0)) ⟨⟨by omega,by omega⟩,hl,hb,0,by omega,rfl⟩]
 simp only[aa,bl.L0.add,bl.L0.F,bl.add,bl.F,gV,Int.toNat_zero,List.drop_zero]
 revert h1 h2
 generalize h.foldl (fun n b=>(n*256+b)%2305843009213688668) 0=m
 intro h1 h2
 have e:bw .u64 m 1=m+1:=by rw[iZ];omega
 rw[e]
noncomputable def bl.E:=Entry.cF [some tH] bl.st bl.aq bl.add bl.F bl.out
noncomputable def bl.call:bl.D→Option bl.X:=bC bl.E bl.st
theorem bl.run:bD bl.call bl.aq bl.add bl.F:=cz (cv [.d tB] fun _=>by kernel_rfl)
noncomputable def bl.sg:SG Tryz.prog:=⟨60,aK,bl.E,.fn 2 (by kernel_rfl) bl.ok (And.intro (.cF bl.L0.ok (by kernel_rfl)) (And.intro (.none (by kernel_rfl)) trivial))⟩
set_option synthInstance.maxSize 5000
abbrev gr:Ty:=(.pair ti (.pair ti (.pair ti (.pair tu (.pair ti .unit)))))
abbrev fE:=(Int×(Int×(Int×(Int×(Int×Unit)))))
abbrev jG:Ty:=(.pair ti (.pair ti (.pair ti (.pair ti (.pair ti (.pair ti .unit))))))
abbrev Dw:=(Int×(Int×(Int×(Int×(Int×(Int×Unit))))))
abbrev hZ:Ty:=(.pair ti (.pair (.arr 2 ti) (.pair (.slice gr) (.pair ti .unit))))
abbrev fL:=(Int×((List Int)×((List fE)×(Int×Unit))))
abbrev jd:Ty:=(.pair tu (.pair tu (.pair tu (.pair tu (.pair tu (.pair tH .unit))))))
abbrev js:=(Int×(Int×(Int×(Int×(Int×(Bs×Unit))))))
abbrev kU:Ty:=(.pair tu (.pair tu (.pair tu Dq)))
abbrev Cq:=(Int×(Int×(Int×Sg)))
abbrev iu:Ty:=(.pair qf (.pair ti (.pair (.arr 2 kU) (.pair (.arr 2 jG) (.pair ti .unit)))))
abbrev fF:=(oQ×(Int×((List Cq)×((List Dw)×(Int×Unit)))))
abbrev ym:Ty:=(.pair ti (.pair gr .unit))
abbrev qT:=(Int×(fE×Unit))
abbrev HH:Ty:=(.pair kq (.pair (.slice ym) .unit))
abbrev BA:=(gX×((List qT)×Unit))
abbrev qg:Ty:=(.pair qf (.pair ti (.pair tu .unit)))
abbrev kA:=(oQ×(Int×(Int×Unit)))
abbrev jq:Ty:=(.pair nb (.pair ym (.pair tH .unit)))
abbrev iC:=(jA×(qT×(Bs×Unit)))
abbrev Fp:Ty:=(.pair tb (.pair (.int .u16) (.pair (.int .u16) (.pair tu .unit))))
abbrev Cr:=(Int×(Int×(Int×(Int×Unit))))
abbrev xj:Ty:=(.pair (.arr 2 tH) (.pair (.int .u32) (.pair (.int .u32) (.pair tb (.pair tb (.pair (.slice Fp) (.pair (.int .u16) (.pair tH .unit))))))))
abbrev pK:=((List Bs)×(Int×(Int×(Int×(Int×((List Cr)×(Int×(Bs×Unit))))))))
def Bd(x lo hi:Int):Prop:=lo≤x∧x≤hi
def kC(n lo hi:Int):Bool:=decide (lo≤n) && decide (n≤hi)
theorem kD{n lo hi:Int}:kC n lo hi=true↔lo≤n∧n≤hi:=by
 unfold kC;rw[Bool.and_eq_true,decide_eq_true_eq,decide_eq_true_eq]
theorem gJ{n lo hi:Int}(h:lo≤n)(h2:n≤hi):kC n lo hi=true:=kD.2 ⟨h,h2⟩
theorem ja{n lo hi:Int}(h:¬(lo≤n∧n≤hi)):kC n lo hi=false:=by
 cases e:kC n lo hi
 ·rfl
 ·exact absurd (kD.1 e) h
def wo(p:Int):Bool:=lf p && qS p 1
def Dz(p:Int):Prop:=fh p∧wo p=true
def GH(b:Cq):Prop:=Dz b.1∧Dz b.2.1∧Dz b.2.2.1∧Dz b.2.2.2.1∧Dz b.2.2.2.2.1
def te(d:Int):Dw:=(100,(200,(d,(16,(1,(1125899906842624,()))))))
def qd(a:Int)(b0 b1:Cq)(o:Int):fF:=((List.replicate 32 0,(0,())),(a,([b0,b1],([te 5,te 6],(o,())))))
def jI(ch:fF):Prop:=∃a b0 b1 o,ch=qd a b0 b1 o∧20000≤a∧a≤4294987295∧GH b0∧GH b1∧(o=0∨o=1)
def Fh(n:Int):Int:=if 0≤n∧n≤16 then 68+8*n else 0
def tW(r n:Int):Int:=if 0≤r∧r≤1000 then r*Fh n else 0
theorem By(n:Int):0≤Fh n∧Fh n≤196:=by
 unfold Fh;split <;> omega
theorem ub{r w a b:Int}(h0:0≤r)(h1:r≤a)(w0:0≤w)(w1:w≤b):0≤r*w∧r*w≤a*b:=⟨Int.mul_nonneg h0 w0,Int.mul_le_mul h1 w1 w0 (by omega)⟩
theorem sw(r n:Int):0≤tW r n∧tW r n≤196000:=by
 unfold tW
 split
 ·next h=>
  have:=By n
  have:=ub h.1 h.2 this.1 this.2
  omega
 ·omega
def yx(c:fE):Bool:=wo c.2.2.2.1 && (kC c.1 0 1 && (kC c.2.1 1 1048576 && (kC c.2.2.1 1 1125899906842624 && kC c.2.2.2.2.1 1 1048576)))
structure F9(c:fE):Prop where
 pt:wo c.2.2.2.1=true
 side:0≤c.1∧c.1≤1
 id:1≤c.2.1∧c.2.1≤1048576
 Aq:1≤c.2.2.1∧c.2.2.1≤1125899906842624
 exp:1≤c.2.2.2.2.1∧c.2.2.2.2.1≤1048576
theorem mq{c:fE}:yx c=true↔F9 c:=by
 unfold yx
 simp only[Bool.and_eq_true,kD]
 exact⟨fun h=>⟨h.1,h.2.1,h.2.2.1,h.2.2.2.1,h.2.2.2.2⟩,fun h=>⟨h.pt,h.side,h.id,h.Aq,h.exp⟩⟩
def sh(a b:fE):Bool:=decide (a.1 < b.1∨a.1=b.1∧a.2.1 < b.2.1)
def nu:Option fE→List fE→Bool
 |_,[]=>true
 |none,c::l=>yx c && nu (some c) l
 |some p,c::l=>yx c && (sh p c && nu (some c) l)
def rC(l:List fE)(k:Nat):Option fE:=if k=0 then none else some (nth gr l (k - 1))
theorem nP:∀(o:Option fE) (l:List fE),nu o l=true→∀c∈l,F9 c
 |_,[],_,c,hc=>by cases hc
 |none,d::l,h,c,hc=>by
  simp only[nu,Bool.and_eq_true]at h
  rcases List.mem_cons.1 hc with rfl | hc
  ·exact mq.1 h.1
  ·exact nP _ l h.2 c hc
 |some p,d::l,h,c,hc=>by
  simp only[nu,Bool.and_eq_true]at h
  rcases List.mem_cons.1 hc with rfl | hc
  ·exact mq.1 h.1
  ·exact nP _ l h.2.2 c hc
theorem BP{l:List fE}{k:Nat}(h:k < l.length):nu (rC l k) (l.drop k)=(yx l[k] && ((decide (k=0) || sh (nth gr l (k - 1)) l[k]) && nu (rC l (k+1)) (l.drop (k+1)))):=by
 have n1:nth gr l k=l[k]:=dT (t:=gr) h
 have e2:rC l (k+1)=some l[k]:=by
  unfold rC
  rw[if_neg (by omega),Nat.add_sub_cancel,n1]
 rw[e2,List.drop_eq_getElem_cons h]
 unfold rC
 by_cases h0:k=0
 ·rw[if_pos h0,nu,aD h0,Bool.true_or,Bool.true_and]
 ·rw[if_neg h0,nu,bN h0,Bool.false_or]
def fQ:List fE→Int
 |[]=>0
 |c::l=>c.2.2.1+fQ l
def im(to:Int)(l:List fE):List fE:=l.filter fun c=>ia c.1 (1 - to)
def yz(c:fE):Prop:=0≤c.2.2.1∧c.2.2.1≤1125899906842624
theorem BE:∀(l:List fE),(∀c∈l,yz c)→0≤fQ l∧fQ l≤1125899906842624*l.length
 |[],_=>⟨Int.le_refl _,by simp[fQ]⟩
 |c::l,h=>by
  have h1:=h c List.mem_cons_self
  have h2:=BE l fun x hx=>h x (List.mem_cons_of_mem _ hx)
  unfold yz at h1
  simp only[fQ,List.length_cons]
  omega
theorem rz(to:Int)(l:List fE):(im to l).length≤l.length:=List.length_filter_le _ _
theorem sS(to:Int)(c:fE)(l:List fE):im to (c::l)=if ia c.1 (1 - to)=true then c::im to l else im to l:=by
 unfold im
 rw[List.filter_cons]
def qJ(ch:fF)(s:fL):Bool:=
  kC s.1 0 1048576 && (kC (nth ti s.2.1 0) 0 1125899906842624 && (kC (nth ti s.2.1 1) 0 1125899906842624 && (kC s.2.2.2.1 0 1000 && (decide (s.2.2.1.length≤16) &&
   (nu none s.2.2.1 && (decide (fQ (im 0 s.2.2.1)≤1125899906842624) && (decide (fQ (im 1 s.2.2.1)≤1125899906842624) &&
    (ia (nth ti s.2.1 0+nth ti s.2.1 1+fQ s.2.2.1) ch.2.1 && kX (nth ti s.2.1 ch.2.2.2.2.1.toNat) (tW s.2.2.2.1 s.2.2.1.length+660)))))))))
def oH(s:fL):Prop:=(∀c∈s.2.2.1,fh c.2.2.2.1)∧s.2.2.1.length≤1000∧s.2.1.length=2
abbrev ff.D:=Int×Int×Int
def ff.st:ff.D→SA:=fun(n,low,high)=>([.d ti n,.d ti low,.d ti high],[])
abbrev ff.Y:=Bool
abbrev ff.X:=Bool
def ff.out:ff.X→aT:=fun x=>⟨.d .bool x,[],[]⟩
def ff.add:ff.D→ff.Y→ff.X:=fun(n,low,high) y=>y
def ff.aq:ff.D→Prop:=fun _=>True
def ff.F:ff.D→ff.Y:=fun(n,lo,hi)=>kC n lo hi
noncomputable def ff.G:dX:=eX (P:=Tryz.prog) []
noncomputable def ff.an:ej:= {}
noncomputable def ff.A:= @cq Tryz.prog ff.G ff.an 0 Tryz.f116 _ ff.st
abbrev ff.Ok:=cr @ff.A ff.aq ff.add ff.F ff.out
theorem ff.eq{R:Type}(n:Int)(low:Int)(high:Int)(k:aT→Option R):ff.A (n,low,high) k=
  aC ((kX n low)) (
   k (ff.out (wX n high))) (
   k (ff.out false)):=by kernel_rfl
theorem ff.ok:ff.Ok:=by
 rintro⟨n,lo,hi⟩ _
 rw[ff.eq]
 simp only[ff.add,ff.F,kC]
 have e:decide (lo≤n)=kX n lo:=rfl
 rw[e]
 cases kX n lo <;> rfl
noncomputable def ff.E:=Entry.cF [some ti,some ti,some ti] ff.st ff.aq ff.add ff.F ff.out
noncomputable def ff.call:ff.D→Option ff.X:=bC ff.E ff.st
theorem ff.run:bD ff.call ff.aq ff.add ff.F:=cz (cv [.d ti,.d ti,.d ti] fun _=>by kernel_rfl)
noncomputable def ff.sg:SG Tryz.prog:=⟨116,aK,ff.E,.fn 0 (by kernel_rfl) ff.ok trivial⟩
theorem ff.c(n lo hi:Int):ff.call (n,lo,hi)=some (kC n lo hi):=ff.run (d:=(n,lo,hi)) trivial
abbrev fB.D:=Int×Int×Int
def fB.st:fB.D→SA:=fun(n,low,high)=>([.d ti n,.d ti low,.d ti high],[])
abbrev fB.Y:=Bool
abbrev fB.X:=Bool
def fB.out:fB.X→aT:=fun x=>⟨.d .bool x,[],[]⟩
def fB.add:fB.D→fB.Y→fB.X:=fun(n,low,high) y=>y
def fB.aq:fB.D→Prop:=fun _=>True
def fB.F:fB.D→fB.Y:=fun(n,lo,hi)=>kC n lo hi
noncomputable def fB.G:dX:=eX (P:=Tryz.prog) []
noncomputable def fB.an:ej:= {}
noncomputable def fB.A:= @cq Tryz.prog fB.G fB.an 0 Tryz.f64 _ fB.st
abbrev fB.Ok:=cr @fB.A fB.aq fB.add fB.F fB.out
theorem fB.eq{R:Type}(n:Int)(low:Int)(high:Int)(k:aT→Option R):fB.A (n,low,high) k=
  aC ((kX n low)) (
   k (fB.out (wX n high))) (
   k (fB.out false)):=by kernel_rfl
theorem fB.ok:fB.Ok:=by
 rintro⟨n,lo,hi⟩ _
 rw[fB.eq]
 simp only[fB.add,fB.F,kC]
 have e:decide (lo≤n)=kX n lo:=rfl
 rw[e]
 cases kX n lo <;> rfl
noncomputable def fB.E:=Entry.cF [some ti,some ti,some ti] fB.st fB.aq fB.add fB.F fB.out
noncomputable def fB.call:fB.D→Option fB.X:=bC fB.E fB.st
theorem fB.run:bD fB.call fB.aq fB.add fB.F:=cz (cv [.d ti,.d ti,.d ti] fun _=>by kernel_rfl)
noncomputable def fB.sg:SG Tryz.prog:=⟨64,aK,fB.E,.fn 0 (by kernel_rfl) fB.ok trivial⟩
theorem fB.c(n lo hi:Int):fB.call (n,lo,hi)=some (kC n lo hi):=fB.run (d:=(n,lo,hi)) trivial
abbrev jK.D:=Int×Int×Int
def jK.st:jK.D→SA:=fun(n,low,high)=>([.d ti n,.d ti low,.d ti high],[])
abbrev jK.Y:=Bool
abbrev jK.X:=Bool
def jK.out:jK.X→aT:=fun x=>⟨.d .bool x,[],[]⟩
def jK.add:jK.D→jK.Y→jK.X:=fun(n,low,high) y=>y
def jK.aq:jK.D→Prop:=fun _=>True
def jK.F:jK.D→jK.Y:=fun(n,lo,hi)=>kC n lo hi
noncomputable def jK.G:dX:=eX (P:=Tryz.prog) []
noncomputable def jK.an:ej:= {}
noncomputable def jK.A:= @cq Tryz.prog jK.G jK.an 0 Tryz.f168 _ jK.st
abbrev jK.Ok:=cr @jK.A jK.aq jK.add jK.F jK.out
theorem jK.eq{R:Type}(n:Int)(low:Int)(high:Int)(k:aT→Option R):jK.A (n,low,high) k=
  aC ((wX low n)) (
   k (jK.out (wX n high))) (
   k (jK.out false)):=by kernel_rfl
theorem jK.ok:jK.Ok:=by
 rintro⟨n,lo,hi⟩ _
 rw[jK.eq]
 simp only[jK.add,jK.F,kC]
 have e:decide (lo≤n)=wX lo n:=rfl
 rw[e]
 cases wX lo n <;> rfl
noncomputable def jK.E:=Entry.cF [some ti,some ti,some ti] jK.st jK.aq jK.add jK.F jK.out
noncomputable def jK.call:jK.D→Option jK.X:=bC jK.E jK.st
theorem jK.run:bD jK.call jK.aq jK.add jK.F:=cz (cv [.d ti,.d ti,.d ti] fun _=>by kernel_rfl)
noncomputable def jK.sg:SG Tryz.prog:=⟨168,aK,jK.E,.fn 0 (by kernel_rfl) jK.ok trivial⟩
theorem jK.c(n lo hi:Int):jK.call (n,lo,hi)=some (kC n lo hi):=jK.run (d:=(n,lo,hi)) trivial
abbrev kz.D:=Int
def kz.st:kz.D→SA:=fun conds=>([.d ti conds],[])
abbrev kz.Y:=Int
abbrev kz.X:=Int
def kz.out:kz.X→aT:=fun x=>⟨.d ti x,[],[]⟩
def kz.add:kz.D→kz.Y→kz.X:=fun conds y=>y
def kz.aq:kz.D→Prop:=fun _=>True
def kz.F:kz.D→kz.Y:=fun n=>Fh n
noncomputable def kz.G:dX:=eX (P:=Tryz.prog) [ff.sg]
noncomputable def kz.an:ej:= {}
noncomputable def kz.A:= @cq Tryz.prog kz.G kz.an 0 Tryz.f158 _ kz.st
abbrev kz.Ok:=cr @kz.A kz.aq kz.add kz.F kz.out
theorem kz.eq{R:Type}(conds:Int)(k:aT→Option R):kz.A conds k=
  ab (ff.call (conds,(0:Int),(16:Int))) fun x1=>
  aC ((!x1)) (
   k (kz.out (0:Int))) (
   k (kz.out (bw .i64 (36:Int) (eS .i64 (bw .i64 (4:Int) conds) (8:Int))))):=by kernel_rfl
theorem kz.ok:kz.Ok:=by
 intro(n:Int) _
 rw[kz.eq,ff.c]
 simp only[aa,kz.add,kz.F,Fh]
 by_cases h:0≤n∧n≤16
 ·rw[gJ h.1 h.2,if_pos h,Bool.not_true,ae,show bw .i64 4 n=4+n from dL (by omega) (by omega),jk (by omega) (by omega),dL (by omega) (by omega)]
  rw[show(36+(4+n)*8:Int)=68+8*n by omega]
 ·rw[ja h,if_neg h];rfl
noncomputable def kz.E:=Entry.cF [some ti] kz.st kz.aq kz.add kz.F kz.out
noncomputable def kz.call:kz.D→Option kz.X:=bC kz.E kz.st
theorem kz.run:bD kz.call kz.aq kz.add kz.F:=cz (cv [.d ti] fun _=>by kernel_rfl)
noncomputable def kz.sg:SG Tryz.prog:=⟨158,aK,kz.E,.fn 0 (by kernel_rfl) kz.ok trivial⟩
abbrev eD.D:=Int×Int
def eD.st:eD.D→SA:=fun(aV,conds)=>([.d ti aV,.d ti conds],[])
abbrev eD.Y:=Int
abbrev eD.X:=Int
def eD.out:eD.X→aT:=fun x=>⟨.d ti x,[],[]⟩
def eD.add:eD.D→eD.Y→eD.X:=fun(aV,conds) y=>y
def eD.aq:eD.D→Prop:=fun _=>True
def eD.F:eD.D→eD.Y:=fun(r,n)=>tW r n
noncomputable def eD.G:dX:=eX (P:=Tryz.prog) [ff.sg,kz.sg]
noncomputable def eD.an:ej:= {}
noncomputable def eD.A:= @cq Tryz.prog eD.G eD.an 0 Tryz.f120 _ eD.st
abbrev eD.Ok:=cr @eD.A eD.aq eD.add eD.F eD.out
theorem eD.eq{R:Type}(aV:Int)(conds:Int)(k:aT→Option R):eD.A (aV,conds) k=
  ab (ff.call (aV,(0:Int),(1000:Int))) fun x1=>
  aC ((!x1)) (
   k (eD.out (0:Int))) (
   ab (kz.call conds) fun x2=>
   k (eD.out (eS .i64 aV x2))):=by kernel_rfl
theorem eD.ok:eD.Ok:=by
 rintro⟨r,n⟩ _
 rw[eD.eq,ff.c]
 simp only[aa,eD.add,eD.F,tW]
 by_cases h:0≤r∧r≤1000
 ·have hw:=By n
  have hm:=ub h.1 h.2 hw.1 hw.2
  rw[gJ h.1 h.2,if_pos h,Bool.not_true,ae,kz.run (d:=n) trivial]
  simp only[aa,kz.add,kz.F]
  rw[jk (by omega) (by omega)]
 ·rw[ja h,if_neg h];rfl
noncomputable def eD.E:=Entry.cF [some ti,some ti] eD.st eD.aq eD.add eD.F eD.out
noncomputable def eD.call:eD.D→Option eD.X:=bC eD.E eD.st
theorem eD.run:bD eD.call eD.aq eD.add eD.F:=cz (cv [.d ti,.d ti] fun _=>by kernel_rfl)
noncomputable def eD.sg:SG Tryz.prog:=⟨120,aK,eD.E,.fn 0 (by kernel_rfl) eD.ok trivial⟩
abbrev b8.D:=Int
def b8.st:b8.D→SA:=fun conds=>([.d ti conds],[])
abbrev b8.Y:=Int
abbrev b8.X:=Int
def b8.out:b8.X→aT:=fun x=>⟨.d ti x,[],[]⟩
def b8.add:b8.D→b8.Y→b8.X:=fun conds y=>y
def b8.aq:b8.D→Prop:=fun _=>True
def b8.F:b8.D→b8.Y:=fun n=>Fh n
noncomputable def b8.G:dX:=eX (P:=Tryz.prog) []
noncomputable def b8.an:ej:= {}
noncomputable def b8.A:= @cq Tryz.prog b8.G b8.an 0 Tryz.f43 _ b8.st
abbrev b8.Ok:=cr @b8.A b8.aq b8.add b8.F b8.out
theorem b8.eq{R:Type}(conds:Int)(k:aT→Option R):b8.A conds k=
  aC ((gM conds (0:Int))) (
   k (b8.out (0:Int))) (
   aC ((na conds (16:Int))) (
    k (b8.out (0:Int))) (
    k (b8.out (bw .i64 (68:Int) (eS .i64 (8:Int) conds))))):=by kernel_rfl
theorem b8.ok:b8.Ok:=by
 intro(n:Int) _
 rw[b8.eq]
 simp only[b8.add,b8.F,Fh]
 by_cases h:n < 0
 ·rw[bB h,ah,if_neg (by omega)]
 ·rw[bm h,ae]
  by_cases h2:n > 16
  ·rw[dS h2,ah,if_neg (by omega)]
  ·rw[cZ h2,ae,if_pos ⟨by omega,by omega⟩,jk (by omega) (by omega),dL (by omega) (by omega)]
noncomputable def b8.E:=Entry.cF [some ti] b8.st b8.aq b8.add b8.F b8.out
noncomputable def b8.call:b8.D→Option b8.X:=bC b8.E b8.st
theorem b8.run:bD b8.call b8.aq b8.add b8.F:=cz (cv [.d ti] fun _=>by kernel_rfl)
noncomputable def b8.sg:SG Tryz.prog:=⟨43,aK,b8.E,.fn 0 (by kernel_rfl) b8.ok trivial⟩
abbrev ee.D:=Int×Int
def ee.st:ee.D→SA:=fun(aV,conds)=>([.d ti aV,.d ti conds],[])
abbrev ee.Y:=Int
abbrev ee.X:=Int
def ee.out:ee.X→aT:=fun x=>⟨.d ti x,[],[]⟩
def ee.add:ee.D→ee.Y→ee.X:=fun(aV,conds) y=>y
def ee.aq:ee.D→Prop:=fun _=>True
def ee.F:ee.D→ee.Y:=fun(r,n)=>tW r n
noncomputable def ee.G:dX:=eX (P:=Tryz.prog) [b8.sg]
noncomputable def ee.an:ej:= {}
noncomputable def ee.A:= @cq Tryz.prog ee.G ee.an 0 Tryz.f16 _ ee.st
abbrev ee.Ok:=cr @ee.A ee.aq ee.add ee.F ee.out
theorem ee.eq{R:Type}(aV:Int)(conds:Int)(k:aT→Option R):ee.A (aV,conds) k=
  aC ((gM aV (0:Int))) (
   k (ee.out (0:Int))) (
   aC ((na aV (1000:Int))) (
    k (ee.out (0:Int))) (
    ab (b8.call conds) fun x1=>
    k (ee.out (eS .i64 aV x1)))):=by kernel_rfl
theorem ee.ok:ee.Ok:=by
 rintro⟨r,n⟩ _
 rw[ee.eq]
 simp only[ee.add,ee.F,tW]
 by_cases h:r < 0
 ·rw[bB h,ah,if_neg (by omega)]
 ·rw[bm h,ae]
  by_cases h2:r > 1000
  ·rw[dS h2,ah,if_neg (by omega)]
  ·have hw:=By n
   have hm:=ub (r:=r) (by omega) (show r≤1000 by omega) hw.1 hw.2
   rw[cZ h2,ae,if_pos ⟨by omega,by omega⟩,b8.run (d:=n) trivial]
   simp only[aa,b8.add,b8.F]
   rw[jk (by omega) (by omega)]
noncomputable def ee.E:=Entry.cF [some ti,some ti] ee.st ee.aq ee.add ee.F ee.out
noncomputable def ee.call:ee.D→Option ee.X:=bC ee.E ee.st
theorem ee.run:bD ee.call ee.aq ee.add ee.F:=cz (cv [.d ti,.d ti] fun _=>by kernel_rfl)
noncomputable def ee.sg:SG Tryz.prog:=⟨16,aK,ee.E,.fn 0 (by kernel_rfl) ee.ok trivial⟩
abbrev cR.D:=Dw×Int
def cR.st:cR.D→SA:=fun(t,amount)=>([.d jG t,.d ti amount],[])
abbrev cR.Y:=Bool
abbrev cR.X:=Bool
def cR.out:cR.X→aT:=fun x=>⟨.d .bool x,[],[]⟩
def cR.add:cR.D→cR.Y→cR.X:=fun(t,amount) y=>y
def cR.aq:cR.D→Prop:=fun _=>True
def cR.F:cR.D→cR.Y:=fun(t,n)=>kX n t.1
noncomputable def cR.G:dX:=eX (P:=Tryz.prog) []
noncomputable def cR.an:ej:= {}
noncomputable def cR.A:= @cq Tryz.prog cR.G cR.an 0 Tryz.f14 _ cR.st
abbrev cR.Ok:=cr @cR.A cR.aq cR.add cR.F cR.out
theorem cR.eq{R:Type}(t:Dw)(amount:Int)(k:aT→Option R):cR.A (t,amount) k=
 k (cR.out (kX amount t.1)):=by kernel_rfl
theorem cR.ok:cR.Ok:=by
 rintro⟨t,n⟩ _
 rw[cR.eq]
 rfl
noncomputable def cR.E:=Entry.cF [some jG,some ti] cR.st cR.aq cR.add cR.F cR.out
noncomputable def cR.call:cR.D→Option cR.X:=bC cR.E cR.st
theorem cR.run:bD cR.call cR.aq cR.add cR.F:=cz (cv [.d jG,.d ti] fun _=>by kernel_rfl)
noncomputable def cR.sg:SG Tryz.prog:=⟨14,aK,cR.E,.fn 0 (by kernel_rfl) cR.ok trivial⟩
abbrev kj.D:=Dw
def kj.st:kj.D→SA:=fun t=>([.d jG t],[])
abbrev kj.Y:=Bool
abbrev kj.X:=Bool
def kj.out:kj.X→aT:=fun x=>⟨.d .bool x,[],[]⟩
def kj.add:kj.D→kj.Y→kj.X:=fun t y=>y
def kj.aq:kj.D→Prop:=fun t=>t=te 5∨t=te 6
def kj.F:kj.D→kj.Y:=fun _=>true
noncomputable def kj.G:dX:=eX (P:=Tryz.prog) [ff.sg]
noncomputable def kj.an:ej:= {}
noncomputable def kj.A:= @cq Tryz.prog kj.G kj.an 0 Tryz.f117 _ kj.st
abbrev kj.Ok:=cr @kj.A kj.aq kj.add kj.F kj.out
theorem kj.eq{R:Type}(t:Dw)(k:aT→Option R):kj.A t k=
  ab (ff.call (t.1,(0:Int),(65536:Int))) fun x1=>
  aC (x1) (
   ab (ff.call (t.2.1,t.1,(1125899906842624:Int))) fun x2=>
   aC (x2) (
    ab (ff.call (t.2.2.1,(1:Int),(4096:Int))) fun x3=>
    aC (x3) (
     ab (ff.call (t.2.2.2.1,(0:Int),(16:Int))) fun x4=>
     aC (x4) (
      ab (ff.call (t.2.2.2.2.1,(1:Int),(1125899906842624:Int))) fun x5=>
      aC (x5) (
       ab (ff.call (t.2.2.2.2.2.1,(0:Int),(1125899906842624:Int))) fun x6=>
       k (kj.out x6)) (
       k (kj.out false))) (
      k (kj.out false))) (
     k (kj.out false))) (
    k (kj.out false))) (
   k (kj.out false)):=by kernel_rfl
theorem kj.ok:kj.Ok:=by
 rintro t (rfl | rfl) <;> (rw[kj.eq];simp only[ff.c,aa];rfl)
noncomputable def kj.E:=Entry.cF [some jG] kj.st kj.aq kj.add kj.F kj.out
noncomputable def kj.call:kj.D→Option kj.X:=bC kj.E kj.st
theorem kj.run:bD kj.call kj.aq kj.add kj.F:=cz (cv [.d jG] fun _=>by kernel_rfl)
noncomputable def kj.sg:SG Tryz.prog:=⟨117,aK,kj.E,.fn 0 (by kernel_rfl) kj.ok trivial⟩
abbrev cJ.D:=Dw
def cJ.st:cJ.D→SA:=fun t=>([.d jG t],[])
abbrev cJ.Y:=Bool
abbrev cJ.X:=Bool
def cJ.out:cJ.X→aT:=fun x=>⟨.d .bool x,[],[]⟩
def cJ.add:cJ.D→cJ.Y→cJ.X:=fun t y=>y
def cJ.aq:cJ.D→Prop:=fun t=>t=te 5∨t=te 6
def cJ.F:cJ.D→cJ.Y:=fun _=>true
noncomputable def cJ.G:dX:=eX (P:=Tryz.prog) [jK.sg]
noncomputable def cJ.an:ej:= {}
noncomputable def cJ.A:= @cq Tryz.prog cJ.G cJ.an 0 Tryz.f134 _ cJ.st
abbrev cJ.Ok:=cr @cJ.A cJ.aq cJ.add cJ.F cJ.out
theorem cJ.eq{R:Type}(t:Dw)(k:aT→Option R):cJ.A t k=
  ab (jK.call (t.1,(0:Int),(65536:Int))) fun x1=>
  aC (x1) (
   ab (jK.call (t.2.2.1,(1:Int),(4096:Int))) fun x2=>
   aC (x2) (
    ab (jK.call (t.2.2.2.1,(0:Int),(16:Int))) fun x3=>
    aC (x3) (
     ab (jK.call (t.2.1,t.1,(1125899906842624:Int))) fun x4=>
     aC (x4) (
      ab (jK.call (t.2.2.2.2.1,(1:Int),(1125899906842624:Int))) fun x5=>
      aC (x5) (
       ab (jK.call (t.2.2.2.2.2.1,(0:Int),(1125899906842624:Int))) fun x6=>
       k (cJ.out x6)) (
       k (cJ.out false))) (
      k (cJ.out false))) (
     k (cJ.out false))) (
    k (cJ.out false))) (
   k (cJ.out false)):=by kernel_rfl
theorem cJ.ok:cJ.Ok:=by
 rintro t (rfl | rfl) <;> (rw[cJ.eq];simp only[jK.c,aa];rfl)
noncomputable def cJ.E:=Entry.cF [some jG] cJ.st cJ.aq cJ.add cJ.F cJ.out
noncomputable def cJ.call:cJ.D→Option cJ.X:=bC cJ.E cJ.st
theorem cJ.run:bD cJ.call cJ.aq cJ.add cJ.F:=cz (cv [.d jG] fun _=>by kernel_rfl)
noncomputable def cJ.sg:SG Tryz.prog:=⟨134,aK,cJ.E,.fn 0 (by kernel_rfl) cJ.ok trivial⟩
abbrev dV.D:=Int
def dV.st:dV.D→SA:=fun p=>([.d tu p],[])
abbrev dV.Y:=Bool
abbrev dV.X:=Bool
def dV.out:dV.X→aT:=fun x=>⟨.d .bool x,[],[]⟩
def dV.add:dV.D→dV.Y→dV.X:=fun p y=>y
def dV.aq:dV.D→Prop:=fun p=>fh p
def dV.F:dV.D→dV.Y:=fun p=>wo p
noncomputable def dV.G:dX:=eX (P:=Tryz.prog) [cg.sg]
noncomputable def dV.an:ej:= {}
noncomputable def dV.A:= @cq Tryz.prog dV.G dV.an 0 Tryz.f118 _ dV.st
abbrev dV.Ok:=cr @dV.A dV.aq dV.add dV.F dV.out
theorem dV.eq{R:Type}(p:Int)(k:aT→Option R):dV.A p k=
  ab (cg.call p) fun x1=>
  aC (x1) (
   k (dV.out (qS p (1:Int)))) (
   k (dV.out false)):=by kernel_rfl
theorem dV.ok:dV.Ok:=by
 intro p hp
 rw[dV.eq,cg.run (d:=p) hp]
 simp only[aa,cg.add,cg.F,dV.add,dV.F,wo]
 cases lf p <;> rfl
noncomputable def dV.E:=Entry.cF [some tu] dV.st dV.aq dV.add dV.F dV.out
noncomputable def dV.call:dV.D→Option dV.X:=bC dV.E dV.st
theorem dV.run:bD dV.call dV.aq dV.add dV.F:=cz (cv [.d tu] fun _=>by kernel_rfl)
noncomputable def dV.sg:SG Tryz.prog:=⟨118,aK,dV.E,.fn 0 (by kernel_rfl) dV.ok trivial⟩
theorem dV.g{p:Int}(h:Dz p):dV.call p=some true:=by
 rw[dV.run (d:=p) h.1]
 simp only[dV.add,dV.F,h.2]
abbrev bE.L0.D:=fF×Int
def bE.L0.st:bE.L0.D→AS:=fun(ch_2,i)=>⟨([.undef,.eI iu ch_2,.undef,.d ti i]++bu 67 []),[],(List.replicate 71 [])⟩
abbrev bE.L0.Y0:=Unit
abbrev bE.L0.X0:=Unit
def bE.L0.bM:bE.L0.X0→Exit×AS:=fun x=>(.ret,⟨([.undef,.undef,.d ti (1:Int)]++bu 68 []),[],(List.replicate 71 [])⟩)
abbrev bE.L0.Y1:=Unit
abbrev bE.L0.X1:=fF
def bE.L0.iG:bE.L0.X1→Exit×AS:=fun x=>(.exit 0,⟨([.undef,.eI iu x]++bu 69 []),[],(List.replicate 71 [])⟩)
abbrev bE.L0.X:=(bE.L0.X0)⊕(bE.L0.X1)
abbrev bE.L0.Y:=(bE.L0.Y0)⊕(bE.L0.Y1)
def bE.L0.out:bE.L0.X→Out (Exit×AS):=fun x=> .br x.isLeft (.get x.getLeft? fun a=> .ok (bE.L0.bM a)) (.get x.getRight? fun b=> .ok (bE.L0.iG b))
def bE.L0.add:bE.L0.D→bE.L0.Y→bE.L0.X:=fun(ch_2,i) y=>match y with | .inl y=> .inl y | .inr z=> .inr (ch_2)
abbrev bE.D:=fF
def bE.st:bE.D→SA:=fun ch=>([.d iu ch],[])
abbrev bE.Y:=Int
abbrev bE.X:=Int
def bE.out:bE.X→aT:=fun x=>⟨.d ti x,[],[]⟩
def bE.add:bE.D→bE.Y→bE.X:=fun ch y=>y
def bE.L0.aq:bE.L0.D→Prop:=fun(ch,i)=>jI ch∧∃k:Nat,k≤2∧i=k
def bE.L0.F:bE.L0.D→bE.L0.Y:=fun _=> .inr ()
def bE.aq:bE.D→Prop:=fun ch=>jI ch
def bE.F:bE.D→bE.Y:=fun _=>0
noncomputable def bE.G:dX:=eX (P:=Tryz.prog) [ff.sg,kj.sg,dV.sg]
noncomputable def bE.L0.E:=cf.cF bE.L0.st bE.L0.aq bE.L0.add bE.L0.F bE.L0.out
noncomputable def bE.L0.call:bE.L0.D→Option bE.L0.X:=dO bE.L0.E bE.L0.st
noncomputable def bE.an:ej:= {loops:=ky [(4,{bt:=[1,3]}),(11,{bt:=[1,3,5,6],sites:=[4,9,15,21,47,57]})],outs:=kr [(4,{bt:=[1]},{bt:=[2]}),(11,{bt:=[1,3],sites:=[4,9,15,21,47,57]},{bt:=[2],sites:=[4,9,15,21,47,57]})],gk:=kY [(4,bE.L0.E)]}
noncomputable def bE.A:= @cq Tryz.prog bE.G bE.an 6 Tryz.f63 _ bE.st
abbrev bE.Ok:=cr @bE.A bE.aq bE.add bE.F bE.out
noncomputable def bE.L0.R:= @cP Tryz.prog bE.G bE.an 6 Tryz.f63 0 _ bE.L0.st
abbrev bE.L0.Ok:=fg Tryz.prog bE.G bE.an 6 Tryz.f63 0 bE.L0.st bE.L0.aq bE.L0.add bE.L0.F bE.L0.out
theorem bE.L0.run:bD bE.L0.call bE.L0.aq bE.L0.add bE.L0.F:=fw (fk [.d iu,.d ti] fun _=>by kernel_rfl)
theorem bE.L0.aF:oU @bE.L0.R bE.L0.st bE.L0.aq bE.L0.add bE.L0.F bE.L0.out bE.L0.Ok:=p9
theorem bE.L0.step{R:Type}(ch_2:fF)(i:Int)(kn:AS→Option R)(kx:Exit→AS→Option R):bE.L0.R (ch_2,i) kn kx=
  aC ((gM i (2:Int))) (
   aC (dY i (2:Int)) (
   aC (dY i (2:Int)) (
   ab (kj.call (nth jG ch_2.2.2.2.1 (Int.toNat i))) fun x1=>
   aC ((!x1)) (
    kx (bE.L0.bM ()).1 (bE.L0.bM ()).2) (
    ab (dV.call (nth kU ch_2.2.2.1 (Int.toNat i)).1) fun x2=>
    aC ((!x2)) (
     kx (bE.L0.bM ()).1 (bE.L0.bM ()).2) (
     ab (dV.call (nth kU ch_2.2.2.1 (Int.toNat i)).2.1) fun x3=>
     aC ((!x3)) (
      kx (bE.L0.bM ()).1 (bE.L0.bM ()).2) (
      ab (dV.call (nth kU ch_2.2.2.1 (Int.toNat i)).2.2.1) fun x4=>
      aC ((!x4)) (
       kx (bE.L0.bM ()).1 (bE.L0.bM ()).2) (
       ab (dV.call (nth kU ch_2.2.2.1 (Int.toNat i)).2.2.2.1) fun x5=>
       aC ((!x5)) (
        kx (bE.L0.bM ()).1 (bE.L0.bM ()).2) (
        ab (dV.call (nth kU ch_2.2.2.1 (Int.toNat i)).2.2.2.2.1) fun x6=>
        aC ((!x6)) (
         kx (bE.L0.bM ()).1 (bE.L0.bM ()).2) (
         kn (bE.L0.st (ch_2,(bw .i64 i (1:Int))))))))))) none) none) (
   kx (bE.L0.iG ch_2).1 (bE.L0.iG ch_2).2):=by kernel_rfl
theorem bE.eq{R:Type}(ch:fF)(k:aT→Option R):bE.A ch k=
  ab (ff.call (ch.2.1,(1:Int),(1125899906842624:Int))) fun x1=>
  aC ((!x1)) (
   k (bE.out (1:Int))) (
   ab (ff.call (ch.1.2.1,(0:Int),(63:Int))) fun x2=>
   aC ((!x2)) (
    k (bE.out (1:Int))) (
    ab (ff.call (ch.2.2.2.2.1,(0:Int),(1:Int))) fun x3=>
    aC ((!x3)) (
     k (bE.out (1:Int))) (
     ab (bE.L0.call (ch,(0:Int))) fun x10=>
     aC (x10.isLeft) (
      ab (x10.getLeft?) fun a11=>
      k (bE.out (1:Int))) (
      ab (x10.getRight?) fun b12=>
      aC ((na (bw .i64 (nth jG b12.2.2.2.1 0).2.1 (nth jG b12.2.2.2.1 1).2.1) b12.2.1)) (
       k (bE.out (10:Int))) (
       k (bE.out (0:Int))))))):=by kernel_rfl
theorem bE.L0.ok:bE.L0.Ok:=by
 refine bE.L0.aF (fun(_,i)=>(2 - i).toNat) ?_
 rintro⟨ch,i⟩ ⟨⟨a,b0,b1,o,rfl,ha,ha2,g0,g1,ho⟩,k,hk,rfl⟩
 have hk:k≤2:=hk
 have hg:jI (qd a b0 b1 o):=⟨a,b0,b1,o,rfl,ha,ha2,g0,g1,ho⟩
 by_cases h:k < 2
 ·left
  refine⟨(qd a b0 b1 o,((k+1:Nat):Int)),⟨hg,k+1,by omega,rfl⟩,by show(2 - ((k+1:Nat):Int)).toNat < (2 - (k:Int)).toNat;omega,rfl,fun kn kx=> ?_⟩
  have ht:nth jG [te 5,te 6] k=te 5∨nth jG [te 5,te 6] k=te 6:=by
   obtain rfl | rfl:k=0∨k=1:=by omega
   ·exact .inl rfl
   ·exact .inr rfl
  have hb:GH (nth kU [b0,b1] k):=by
   obtain rfl | rfl:k=0∨k=1:=by omega
   ·exact g0
   ·exact g1
  rw[bE.L0.step,bB (by omega),ah,bz (by omega) (by omega),ah,ah,Int.toNat_natCast]
  simp only[qd]
  rw[kj.run (d:=nth jG [te 5,te 6] k) ht]
  simp only[aa,kj.add,kj.F,Bool.not_true,ae]
  rw[dV.g hb.1]
  simp only[aa,Bool.not_true,ae]
  rw[dV.g hb.2.1]
  simp only[aa,Bool.not_true,ae]
  rw[dV.g hb.2.2.1]
  simp only[aa,Bool.not_true,ae]
  rw[dV.g hb.2.2.2.1]
  simp only[aa,Bool.not_true,ae]
  rw[dV.g hb.2.2.2.2]
  simp only[aa,Bool.not_true,ae]
  rw[N.mC (by omega)]
 ·right
  obtain rfl:k=2:=by omega
  refine⟨bE.L0.iG (qd a b0 b1 o),rfl,fun kn kx=> ?_⟩
  rw[bE.L0.step,bm (by omega),ae]
theorem bE.ok:bE.Ok:=by
 rintro ch hg
 obtain⟨a,b0,b1,o,rfl,ha,ha2,g0,g1,ho⟩:=id hg
 rw[bE.eq,ff.c,ff.c,ff.c]
 simp only[qd,aa]
 rw[gJ (by omega) (by omega),gJ (by omega) (by omega),gJ (by omega) (by omega)]
 simp only[Bool.not_true,ae]
 have:=bE.L0.run (d:=(qd a b0 b1 o,0)) ⟨hg,0,by omega,rfl⟩
 simp only[qd]at this
 rw[this]
 simp only[aa,bE.L0.add,bE.L0.F,Sum.isLeft_inr,ae,Sum.getRight?_inr]
 rw[show(bw .i64 (nth jG [te 5,te 6] 0).2.1 (nth jG [te 5,te 6] 1).2.1)=400 from rfl,cZ (by omega),ae]
 rfl
noncomputable def bE.E:=Entry.cF [some iu] bE.st bE.aq bE.add bE.F bE.out
noncomputable def bE.call:bE.D→Option bE.X:=bC bE.E bE.st
theorem bE.run:bD bE.call bE.aq bE.add bE.F:=cz (cv [.d iu] fun _=>by kernel_rfl)
noncomputable def bE.sg:SG Tryz.prog:=⟨63,aK,bE.E,.fn 2 (by kernel_rfl) bE.ok (And.intro (.cF bE.L0.ok (by kernel_rfl)) (And.intro (.none (by kernel_rfl)) trivial))⟩
abbrev gl.D:=Int
def gl.st:gl.D→SA:=fun p=>([.d tu p],[])
abbrev gl.Y:=Bool
abbrev gl.X:=Bool
def gl.out:gl.X→aT:=fun x=>⟨.d .bool x,[],[]⟩
def gl.add:gl.D→gl.Y→gl.X:=fun p y=>y
def gl.aq:gl.D→Prop:=fun p=>fh p
def gl.F:gl.D→gl.Y:=fun p=> !wo p
noncomputable def gl.G:dX:=eX (P:=Tryz.prog) [cO.sg]
noncomputable def gl.an:ej:= {}
noncomputable def gl.A:= @cq Tryz.prog gl.G gl.an 0 Tryz.f169 _ gl.st
abbrev gl.Ok:=cr @gl.A gl.aq gl.add gl.F gl.out
theorem gl.eq{R:Type}(p:Int)(k:aT→Option R):gl.A p k=
  aC ((ia p (1:Int))) (
   k (gl.out true)) (
   ab (cO.call p) fun x1=>
   k (gl.out (!x1))):=by kernel_rfl
theorem gl.ok:gl.Ok:=by
 intro p hp
 rw[gl.eq]
 simp only[gl.add,gl.F,wo]
 by_cases h:p=1
 ·rw[eu h,ah,gO h,Bool.and_false];rfl
 ·rw[dR h,ae,cO.run (d:=p) hp,iM h,Bool.and_true]
  rfl
noncomputable def gl.E:=Entry.cF [some tu] gl.st gl.aq gl.add gl.F gl.out
noncomputable def gl.call:gl.D→Option gl.X:=bC gl.E gl.st
theorem gl.run:bD gl.call gl.aq gl.add gl.F:=cz (cv [.d tu] fun _=>by kernel_rfl)
noncomputable def gl.sg:SG Tryz.prog:=⟨169,aK,gl.E,.fn 0 (by kernel_rfl) gl.ok trivial⟩
abbrev fj.L0.D:=Bs×Int×Int
def fj.L0.st:fj.L0.D→AS:=fun(sv_2,t7,t8)=>⟨([.d tU sv_2,.fn 169 (.nil)]++bu 5 ([.d ti t7,.d ti t8]++bu 10 [])),[],(List.replicate 19 [])⟩
abbrev fj.L0.Y0:=Int
abbrev fj.L0.X0:=Int
def fj.L0.bM:fj.L0.X0→Exit×AS:=fun x=>(.ret,⟨(bu 4 ([.d ti x]++bu 14 [])),[],(List.replicate 19 [])⟩)
abbrev fj.L0.Y1:=Unit
abbrev fj.L0.X1:=Unit
def fj.L0.iG:fj.L0.X1→Exit×AS:=fun x=>(.exit 0,⟨(bu 19 []),[],(List.replicate 19 [])⟩)
abbrev fj.L0.X:=(fj.L0.X0)⊕(fj.L0.X1)
abbrev fj.L0.Y:=(fj.L0.Y0)⊕(fj.L0.Y1)
def fj.L0.out:fj.L0.X→Out (Exit×AS):=fun x=> .br x.isLeft (.get x.getLeft? fun a=> .ok (fj.L0.bM a)) (.get x.getRight? fun b=> .ok (fj.L0.iG b))
def fj.L0.add:fj.L0.D→fj.L0.Y→fj.L0.X:=fun(sv_2,t7,t8) y=>match y with | .inl y=> .inl y | .inr z=> .inr (z)
abbrev fj.D:=Bs
def fj.st:fj.D→SA:=fun sv=>([.d tU sv,.fn 169 (.nil)],[])
abbrev fj.Y:=Int
abbrev fj.X:=Int
def fj.out:fj.X→aT:=fun x=>⟨.d ti x,[],[]⟩
def fj.add:fj.D→fj.Y→fj.X:=fun sv y=>y
def fj.L0.aq:fj.L0.D→Prop:=fun(l,n,i)=>(∀x∈l,fh x)∧l.length≤1000000000∧n=l.length∧∃k:Nat,k≤l.length∧i=k
def fj.L0.F:fj.L0.D→fj.L0.Y:=fun(l,n,i)=>nB (fun p=> !wo p) (l.drop i.toNat) i
def fj.aq:fj.D→Prop:=fun l=>(∀x∈l,fh x)∧l.length≤1000000000
def fj.F:fj.D→fj.Y:=fun l=>v8 (fun p=> !wo p) l
noncomputable def fj.G:dX:=eX (P:=Tryz.prog) [gl.sg]
noncomputable def fj.L0.E:=cf.cF fj.L0.st fj.L0.aq fj.L0.add fj.L0.F fj.L0.out
noncomputable def fj.L0.call:fj.L0.D→Option fj.L0.X:=dO fj.L0.E fj.L0.st
noncomputable def fj.an:ej:= {loops:=ky [(2,{bt:=[0,1,7,8]})],outs:=kr [(2,{},{bt:=[4]})],gk:=kY [(2,fj.L0.E)]}
noncomputable def fj.A:= @cq Tryz.prog fj.G fj.an 0 Tryz.f77 _ fj.st
abbrev fj.Ok:=cr @fj.A fj.aq fj.add fj.F fj.out
noncomputable def fj.L0.R:= @cP Tryz.prog fj.G fj.an 0 Tryz.f77 0 _ fj.L0.st
abbrev fj.L0.Ok:=fg Tryz.prog fj.G fj.an 0 Tryz.f77 0 fj.L0.st fj.L0.aq fj.L0.add fj.L0.F fj.L0.out
theorem fj.L0.run:bD fj.L0.call fj.L0.aq fj.L0.add fj.L0.F:=fw (fk [.d tU,.d ti,.d ti] fun _=>by kernel_rfl)
theorem fj.L0.aF:oU @fj.L0.R fj.L0.st fj.L0.aq fj.L0.add fj.L0.F fj.L0.out fj.L0.Ok:=p9
theorem fj.L0.step{R:Type}(sv_2:Bs)(t7:Int)(t8:Int)(kn:AS→Option R)(kx:Exit→AS→Option R):fj.L0.R (sv_2,t7,t8) kn kx=
  aC ((gM t8 t7)) (
   aC (dY t8 (((List.length sv_2):Nat):Int)) (
   ab (gl.call (nth tu sv_2 (Int.toNat t8))) fun x1=>
   aC (x1) (
    kx (fj.L0.bM t8).1 (fj.L0.bM t8).2) (
    kn (fj.L0.st (sv_2,t7,(bw .i64 t8 (1:Int)))))) none) (
   kx (fj.L0.iG ()).1 (fj.L0.iG ()).2):=by kernel_rfl
theorem fj.eq{R:Type}(sv:Bs)(k:aT→Option R):fj.A sv k=
  ab (fj.L0.call (sv,(((List.length sv):Nat):Int),(0:Int))) fun x2=>
  aC (x2.isLeft) (
   ab (x2.getLeft?) fun a3=>
   k (fj.out a3)) (
   ab (x2.getRight?) fun b4=>
   k (fj.out (-1:Int))):=by kernel_rfl
theorem fj.L0.ok:fj.L0.Ok:=by
 refine fj.L0.aF (fun(l,n,i)=>l.length - i.toNat) ?_
 rintro⟨l,n,i⟩ ⟨hl,hb,rfl,k,hk,rfl⟩
 have hb:l.length≤1000000000:=hb
 have hk:k≤l.length:=hk
 by_cases h:k < l.length
 ·have hx:=hl _ (List.getElem_mem h)
  have n1:nth tu l k=l[k]:=dT (t:=tu) h
  have hd:nB (fun p=> !wo p) (l.drop k) k=if(fun p=> !wo p) l[k] then .inl (k:Int) else nB (fun p=> !wo p) (l.drop (k+1)) ((k+1:Nat):Int):=by rw[List.drop_eq_getElem_cons h];rfl
  have step:∀ {R:Type} (kn:AS→Option R) (kx:Exit→AS→Option R),fj.L0.R (l,(l.length:Int),(k:Int)) kn kx=aC ((fun p=> !wo p) l[k]) (kx (fj.L0.bM (k:Int)).1 (fj.L0.bM (k:Int)).2) (kn (fj.L0.st (l,(l.length:Int),((k+1:Nat):Int)))):=by
   intro R kn kx
   rw[fj.L0.step,bB (by omega),bz (by omega) (by omega),Int.toNat_natCast,n1,gl.run (d:=l[k]) hx,N.mC (by omega)]
   rfl
  cases hp:(fun p=> !wo p) l[k]
  ·left
   refine⟨(l,l.length,((k+1:Nat):Int)),⟨hl,hb,rfl,k+1,by omega,rfl⟩,by simp only[Int.toNat_natCast];omega,?_,fun kn kx=> ?_⟩
   ·simp only[fj.L0.add,fj.L0.F,Int.toNat_natCast,hd,hp,Bool.false_eq_true,if_false]
   ·rw[step,hp,ae]
  ·right
   refine⟨fj.L0.bM (k:Int),?_,fun kn kx=> ?_⟩
   ·simp only[fj.L0.add,fj.L0.F,Int.toNat_natCast,hd,hp,if_true]
    rfl
   ·rw[step,hp,ah]
 ·right
  obtain rfl:k=l.length:=by omega
  refine⟨fj.L0.iG (),?_,fun kn kx=> ?_⟩
  ·simp only[fj.L0.add,fj.L0.F,Int.toNat_natCast,List.drop_length]
   rfl
  ·rw[fj.L0.step,bm (by omega),ae]
theorem fj.ok:fj.Ok:=by
 rintro l ⟨hl,hb⟩
 rw[fj.eq,fj.L0.run (d:=(l,l.length,0)) ⟨hl,hb,rfl,0,by omega,rfl⟩]
 simp only[aa,fj.L0.add,fj.L0.F,Int.toNat_zero,List.drop_zero,fj.add,fj.F,v8]
 cases nB (fun p=> !wo p) l 0 <;> rfl
noncomputable def fj.E:=Entry.cF [some tU,none] fj.st fj.aq fj.add fj.F fj.out
noncomputable def fj.call:fj.D→Option fj.X:=bC fj.E fj.st
theorem fj.run:bD fj.call fj.aq fj.add fj.F:=cz (cv [.d tU] fun _=>by kernel_rfl)
noncomputable def fj.sg:SG Tryz.prog:=⟨77,aK,fj.E,.fn 1 (by kernel_rfl) fj.ok (And.intro (.cF fj.L0.ok (by kernel_rfl)) trivial)⟩
abbrev kW.D:=Bs
def kW.st:kW.D→SA:=fun sv=>([.d tU sv,.fn 169 (.nil)],[])
abbrev kW.Y:=Bool
abbrev kW.X:=Bool
def kW.out:kW.X→aT:=fun x=>⟨.d .bool x,[],[]⟩
def kW.add:kW.D→kW.Y→kW.X:=fun sv y=>y
def kW.aq:kW.D→Prop:=fun l=>(∀x∈l,fh x)∧l.length≤1000000000
def kW.F:kW.D→kW.Y:=fun l=>l.any (fun p=> !wo p)
noncomputable def kW.G:dX:=eX (P:=Tryz.prog) [fj.sg]
noncomputable def kW.an:ej:= {}
noncomputable def kW.A:= @cq Tryz.prog kW.G kW.an 0 Tryz.f35 _ kW.st
abbrev kW.Ok:=cr @kW.A kW.aq kW.add kW.F kW.out
theorem kW.eq{R:Type}(sv:Bs)(k:aT→Option R):kW.A sv k=
 ab (fj.call sv) fun x1=>
 k (kW.out (kX x1 (0:Int))):=by kernel_rfl
theorem kW.ok:kW.Ok:=by
 rintro l ⟨hl,hb⟩
 rw[kW.eq,fj.run (d:=l) ⟨hl,hb⟩]
 simp only[aa,fj.add,fj.F,rf]
 rfl
noncomputable def kW.E:=Entry.cF [some tU,none] kW.st kW.aq kW.add kW.F kW.out
noncomputable def kW.call:kW.D→Option kW.X:=bC kW.E kW.st
theorem kW.run:bD kW.call kW.aq kW.add kW.F:=cz (cv [.d tU] fun _=>by kernel_rfl)
noncomputable def kW.sg:SG Tryz.prog:=⟨35,aK,kW.E,.fn 0 (by kernel_rfl) kW.ok trivial⟩
abbrev cm.D:=Cq
def cm.st:cm.D→SA:=fun b=>([.d kU b],[])
abbrev cm.Y:=Bool
abbrev cm.X:=Bool
def cm.out:cm.X→aT:=fun x=>⟨.d .bool x,[],[]⟩
def cm.add:cm.D→cm.Y→cm.X:=fun b y=>y
def cm.aq:cm.D→Prop:=fun b=>GH b
def cm.F:cm.D→cm.Y:=fun _=>true
noncomputable def cm.G:dX:=eX (P:=Tryz.prog) [kW.sg]
noncomputable def cm.an:ej:= {}
noncomputable def cm.A:= @cq Tryz.prog cm.G cm.an 0 Tryz.f135 _ cm.st
abbrev cm.Ok:=cr @cm.A cm.aq cm.add cm.F cm.out
theorem cm.eq{R:Type}(b:Cq)(k:aT→Option R):cm.A b k=
 ab (kW.call [b.1,b.2.1,b.2.2.1,b.2.2.2.1,b.2.2.2.2.1]) fun x1=>
 k (cm.out (!x1)):=by kernel_rfl
theorem cm.ok:cm.Ok:=by
 intro b hb
 rw[cm.eq,kW.run (d:=[b.1,b.2.1,b.2.2.1,b.2.2.2.1,b.2.2.2.2.1]) ⟨fun x hx=> ?_,by show 5≤_;decide⟩]
 ·simp only[aa,kW.add,kW.F,List.any_cons,List.any_nil,hb.1.2,hb.2.1.2,hb.2.2.1.2,hb.2.2.2.1.2,hb.2.2.2.2.2]
  rfl
 ·simp only[List.mem_cons,List.mem_nil_iff,or_false]at hx
  rcases hx with rfl | rfl | rfl | rfl | rfl
  ·exact hb.1.1
  ·exact hb.2.1.1
  ·exact hb.2.2.1.1
  ·exact hb.2.2.2.1.1
  ·exact hb.2.2.2.2.1
noncomputable def cm.E:=Entry.cF [some kU] cm.st cm.aq cm.add cm.F cm.out
noncomputable def cm.call:cm.D→Option cm.X:=bC cm.E cm.st
theorem cm.run:bD cm.call cm.aq cm.add cm.F:=cz (cv [.d kU] fun _=>by kernel_rfl)
noncomputable def cm.sg:SG Tryz.prog:=⟨135,aK,cm.E,.fn 0 (by kernel_rfl) cm.ok trivial⟩
abbrev bI.L0.D:=fF×(List Dw)×Int
def bI.L0.st:bI.L0.D→AS:=fun(ch_2,t34,t35)=>⟨([.undef,.eI iu ch_2]++bu 32 ([.d (.arr 2 jG) t34,.d ti t35]++bu 35 [])),[],(List.replicate 71 [])⟩
abbrev bI.L0.Y0:=Unit
abbrev bI.L0.X0:=Unit
def bI.L0.bM:bI.L0.X0→Exit×AS:=fun x=>(.ret,⟨([.undef,.undef,.d ti (1:Int)]++bu 68 []),[],(List.replicate 71 [])⟩)
abbrev bI.L0.Y1:=Unit
abbrev bI.L0.X1:=fF
def bI.L0.iG:bI.L0.X1→Exit×AS:=fun x=>(.exit 0,⟨([.undef,.eI iu x]++bu 69 []),[],(List.replicate 71 [])⟩)
abbrev bI.L0.X:=(bI.L0.X0)⊕(bI.L0.X1)
abbrev bI.L0.Y:=(bI.L0.Y0)⊕(bI.L0.Y1)
def bI.L0.out:bI.L0.X→Out (Exit×AS):=fun x=> .br x.isLeft (.get x.getLeft? fun a=> .ok (bI.L0.bM a)) (.get x.getRight? fun b=> .ok (bI.L0.iG b))
def bI.L0.add:bI.L0.D→bI.L0.Y→bI.L0.X:=fun(ch_2,t34,t35) y=>match y with | .inl y=> .inl y | .inr z=> .inr (ch_2)
abbrev bI.D:=fF
def bI.st:bI.D→SA:=fun ch=>([.d iu ch],[])
abbrev bI.Y:=Int
abbrev bI.X:=Int
def bI.out:bI.X→aT:=fun x=>⟨.d ti x,[],[]⟩
def bI.add:bI.D→bI.Y→bI.X:=fun ch y=>y
def bI.L0.aq:bI.L0.D→Prop:=fun(ch,l,i)=>jI ch∧l=[te 5,te 6]∧∃k:Nat,k≤2∧i=k
def bI.L0.F:bI.L0.D→bI.L0.Y:=fun _=> .inr ()
def bI.aq:bI.D→Prop:=fun ch=>jI ch
def bI.F:bI.D→bI.Y:=fun _=>0
noncomputable def bI.G:dX:=eX (P:=Tryz.prog) [cJ.sg,cm.sg,fG.sg]
noncomputable def bI.L0.E:=cf.cF bI.L0.st bI.L0.aq bI.L0.add bI.L0.F bI.L0.out
noncomputable def bI.L0.call:bI.L0.D→Option bI.L0.X:=dO bI.L0.E bI.L0.st
noncomputable def bI.an:ej:= {loops:=ky [(4,{bt:=[1,34,35]})],outs:=kr [(4,{bt:=[1]},{bt:=[2]})],gk:=kY [(4,bI.L0.E)]}
noncomputable def bI.A:= @cq Tryz.prog bI.G bI.an 0 Tryz.f91 _ bI.st
abbrev bI.Ok:=cr @bI.A bI.aq bI.add bI.F bI.out
noncomputable def bI.L0.R:= @cP Tryz.prog bI.G bI.an 0 Tryz.f91 0 _ bI.L0.st
abbrev bI.L0.Ok:=fg Tryz.prog bI.G bI.an 0 Tryz.f91 0 bI.L0.st bI.L0.aq bI.L0.add bI.L0.F bI.L0.out
theorem bI.L0.run:bD bI.L0.call bI.L0.aq bI.L0.add bI.L0.F:=fw (fk [.d iu,.d (.slice jG),.d ti] fun _=>by kernel_rfl)
theorem bI.L0.aF:oU @bI.L0.R bI.L0.st bI.L0.aq bI.L0.add bI.L0.F bI.L0.out bI.L0.Ok:=p9
theorem bI.L0.step{R:Type}(ch_2:fF)(t34:(List Dw))(t35:Int)(kn:AS→Option R)(kx:Exit→AS→Option R):bI.L0.R (ch_2,t34,t35) kn kx=
  aC ((gM t35 (2:Int))) (
   aC (dY t35 (2:Int)) (
   ab (cJ.call (nth jG t34 (Int.toNat t35))) fun x1=>
   aC ((!x1)) (
    kx (bI.L0.bM ()).1 (bI.L0.bM ()).2) (
    aC (dY t35 (2:Int)) (
    ab (cm.call (nth kU ch_2.2.2.1 (Int.toNat t35))) fun x2=>
    aC ((!x2)) (
     kx (bI.L0.bM ()).1 (bI.L0.bM ()).2) (
     kn (bI.L0.st (ch_2,t34,(bw .i64 t35 (1:Int)))))) none)) none) (
   kx (bI.L0.iG ch_2).1 (bI.L0.iG ch_2).2):=by kernel_rfl
theorem bI.eq{R:Type}(ch:fF)(k:aT→Option R):bI.A ch k=
  aC ((gM ch.2.1 (1:Int))) (
   k (bI.out (1:Int))) (
   aC ((na ch.2.1 (1125899906842624:Int))) (
    k (bI.out (1:Int))) (
    aC ((gM ch.1.2.1 (0:Int))) (
     k (bI.out (1:Int))) (
     aC ((kX ch.1.2.1 (64:Int))) (
      k (bI.out (1:Int))) (
      aC ((qS (ct .andNot .i64 ch.2.2.2.2.1 (1:Int)) (0:Int))) (
       k (bI.out (1:Int))) (
       ab (bI.L0.call (ch,ch.2.2.2.1,(0:Int))) fun x3=>
       aC (x3.isLeft) (
        ab (x3.getLeft?) fun a4=>
        k (bI.out (1:Int))) (
        ab (x3.getRight?) fun b5=>
        ab (fG.call ((nth jG b5.2.2.2.1 0).2.1,(nth jG b5.2.2.2.1 1).2.1)) fun x6=>
        aC ((!x6.2)) (
         k (bI.out (10:Int))) (
         aC ((na x6.1 b5.2.1)) (
          k (bI.out (10:Int))) (
          k (bI.out (0:Int)))))))))):=by kernel_rfl
theorem bI.L0.ok:bI.L0.Ok:=by
 refine bI.L0.aF (fun(_,_,i)=>(2 - i).toNat) ?_
 rintro⟨ch,l,i⟩ ⟨⟨a,b0,b1,o,rfl,ha,ha2,g0,g1,ho⟩,rfl,k,hk,rfl⟩
 have hk:k≤2:=hk
 have hg:jI (qd a b0 b1 o):=⟨a,b0,b1,o,rfl,ha,ha2,g0,g1,ho⟩
 by_cases h:k < 2
 ·left
  refine⟨(qd a b0 b1 o,[te 5,te 6],((k+1:Nat):Int)),⟨hg,rfl,k+1,by omega,rfl⟩,by show(2 - ((k+1:Nat):Int)).toNat < (2 - (k:Int)).toNat;omega,rfl,fun kn kx=> ?_⟩
  have ht:nth jG [te 5,te 6] k=te 5∨nth jG [te 5,te 6] k=te 6:=by
   obtain rfl | rfl:k=0∨k=1:=by omega
   ·exact .inl rfl
   ·exact .inr rfl
  have hb:GH (nth kU [b0,b1] k):=by
   obtain rfl | rfl:k=0∨k=1:=by omega
   ·exact g0
   ·exact g1
  rw[bI.L0.step,bB (by omega),ah,bz (by omega) (by omega),ah,Int.toNat_natCast]
  rw[cJ.run (d:=nth jG [te 5,te 6] k) ht]
  simp only[aa,cJ.add,cJ.F,Bool.not_true,ae,ah]
  simp only[qd]
  rw[cm.run (d:=nth kU [b0,b1] k) hb]
  simp only[aa,cm.add,cm.F,Bool.not_true,ae]
  rw[N.mC (by omega)]
 ·right
  obtain rfl:k=2:=by omega
  refine⟨bI.L0.iG (qd a b0 b1 o),rfl,fun kn kx=> ?_⟩
  rw[bI.L0.step,bm (by omega),ae]
theorem Fu{o:Int}(h:o=0∨o=1):qS (ct .andNot .i64 o 1) 0=false:=by
 rcases h with rfl | rfl
 ·decide
 ·decide
theorem bI.ok:bI.Ok:=by
 rintro ch hg
 obtain⟨a,b0,b1,o,rfl,ha,ha2,g0,g1,ho⟩:=id hg
 have hl:=bI.L0.run (d:=(qd a b0 b1 o,[te 5,te 6],0)) ⟨hg,rfl,0,by omega,rfl⟩
 rw[bI.eq]
 simp only[qd]at hl
 simp only[qd,aa]
 rw[bm (by omega),ae,cZ (by omega),ae,bm (by omega),ae,fx (by omega),ae,Fu ho,ae,hl]
 simp only[aa,bI.L0.add,bI.L0.F,Sum.isLeft_inr,ae,Sum.getRight?_inr]
 rw[fG.run (d:=((nth jG [te 5,te 6] 0).2.1,(nth jG [te 5,te 6] 1).2.1)) trivial]
 simp only[aa,fG.add,fG.F]
 rw[show(bif nN (nth jG [te 5,te 6] 0).2.1 (nth jG [te 5,te 6] 1).2.1 then(nth jG [te 5,te 6] 0).2.1+(nth jG [te 5,te 6] 1).2.1 else 0)=400 from rfl,show nN (nth jG [te 5,te 6] 0).2.1 (nth jG [te 5,te 6] 1).2.1=true from rfl,Bool.not_true,ae,cZ (by omega),ae]
 rfl
noncomputable def bI.E:=Entry.cF [some iu] bI.st bI.aq bI.add bI.F bI.out
noncomputable def bI.call:bI.D→Option bI.X:=bC bI.E bI.st
theorem bI.run:bD bI.call bI.aq bI.add bI.F:=cz (cv [.d iu] fun _=>by kernel_rfl)
noncomputable def bI.sg:SG Tryz.prog:=⟨91,aK,bI.E,.fn 1 (by kernel_rfl) bI.ok (And.intro (.cF bI.L0.ok (by kernel_rfl)) trivial)⟩
set_option synthInstance.maxSize 5000
abbrev df.D:=fE
def df.st:df.D→SA:=fun c=>([.d gr c],[])
abbrev df.Y:=Bool
abbrev df.X:=Bool
def df.out:df.X→aT:=fun x=>⟨.d .bool x,[],[]⟩
def df.add:df.D→df.Y→df.X:=fun c y=>y
def df.aq:df.D→Prop:=fun c=>fh c.2.2.2.1
def df.F:df.D→df.Y:=fun c=>yx c
noncomputable def df.G:dX:=eX (P:=Tryz.prog) [cg.sg,fB.sg]
noncomputable def df.an:ej:= {}
noncomputable def df.A:= @cq Tryz.prog df.G df.an 0 Tryz.f65 _ df.st
abbrev df.Ok:=cr @df.A df.aq df.add df.F df.out
theorem df.eq{R:Type}(c:fE)(k:aT→Option R):df.A c k=
  ab (cg.call c.2.2.2.1) fun x1=>
  aC (x1) (
   aC ((qS c.2.2.2.1 (1:Int))) (
    ab (fB.call (c.1,(0:Int),(1:Int))) fun x2=>
    aC (x2) (
     ab (fB.call (c.2.1,(1:Int),(1048576:Int))) fun x3=>
     aC (x3) (
      ab (fB.call (c.2.2.1,(1:Int),(1125899906842624:Int))) fun x4=>
      aC (x4) (
       ab (fB.call (c.2.2.2.2.1,(1:Int),(1048576:Int))) fun x5=>
       k (df.out x5)) (
       k (df.out false))) (
      k (df.out false))) (
     k (df.out false))) (
    k (df.out false))) (
   k (df.out false)):=by kernel_rfl
theorem df.ok:df.Ok:=by
 intro c hc
 rw[df.eq,cg.run (d:=c.2.2.2.1) hc]
 simp only[aa,fB.c,cg.add,cg.F,df.add,df.F,yx,wo]
 cases lf c.2.2.2.1 <;> cases qS c.2.2.2.1 1 <;> cases kC c.1 0 1 <;> cases kC c.2.1 1 1048576 <;> cases kC c.2.2.1 1 1125899906842624 <;> rfl
noncomputable def df.E:=Entry.cF [some gr] df.st df.aq df.add df.F df.out
noncomputable def df.call:df.D→Option df.X:=bC df.E df.st
theorem df.run:bD df.call df.aq df.add df.F:=cz (cv [.d gr] fun _=>by kernel_rfl)
noncomputable def df.sg:SG Tryz.prog:=⟨65,aK,df.E,.fn 0 (by kernel_rfl) df.ok trivial⟩
abbrev cn.D:=fE×fE
def cn.st:cn.D→SA:=fun(a,b)=>([.d gr a,.d gr b],[])
abbrev cn.Y:=Bool
abbrev cn.X:=Bool
def cn.out:cn.X→aT:=fun x=>⟨.d .bool x,[],[]⟩
def cn.add:cn.D→cn.Y→cn.X:=fun(a,b) y=>y
def cn.aq:cn.D→Prop:=fun _=>True
def cn.F:cn.D→cn.Y:=fun(a,b)=>sh a b
noncomputable def cn.G:dX:=eX (P:=Tryz.prog) []
noncomputable def cn.an:ej:= {}
noncomputable def cn.A:= @cq Tryz.prog cn.G cn.an 0 Tryz.f66 _ cn.st
abbrev cn.Ok:=cr @cn.A cn.aq cn.add cn.F cn.out
theorem cn.eq{R:Type}(a:fE)(b:fE)(k:aT→Option R):cn.A (a,b) k=
  aC ((gM a.1 b.1)) (
   k (cn.out true)) (
   aC ((ia a.1 b.1)) (
    k (cn.out (gM a.2.1 b.2.1))) (
    k (cn.out false))):=by kernel_rfl
theorem cn.ok:cn.Ok:=by
 rintro⟨a,b⟩ _
 rw[cn.eq]
 simp only[cn.add,cn.F,sh]
 by_cases h:a.1 < b.1
 ·rw[bB h,ah,aD (.inl h)]
 ·rw[bm h,ae]
  by_cases h2:a.1=b.1
  ·rw[eu h2,ah]
   by_cases h3:a.2.1 < b.2.1
   ·rw[bB h3,aD (.inr ⟨h2,h3⟩)]
   ·rw[bm h3,bN (by rintro(x | x);exact h x;exact h3 x.2)]
  ·rw[dR h2,ae,bN (by rintro(x | x);exact h x;exact h2 x.1)]
noncomputable def cn.E:=Entry.cF [some gr,some gr] cn.st cn.aq cn.add cn.F cn.out
noncomputable def cn.call:cn.D→Option cn.X:=bC cn.E cn.st
theorem cn.run:bD cn.call cn.aq cn.add cn.F:=cz (cv [.d gr,.d gr] fun _=>by kernel_rfl)
noncomputable def cn.sg:SG Tryz.prog:=⟨66,aK,cn.E,.fn 0 (by kernel_rfl) cn.ok trivial⟩
theorem cn.c(a b:fE):cn.call (a,b)=some (sh a b):=cn.run (d:=(a,b)) trivial
abbrev dy.D:=fF×fL
def dy.st:dy.D→SA:=fun(ch,sv)=>([.d iu ch,.d hZ sv],[])
abbrev dy.Y:=Int
abbrev dy.X:=Int
def dy.out:dy.X→aT:=fun x=>⟨.d ti x,[],[]⟩
def dy.add:dy.D→dy.Y→dy.X:=fun(ch,sv) y=>y
def dy.aq:dy.D→Prop:=fun _=>True
def dy.F:dy.D→dy.Y:=fun(_,s)=>tW s.2.2.2.1 s.2.2.1.length+660
noncomputable def dy.G:dX:=eX (P:=Tryz.prog) [eD.sg]
noncomputable def dy.an:ej:= {}
noncomputable def dy.A:= @cq Tryz.prog dy.G dy.an 0 Tryz.f69 _ dy.st
abbrev dy.Ok:=cr @dy.A dy.aq dy.add dy.F dy.out
theorem dy.eq{R:Type}(ch:fF)(sv:fL)(k:aT→Option R):dy.A (ch,sv) k=
 ab (eD.call (sv.2.2.2.1,(((List.length sv.2.2.1):Nat):Int))) fun x1=>
 k (dy.out (bw .i64 x1 (660:Int))):=by kernel_rfl
theorem dy.ok:dy.Ok:=by
 rintro⟨ch,s⟩ _
 rw[dy.eq,eD.run (d:=(s.2.2.2.1,(s.2.2.1.length:Int))) trivial]
 simp only[aa,eD.add,eD.F,dy.add,dy.F]
 have:=sw s.2.2.2.1 s.2.2.1.length
 rw[dL (by omega) (by omega)]
noncomputable def dy.E:=Entry.cF [some iu,some hZ] dy.st dy.aq dy.add dy.F dy.out
noncomputable def dy.call:dy.D→Option dy.X:=bC dy.E dy.st
theorem dy.run:bD dy.call dy.aq dy.add dy.F:=cz (cv [.d iu,.d hZ] fun _=>by kernel_rfl)
noncomputable def dy.sg:SG Tryz.prog:=⟨69,aK,dy.E,.fn 0 (by kernel_rfl) dy.ok trivial⟩
abbrev dN.D:=fF×fL
def dN.st:dN.D→SA:=fun(ch,sv)=>([.d iu ch,.d hZ sv],[])
abbrev dN.Y:=Int
abbrev dN.X:=Int
def dN.out:dN.X→aT:=fun x=>⟨.d ti x,[],[]⟩
def dN.add:dN.D→dN.Y→dN.X:=fun(ch,sv) y=>y
def dN.aq:dN.D→Prop:=fun _=>True
def dN.F:dN.D→dN.Y:=fun(_,s)=>tW s.2.2.2.1 s.2.2.1.length+660
noncomputable def dN.G:dX:=eX (P:=Tryz.prog) [ee.sg]
noncomputable def dN.an:ej:= {}
noncomputable def dN.A:= @cq Tryz.prog dN.G dN.an 0 Tryz.f97 _ dN.st
abbrev dN.Ok:=cr @dN.A dN.aq dN.add dN.F dN.out
theorem dN.eq{R:Type}(ch:fF)(sv:fL)(k:aT→Option R):dN.A (ch,sv) k=
 ab (ee.call (sv.2.2.2.1,(((List.length sv.2.2.1):Nat):Int))) fun x1=>
 k (dN.out (bw .i64 x1 (660:Int))):=by kernel_rfl
theorem dN.ok:dN.Ok:=by
 rintro⟨ch,s⟩ _
 rw[dN.eq,ee.run (d:=(s.2.2.2.1,(s.2.2.1.length:Int))) trivial]
 simp only[aa,ee.add,ee.F,dN.add,dN.F]
 have:=sw s.2.2.2.1 s.2.2.1.length
 rw[dL (by omega) (by omega)]
noncomputable def dN.E:=Entry.cF [some iu,some hZ] dN.st dN.aq dN.add dN.F dN.out
noncomputable def dN.call:dN.D→Option dN.X:=bC dN.E dN.st
theorem dN.run:bD dN.call dN.aq dN.add dN.F:=cz (cv [.d iu,.d hZ] fun _=>by kernel_rfl)
noncomputable def dN.sg:SG Tryz.prog:=⟨97,aK,dN.E,.fn 0 (by kernel_rfl) dN.ok trivial⟩
theorem ue{to:Int}(h:to=0∨to=1):bS .i64 1 to=1 - to:=fe (by omega) (by omega)
abbrev bK.L0.D:=Int×fL×Int×Int×Int
def bK.L0.st:bK.L0.D→AS:=fun(to_2,sv_2,n,sum,i)=>⟨([.undef,.d ti to_2,.eI hZ sv_2,.undef,.undef,.undef,.d ti n,.d ti sum,.d ti i]++bu 28 []),[],(List.replicate 37 [])⟩
abbrev bK.L0.Y0:=Int×Int
abbrev bK.L0.X0:=Int×Int
def bK.L0.bM:bK.L0.X0→Exit×AS:=fun x=>(.exit 0,⟨(bu 6 ([.d ti x.1,.d ti x.2]++bu 29 [])),[],(List.replicate 37 [])⟩)
abbrev bK.L0.X:=bK.L0.X0
abbrev bK.L0.Y:=bK.L0.Y0
def bK.L0.out:bK.L0.X→Out (Exit×AS):=fun x=> .ok (bK.L0.bM x)
def bK.L0.add:bK.L0.D→bK.L0.Y→bK.L0.X:=fun(to_2,sv_2,n,sum,i) y=>y
abbrev bK.D:=fL×Int
def bK.st:bK.D→SA:=fun(sv,to)=>([.d hZ sv,.d ti to],[])
abbrev bK.Y:=Int×Int
abbrev bK.X:=Int×Int
def bK.out:bK.X→aT:=fun x=>⟨.cons (.d ti x.1) (.cons (.d ti x.2) (.nil)),[],[]⟩
def bK.add:bK.D→bK.Y→bK.X:=fun(sv,to) y=>y
def bK.L0.aq:bK.L0.D→Prop:=fun(to,sv,n,sum,i)=>(to=0∨to=1)∧(∀c∈sv.2.2.1,yz c)∧sv.2.2.1.length≤1000∧∃k:Nat,k≤sv.2.2.1.length∧i=k∧(0≤n∧n≤k)∧0≤sum∧sum≤1125899906842624*k
def bK.L0.F:bK.L0.D→bK.L0.Y:=fun(to,sv,n,sum,i)=>(n+(im to (sv.2.2.1.drop i.toNat)).length,sum+fQ (im to (sv.2.2.1.drop i.toNat)))
def bK.aq:bK.D→Prop:=fun(s,to)=>(to=0∨to=1)∧(∀c∈s.2.2.1,yz c)∧s.2.2.1.length≤1000
def bK.F:bK.D→bK.Y:=fun(s,to)=>(((im to s.2.2.1).length:Nat),fQ (im to s.2.2.1))
noncomputable def bK.G:dX:=eX (P:=Tryz.prog) []
noncomputable def bK.L0.E:=cf.cF bK.L0.st bK.L0.aq bK.L0.add bK.L0.F bK.L0.out
noncomputable def bK.L0.call:bK.L0.D→Option bK.L0.X:=dO bK.L0.E bK.L0.st
noncomputable def bK.an:ej:= {loops:=ky [(4,{bt:=[1,2,6,7,8]})],outs:=kr [(4,{bt:=[6,7]},{bt:=[4,5]})],gk:=kY [(4,bK.L0.E)]}
noncomputable def bK.A:= @cq Tryz.prog bK.G bK.an 0 Tryz.f67 _ bK.st
abbrev bK.Ok:=cr @bK.A bK.aq bK.add bK.F bK.out
noncomputable def bK.L0.R:= @cP Tryz.prog bK.G bK.an 0 Tryz.f67 0 _ bK.L0.st
abbrev bK.L0.Ok:=fg Tryz.prog bK.G bK.an 0 Tryz.f67 0 bK.L0.st bK.L0.aq bK.L0.add bK.L0.F bK.L0.out
theorem bK.L0.run:bD bK.L0.call bK.L0.aq bK.L0.add bK.L0.F:=fw (fk [.d ti,.d hZ,.d ti,.d ti,.d ti] fun _=>by kernel_rfl)
theorem bK.L0.aF:gg @bK.L0.R bK.L0.st bK.L0.aq bK.L0.add bK.L0.F bK.L0.bM bK.L0.Ok:=gj
theorem bK.L0.step{R:Type}(to_2:Int)(sv_2:fL)(n:Int)(sum:Int)(i:Int)(kn:AS→Option R)(kx:Exit→AS→Option R):bK.L0.R (to_2,sv_2,n,sum,i) kn kx=
  aC ((gM i (((List.length sv_2.2.2.1):Nat):Int))) (
   aC (dY i (((List.length sv_2.2.2.1):Nat):Int)) (
   aC ((ia (nth gr sv_2.2.2.1 (Int.toNat i)).1 (bS .i64 (1:Int) to_2))) (
    aC (dY i (((List.length sv_2.2.2.1):Nat):Int)) (
    kn (bK.L0.st (to_2,sv_2,(bw .i64 n (1:Int)),(bw .i64 sum (nth gr sv_2.2.2.1 (Int.toNat i)).2.2.1),(bw .i64 i (1:Int))))) none) (
    kn (bK.L0.st (to_2,sv_2,n,sum,(bw .i64 i (1:Int)))))) none) (
   kx (bK.L0.bM (n,sum)).1 (bK.L0.bM (n,sum)).2):=by kernel_rfl
theorem bK.eq{R:Type}(sv:fL)(to:Int)(k:aT→Option R):bK.A (sv,to) k=
 ab (bK.L0.call (to,sv,(0:Int),(0:Int),(0:Int))) fun x1=>
 k (bK.out (x1.1,x1.2)):=by kernel_rfl
theorem bK.L0.ok:bK.L0.Ok:=by
 refine bK.L0.aF (fun(to,sv,n,sum,i)=>sv.2.2.1.length - i.toNat) ?_
 rintro⟨to,sv,n,sum,i⟩ ⟨hto,hc,hl,k,hk,rfl,hn,hs0,hs1⟩
 have hk:k≤sv.2.2.1.length:=hk
 have hl:sv.2.2.1.length≤1000:=hl
 have hto:to=0∨to=1:=hto
 have hn:0≤n∧n≤k:=hn
 have hs0:0≤sum:=hs0
 have hs1:sum≤1125899906842624*k:=hs1
 by_cases h:k < sv.2.2.1.length
 ·left
  have hx:0≤sv.2.2.1[k].2.2.1∧sv.2.2.1[k].2.2.1≤1125899906842624:=hc _ (List.getElem_mem h)
  have n1:nth gr sv.2.2.1 k=sv.2.2.1[k]:=dT (t:=gr) h
  have hd:=sS to sv.2.2.1[k] (sv.2.2.1.drop (k+1))
  rw[←List.drop_eq_getElem_cons h]at hd
  by_cases hq:sv.2.2.1[k].1=1 - to
  ·refine⟨(to,sv,n+1,sum+sv.2.2.1[k].2.2.1,((k+1:Nat):Int)),⟨hto,hc,hl,k+1,by omega,rfl,by omega,by omega,by omega⟩,by simp only[Int.toNat_natCast];omega,?_,fun kn kx=> ?_⟩
   ·rw[eu hq,if_pos rfl]at hd
    simp only[bK.L0.add,bK.L0.F,Int.toNat_natCast,hd,List.length_cons,fQ]
    rw[show n+1+((im to (sv.2.2.1.drop (k+1))).length:Int)=n+(((im to (sv.2.2.1.drop (k+1))).length+1:Nat):Int) by omega,Int.add_assoc]
   ·rw[bK.L0.step,bB (by omega),bz (by omega) (by omega),Int.toNat_natCast,n1,ue hto,eu hq,N.mC (by omega),dL (by omega) (by omega),dL (by omega) (by omega)]
    simp only[ah]
  ·refine⟨(to,sv,n,sum,((k+1:Nat):Int)),⟨hto,hc,hl,k+1,by omega,rfl,by omega,by omega,by omega⟩,by simp only[Int.toNat_natCast];omega,?_,fun kn kx=> ?_⟩
   ·rw[dR hq,if_neg (by simp)]at hd
    simp only[bK.L0.add,bK.L0.F,Int.toNat_natCast,hd]
   ·rw[bK.L0.step,bB (by omega),bz (by omega) (by omega),Int.toNat_natCast,n1,ue hto,dR hq,N.mC (by omega)]
    simp only[ah,ae]
 ·right
  obtain rfl:k=sv.2.2.1.length:=by omega
  intro R kn kx
  rw[bK.L0.step,bm (by omega),ae]
  simp only[bK.L0.add,bK.L0.F,Int.toNat_natCast,List.drop_length,im,List.filter_nil,List.length_nil,fQ,Int.add_zero]
  rw[show(n+((0:Nat):Int))=n by omega]
theorem bK.ok:bK.Ok:=by
 rintro⟨s,to⟩ ⟨hto,hc,hl⟩
 rw[bK.eq,bK.L0.run (d:=(to,s,0,0,0)) ⟨hto,hc,hl,0,Nat.zero_le _,rfl,⟨by decide,by decide⟩,by decide,by decide⟩]
 simp only[aa,bK.L0.add,bK.L0.F,Int.toNat_zero,List.drop_zero,Int.zero_add,bK.add,bK.F]
noncomputable def bK.E:=Entry.cF [some hZ,some ti] bK.st bK.aq bK.add bK.F bK.out
noncomputable def bK.call:bK.D→Option bK.X:=bC bK.E bK.st
theorem bK.run:bD bK.call bK.aq bK.add bK.F:=cz (cv [.d hZ,.d ti] fun _=>by kernel_rfl)
noncomputable def bK.sg:SG Tryz.prog:=⟨67,aK,bK.E,.fn 1 (by kernel_rfl) bK.ok (And.intro (.cF bK.L0.ok (by kernel_rfl)) trivial)⟩
abbrev bO.L0.D:=Int×Int×Int×(List fE)×Int×Int
def bO.L0.st:bO.L0.D→AS:=fun(to_2,n,sum,t11,t12,t13)=>⟨([.undef,.d ti to_2]++bu 4 ([.d ti n,.d ti sum,.undef,.undef,.undef,.d (.slice gr) t11,.d ti t12,.d ti t13]++bu 17 [])),[],(List.replicate 31 [])⟩
abbrev bO.L0.Y0:=Int×Int
abbrev bO.L0.X0:=Int×Int
def bO.L0.bM:bO.L0.X0→Exit×AS:=fun x=>(.exit 0,⟨(bu 6 ([.d ti x.1,.d ti x.2]++bu 23 [])),[],(List.replicate 31 [])⟩)
abbrev bO.L0.X:=bO.L0.X0
abbrev bO.L0.Y:=bO.L0.Y0
def bO.L0.out:bO.L0.X→Out (Exit×AS):=fun x=> .ok (bO.L0.bM x)
def bO.L0.add:bO.L0.D→bO.L0.Y→bO.L0.X:=fun(to_2,n,sum,t11,t12,t13) y=>y
abbrev bO.D:=fL×Int
def bO.st:bO.D→SA:=fun(sv,to)=>([.d hZ sv,.d ti to],[])
abbrev bO.Y:=Int×Int
abbrev bO.X:=Int×Int
def bO.out:bO.X→aT:=fun x=>⟨.cons (.d ti x.1) (.cons (.d ti x.2) (.nil)),[],[]⟩
def bO.add:bO.D→bO.Y→bO.X:=fun(sv,to) y=>y
def bO.L0.aq:bO.L0.D→Prop:=fun(to,n,sum,l,m,i)=>(to=0∨to=1)∧(∀c∈l,yz c)∧l.length≤1000∧m=l.length∧∃k:Nat,k≤l.length∧i=k∧(0≤n∧n≤k)∧0≤sum∧sum≤1125899906842624*k
def bO.L0.F:bO.L0.D→bO.L0.Y:=fun(to,n,sum,l,m,i)=>(n+(im to (l.drop i.toNat)).length,sum+fQ (im to (l.drop i.toNat)))
def bO.aq:bO.D→Prop:=fun(s,to)=>(to=0∨to=1)∧(∀c∈s.2.2.1,yz c)∧s.2.2.1.length≤1000
def bO.F:bO.D→bO.Y:=fun(s,to)=>(((im to s.2.2.1).length:Nat),fQ (im to s.2.2.1))
noncomputable def bO.G:dX:=eX (P:=Tryz.prog) []
noncomputable def bO.L0.E:=cf.cF bO.L0.st bO.L0.aq bO.L0.add bO.L0.F bO.L0.out
noncomputable def bO.L0.call:bO.L0.D→Option bO.L0.X:=dO bO.L0.E bO.L0.st
noncomputable def bO.an:ej:= {loops:=ky [(3,{bt:=[1,6,7,11,12,13]})],outs:=kr [(3,{bt:=[6,7]},{bt:=[4,5]})],gk:=kY [(3,bO.L0.E)]}
noncomputable def bO.A:= @cq Tryz.prog bO.G bO.an 0 Tryz.f95 _ bO.st
abbrev bO.Ok:=cr @bO.A bO.aq bO.add bO.F bO.out
noncomputable def bO.L0.R:= @cP Tryz.prog bO.G bO.an 0 Tryz.f95 0 _ bO.L0.st
abbrev bO.L0.Ok:=fg Tryz.prog bO.G bO.an 0 Tryz.f95 0 bO.L0.st bO.L0.aq bO.L0.add bO.L0.F bO.L0.out
theorem bO.L0.run:bD bO.L0.call bO.L0.aq bO.L0.add bO.L0.F:=fw (fk [.d ti,.d ti,.d ti,.d (.slice gr),.d ti,.d ti] fun _=>by kernel_rfl)
theorem bO.L0.aF:gg @bO.L0.R bO.L0.st bO.L0.aq bO.L0.add bO.L0.F bO.L0.bM bO.L0.Ok:=gj
theorem bO.L0.step{R:Type}(to_2:Int)(n:Int)(sum:Int)(t11:(List fE))(t12:Int)(t13:Int)(kn:AS→Option R)(kx:Exit→AS→Option R):bO.L0.R (to_2,n,sum,t11,t12,t13) kn kx=
  aC ((gM t13 t12)) (
   aC (dY t13 (((List.length t11):Nat):Int)) (
   aC ((ia (nth gr t11 (Int.toNat t13)).1 (bS .i64 (1:Int) to_2))) (
    kn (bO.L0.st (to_2,(bw .i64 n (1:Int)),(bw .i64 sum (nth gr t11 (Int.toNat t13)).2.2.1),t11,t12,(bw .i64 t13 (1:Int))))) (
    kn (bO.L0.st (to_2,n,sum,t11,t12,(bw .i64 t13 (1:Int)))))) none) (
   kx (bO.L0.bM (n,sum)).1 (bO.L0.bM (n,sum)).2):=by kernel_rfl
theorem bO.eq{R:Type}(sv:fL)(to:Int)(k:aT→Option R):bO.A (sv,to) k=
 ab (bO.L0.call (to,(0:Int),(0:Int),sv.2.2.1,(((List.length sv.2.2.1):Nat):Int),(0:Int))) fun x1=>
 k (bO.out (x1.1,x1.2)):=by kernel_rfl
theorem bO.L0.ok:bO.L0.Ok:=by
 refine bO.L0.aF (fun(to,n,sum,l,m,i)=>l.length - i.toNat) ?_
 rintro⟨to,n,sum,l,m,i⟩ ⟨hto,hc,hl,rfl,k,hk,rfl,hn,hs0,hs1⟩
 have hk:k≤l.length:=hk
 have hl:l.length≤1000:=hl
 have hto:to=0∨to=1:=hto
 have hn:0≤n∧n≤k:=hn
 have hs0:0≤sum:=hs0
 have hs1:sum≤1125899906842624*k:=hs1
 by_cases h:k < l.length
 ·left
  have hx:0≤l[k].2.2.1∧l[k].2.2.1≤1125899906842624:=hc _ (List.getElem_mem h)
  have n1:nth gr l k=l[k]:=dT (t:=gr) h
  have hd:=sS to l[k] (l.drop (k+1))
  rw[←List.drop_eq_getElem_cons h]at hd
  by_cases hq:l[k].1=1 - to
  ·refine⟨(to,n+1,sum+l[k].2.2.1,l,(l.length:Int),((k+1:Nat):Int)),⟨hto,hc,hl,rfl,k+1,by omega,rfl,by omega,by omega,by omega⟩,by simp only[Int.toNat_natCast];omega,?_,fun kn kx=> ?_⟩
   ·rw[eu hq,if_pos rfl]at hd
    simp only[bO.L0.add,bO.L0.F,Int.toNat_natCast,hd,List.length_cons,fQ]
    rw[show n+1+((im to (l.drop (k+1))).length:Int)=n+(((im to (l.drop (k+1))).length+1:Nat):Int) by omega,Int.add_assoc]
   ·rw[bO.L0.step,bB (by omega),bz (by omega) (by omega),Int.toNat_natCast,n1,ue hto,eu hq,N.mC (by omega),dL (by omega) (by omega),dL (by omega) (by omega)]
    simp only[ah]
  ·refine⟨(to,n,sum,l,(l.length:Int),((k+1:Nat):Int)),⟨hto,hc,hl,rfl,k+1,by omega,rfl,by omega,by omega,by omega⟩,by simp only[Int.toNat_natCast];omega,?_,fun kn kx=> ?_⟩
   ·rw[dR hq,if_neg (by simp)]at hd
    simp only[bO.L0.add,bO.L0.F,Int.toNat_natCast,hd]
   ·rw[bO.L0.step,bB (by omega),bz (by omega) (by omega),Int.toNat_natCast,n1,ue hto,dR hq,N.mC (by omega)]
    simp only[ah,ae]
 ·right
  obtain rfl:k=l.length:=by omega
  intro R kn kx
  rw[bO.L0.step,bm (by omega),ae]
  simp only[bO.L0.add,bO.L0.F,Int.toNat_natCast,List.drop_length,im,List.filter_nil,List.length_nil,fQ,Int.add_zero]
  rw[show(n+((0:Nat):Int))=n by omega]
theorem bO.ok:bO.Ok:=by
 rintro⟨s,to⟩ ⟨hto,hc,hl⟩
 rw[bO.eq,bO.L0.run (d:=(to,0,0,s.2.2.1,(s.2.2.1.length:Int),0)) ⟨hto,hc,hl,rfl,0,Nat.zero_le _,rfl,⟨by decide,by decide⟩,by decide,by decide⟩]
 simp only[aa,bO.L0.add,bO.L0.F,Int.toNat_zero,List.drop_zero,Int.zero_add,bO.add,bO.F]
noncomputable def bO.E:=Entry.cF [some hZ,some ti] bO.st bO.aq bO.add bO.F bO.out
noncomputable def bO.call:bO.D→Option bO.X:=bC bO.E bO.st
theorem bO.run:bD bO.call bO.aq bO.add bO.F:=cz (cv [.d hZ,.d ti] fun _=>by kernel_rfl)
noncomputable def bO.sg:SG Tryz.prog:=⟨95,aK,bO.E,.fn 1 (by kernel_rfl) bO.ok (And.intro (.cF bO.L0.ok (by kernel_rfl)) trivial)⟩
abbrev bV.L0.D:=fL×Int×Int
def bV.L0.st:bV.L0.D→AS:=fun(sv_2,sum,i)=>⟨([.undef,.eI hZ sv_2,.undef,.d ti sum,.d ti i]++bu 23 []),[],(List.replicate 28 [])⟩
abbrev bV.L0.Y0:=Int
abbrev bV.L0.X0:=Int
def bV.L0.bM:bV.L0.X0→Exit×AS:=fun x=>(.exit 0,⟨([.undef,.undef,.undef,.d ti x]++bu 24 []),[],(List.replicate 28 [])⟩)
abbrev bV.L0.X:=bV.L0.X0
abbrev bV.L0.Y:=bV.L0.Y0
def bV.L0.out:bV.L0.X→Out (Exit×AS):=fun x=> .ok (bV.L0.bM x)
def bV.L0.add:bV.L0.D→bV.L0.Y→bV.L0.X:=fun(sv_2,sum,i) y=>y
abbrev bV.D:=fL
def bV.st:bV.D→SA:=fun sv=>([.d hZ sv],[])
abbrev bV.Y:=Int
abbrev bV.X:=Int
def bV.out:bV.X→aT:=fun x=>⟨.d ti x,[],[]⟩
def bV.add:bV.D→bV.Y→bV.X:=fun sv y=>y
def bV.L0.aq:bV.L0.D→Prop:=fun(sv,sum,i)=>(∀c∈sv.2.2.1,yz c)∧sv.2.2.1.length≤1000∧∃k:Nat,k≤sv.2.2.1.length∧i=k∧0≤sum∧sum≤2251799813685248+1125899906842624*k
def bV.L0.F:bV.L0.D→bV.L0.Y:=fun(sv,sum,i)=>sum+fQ (sv.2.2.1.drop i.toNat)
def bV.aq:bV.D→Prop:=fun s=>(∀c∈s.2.2.1,yz c)∧s.2.2.1.length≤1000∧Bd (nth ti s.2.1 0) 0 1125899906842624∧Bd (nth ti s.2.1 1) 0 1125899906842624
def bV.F:bV.D→bV.Y:=fun s=>nth ti s.2.1 0+nth ti s.2.1 1+fQ s.2.2.1
noncomputable def bV.G:dX:=eX (P:=Tryz.prog) []
noncomputable def bV.L0.E:=cf.cF bV.L0.st bV.L0.aq bV.L0.add bV.L0.F bV.L0.out
noncomputable def bV.L0.call:bV.L0.D→Option bV.L0.X:=dO bV.L0.E bV.L0.st
noncomputable def bV.an:ej:= {loops:=ky [(3,{bt:=[1,3,4]})],outs:=kr [(3,{bt:=[3]},{bt:=[2]})],gk:=kY [(3,bV.L0.E)]}
noncomputable def bV.A:= @cq Tryz.prog bV.G bV.an 0 Tryz.f68 _ bV.st
abbrev bV.Ok:=cr @bV.A bV.aq bV.add bV.F bV.out
noncomputable def bV.L0.R:= @cP Tryz.prog bV.G bV.an 0 Tryz.f68 0 _ bV.L0.st
abbrev bV.L0.Ok:=fg Tryz.prog bV.G bV.an 0 Tryz.f68 0 bV.L0.st bV.L0.aq bV.L0.add bV.L0.F bV.L0.out
theorem bV.L0.run:bD bV.L0.call bV.L0.aq bV.L0.add bV.L0.F:=fw (fk [.d hZ,.d ti,.d ti] fun _=>by kernel_rfl)
theorem bV.L0.aF:gg @bV.L0.R bV.L0.st bV.L0.aq bV.L0.add bV.L0.F bV.L0.bM bV.L0.Ok:=gj
theorem bV.L0.step{R:Type}(sv_2:fL)(sum:Int)(i:Int)(kn:AS→Option R)(kx:Exit→AS→Option R):bV.L0.R (sv_2,sum,i) kn kx=
  aC ((gM i (((List.length sv_2.2.2.1):Nat):Int))) (
   aC (dY i (((List.length sv_2.2.2.1):Nat):Int)) (
   kn (bV.L0.st (sv_2,(bw .i64 sum (nth gr sv_2.2.2.1 (Int.toNat i)).2.2.1),(bw .i64 i (1:Int))))) none) (
   kx (bV.L0.bM sum).1 (bV.L0.bM sum).2):=by kernel_rfl
theorem bV.eq{R:Type}(sv:fL)(k:aT→Option R):bV.A sv k=
 ab (bV.L0.call (sv,(bw .i64 (nth ti sv.2.1 0) (nth ti sv.2.1 1)),(0:Int))) fun x1=>
 k (bV.out x1):=by kernel_rfl
theorem bV.L0.ok:bV.L0.Ok:=by
 refine bV.L0.aF (fun(sv,sum,i)=>sv.2.2.1.length - i.toNat) ?_
 rintro⟨sv,sum,i⟩ ⟨hc,hl,k,hk,rfl,hs0,hs1⟩
 have hk:k≤sv.2.2.1.length:=hk
 have hl:sv.2.2.1.length≤1000:=hl
 have hs0:0≤sum:=hs0
 have hs1:sum≤2251799813685248+1125899906842624*k:=hs1
 by_cases h:k < sv.2.2.1.length
 ·left
  have hx:0≤sv.2.2.1[k].2.2.1∧sv.2.2.1[k].2.2.1≤1125899906842624:=hc _ (List.getElem_mem h)
  have n1:nth gr sv.2.2.1 k=sv.2.2.1[k]:=dT (t:=gr) h
  refine⟨(sv,sum+sv.2.2.1[k].2.2.1,((k+1:Nat):Int)),⟨hc,hl,k+1,by omega,rfl,by omega,by omega⟩,by simp only[Int.toNat_natCast];omega,?_,fun kn kx=> ?_⟩
  ·simp only[bV.L0.add,bV.L0.F,Int.toNat_natCast]
   rw[List.drop_eq_getElem_cons h,fQ,Int.add_assoc]
  ·rw[bV.L0.step,bB (by omega),bz (by omega) (by omega),Int.toNat_natCast,n1,N.mC (by omega),dL (by omega) (by omega)]
   simp only[ah]
 ·right
  obtain rfl:k=sv.2.2.1.length:=by omega
  intro R kn kx
  rw[bV.L0.step,bm (by omega),ae]
  simp only[bV.L0.add,bV.L0.F,Int.toNat_natCast,List.drop_length,fQ,Int.add_zero]
theorem bV.ok:bV.Ok:=by
 rintro s ⟨hc,hl,h0,h1⟩
 have h00:=h0.1
 have h01:=h0.2
 have h10:=h1.1
 have h11:=h1.2
 rw[bV.eq,dL (by omega) (by omega),bV.L0.run (d:=(s,nth ti s.2.1 0+nth ti s.2.1 1,0)) ⟨hc,hl,0,Nat.zero_le _,rfl,by omega,by omega⟩]
 simp only[aa,bV.L0.add,bV.L0.F,Int.toNat_zero,List.drop_zero,bV.add,bV.F]
noncomputable def bV.E:=Entry.cF [some hZ] bV.st bV.aq bV.add bV.F bV.out
noncomputable def bV.call:bV.D→Option bV.X:=bC bV.E bV.st
theorem bV.run:bD bV.call bV.aq bV.add bV.F:=cz (cv [.d hZ] fun _=>by kernel_rfl)
noncomputable def bV.sg:SG Tryz.prog:=⟨68,aK,bV.E,.fn 1 (by kernel_rfl) bV.ok (And.intro (.cF bV.L0.ok (by kernel_rfl)) trivial)⟩
abbrev aW.L0.D:=Int×(List fE)×Int×Int
def aW.L0.st:aW.L0.D→AS:=fun(sum,t14,t15,t16)=>⟨([.undef,.undef,.undef,.d ti sum]++bu 10 ([.d (.slice gr) t14,.d ti t15,.d ti t16]++bu 9 [])),[],(List.replicate 26 [])⟩
abbrev aW.L0.Y0:=Int
abbrev aW.L0.X0:=Int
def aW.L0.bM:aW.L0.X0→Exit×AS:=fun x=>(.exit 0,⟨([.undef,.undef,.undef,.d ti x]++bu 22 []),[],(List.replicate 26 [])⟩)
abbrev aW.L0.X:=aW.L0.X0
abbrev aW.L0.Y:=aW.L0.Y0
def aW.L0.out:aW.L0.X→Out (Exit×AS):=fun x=> .ok (aW.L0.bM x)
def aW.L0.add:aW.L0.D→aW.L0.Y→aW.L0.X:=fun(sum,t14,t15,t16) y=>y
abbrev aW.D:=fL
def aW.st:aW.D→SA:=fun sv=>([.d hZ sv],[])
abbrev aW.Y:=Int
abbrev aW.X:=Int
def aW.out:aW.X→aT:=fun x=>⟨.d ti x,[],[]⟩
def aW.add:aW.D→aW.Y→aW.X:=fun sv y=>y
def aW.L0.aq:aW.L0.D→Prop:=fun(sum,l,m,i)=>(∀c∈l,yz c)∧l.length≤1000∧m=l.length∧∃k:Nat,k≤l.length∧i=k∧0≤sum∧sum≤2251799813685248+1125899906842624*k
def aW.L0.F:aW.L0.D→aW.L0.Y:=fun(sum,l,m,i)=>sum+fQ (l.drop i.toNat)
def aW.aq:aW.D→Prop:=fun s=>(∀c∈s.2.2.1,yz c)∧s.2.2.1.length≤1000∧Bd (nth ti s.2.1 0) 0 1125899906842624∧Bd (nth ti s.2.1 1) 0 1125899906842624
def aW.F:aW.D→aW.Y:=fun s=>nth ti s.2.1 0+nth ti s.2.1 1+fQ s.2.2.1
noncomputable def aW.G:dX:=eX (P:=Tryz.prog) []
noncomputable def aW.L0.E:=cf.cF aW.L0.st aW.L0.aq aW.L0.add aW.L0.F aW.L0.out
noncomputable def aW.L0.call:aW.L0.D→Option aW.L0.X:=dO aW.L0.E aW.L0.st
noncomputable def aW.an:ej:= {loops:=ky [(3,{bt:=[3,14,15,16]})],outs:=kr [(3,{bt:=[3]},{bt:=[2]})],gk:=kY [(3,aW.L0.E)]}
noncomputable def aW.A:= @cq Tryz.prog aW.G aW.an 0 Tryz.f96 _ aW.st
abbrev aW.Ok:=cr @aW.A aW.aq aW.add aW.F aW.out
noncomputable def aW.L0.R:= @cP Tryz.prog aW.G aW.an 0 Tryz.f96 0 _ aW.L0.st
abbrev aW.L0.Ok:=fg Tryz.prog aW.G aW.an 0 Tryz.f96 0 aW.L0.st aW.L0.aq aW.L0.add aW.L0.F aW.L0.out
theorem aW.L0.run:bD aW.L0.call aW.L0.aq aW.L0.add aW.L0.F:=fw (fk [.d ti,.d (.slice gr),.d ti,.d ti] fun _=>by kernel_rfl)
theorem aW.L0.aF:gg @aW.L0.R aW.L0.st aW.L0.aq aW.L0.add aW.L0.F aW.L0.bM aW.L0.Ok:=gj
theorem aW.L0.step{R:Type}(sum:Int)(t14:(List fE))(t15:Int)(t16:Int)(kn:AS→Option R)(kx:Exit→AS→Option R):aW.L0.R (sum,t14,t15,t16) kn kx=
  aC ((gM t16 t15)) (
   aC (dY t16 (((List.length t14):Nat):Int)) (
   kn (aW.L0.st ((bw .i64 sum (nth gr t14 (Int.toNat t16)).2.2.1),t14,t15,(bw .i64 t16 (1:Int))))) none) (
   kx (aW.L0.bM sum).1 (aW.L0.bM sum).2):=by kernel_rfl
theorem aW.eq{R:Type}(sv:fL)(k:aT→Option R):aW.A sv k=
 ab (aW.L0.call ((bw .i64 (nth ti sv.2.1 0) (nth ti sv.2.1 1)),sv.2.2.1,(((List.length sv.2.2.1):Nat):Int),(0:Int))) fun x1=>
 k (aW.out x1):=by kernel_rfl
theorem aW.L0.ok:aW.L0.Ok:=by
 refine aW.L0.aF (fun(sum,l,m,i)=>l.length - i.toNat) ?_
 rintro⟨sum,l,m,i⟩ ⟨hc,hl,rfl,k,hk,rfl,hs0,hs1⟩
 have hk:k≤l.length:=hk
 have hl:l.length≤1000:=hl
 have hs0:0≤sum:=hs0
 have hs1:sum≤2251799813685248+1125899906842624*k:=hs1
 by_cases h:k < l.length
 ·left
  have hx:0≤l[k].2.2.1∧l[k].2.2.1≤1125899906842624:=hc _ (List.getElem_mem h)
  have n1:nth gr l k=l[k]:=dT (t:=gr) h
  refine⟨(sum+l[k].2.2.1,l,(l.length:Int),((k+1:Nat):Int)),⟨hc,hl,rfl,k+1,by omega,rfl,by omega,by omega⟩,by simp only[Int.toNat_natCast];omega,?_,fun kn kx=> ?_⟩
  ·simp only[aW.L0.add,aW.L0.F,Int.toNat_natCast]
   rw[List.drop_eq_getElem_cons h,fQ,Int.add_assoc]
  ·rw[aW.L0.step,bB (by omega),bz (by omega) (by omega),Int.toNat_natCast,n1,N.mC (by omega),dL (by omega) (by omega)]
   simp only[ah]
 ·right
  obtain rfl:k=l.length:=by omega
  intro R kn kx
  rw[aW.L0.step,bm (by omega),ae]
  simp only[aW.L0.add,aW.L0.F,Int.toNat_natCast,List.drop_length,fQ,Int.add_zero]
theorem aW.ok:aW.Ok:=by
 rintro s ⟨hc,hl,h0,h1⟩
 have h00:=h0.1
 have h01:=h0.2
 have h10:=h1.1
 have h11:=h1.2
 rw[aW.eq,dL (by omega) (by omega),aW.L0.run (d:=(nth ti s.2.1 0+nth ti s.2.1 1,s.2.2.1,(s.2.2.1.length:Int),0)) ⟨hc,hl,rfl,0,Nat.zero_le _,rfl,by omega,by omega⟩]
 simp only[aa,aW.L0.add,aW.L0.F,Int.toNat_zero,List.drop_zero,aW.add,aW.F]
noncomputable def aW.E:=Entry.cF [some hZ] aW.st aW.aq aW.add aW.F aW.out
noncomputable def aW.call:aW.D→Option aW.X:=bC aW.E aW.st
theorem aW.run:bD aW.call aW.aq aW.add aW.F:=cz (cv [.d hZ] fun _=>by kernel_rfl)
noncomputable def aW.sg:SG Tryz.prog:=⟨96,aK,aW.E,.fn 1 (by kernel_rfl) aW.ok (And.intro (.cF aW.L0.ok (by kernel_rfl)) trivial)⟩
abbrev fZ.D:=Int×Int×Int
def fZ.st:fZ.D→SA:=fun(n,o0,o1)=>([.d ti n,.ptr (.dH 0) 0 [] 0,.ptr (.dH 1) 0 [] 0],[.obj 0 false (.d ti o0),.obj 0 false (.d ti o1)])
abbrev fZ.Y:=Bool
abbrev fZ.X:=(Int×Int)×(Bool)
def fZ.out:fZ.X→aT:=fun x=>⟨.d .bool x.2,[.obj 0 false (.d ti x.1.1),.obj 0 false (.d ti x.1.2)],[]⟩
def fZ.add:fZ.D→fZ.Y→fZ.X:=fun(n,o0,o1) y=>((o0,o1),y)
def fZ.aq:fZ.D→Prop:=fun _=>True
def fZ.F:fZ.D→fZ.Y:=fun(n,lo,hi)=> !kC n lo hi
noncomputable def fZ.G:dX:=eX (P:=Tryz.prog) []
noncomputable def fZ.an:ej:= {}
noncomputable def fZ.A:= @cq Tryz.prog fZ.G fZ.an 0 Tryz.f137 _ fZ.st
abbrev fZ.Ok:=cr @fZ.A fZ.aq fZ.add fZ.F fZ.out
theorem fZ.eq{R:Type}(n:Int)(o0:Int)(o1:Int)(k:aT→Option R):fZ.A (n,o0,o1) k=
  aC ((gM n o0)) (
   k (fZ.out ((o0,o1),true))) (
   k (fZ.out ((o0,o1),(na n o1)))):=by kernel_rfl
theorem fZ.ok:fZ.Ok:=by
 rintro⟨n,lo,hi⟩ _
 rw[fZ.eq]
 simp only[fZ.add,fZ.F]
 by_cases h:n < lo
 ·rw[bB h,ah,ja (by omega)];rfl
 ·rw[bm h,ae]
  by_cases h2:n > hi
  ·rw[dS h2,ja (by omega)];rfl
  ·rw[cZ h2,gJ (by omega) (by omega)];rfl
noncomputable def fZ.E:=Entry.cF [some ti,none,none] fZ.st fZ.aq fZ.add fZ.F fZ.out
noncomputable def fZ.call:fZ.D→Option fZ.X:=bC fZ.E fZ.st
theorem fZ.run:bD fZ.call fZ.aq fZ.add fZ.F:=cz (cv [.d ti,.d ti,.d ti] fun _=>by kernel_rfl)
noncomputable def fZ.sg:SG Tryz.prog:=⟨137,aK,fZ.E,.fn 0 (by kernel_rfl) fZ.ok trivial⟩
abbrev cK.L0.D:=(List Int)×Int×Int×Int×Int
def cK.L0.st:cK.L0.D→AS:=fun(sv_2,t7,t8,o0_2,o1_2)=>⟨([.d (.slice ti) sv_2,.fn 137 (.cons (.ptr (.dH 0) 0 [] 0) (.cons (.ptr (.dH 1) 0 [] 0) (.nil)))]++bu 5 ([.d ti t7,.d ti t8]++bu 10 [])),[.obj 0 false (.d ti o0_2),.obj 0 false (.d ti o1_2)],(List.replicate 19 [])⟩
abbrev cK.L0.Y0:=Int×Int×Int
abbrev cK.L0.X0:=Int×Int×Int
def cK.L0.bM:cK.L0.X0→Exit×AS:=fun x=>(.ret,⟨(bu 4 ([.d ti x.1]++bu 14 [])),[.obj 0 false (.d ti x.2.1),.obj 0 false (.d ti x.2.2)],(List.replicate 19 [])⟩)
abbrev cK.L0.Y1:=Int×Int
abbrev cK.L0.X1:=Int×Int
def cK.L0.iG:cK.L0.X1→Exit×AS:=fun x=>(.exit 0,⟨(bu 19 []),[.obj 0 false (.d ti x.1),.obj 0 false (.d ti x.2)],(List.replicate 19 [])⟩)
abbrev cK.L0.X:=(cK.L0.X0)⊕(cK.L0.X1)
abbrev cK.L0.Y:=(cK.L0.Y0)⊕(cK.L0.Y1)
def cK.L0.out:cK.L0.X→Out (Exit×AS):=fun x=> .br x.isLeft (.get x.getLeft? fun a=> .ok (cK.L0.bM a)) (.get x.getRight? fun b=> .ok (cK.L0.iG b))
def cK.L0.add:cK.L0.D→cK.L0.Y→cK.L0.X:=fun(sv_2,t7,t8,o0_2,o1_2) y=>match y with | .inl y=> .inl y | .inr z=> .inr (z)
abbrev cK.D:=(List Int)×Int×Int
def cK.st:cK.D→SA:=fun(sv,o0,o1)=>([.d (.slice ti) sv,.fn 137 (.cons (.ptr (.dH 0) 0 [] 0) (.cons (.ptr (.dH 1) 0 [] 0) (.nil)))],[.obj 0 false (.d ti o0),.obj 0 false (.d ti o1)])
abbrev cK.Y:=Int×Int×Int
abbrev cK.X:=Int×Int×Int
def cK.out:cK.X→aT:=fun x=>⟨.d ti x.1,[.obj 0 false (.d ti x.2.1),.obj 0 false (.d ti x.2.2)],[]⟩
def cK.add:cK.D→cK.Y→cK.X:=fun(sv,o0,o1) y=>y
def cK.L0.aq:cK.L0.D→Prop:=fun(l,n,i,lo,hi)=>l.length≤1000000000∧n=l.length∧∃k:Nat,k≤l.length∧i=k
def cK.L0.F:cK.L0.D→cK.L0.Y:=fun(l,n,i,lo,hi)=>match nB (fun x=> !kC x lo hi) (l.drop i.toNat) i with | .inl j=> .inl (j,lo,hi) | .inr _=> .inr (lo,hi)
def cK.aq:cK.D→Prop:=fun(l,_,_)=>l.length≤1000000000
def cK.F:cK.D→cK.Y:=fun(l,lo,hi)=>(v8 (fun x=> !kC x lo hi) l,lo,hi)
noncomputable def cK.G:dX:=eX (P:=Tryz.prog) [fZ.sg]
noncomputable def cK.L0.E:=cf.cF cK.L0.st cK.L0.aq cK.L0.add cK.L0.F cK.L0.out
noncomputable def cK.L0.call:cK.L0.D→Option cK.L0.X:=dO cK.L0.E cK.L0.st
noncomputable def cK.an:ej:= {loops:=ky [(2,{bt:=[0,1,7,8]})],outs:=kr [(2,{},{bt:=[4]})],gk:=kY [(2,cK.L0.E)]}
noncomputable def cK.A:= @cq Tryz.prog cK.G cK.an 0 Tryz.f170 _ cK.st
abbrev cK.Ok:=cr @cK.A cK.aq cK.add cK.F cK.out
noncomputable def cK.L0.R:= @cP Tryz.prog cK.G cK.an 0 Tryz.f170 0 _ cK.L0.st
abbrev cK.L0.Ok:=fg Tryz.prog cK.G cK.an 0 Tryz.f170 0 cK.L0.st cK.L0.aq cK.L0.add cK.L0.F cK.L0.out
theorem cK.L0.run:bD cK.L0.call cK.L0.aq cK.L0.add cK.L0.F:=fw (fk [.d (.slice ti),.d ti,.d ti,.d ti,.d ti] fun _=>by kernel_rfl)
theorem cK.L0.aF:oU @cK.L0.R cK.L0.st cK.L0.aq cK.L0.add cK.L0.F cK.L0.out cK.L0.Ok:=p9
theorem cK.L0.step{R:Type}(sv_2:(List Int))(t7:Int)(t8:Int)(o0_2:Int)(o1_2:Int)(kn:AS→Option R)(kx:Exit→AS→Option R):cK.L0.R (sv_2,t7,t8,o0_2,o1_2) kn kx=
  aC ((gM t8 t7)) (
   aC (dY t8 (((List.length sv_2):Nat):Int)) (
   ab (fZ.call ((nth ti sv_2 (Int.toNat t8)),o0_2,o1_2)) fun x1=>
   aC (x1.2) (
    kx (cK.L0.bM (t8,x1.1.1,x1.1.2)).1 (cK.L0.bM (t8,x1.1.1,x1.1.2)).2) (
    kn (cK.L0.st (sv_2,t7,(bw .i64 t8 (1:Int)),x1.1.1,x1.1.2)))) none) (
   kx (cK.L0.iG (o0_2,o1_2)).1 (cK.L0.iG (o0_2,o1_2)).2):=by kernel_rfl
theorem cK.eq{R:Type}(sv:(List Int))(o0:Int)(o1:Int)(k:aT→Option R):cK.A (sv,o0,o1) k=
  ab (cK.L0.call (sv,(((List.length sv):Nat):Int),(0:Int),o0,o1)) fun x2=>
  aC (x2.isLeft) (
   ab (x2.getLeft?) fun a3=>
   k (cK.out (a3.1,a3.2.1,a3.2.2))) (
   ab (x2.getRight?) fun b4=>
   k (cK.out ((-1:Int),b4.1,b4.2))):=by kernel_rfl
theorem fZ.c(n lo hi:Int):fZ.call (n,lo,hi)=some ((lo,hi),!kC n lo hi):=fZ.run (d:=(n,lo,hi)) trivial
theorem cK.L0.ok:cK.L0.Ok:=by
 refine cK.L0.aF (fun(l,n,i,lo,hi)=>l.length - i.toNat) ?_
 rintro⟨l,n,i,lo,hi⟩ ⟨hl,rfl,k,hk,rfl⟩
 have hl:l.length≤1000000000:=hl
 have hk:k≤l.length:=hk
 by_cases h:k < l.length
 ·have n1:nth ti l k=l[k]:=dT (t:=ti) h
  have hd:nB (fun x=> !kC x lo hi) (l.drop k) k=if(!kC l[k] lo hi)=true then .inl (k:Int) else nB (fun x=> !kC x lo hi) (l.drop (k+1)) ((k+1:Nat):Int):=by rw[List.drop_eq_getElem_cons h];rfl
  have step:∀ {R:Type} (kn:AS→Option R) (kx:Exit→AS→Option R),cK.L0.R (l,(l.length:Int),(k:Int),lo,hi) kn kx=aC (!kC l[k] lo hi) (kx (cK.L0.bM ((k:Int),lo,hi)).1 (cK.L0.bM ((k:Int),lo,hi)).2) (kn (cK.L0.st (l,(l.length:Int),((k+1:Nat):Int),lo,hi))):=by
   intro R kn kx
   rw[cK.L0.step,bB (by omega),bz (by omega) (by omega),Int.toNat_natCast,n1,fZ.c,N.mC (by omega)]
   rfl
  cases hp:kC l[k] lo hi
  ·right
   refine⟨cK.L0.bM ((k:Int),lo,hi),?_,fun kn kx=> ?_⟩
   ·simp only[cK.L0.add,cK.L0.F,Int.toNat_natCast,hd,hp,Bool.not_false,if_true]
    rfl
   ·rw[step,hp,Bool.not_false,ah]
  ·left
   refine⟨(l,l.length,((k+1:Nat):Int),lo,hi),⟨hl,rfl,k+1,by omega,rfl⟩,by simp only[Int.toNat_natCast];omega,?_,fun kn kx=> ?_⟩
   ·simp only[cK.L0.add,cK.L0.F,Int.toNat_natCast,hd,hp,Bool.not_true,Bool.false_eq_true,if_false]
   ·rw[step,hp,Bool.not_true,ae]
 ·right
  obtain rfl:k=l.length:=by omega
  refine⟨cK.L0.iG (lo,hi),?_,fun kn kx=> ?_⟩
  ·simp only[cK.L0.add,cK.L0.F,Int.toNat_natCast,List.drop_length]
   rfl
  ·rw[cK.L0.step,bm (by omega),ae]
theorem cK.ok:cK.Ok:=by
 rintro⟨l,lo,hi⟩ hl
 rw[cK.eq,cK.L0.run (d:=(l,l.length,0,lo,hi)) ⟨hl,rfl,0,Nat.zero_le _,rfl⟩]
 simp only[aa,cK.L0.add,cK.L0.F,Int.toNat_zero,List.drop_zero,cK.add,cK.F,v8]
 cases nB (fun x=> !kC x lo hi) l 0 <;> rfl
noncomputable def cK.E:=Entry.cF [some (.slice ti),none] cK.st cK.aq cK.add cK.F cK.out
noncomputable def cK.call:cK.D→Option cK.X:=bC cK.E cK.st
theorem cK.run:bD cK.call cK.aq cK.add cK.F:=cz (cv [.d (.slice ti),.d ti,.d ti] fun _=>by kernel_rfl)
noncomputable def cK.sg:SG Tryz.prog:=⟨170,aK,cK.E,.fn 1 (by kernel_rfl) cK.ok (And.intro (.cF cK.L0.ok (by kernel_rfl)) trivial)⟩
abbrev gh.D:=(List Int)×Int×Int
def gh.st:gh.D→SA:=fun(sv,o0,o1)=>([.d (.slice ti) sv,.fn 137 (.cons (.ptr (.dH 0) 0 [] 0) (.cons (.ptr (.dH 1) 0 [] 0) (.nil)))],[.obj 0 false (.d ti o0),.obj 0 false (.d ti o1)])
abbrev gh.Y:=Bool×Int×Int
abbrev gh.X:=Bool×Int×Int
def gh.out:gh.X→aT:=fun x=>⟨.d .bool x.1,[.obj 0 false (.d ti x.2.1),.obj 0 false (.d ti x.2.2)],[]⟩
def gh.add:gh.D→gh.Y→gh.X:=fun(sv,o0,o1) y=>y
def gh.aq:gh.D→Prop:=fun(l,_,_)=>l.length≤1000000000
def gh.F:gh.D→gh.Y:=fun(l,lo,hi)=>(l.any fun x=> !kC x lo hi,lo,hi)
noncomputable def gh.G:dX:=eX (P:=Tryz.prog) [cK.sg]
noncomputable def gh.an:ej:= {}
noncomputable def gh.A:= @cq Tryz.prog gh.G gh.an 0 Tryz.f136 _ gh.st
abbrev gh.Ok:=cr @gh.A gh.aq gh.add gh.F gh.out
theorem gh.eq{R:Type}(sv:(List Int))(o0:Int)(o1:Int)(k:aT→Option R):gh.A (sv,o0,o1) k=
 ab (cK.call (sv,o0,o1)) fun x1=>
 k (gh.out ((kX x1.1 (0:Int)),x1.2.1,x1.2.2)):=by kernel_rfl
theorem gh.ok:gh.Ok:=by
 rintro⟨l,lo,hi⟩ hl
 rw[gh.eq,cK.run (d:=(l,lo,hi)) hl]
 simp only[aa,cK.add,cK.F,rf,gh.add,gh.F]
noncomputable def gh.E:=Entry.cF [some (.slice ti),none] gh.st gh.aq gh.add gh.F gh.out
noncomputable def gh.call:gh.D→Option gh.X:=bC gh.E gh.st
theorem gh.run:bD gh.call gh.aq gh.add gh.F:=cz (cv [.d (.slice ti),.d ti,.d ti] fun _=>by kernel_rfl)
noncomputable def gh.sg:SG Tryz.prog:=⟨136,aK,gh.E,.fn 0 (by kernel_rfl) gh.ok trivial⟩
abbrev bH.D:=Int×Int×(List Int)
def bH.st:bH.D→SA:=fun(low,high,l)=>([.d ti low,.d ti high,.d (.slice ti) l],[])
abbrev bH.Y:=Bool
abbrev bH.X:=Bool
def bH.out:bH.X→aT:=fun x=>⟨.d .bool x,[],[]⟩
def bH.add:bH.D→bH.Y→bH.X:=fun(low,high,l) y=>y
def bH.aq:bH.D→Prop:=fun(_,_,l)=>l.length≤1000000000
def bH.F:bH.D→bH.Y:=fun(lo,hi,l)=>l.all fun x=>kC x lo hi
noncomputable def bH.G:dX:=eX (P:=Tryz.prog) [gh.sg]
noncomputable def bH.an:ej:= {bZ:=[3,4]}
noncomputable def bH.A:= @cq Tryz.prog bH.G bH.an 0 Tryz.f92 _ bH.st
abbrev bH.Ok:=cr @bH.A bH.aq bH.add bH.F bH.out
theorem bH.eq{R:Type}(low:Int)(high:Int)(l:(List Int))(k:aT→Option R):bH.A (low,high,l) k=
 ab (gh.call (l,low,high)) fun x1=>
 k (bH.out (!x1.1)):=by kernel_rfl
theorem bH.ok:bH.Ok:=by
 rintro⟨lo,hi,l⟩ hl
 rw[bH.eq,gh.run (d:=(l,lo,hi)) hl]
 simp only[aa,gh.add,gh.F,bH.add,bH.F]
 rw[List.not_any_eq_all_not]
 simp only[Bool.not_not]
noncomputable def bH.E:=Entry.cF [some ti,some ti,some (.slice ti)] bH.st bH.aq bH.add bH.F bH.out
noncomputable def bH.call:bH.D→Option bH.X:=bC bH.E bH.st
theorem bH.run:bD bH.call bH.aq bH.add bH.F:=cz (cv [.d ti,.d ti,.d (.slice ti)] fun _=>by kernel_rfl)
noncomputable def bH.sg:SG Tryz.prog:=⟨92,aK,bH.E,.fn 0 (by kernel_rfl) bH.ok trivial⟩
theorem bH.c1(lo hi x:Int):bH.call (lo,hi,[x])=some (kC x lo hi):=by
 rw[bH.run (d:=(lo,hi,[x])) (by show 1≤_;decide)]
 simp only[bH.add,bH.F,List.all_cons,List.all_nil,Bool.and_true]
theorem bH.c2(lo hi x y:Int):bH.call (lo,hi,[x,y])=some (kC x lo hi && kC y lo hi):=by
 rw[bH.run (d:=(lo,hi,[x,y])) (by show 2≤_;decide)]
 simp only[bH.add,bH.F,List.all_cons,List.all_nil,Bool.and_true]
abbrev dr.D:=fE
def dr.st:dr.D→SA:=fun c=>([.d gr c],[])
abbrev dr.Y:=Bool
abbrev dr.X:=Bool
def dr.out:dr.X→aT:=fun x=>⟨.d .bool x,[],[]⟩
def dr.add:dr.D→dr.Y→dr.X:=fun c y=>y
def dr.aq:dr.D→Prop:=fun c=>fh c.2.2.2.1
def dr.F:dr.D→dr.Y:=fun c=>yx c
noncomputable def dr.G:dX:=eX (P:=Tryz.prog) [bH.sg,cO.sg]
noncomputable def dr.an:ej:= {}
noncomputable def dr.A:= @cq Tryz.prog dr.G dr.an 0 Tryz.f93 _ dr.st
abbrev dr.Ok:=cr @dr.A dr.aq dr.add dr.F dr.out
theorem dr.eq{R:Type}(c:fE)(k:aT→Option R):dr.A c k=
  ab (bH.call ((0:Int),(1:Int),[c.1])) fun x1=>
  aC (x1) (
   ab (bH.call ((1:Int),(1048576:Int),[c.2.1])) fun x2=>
   aC (x2) (
    ab (bH.call ((1:Int),(1125899906842624:Int),[c.2.2.1])) fun x3=>
    aC (x3) (
     ab (bH.call ((1:Int),(1048576:Int),[c.2.2.2.2.1])) fun x4=>
     aC (x4) (
      ab (cO.call c.2.2.2.1) fun x5=>
      aC (x5) (
       k (dr.out (qS c.2.2.2.1 (1:Int)))) (
       k (dr.out false))) (
      k (dr.out false))) (
     k (dr.out false))) (
    k (dr.out false))) (
   k (dr.out false)):=by kernel_rfl
theorem dr.ok:dr.Ok:=by
 intro c hc
 rw[dr.eq,cO.run (d:=c.2.2.2.1) hc]
 simp only[aa,bH.c1,cO.add,cO.F,dr.add,dr.F,yx,wo]
 cases lf c.2.2.2.1 <;> cases qS c.2.2.2.1 1 <;> cases kC c.1 0 1 <;> cases kC c.2.1 1 1048576 <;> cases kC c.2.2.1 1 1125899906842624 <;> cases kC c.2.2.2.2.1 1 1048576 <;> rfl
noncomputable def dr.E:=Entry.cF [some gr] dr.st dr.aq dr.add dr.F dr.out
noncomputable def dr.call:dr.D→Option dr.X:=bC dr.E dr.st
theorem dr.run:bD dr.call dr.aq dr.add dr.F:=cz (cv [.d gr] fun _=>by kernel_rfl)
noncomputable def dr.sg:SG Tryz.prog:=⟨93,aK,dr.E,.fn 0 (by kernel_rfl) dr.ok trivial⟩
theorem GL(x y u v:Int):EA [qa x y,qa u v]=if decide (x < y∨x=y∧u < v)=true then -1 else if x=y∧u=v then 0 else 1:=by
 by_cases h1:x < y
 ·simp[EA,qa,h1]
 ·by_cases h2:x=y
  ·by_cases h3:u < v
   ·simp[EA,qa,h2,h3]
   ·by_cases h4:u=v
    ·simp[EA,qa,h2,h4]
    ·have h5:v < u:=by omega
     simp[EA,qa,h2,h3,h4,h5]
  ·have h5:y < x:=by omega
   simp[EA,qa,h1,h2,h5]
abbrev dB.D:=fE×fE
def dB.st:dB.D→SA:=fun(a,b)=>([.d gr a,.d gr b],[])
abbrev dB.Y:=Int
abbrev dB.X:=Int
def dB.out:dB.X→aT:=fun x=>⟨.d ti x,[],[]⟩
def dB.add:dB.D→dB.Y→dB.X:=fun(a,b) y=>y
def dB.aq:dB.D→Prop:=fun _=>True
def dB.F:dB.D→dB.Y:=fun(a,b)=>if sh a b=true then -1 else if a.1=b.1∧a.2.1=b.2.1 then 0 else 1
noncomputable def dB.G:dX:=eX (P:=Tryz.prog) [fq.sg,fi.sg]
noncomputable def dB.an:ej:= {}
noncomputable def dB.A:= @cq Tryz.prog dB.G dB.an 0 Tryz.f94 _ dB.st
abbrev dB.Ok:=cr @dB.A dB.aq dB.add dB.F dB.out
theorem dB.eq{R:Type}(a:fE)(b:fE)(k:aT→Option R):dB.A (a,b) k=
 ab (fq.call (a.1,b.1)) fun x1=>
 ab (fq.call (a.2.1,b.2.1)) fun x2=>
 ab (fi.call [x1,x2]) fun x3=>
 k (dB.out x3):=by kernel_rfl
theorem dB.ok:dB.Ok:=by
 rintro⟨a,b⟩ _
 rw[dB.eq,fq.run (d:=(a.1,b.1)) trivial]
 simp only[aa,fq.add,fq.F]
 rw[fq.run (d:=(a.2.1,b.2.1)) trivial]
 simp only[aa,fq.add,fq.F]
 rw[fi.run (d:=[qa a.1 b.1,qa a.2.1 b.2.1]) (by show 2≤_;decide)]
 simp only[aa,fi.add,fi.F,dB.add,dB.F,sh]
 rw[GL]
 rfl
noncomputable def dB.E:=Entry.cF [some gr,some gr] dB.st dB.aq dB.add dB.F dB.out
noncomputable def dB.call:dB.D→Option dB.X:=bC dB.E dB.st
theorem dB.run:bD dB.call dB.aq dB.add dB.F:=cz (cv [.d gr,.d gr] fun _=>by kernel_rfl)
noncomputable def dB.sg:SG Tryz.prog:=⟨94,aK,dB.E,.fn 0 (by kernel_rfl) dB.ok trivial⟩
theorem dB.ge(a b:fE):∃n,dB.call (a,b)=some n∧kX n 0= !sh a b:=by
 refine⟨_,dB.run (d:=(a,b)) trivial,?_⟩
 simp only[dB.add,dB.F]
 cases sh a b
 ·simp only[Bool.false_eq_true,if_false]
  split <;> rfl
 ·rfl
set_option synthInstance.maxSize 5000
theorem E3(d:Int):(te d).2.2.2.1=16:=rfl
theorem Iu(d:Int):(te d).2.2.2.2.2.1=1125899906842624:=rfl
theorem Jg(d:Int):(te d).2.2.2.2.1=1:=rfl
theorem JM(d:Int):(te d).2.1=200:=rfl
theorem Jf(d:Int):(te d).2.2.1=d:=rfl
theorem jI.t0{ch:fF}(h:jI ch):nth jG ch.2.2.2.1 0=te 5:=by
 obtain⟨a,b0,b1,o,rfl,_⟩:=h
 rfl
theorem jI.t1{ch:fF}(h:jI ch):nth jG ch.2.2.2.1 1=te 6:=by
 obtain⟨a,b0,b1,o,rfl,_⟩:=h
 rfl
theorem jI.t{ch:fF}(h:jI ch){n:Int}(hn:n=0∨n=1):∃d,nth jG ch.2.2.2.1 n.toNat=te d∧(d=5∨d=6):=by
 rcases hn with rfl | rfl
 ·exact⟨5,h.t0,.inl rfl⟩
 ·exact⟨6,h.t1,.inr rfl⟩
theorem jI.op{ch:fF}(h:jI ch):ch.2.2.2.2.1=0∨ch.2.2.2.2.1=1:=by
 obtain⟨a,b0,b1,o,rfl,_,_,_,_,ho⟩:=h
 exact ho
theorem jI.Aq{ch:fF}(h:jI ch):20000≤ch.2.1∧ch.2.1≤4294987295:=by
 obtain⟨a,b0,b1,o,rfl,h1,h2,_⟩:=h
 exact⟨h1,h2⟩
theorem F9.a{c:fE}(h:F9 c):yz c:=⟨by have:=h.Aq.1;omega,h.Aq.2⟩
theorem Bt{n:Int}(h:0≤n∧n≤1):bS .i64 1 n=1 - n:=fe (by omega) (by omega)
abbrev aE.L0.D:=fF×fL×Int
def aE.L0.st:aE.L0.D→AS:=fun(ch_2,sv_2,i)=>⟨([.undef,.undef,.eI iu ch_2,.eI hZ sv_2,.undef,.d ti i]++bu 135 []),[],(List.replicate 141 [])⟩
abbrev aE.L0.Y0:=Unit
abbrev aE.L0.X0:=Unit
def aE.L0.bM:aE.L0.X0→Exit×AS:=fun x=>(.ret,⟨(bu 4 ([.d .bool false]++bu 136 [])),[],(List.replicate 141 [])⟩)
abbrev aE.L0.Y1:=Unit
abbrev aE.L0.X1:=fF×fL
def aE.L0.iG:aE.L0.X1→Exit×AS:=fun x=>(.exit 0,⟨([.undef,.undef,.eI iu x.1,.eI hZ x.2]++bu 137 []),[],(List.replicate 141 [])⟩)
abbrev aE.L0.X:=(aE.L0.X0)⊕(aE.L0.X1)
abbrev aE.L0.Y:=(aE.L0.Y0)⊕(aE.L0.Y1)
def aE.L0.out:aE.L0.X→Out (Exit×AS):=fun x=> .br x.isLeft (.get x.getLeft? fun a=> .ok (aE.L0.bM a)) (.get x.getRight? fun b=> .ok (aE.L0.iG b))
def aE.L0.add:aE.L0.D→aE.L0.Y→aE.L0.X:=fun(ch_2,sv_2,i) y=>match y with | .inl y=> .inl y | .inr z=> .inr ((ch_2,sv_2))
abbrev aE.D:=fF×fL
def aE.st:aE.D→SA:=fun(ch,sv)=>([.d iu ch,.d hZ sv],[])
abbrev aE.Y:=Bool
abbrev aE.X:=Bool
def aE.out:aE.X→aT:=fun x=>⟨.d .bool x,[],[]⟩
def aE.add:aE.D→aE.Y→aE.X:=fun(ch,sv) y=>y
def aE.L0.aq:aE.L0.D→Prop:=fun(ch,sv,i)=>jI ch∧oH sv∧∃k:Nat,k≤sv.2.2.1.length∧i=k
def aE.L0.F:aE.L0.D→aE.L0.Y:=fun(ch,sv,i)=>if nu (rC sv.2.2.1 i.toNat) (sv.2.2.1.drop i.toNat)=true then .inr () else .inl ()
def aE.aq:aE.D→Prop:=fun(ch,s)=>jI ch∧oH s
def aE.F:aE.D→aE.Y:=fun(ch,s)=>qJ ch s
noncomputable def aE.G:dX:=eX (P:=Tryz.prog) [bE.sg,fB.sg,df.sg,cn.sg,bK.sg,bV.sg,dy.sg]
noncomputable def aE.L0.E:=cf.cF aE.L0.st aE.L0.aq aE.L0.add aE.L0.F aE.L0.out
noncomputable def aE.L0.call:aE.L0.D→Option aE.L0.X:=dO aE.L0.E aE.L0.st
noncomputable def aE.an:ej:= {loops:=ky [(4,{bt:=[2,3,5]}),(10,{bt:=[2,3,7],sites:=[11,16,23,30,36,57,75,106,126,138]})],outs:=kr [(4,{bt:=[2,3]},{bt:=[4]}),(10,{bt:=[2,3],sites:=[11,16,23,30,36,57,75,106,126,138]},{bt:=[4],sites:=[11,16,23,30,36,57,75,106,126,138]})],gk:=kY [(4,aE.L0.E)]}
noncomputable def aE.A:= @cq Tryz.prog aE.G aE.an 3 Tryz.f27 _ aE.st
abbrev aE.Ok:=cr @aE.A aE.aq aE.add aE.F aE.out
noncomputable def aE.L0.R:= @cP Tryz.prog aE.G aE.an 3 Tryz.f27 0 _ aE.L0.st
abbrev aE.L0.Ok:=fg Tryz.prog aE.G aE.an 3 Tryz.f27 0 aE.L0.st aE.L0.aq aE.L0.add aE.L0.F aE.L0.out
theorem aE.L0.run:bD aE.L0.call aE.L0.aq aE.L0.add aE.L0.F:=fw (fk [.d iu,.d hZ,.d ti] fun _=>by kernel_rfl)
theorem aE.L0.aF:oU @aE.L0.R aE.L0.st aE.L0.aq aE.L0.add aE.L0.F aE.L0.out aE.L0.Ok:=p9
theorem aE.L0.step{R:Type}(ch_2:fF)(sv_2:fL)(i:Int)(kn:AS→Option R)(kx:Exit→AS→Option R):aE.L0.R (ch_2,sv_2,i) kn kx=
  aC ((gM i (((List.length sv_2.2.2.1):Nat):Int))) (
   aC (dY i (((List.length sv_2.2.2.1):Nat):Int)) (
   ab (df.call (nth gr sv_2.2.2.1 (Int.toNat i))) fun x1=>
   aC ((!x1)) (
    kx (aE.L0.bM ()).1 (aE.L0.bM ()).2) (
    aC ((na i (0:Int))) (
     aC (dY (bS .i64 i (1:Int)) (((List.length sv_2.2.2.1):Nat):Int)) (
     aC (dY i (((List.length sv_2.2.2.1):Nat):Int)) (
     ab (cn.call ((nth gr sv_2.2.2.1 (Int.toNat (bS .i64 i (1:Int)))),(nth gr sv_2.2.2.1 (Int.toNat i)))) fun x2=>
     aC ((!x2)) (
      kx (aE.L0.bM ()).1 (aE.L0.bM ()).2) (
      aC (dY i (((List.length sv_2.2.2.1):Nat):Int)) (
      aC (dY i (((List.length sv_2.2.2.1):Nat):Int)) (
      aC (dY (bS .i64 (1:Int) (nth gr sv_2.2.2.1 (Int.toNat i)).1) (2:Int)) (
      aC ((gM (nth gr sv_2.2.2.1 (Int.toNat i)).2.2.1 (nth jG ch_2.2.2.2.1 (Int.toNat (bS .i64 (1:Int) (nth gr sv_2.2.2.1 (Int.toNat i)).1))).2.2.2.2.1)) (
       kx (aE.L0.bM ()).1 (aE.L0.bM ()).2) (
       kn (aE.L0.st (ch_2,sv_2,(bw .i64 i (1:Int)))))) none) none) none)) none) none) (
     aC (dY i (((List.length sv_2.2.2.1):Nat):Int)) (
     aC (dY i (((List.length sv_2.2.2.1):Nat):Int)) (
     aC (dY (bS .i64 (1:Int) (nth gr sv_2.2.2.1 (Int.toNat i)).1) (2:Int)) (
     aC ((gM (nth gr sv_2.2.2.1 (Int.toNat i)).2.2.1 (nth jG ch_2.2.2.2.1 (Int.toNat (bS .i64 (1:Int) (nth gr sv_2.2.2.1 (Int.toNat i)).1))).2.2.2.2.1)) (
      kx (aE.L0.bM ()).1 (aE.L0.bM ()).2) (
      kn (aE.L0.st (ch_2,sv_2,(bw .i64 i (1:Int)))))) none) none) none))) none) (
   kx (aE.L0.iG (ch_2,sv_2)).1 (aE.L0.iG (ch_2,sv_2)).2):=by kernel_rfl
theorem aE.eq{R:Type}(ch:fF)(sv:fL)(k:aT→Option R):aE.A (ch,sv) k=
  ab (bE.call ch) fun x1=>
  aC ((qS x1 (0:Int))) (
   k (aE.out false)) (
   ab (fB.call (sv.1,(0:Int),(1048576:Int))) fun x2=>
   aC ((!x2)) (
    k (aE.out false)) (
    ab (fB.call ((nth ti sv.2.1 0),(0:Int),(1125899906842624:Int))) fun x3=>
    aC ((!x3)) (
     k (aE.out false)) (
     ab (fB.call ((nth ti sv.2.1 1),(0:Int),(1125899906842624:Int))) fun x4=>
     aC ((!x4)) (
      k (aE.out false)) (
      ab (fB.call (sv.2.2.2.1,(0:Int),(1000:Int))) fun x5=>
      aC ((!x5)) (
       k (aE.out false)) (
       aC ((na (((List.length sv.2.2.1):Nat):Int) (16:Int))) (
        k (aE.out false)) (
        ab (aE.L0.call (ch,sv,(0:Int))) fun x8=>
        aC (x8.isLeft) (
         ab (x8.getLeft?) fun a9=>
         k (aE.out false)) (
         ab (x8.getRight?) fun b10=>
         ab (bK.call (b10.2,(0:Int))) fun x11=>
         aC ((na x11.1 (nth jG b10.1.2.2.2.1 0).2.2.2.1)) (
          k (aE.out false)) (
          aC ((na x11.2 (nth jG b10.1.2.2.2.1 0).2.2.2.2.2.1)) (
           k (aE.out false)) (
           ab (bK.call (b10.2,(1:Int))) fun x12=>
           aC ((na x12.1 (nth jG b10.1.2.2.2.1 1).2.2.2.1)) (
            k (aE.out false)) (
            aC ((na x12.2 (nth jG b10.1.2.2.2.1 1).2.2.2.2.2.1)) (
             k (aE.out false)) (
             ab (bV.call b10.2) fun x13=>
             aC ((ia x13 b10.1.2.1)) (
              aC (dY b10.1.2.2.2.2.1 (2:Int)) (
              ab (dy.call (b10.1,b10.2)) fun x14=>
              k (aE.out (kX (nth ti b10.2.2.1 (Int.toNat b10.1.2.2.2.2.1)) x14))) none) (
              k (aE.out false))))))))))))):=by kernel_rfl
theorem aE.L0.ok:aE.L0.Ok:=by
 refine aE.L0.aF (fun(ch,sv,i)=>sv.2.2.1.length - i.toNat) ?_
 rintro⟨ch,sv,i⟩ ⟨hch,hu,k,hk,rfl⟩
 have hu:oH sv:=hu
 have hl:sv.2.2.1.length≤1000:=hu.2.1
 have hk:k≤sv.2.2.1.length:=hk
 by_cases h:k < sv.2.2.1.length
 ·have hd:=BP h
  have step:∀ {R:Type} (kn:AS→Option R) (kx:Exit→AS→Option R),aE.L0.R (ch,sv,(k:Int)) kn kx=aC (yx sv.2.2.1[k] && (decide (k=0) || sh (nth gr sv.2.2.1 (k - 1)) sv.2.2.1[k])) (kn (aE.L0.st (ch,sv,((k+1:Nat):Int)))) (kx (aE.L0.bM ()).1 (aE.L0.bM ()).2):=by
   intro R kn kx
   have n1:nth gr sv.2.2.1 k=sv.2.2.1[k]:=dT (t:=gr) h
   have hx:fh sv.2.2.1[k].2.2.2.1:=hu.1 _ (List.getElem_mem h)
   rw[aE.L0.step,bB (by omega),bz (by omega) (by omega),Int.toNat_natCast,n1,df.run (d:=sv.2.2.1[k]) hx,N.mC (by omega)]
   simp only[ah,aa,df.add,df.F]
   cases hb:yx sv.2.2.1[k]
   ·rfl
   ·have g:=mq.1 hb
    have i2:dY (1 - sv.2.2.1[k].1) 2=true:=bz (by have:=g.side;omega) (by have:=g.side;omega)
    obtain⟨d,hd2,_⟩:=hch.t (n:=1 - sv.2.2.1[k].1) (by have:=g.side;omega)
    rw[Bool.not_true,ae,Bt g.side,hd2,Jg,bm (by have:=g.Aq.1;omega),i2]
    simp only[ah,ae]
    by_cases h0:k=0
    ·subst h0
     rw[cZ (by omega),ae,aD rfl]
     rfl
    ·rw[dS (by omega),ah,N.IH (by omega) (by omega),bz (by omega) (by omega),ah,Int.toNat_natCast,cn.c,aa,bN h0]
     cases sh (nth gr sv.2.2.1 (k - 1)) sv.2.2.1[k] <;> rfl
  cases hp:(yx sv.2.2.1[k] && (decide (k=0) || sh (nth gr sv.2.2.1 (k - 1)) sv.2.2.1[k]))
  ·right
   refine⟨aE.L0.bM (),?_,fun kn kx=> ?_⟩
   ·rw[←Bool.and_assoc,hp,Bool.false_and]at hd
    simp only[aE.L0.add,aE.L0.F,Int.toNat_natCast,hd,Bool.false_eq_true,if_false]
    rfl
   ·rw[step,hp,ae]
  ·left
   refine⟨(ch,sv,((k+1:Nat):Int)),⟨hch,hu,k+1,by omega,rfl⟩,by simp only[Int.toNat_natCast];omega,?_,fun kn kx=> ?_⟩
   ·rw[←Bool.and_assoc,hp,Bool.true_and]at hd
    simp only[aE.L0.add,aE.L0.F,Int.toNat_natCast,hd]
   ·rw[step,hp,ah]
 ·right
  obtain rfl:k=sv.2.2.1.length:=by omega
  refine⟨aE.L0.iG (ch,sv),?_,fun kn kx=> ?_⟩
  ·simp only[aE.L0.add,aE.L0.F,Int.toNat_natCast,List.drop_length,nu,if_true]
   rfl
  ·rw[aE.L0.step,bm (by omega),ae]
theorem aE.ok:aE.Ok:=by
 rintro⟨ch,s⟩ ⟨hch,hu⟩
 have hch:jI ch:=hch
 rw[aE.eq,bE.run (d:=ch) hch]
 simp only[aa,bE.add,bE.F,fB.c]
 rw[gO rfl,ae]
 simp only[aE.add,aE.F,qJ]
 cases h1:kC s.1 0 1048576
 ·rfl
 cases h2:kC (nth ti s.2.1 0) 0 1125899906842624
 ·rfl
 cases h3:kC (nth ti s.2.1 1) 0 1125899906842624
 ·rfl
 cases h4:kC s.2.2.2.1 0 1000
 ·rfl
 simp only[Bool.not_true,ae,Bool.true_and]
 by_cases h5:s.2.2.1.length≤16
 rotate_left
 ·rw[dS (by omega),ah,bN h5];rfl
 rw[cZ (by omega),ae,aD h5,Bool.true_and,aE.L0.run (d:=(ch,s,0)) ⟨hch,hu,0,Nat.zero_le _,rfl⟩]
 simp only[aa,aE.L0.add,aE.L0.F,Int.toNat_zero,List.drop_zero]
 rw[show rC s.2.2.1 0=none from rfl]
 cases h6:nu none s.2.2.1
 ·simp only[Bool.false_eq_true,if_false,Sum.isLeft_inl,ah,Sum.getLeft?_inl,aa,Bool.false_and]
 have hA:∀c∈s.2.2.1,yz c:=fun c hc=>(nP _ _ h6 c hc).a
 simp only[if_true,Sum.isLeft_inr,ae,Sum.getRight?_inr,aa,Bool.true_and]
 rw[bK.run (d:=(s,0)) ⟨.inl rfl,hA,by have:s.2.2.1.length≤16:=h5;show s.2.2.1.length≤1000;omega⟩]
 simp only[aa,bK.add,bK.F]
 have o0:=rz 0 s.2.2.1
 have o1:=rz 1 s.2.2.1
 rw[hch.t0,E3,Iu,cZ (by omega),ae]
 by_cases h7:fQ (im 0 s.2.2.1)≤1125899906842624
 rotate_left
 ·rw[dS (by omega),ah,bN h7];rfl
 rw[cZ (by omega),ae,aD h7,Bool.true_and,bK.run (d:=(s,1)) ⟨.inr rfl,hA,by have:s.2.2.1.length≤16:=h5;show s.2.2.1.length≤1000;omega⟩]
 simp only[aa,bK.add,bK.F]
 rw[hch.t1,E3,Iu,cZ (by omega),ae]
 by_cases h8:fQ (im 1 s.2.2.1)≤1125899906842624
 rotate_left
 ·rw[dS (by omega),ah,bN h8];rfl
 rw[cZ (by omega),ae,aD h8,Bool.true_and,bV.run (d:=s) ⟨hA,by have:s.2.2.1.length≤16:=h5;show s.2.2.1.length≤1000;omega,kD.1 h2,kD.1 h3⟩]
 simp only[aa,bV.add,bV.F]
 cases ia (nth ti s.2.1 0+nth ti s.2.1 1+fQ s.2.2.1) ch.2.1
 ·rfl
 have ho:=hch.op
 rw[ah,bz (by omega) (by omega),ah,dy.run (d:=(ch,s)) trivial]
 rfl
noncomputable def aE.E:=Entry.cF [some iu,some hZ] aE.st aE.aq aE.add aE.F aE.out
noncomputable def aE.call:aE.D→Option aE.X:=bC aE.E aE.st
theorem aE.run:bD aE.call aE.aq aE.add aE.F:=cz (cv [.d iu,.d hZ] fun _=>by kernel_rfl)
noncomputable def aE.sg:SG Tryz.prog:=⟨27,aK,aE.E,.fn 2 (by kernel_rfl) aE.ok (And.intro (.cF aE.L0.ok (by kernel_rfl)) (And.intro (.none (by kernel_rfl)) trivial))⟩
abbrev ak.L0.D:=fF×fL×(List fE)×Int×Int
def ak.L0.st:ak.L0.D→AS:=fun(ch_2,sv_2,t46,t47,t48)=>⟨([.undef,.undef,.eI iu ch_2,.eI hZ sv_2]++bu 42 ([.d (.slice gr) t46,.d ti t47,.d ti t48]++bu 74 [])),[],(List.replicate 123 [])⟩
abbrev ak.L0.Y0:=Unit
abbrev ak.L0.X0:=Unit
def ak.L0.bM:ak.L0.X0→Exit×AS:=fun x=>(.ret,⟨(bu 4 ([.d .bool false]++bu 118 [])),[],(List.replicate 123 [])⟩)
abbrev ak.L0.Y1:=Unit
abbrev ak.L0.X1:=fF×fL
def ak.L0.iG:ak.L0.X1→Exit×AS:=fun x=>(.exit 0,⟨([.undef,.undef,.eI iu x.1,.eI hZ x.2]++bu 119 []),[],(List.replicate 123 [])⟩)
abbrev ak.L0.X:=(ak.L0.X0)⊕(ak.L0.X1)
abbrev ak.L0.Y:=(ak.L0.Y0)⊕(ak.L0.Y1)
def ak.L0.out:ak.L0.X→Out (Exit×AS):=fun x=> .br x.isLeft (.get x.getLeft? fun a=> .ok (ak.L0.bM a)) (.get x.getRight? fun b=> .ok (ak.L0.iG b))
def ak.L0.add:ak.L0.D→ak.L0.Y→ak.L0.X:=fun(ch_2,sv_2,t46,t47,t48) y=>match y with | .inl y=> .inl y | .inr z=> .inr ((ch_2,sv_2))
abbrev ak.L1.D:=fF×fL×(List Dw)×Int
def ak.L1.st:ak.L1.D→AS:=fun(ch_3,sv_3,t85,t86)=>⟨([.undef,.undef,.eI iu ch_3,.eI hZ sv_3]++bu 81 ([.d (.arr 2 jG) t85,.d ti t86]++bu 36 [])),[],(List.replicate 123 [])⟩
abbrev ak.L1.Y0:=Unit
abbrev ak.L1.X0:=Unit
def ak.L1.bM:ak.L1.X0→Exit×AS:=fun x=>(.ret,⟨(bu 4 ([.d .bool false]++bu 118 [])),[],(List.replicate 123 [])⟩)
abbrev ak.L1.Y1:=Unit
abbrev ak.L1.X1:=fF×fL
def ak.L1.iG:ak.L1.X1→Exit×AS:=fun x=>(.exit 2,⟨([.undef,.undef,.eI iu x.1,.eI hZ x.2]++bu 119 []),[],(List.replicate 123 [])⟩)
abbrev ak.L1.X:=(ak.L1.X0)⊕(ak.L1.X1)
abbrev ak.L1.Y:=(ak.L1.Y0)⊕(ak.L1.Y1)
def ak.L1.out:ak.L1.X→Out (Exit×AS):=fun x=> .br x.isLeft (.get x.getLeft? fun a=> .ok (ak.L1.bM a)) (.get x.getRight? fun b=> .ok (ak.L1.iG b))
def ak.L1.add:ak.L1.D→ak.L1.Y→ak.L1.X:=fun(ch_3,sv_3,t85,t86) y=>match y with | .inl y=> .inl y | .inr z=> .inr ((ch_3,sv_3))
abbrev ak.D:=fF×fL
def ak.st:ak.D→SA:=fun(ch,sv)=>([.d iu ch,.d hZ sv],[])
abbrev ak.Y:=Bool
abbrev ak.X:=Bool
def ak.out:ak.X→aT:=fun x=>⟨.d .bool x,[],[]⟩
def ak.add:ak.D→ak.Y→ak.X:=fun(ch,sv) y=>y
def ak.L1.aq:ak.L1.D→Prop:=fun(ch,s,l,i)=>jI ch∧(∀c∈s.2.2.1,yz c)∧s.2.2.1.length≤16∧l=ch.2.2.2.1∧(i=0∨i=1∨i=2)
def ak.L1.F:ak.L1.D→ak.L1.Y:=fun(ch,s,l,i)=>if(decide (i≤0→fQ (im 0 s.2.2.1)≤1125899906842624) && decide (i≤1→fQ (im 1 s.2.2.1)≤1125899906842624))=true then .inr () else .inl ()
def ak.L0.aq:ak.L0.D→Prop:=fun(ch,sv,l,m,i)=>jI ch∧oH sv∧l=sv.2.2.1∧m=sv.2.2.1.length∧∃k:Nat,k≤sv.2.2.1.length∧i=k
def ak.L0.F:ak.L0.D→ak.L0.Y:=fun(ch,sv,l,m,i)=>if nu (rC sv.2.2.1 i.toNat) (sv.2.2.1.drop i.toNat)=true then .inr () else .inl ()
def ak.aq:ak.D→Prop:=fun(ch,s)=>jI ch∧oH s
def ak.F:ak.D→ak.Y:=fun(ch,s)=>qJ ch s
noncomputable def ak.G:dX:=eX (P:=Tryz.prog) [bI.sg,bH.sg,dr.sg,dB.sg,bO.sg,aW.sg,dN.sg]
noncomputable def ak.L0.E:=cf.cF ak.L0.st ak.L0.aq ak.L0.add ak.L0.F ak.L0.out
noncomputable def ak.L0.call:ak.L0.D→Option ak.L0.X:=dO ak.L0.E ak.L0.st
noncomputable def ak.L1.E:=cf.cF ak.L1.st ak.L1.aq ak.L1.add ak.L1.F ak.L1.out
noncomputable def ak.L1.call:ak.L1.D→Option ak.L1.X:=dO ak.L1.E ak.L1.st
noncomputable def ak.an:ej:= {loops:=ky [(4,{bt:=[2,3,46,47,48]}),(10,{bt:=[2,3,85,86]})],outs:=kr [(4,{bt:=[2,3]},{bt:=[4]}),(10,{bt:=[2,3]},{bt:=[4]})],gk:=kY [(4,ak.L0.E),(10,ak.L1.E)]}
noncomputable def ak.A:= @cq Tryz.prog ak.G ak.an 0 Tryz.f41 _ ak.st
abbrev ak.Ok:=cr @ak.A ak.aq ak.add ak.F ak.out
noncomputable def ak.L0.R:= @cP Tryz.prog ak.G ak.an 0 Tryz.f41 0 _ ak.L0.st
abbrev ak.L0.Ok:=fg Tryz.prog ak.G ak.an 0 Tryz.f41 0 ak.L0.st ak.L0.aq ak.L0.add ak.L0.F ak.L0.out
noncomputable def ak.L1.R:= @cP Tryz.prog ak.G ak.an 0 Tryz.f41 1 _ ak.L1.st
abbrev ak.L1.Ok:=fg Tryz.prog ak.G ak.an 0 Tryz.f41 1 ak.L1.st ak.L1.aq ak.L1.add ak.L1.F ak.L1.out
theorem ak.L0.run:bD ak.L0.call ak.L0.aq ak.L0.add ak.L0.F:=fw (fk [.d iu,.d hZ,.d (.slice gr),.d ti,.d ti] fun _=>by kernel_rfl)
theorem ak.L0.aF:oU @ak.L0.R ak.L0.st ak.L0.aq ak.L0.add ak.L0.F ak.L0.out ak.L0.Ok:=p9
theorem ak.L0.step{R:Type}(ch_2:fF)(sv_2:fL)(t46:(List fE))(t47:Int)(t48:Int)(kn:AS→Option R)(kx:Exit→AS→Option R):ak.L0.R (ch_2,sv_2,t46,t47,t48) kn kx=
  aC ((gM t48 t47)) (
   aC (dY t48 (((List.length t46):Nat):Int)) (
   ab (dr.call (nth gr t46 (Int.toNat t48))) fun x1=>
   aC ((!x1)) (
    kx (ak.L0.bM ()).1 (ak.L0.bM ()).2) (
    aC (dY (bS .i64 (1:Int) (nth gr t46 (Int.toNat t48)).1) (2:Int)) (
    aC ((gM (nth gr t46 (Int.toNat t48)).2.2.1 (nth jG ch_2.2.2.2.1 (Int.toNat (bS .i64 (1:Int) (nth gr t46 (Int.toNat t48)).1))).2.2.2.2.1)) (
     kx (ak.L0.bM ()).1 (ak.L0.bM ()).2) (
     aC ((na t48 (0:Int))) (
      aC (dY (bS .i64 t48 (1:Int)) (((List.length sv_2.2.2.1):Nat):Int)) (
      ab (dB.call ((nth gr sv_2.2.2.1 (Int.toNat (bS .i64 t48 (1:Int)))),(nth gr t46 (Int.toNat t48)))) fun x2=>
      aC ((kX x2 (0:Int))) (
       kx (ak.L0.bM ()).1 (ak.L0.bM ()).2) (
       kn (ak.L0.st (ch_2,sv_2,t46,t47,(bw .i64 t48 (1:Int)))))) none) (
      kn (ak.L0.st (ch_2,sv_2,t46,t47,(bw .i64 t48 (1:Int))))))) none)) none) (
   kx (ak.L0.iG (ch_2,sv_2)).1 (ak.L0.iG (ch_2,sv_2)).2):=by kernel_rfl
theorem ak.L1.run:bD ak.L1.call ak.L1.aq ak.L1.add ak.L1.F:=fw (fk [.d iu,.d hZ,.d (.slice jG),.d ti] fun _=>by kernel_rfl)
theorem ak.L1.aF:oU @ak.L1.R ak.L1.st ak.L1.aq ak.L1.add ak.L1.F ak.L1.out ak.L1.Ok:=p9
theorem ak.L1.step{R:Type}(ch_3:fF)(sv_3:fL)(t85:(List Dw))(t86:Int)(kn:AS→Option R)(kx:Exit→AS→Option R):ak.L1.R (ch_3,sv_3,t85,t86) kn kx=
  aC ((gM t86 (2:Int))) (
   aC (dY t86 (2:Int)) (
   ab (bO.call (sv_3,t86)) fun x1=>
   aC ((na x1.1 (nth jG t85 (Int.toNat t86)).2.2.2.1)) (
    kx (ak.L1.bM ()).1 (ak.L1.bM ()).2) (
    aC ((na x1.2 (nth jG t85 (Int.toNat t86)).2.2.2.2.2.1)) (
     kx (ak.L1.bM ()).1 (ak.L1.bM ()).2) (
     kn (ak.L1.st (ch_3,sv_3,t85,(bw .i64 t86 (1:Int))))))) none) (
   kx (ak.L1.iG (ch_3,sv_3)).1 (ak.L1.iG (ch_3,sv_3)).2):=by kernel_rfl
theorem ak.eq{R:Type}(ch:fF)(sv:fL)(k:aT→Option R):ak.A (ch,sv) k=
  ab (bI.call ch) fun x1=>
  aC ((qS x1 (0:Int))) (
   k (ak.out false)) (
   ab (bH.call ((0:Int),(1048576:Int),[sv.1])) fun x2=>
   aC ((!x2)) (
    k (ak.out false)) (
    ab (bH.call ((0:Int),(1125899906842624:Int),[(nth ti sv.2.1 0),(nth ti sv.2.1 1)])) fun x3=>
    aC ((!x3)) (
     k (ak.out false)) (
     ab (bH.call ((0:Int),(1000:Int),[sv.2.2.2.1])) fun x4=>
     aC ((!x4)) (
      k (ak.out false)) (
      aC ((na (((List.length sv.2.2.1):Nat):Int) (16:Int))) (
       k (ak.out false)) (
       ab (ak.L0.call (ch,sv,sv.2.2.1,(((List.length sv.2.2.1):Nat):Int),(0:Int))) fun x7=>
       aC (x7.isLeft) (
        ab (x7.getLeft?) fun a8=>
        k (ak.out false)) (
        ab (x7.getRight?) fun b9=>
        ab (ak.L1.call (b9.1,b9.2,b9.1.2.2.2.1,(0:Int))) fun x11=>
        aC (x11.isLeft) (
         ab (x11.getLeft?) fun a12=>
         k (ak.out false)) (
         ab (x11.getRight?) fun b13=>
         ab (aW.call b13.2) fun x14=>
         aC ((ia x14 b13.1.2.1)) (
          aC (dY b13.1.2.2.2.2.1 (2:Int)) (
          ab (dN.call (b13.1,b13.2)) fun x15=>
          k (ak.out (kX (nth ti b13.2.2.1 (Int.toNat b13.1.2.2.2.2.1)) x15))) none) (
          k (ak.out false))))))))):=by kernel_rfl
theorem ak.L0.ok:ak.L0.Ok:=by
 refine ak.L0.aF (fun(ch,sv,l,m,i)=>sv.2.2.1.length - i.toNat) ?_
 rintro⟨ch,sv,l,m,i⟩ ⟨hch,hu,rfl,rfl,k,hk,rfl⟩
 have hu:oH sv:=hu
 have hl:sv.2.2.1.length≤1000:=hu.2.1
 have hk:k≤sv.2.2.1.length:=hk
 by_cases h:k < sv.2.2.1.length
 ·have hd:=BP h
  have step:∀ {R:Type} (kn:AS→Option R) (kx:Exit→AS→Option R),ak.L0.R (ch,sv,sv.2.2.1,(sv.2.2.1.length:Int),(k:Int)) kn kx=aC (yx sv.2.2.1[k] && (decide (k=0) || sh (nth gr sv.2.2.1 (k - 1)) sv.2.2.1[k])) (kn (ak.L0.st (ch,sv,sv.2.2.1,(sv.2.2.1.length:Int),((k+1:Nat):Int)))) (kx (ak.L0.bM ()).1 (ak.L0.bM ()).2):=by
   intro R kn kx
   have n1:nth gr sv.2.2.1 k=sv.2.2.1[k]:=dT (t:=gr) h
   have hx:fh sv.2.2.1[k].2.2.2.1:=hu.1 _ (List.getElem_mem h)
   obtain⟨an,ac,ag⟩:=dB.ge (nth gr sv.2.2.1 (k - 1)) sv.2.2.1[k]
   rw[ak.L0.step,bB (by omega),bz (by omega) (by omega),Int.toNat_natCast,n1,dr.run (d:=sv.2.2.1[k]) hx,N.mC (by omega)]
   simp only[ah,aa,dr.add,dr.F]
   cases hb:yx sv.2.2.1[k]
   ·rfl
   ·have g:=mq.1 hb
    have i2:dY (1 - sv.2.2.1[k].1) 2=true:=bz (by have:=g.side;omega) (by have:=g.side;omega)
    obtain⟨d,hd2,_⟩:=hch.t (n:=1 - sv.2.2.1[k].1) (by have:=g.side;omega)
    rw[Bool.not_true,ae,Bt g.side,hd2,Jg,bm (by have:=g.Aq.1;omega),i2]
    simp only[ah,ae]
    by_cases h0:k=0
    ·subst h0
     rw[cZ (by omega),ae,aD rfl]
     rfl
    ·rw[dS (by omega),ah,N.IH (by omega) (by omega),bz (by omega) (by omega),ah,Int.toNat_natCast,ac,aa,ag,bN h0]
     cases sh (nth gr sv.2.2.1 (k - 1)) sv.2.2.1[k] <;> rfl
  cases hp:(yx sv.2.2.1[k] && (decide (k=0) || sh (nth gr sv.2.2.1 (k - 1)) sv.2.2.1[k]))
  ·right
   refine⟨ak.L0.bM (),?_,fun kn kx=> ?_⟩
   ·rw[←Bool.and_assoc,hp,Bool.false_and]at hd
    simp only[ak.L0.add,ak.L0.F,Int.toNat_natCast,hd,Bool.false_eq_true,if_false]
    rfl
   ·rw[step,hp,ae]
  ·left
   refine⟨(ch,sv,sv.2.2.1,(sv.2.2.1.length:Int),((k+1:Nat):Int)),⟨hch,hu,rfl,rfl,k+1,by omega,rfl⟩,by simp only[Int.toNat_natCast];omega,?_,fun kn kx=> ?_⟩
   ·rw[←Bool.and_assoc,hp,Bool.true_and]at hd
    simp only[ak.L0.add,ak.L0.F,Int.toNat_natCast,hd]
   ·rw[step,hp,ah]
 ·right
  obtain rfl:k=sv.2.2.1.length:=by omega
  refine⟨ak.L0.iG (ch,sv),?_,fun kn kx=> ?_⟩
  ·simp only[ak.L0.add,ak.L0.F,Int.toNat_natCast,List.drop_length,nu,if_true]
   rfl
  ·rw[ak.L0.step,bm (by omega),ae]
theorem ak.L1.ok:ak.L1.Ok:=by
 refine ak.L1.aF (fun(_,_,_,i)=>(2 - i).toNat) ?_
 rintro⟨ch,s,l,i⟩ ⟨hch,hA,hl,rfl,hi⟩
 have hch:jI ch:=hch
 have hl:s.2.2.1.length≤16:=hl
 have o0:=rz 0 s.2.2.1
 have o1:=rz 1 s.2.2.1
 rcases hi with rfl | rfl | rfl
 ·have step:∀ {R:Type} (kn:AS→Option R) (kx:Exit→AS→Option R),ak.L1.R (ch,s,ch.2.2.2.1,0) kn kx=aC (decide (fQ (im 0 s.2.2.1)≤1125899906842624)) (kn (ak.L1.st (ch,s,ch.2.2.2.1,1))) (kx (ak.L1.bM ()).1 (ak.L1.bM ()).2):=by
   intro R kn kx
   rw[ak.L1.step,bB (by omega),bz (by omega) (by omega),bO.run (d:=(s,0)) ⟨.inl rfl,hA,by show s.2.2.1.length≤1000;omega⟩]
   simp only[ah,aa,bO.add,bO.F]
   rw[show nth jG ch.2.2.2.1 (Int.toNat 0)=te 5 from hch.t0,E3,Iu,cZ (by omega),ae]
   by_cases h:fQ (im 0 s.2.2.1)≤1125899906842624
   ·rw[cZ (by omega),aD h];rfl
   ·rw[dS (by omega),bN h];rfl
  by_cases h:fQ (im 0 s.2.2.1)≤1125899906842624
  ·left
   refine⟨(ch,s,ch.2.2.2.1,1),⟨hch,hA,hl,rfl,.inr (.inl rfl)⟩,by show(2 - (1:Int)).toNat < (2 - (0:Int)).toNat;decide,?_,fun kn kx=> ?_⟩
   ·simp only[ak.L1.add,ak.L1.F]
    simp[h]
   ·rw[step,aD h,ah]
  ·right
   refine⟨ak.L1.bM (),?_,fun kn kx=> ?_⟩
   ·simp only[ak.L1.add,ak.L1.F]
    simp[h]
    rfl
   ·rw[step,bN h,ae]
 ·have step:∀ {R:Type} (kn:AS→Option R) (kx:Exit→AS→Option R),ak.L1.R (ch,s,ch.2.2.2.1,1) kn kx=aC (decide (fQ (im 1 s.2.2.1)≤1125899906842624)) (kn (ak.L1.st (ch,s,ch.2.2.2.1,2))) (kx (ak.L1.bM ()).1 (ak.L1.bM ()).2):=by
   intro R kn kx
   rw[ak.L1.step,bB (by omega),bz (by omega) (by omega),bO.run (d:=(s,1)) ⟨.inr rfl,hA,by show s.2.2.1.length≤1000;omega⟩]
   simp only[ah,aa,bO.add,bO.F]
   rw[show nth jG ch.2.2.2.1 (Int.toNat 1)=te 6 from hch.t1,E3,Iu,cZ (by omega),ae]
   by_cases h:fQ (im 1 s.2.2.1)≤1125899906842624
   ·rw[cZ (by omega),aD h];rfl
   ·rw[dS (by omega),bN h];rfl
  by_cases h:fQ (im 1 s.2.2.1)≤1125899906842624
  ·left
   refine⟨(ch,s,ch.2.2.2.1,2),⟨hch,hA,hl,rfl,.inr (.inr rfl)⟩,by show(2 - (2:Int)).toNat < (2 - (1:Int)).toNat;decide,?_,fun kn kx=> ?_⟩
   ·simp only[ak.L1.add,ak.L1.F]
    simp[h]
   ·rw[step,aD h,ah]
  ·right
   refine⟨ak.L1.bM (),?_,fun kn kx=> ?_⟩
   ·simp only[ak.L1.add,ak.L1.F]
    simp[h]
    rfl
   ·rw[step,bN h,ae]
 ·right
  refine⟨ak.L1.iG (ch,s),?_,fun kn kx=> ?_⟩
  ·simp only[ak.L1.add,ak.L1.F]
   simp
   rfl
  ·rw[ak.L1.step,bm (by omega),ae]
theorem ak.ok:ak.Ok:=by
 rintro⟨ch,s⟩ ⟨hch,hu⟩
 have hch:jI ch:=hch
 rw[ak.eq,bI.run (d:=ch) hch]
 simp only[aa,bI.add,bI.F,bH.c1,bH.c2]
 rw[gO rfl,ae]
 simp only[ak.add,ak.F,qJ]
 cases h1:kC s.1 0 1048576
 ·rfl
 cases h2:kC (nth ti s.2.1 0) 0 1125899906842624
 ·rfl
 cases h3:kC (nth ti s.2.1 1) 0 1125899906842624
 ·rfl
 cases h4:kC s.2.2.2.1 0 1000
 ·rfl
 simp only[Bool.not_true,ae,Bool.true_and]
 by_cases h5:s.2.2.1.length≤16
 rotate_left
 ·rw[dS (by omega),ah,bN h5];rfl
 rw[cZ (by omega),ae,aD h5,Bool.true_and,ak.L0.run (d:=(ch,s,s.2.2.1,(s.2.2.1.length:Int),0)) ⟨hch,hu,rfl,rfl,0,Nat.zero_le _,rfl⟩]
 simp only[aa,ak.L0.add,ak.L0.F,Int.toNat_zero,List.drop_zero]
 rw[show rC s.2.2.1 0=none from rfl]
 cases h6:nu none s.2.2.1
 ·simp only[Bool.false_eq_true,if_false,Sum.isLeft_inl,ah,Sum.getLeft?_inl,aa,Bool.false_and]
 have hA:∀c∈s.2.2.1,yz c:=fun c hc=>(nP _ _ h6 c hc).a
 simp only[if_true,Sum.isLeft_inr,ae,Sum.getRight?_inr,aa,Bool.true_and]
 rw[ak.L1.run (d:=(ch,s,ch.2.2.2.1,0)) ⟨hch,hA,h5,rfl,.inl rfl⟩]
 simp only[aa,ak.L1.add,ak.L1.F]
 by_cases h7:fQ (im 0 s.2.2.1)≤1125899906842624
 rotate_left
 ·rw[bN (fun x=>h7 (x (by omega))),bN h7];rfl
 by_cases h8:fQ (im 1 s.2.2.1)≤1125899906842624
 rotate_left
 ·rw[bN (p:=(0:Int)≤1→_) (fun x=>h8 (x (by omega))),bN h8,Bool.and_false,Bool.false_and,Bool.and_false];rfl
 rw[aD (fun _=>h7),aD (p:=(0:Int)≤1→_) (fun _=>h8),aD h7,aD h8,Bool.true_and,Bool.true_and,Bool.true_and,if_pos rfl]
 simp only[Sum.isLeft_inr,ae,Sum.getRight?_inr,aa]
 rw[aW.run (d:=s) ⟨hA,by have:s.2.2.1.length≤16:=h5;show s.2.2.1.length≤1000;omega,kD.1 h2,kD.1 h3⟩]
 simp only[aa,aW.add,aW.F]
 cases ia (nth ti s.2.1 0+nth ti s.2.1 1+fQ s.2.2.1) ch.2.1
 ·rfl
 have ho:=hch.op
 rw[ah,bz (by omega) (by omega),ah,dN.run (d:=(ch,s)) trivial]
 rfl
noncomputable def ak.E:=Entry.cF [some iu,some hZ] ak.st ak.aq ak.add ak.F ak.out
noncomputable def ak.call:ak.D→Option ak.X:=bC ak.E ak.st
theorem ak.run:bD ak.call ak.aq ak.add ak.F:=cz (cv [.d iu,.d hZ] fun _=>by kernel_rfl)
noncomputable def ak.sg:SG Tryz.prog:=⟨41,aK,ak.E,.fn 2 (by kernel_rfl) ak.ok (And.intro (.cF ak.L0.ok (by kernel_rfl)) (And.intro (.cF ak.L1.ok (by kernel_rfl)) trivial))⟩
set_option synthInstance.maxSize 5000
abbrev aL.L0.D:=Int×Int×fL×Int
def aL.L0.st:aL.L0.D→AS:=fun(fromv_2,id_2,sv_2,i)=>⟨([.undef,.d ti fromv_2,.d ti id_2,.eI hZ sv_2,.undef,.undef,.undef,.d ti i]++bu 26 []),[],(List.replicate 34 [])⟩
abbrev aL.L0.Y0:=Int
abbrev aL.L0.X0:=Int
def aL.L0.bM:aL.L0.X0→Exit×AS:=fun x=>(.ret,⟨(bu 6 ([.d ti x]++bu 27 [])),[],(List.replicate 34 [])⟩)
abbrev aL.L0.Y1:=Unit
abbrev aL.L0.X1:=Unit
def aL.L0.iG:aL.L0.X1→Exit×AS:=fun x=>(.exit 0,⟨(bu 34 []),[],(List.replicate 34 [])⟩)
abbrev aL.L0.X:=(aL.L0.X0)⊕(aL.L0.X1)
abbrev aL.L0.Y:=(aL.L0.Y0)⊕(aL.L0.Y1)
def aL.L0.out:aL.L0.X→Out (Exit×AS):=fun x=> .br x.isLeft (.get x.getLeft? fun a=> .ok (aL.L0.bM a)) (.get x.getRight? fun b=> .ok (aL.L0.iG b))
def aL.L0.add:aL.L0.D→aL.L0.Y→aL.L0.X:=fun(fromv_2,id_2,sv_2,i) y=>match y with | .inl y=> .inl y | .inr z=> .inr (z)
abbrev aL.D:=fL×Int×Int
def aL.st:aL.D→SA:=fun(sv,fromv,id)=>([.d hZ sv,.d ti fromv,.d ti id],[])
abbrev aL.Y:=Int
abbrev aL.X:=Int
def aL.out:aL.X→aT:=fun x=>⟨.d ti x,[],[]⟩
def aL.add:aL.D→aL.Y→aL.X:=fun(sv,fromv,id) y=>y
def BZ(a i:Int):fE→Bool:=fun c=>ia c.1 a && ia c.2.1 i
def aL.L0.aq:aL.L0.D→Prop:=fun(_,_,s,i)=>s.2.2.1.length≤1000∧∃k:Nat,k≤s.2.2.1.length∧i=k
def aL.L0.F:aL.L0.D→aL.L0.Y:=fun(a,b,s,i)=>nB (BZ a b) (s.2.2.1.drop i.toNat) i
def aL.aq:aL.D→Prop:=fun(s,_,_)=>s.2.2.1.length≤1000
def aL.F:aL.D→aL.Y:=fun(s,a,b)=>v8 (BZ a b) s.2.2.1
noncomputable def aL.G:dX:=eX (P:=Tryz.prog) []
noncomputable def aL.L0.E:=cf.cF aL.L0.st aL.L0.aq aL.L0.add aL.L0.F aL.L0.out
noncomputable def aL.L0.call:aL.L0.D→Option aL.L0.X:=dO aL.L0.E aL.L0.st
noncomputable def aL.an:ej:= {loops:=ky [(2,{bt:=[1,2,3,7]})],outs:=kr [(2,{},{bt:=[6]})],gk:=kY [(2,aL.L0.E)]}
noncomputable def aL.A:= @cq Tryz.prog aL.G aL.an 0 Tryz.f71 _ aL.st
abbrev aL.Ok:=cr @aL.A aL.aq aL.add aL.F aL.out
noncomputable def aL.L0.R:= @cP Tryz.prog aL.G aL.an 0 Tryz.f71 0 _ aL.L0.st
abbrev aL.L0.Ok:=fg Tryz.prog aL.G aL.an 0 Tryz.f71 0 aL.L0.st aL.L0.aq aL.L0.add aL.L0.F aL.L0.out
theorem aL.L0.run:bD aL.L0.call aL.L0.aq aL.L0.add aL.L0.F:=fw (fk [.d ti,.d ti,.d hZ,.d ti] fun _=>by kernel_rfl)
theorem aL.L0.aF:oU @aL.L0.R aL.L0.st aL.L0.aq aL.L0.add aL.L0.F aL.L0.out aL.L0.Ok:=p9
theorem aL.L0.step{R:Type}(fromv_2:Int)(id_2:Int)(sv_2:fL)(i:Int)(kn:AS→Option R)(kx:Exit→AS→Option R):aL.L0.R (fromv_2,id_2,sv_2,i) kn kx=
  aC ((gM i (((List.length sv_2.2.2.1):Nat):Int))) (
   aC (dY i (((List.length sv_2.2.2.1):Nat):Int)) (
   aC ((ia (nth gr sv_2.2.2.1 (Int.toNat i)).1 fromv_2)) (
    aC (dY i (((List.length sv_2.2.2.1):Nat):Int)) (
    aC ((ia (nth gr sv_2.2.2.1 (Int.toNat i)).2.1 id_2)) (
     kx (aL.L0.bM i).1 (aL.L0.bM i).2) (
     kn (aL.L0.st (fromv_2,id_2,sv_2,(bw .i64 i (1:Int)))))) none) (
    kn (aL.L0.st (fromv_2,id_2,sv_2,(bw .i64 i (1:Int)))))) none) (
   kx (aL.L0.iG ()).1 (aL.L0.iG ()).2):=by kernel_rfl
theorem aL.eq{R:Type}(sv:fL)(fromv:Int)(id:Int)(k:aT→Option R):aL.A (sv,fromv,id) k=
  ab (aL.L0.call (fromv,id,sv,(0:Int))) fun x1=>
  aC (x1.isLeft) (
   ab (x1.getLeft?) fun a2=>
   k (aL.out a2)) (
   ab (x1.getRight?) fun b3=>
   k (aL.out (-1:Int))):=by kernel_rfl
theorem aL.L0.ok:aL.L0.Ok:=by
 refine aL.L0.aF (fun(_,_,s,i)=>s.2.2.1.length - i.toNat) ?_
 rintro⟨a,b,s,i⟩ ⟨hl,k,hk,rfl⟩
 have hl:s.2.2.1.length≤1000:=hl
 have hk:k≤s.2.2.1.length:=hk
 by_cases h:k < s.2.2.1.length
 ·have n1:nth gr s.2.2.1 k=s.2.2.1[k]:=dT (t:=gr) h
  have hd:nB (BZ a b) (s.2.2.1.drop k) k=if BZ a b s.2.2.1[k]=true then .inl (k:Int) else nB (BZ a b) (s.2.2.1.drop (k+1)) ((k+1:Nat):Int):=by rw[List.drop_eq_getElem_cons h];rfl
  have step:∀ {R:Type} (kn:AS→Option R) (kx:Exit→AS→Option R),aL.L0.R (a,b,s,(k:Int)) kn kx=aC (BZ a b s.2.2.1[k]) (kx (aL.L0.bM (k:Int)).1 (aL.L0.bM (k:Int)).2) (kn (aL.L0.st (a,b,s,((k+1:Nat):Int)))):=by
   intro R kn kx
   rw[aL.L0.step,bB (by omega),bz (by omega) (by omega),Int.toNat_natCast,n1,N.mC (by omega)]
   simp only[ah,BZ]
   cases ia s.2.2.1[k].1 a <;> rfl
  cases hp:BZ a b s.2.2.1[k]
  ·left
   refine⟨(a,b,s,((k+1:Nat):Int)),⟨hl,k+1,by omega,rfl⟩,by simp only[Int.toNat_natCast];omega,?_,fun kn kx=> ?_⟩
   ·simp only[aL.L0.add,aL.L0.F,Int.toNat_natCast,hd,hp,Bool.false_eq_true,if_false]
   ·rw[step,hp,ae]
  ·right
   refine⟨aL.L0.bM (k:Int),?_,fun kn kx=> ?_⟩
   ·simp only[aL.L0.add,aL.L0.F,Int.toNat_natCast,hd,hp,if_true]
    rfl
   ·rw[step,hp,ah]
 ·right
  obtain rfl:k=s.2.2.1.length:=by omega
  refine⟨aL.L0.iG (),?_,fun kn kx=> ?_⟩
  ·simp only[aL.L0.add,aL.L0.F,Int.toNat_natCast,List.drop_length]
   rfl
  ·rw[aL.L0.step,bm (by omega),ae]
theorem aL.ok:aL.Ok:=by
 rintro⟨s,a,b⟩ hl
 rw[aL.eq,aL.L0.run (d:=(a,b,s,0)) ⟨hl,0,Nat.zero_le _,rfl⟩]
 simp only[aa,aL.L0.add,aL.L0.F,Int.toNat_zero,List.drop_zero,aL.add,aL.F,v8]
 cases nB (BZ a b) s.2.2.1 0 <;> rfl
noncomputable def aL.E:=Entry.cF [some hZ,some ti,some ti] aL.st aL.aq aL.add aL.F aL.out
noncomputable def aL.call:aL.D→Option aL.X:=bC aL.E aL.st
theorem aL.run:bD aL.call aL.aq aL.add aL.F:=cz (cv [.d hZ,.d ti,.d ti] fun _=>by kernel_rfl)
noncomputable def aL.sg:SG Tryz.prog:=⟨71,aK,aL.E,.fn 1 (by kernel_rfl) aL.ok (And.intro (.cF aL.L0.ok (by kernel_rfl)) trivial)⟩
abbrev bk.L0.D:=fL×fE×Bool×Int×Int×(List Int)×(Int×Unit)×Int×(List Int)×Nat×(Int×Unit)×(List fE)
def bk.L0.st:bk.L0.D→AS:=fun(sv_2,c_2,done,i,n4,n4_2,n4_3,n5,n5_2,n5L,n5_3,n32)=>⟨([.undef,.undef,.eI hZ sv_2,.eI gr c_2,.ptr (.new 4 0) 0 [] 0,.ptr (.new 5 0) 0 [] 0,.d .bool done,.d ti i]++bu 57 []),[],(cw 4 ([[.obj 0 false (.pr (.d ti n4) (.pr (.d (.arr 2 ti) n4_2) (.pr (.dP) (.d (.pair ti .unit) n4_3))))],[.obj 0 false (.pr (.d ti n5) (.pr (.d (.arr 2 ti) n5_2) (.pr (.cT (.new 32 0) 0 [] 0 0 n5L) (.d (.pair ti .unit) n5_3))))]]++cw 26 ([[.obj 0 false (.vec 75 gr n32)]]++cw 32 [])))⟩
abbrev bk.L0.Y0:=Bool×Nat×(List fE)
abbrev bk.L0.X0:=(fE×Int×(List Int)×(Int×Unit)×Int×(List Int)×(Int×Unit))×(Bool×Nat×(List fE))
def bk.L0.bM:bk.L0.X0→Exit×AS:=fun x=>(.exit 0,⟨([.undef,.undef,.undef,.eI gr x.1.1,.ptr (.new 4 0) 0 [] 0,.ptr (.new 5 0) 0 [] 0,.d .bool x.2.1]++bu 58 []),[],(cw 4 ([[.obj 0 false (.pr (.d ti x.1.2.1) (.pr (.d (.arr 2 ti) x.1.2.2.1) (.pr (.dP) (.d (.pair ti .unit) x.1.2.2.2.1))))],[.obj 0 false (.pr (.d ti x.1.2.2.2.2.1) (.pr (.d (.arr 2 ti) x.1.2.2.2.2.2.1) (.pr (.cT (.new 32 0) 0 [] 0 0 x.2.2.1) (.d (.pair ti .unit) x.1.2.2.2.2.2.2))))]]++cw 26 ([[.obj 0 false (.vec 75 gr x.2.2.2)]]++cw 32 [])))⟩)
abbrev bk.L0.X:=bk.L0.X0
abbrev bk.L0.Y:=bk.L0.Y0
def bk.L0.out:bk.L0.X→Out (Exit×AS):=fun x=> .ok (bk.L0.bM x)
def bk.L0.add:bk.L0.D→bk.L0.Y→bk.L0.X:=fun(sv_2,c_2,done,i,n4,n4_2,n4_3,n5,n5_2,n5L,n5_3,n32) y=>((c_2,n4,n4_2,n4_3,n5,n5_2,n5_3),y)
abbrev bk.D:=fL×fE
def bk.st:bk.D→SA:=fun(sv,c)=>([.d hZ sv,.d gr c],[])
abbrev bk.Y:=fL
abbrev bk.X:=fL
def bk.out:bk.X→aT:=fun x=>⟨.d hZ x,[],[]⟩
def bk.add:bk.D→bk.Y→bk.X:=fun(sv,c) y=>y
def qB:Bool→fE→List fE→List fE
 |_,_,[]=> []
 |d,c,x::l=>if(!d && sh c x)=true then c::x::qB true c l else x::qB d c l
def tM:Bool→fE→List fE→Bool
 |d,_,[]=>d
 |d,c,x::l=>if(!d && sh c x)=true then tM true c l else tM d c l
def qA(c:fE)(l:List fE):List fE:=qB false c l++(if tM false c l=true then [] else [c])
theorem sE:∀(c:fE) (l:List fE),qB true c l=l∧tM true c l=true
 |c,[]=>⟨rfl,rfl⟩
 |c,x::l=>by
  have:=sE c l
  simp only[qB,tM,Bool.not_true,Bool.false_and,Bool.false_eq_true,if_false,this.1,this.2,and_self]
theorem pR(c x:fE)(l:List fE):qA c (x::l)=if sh c x=true then c::x::l else x::qA c l:=by
 unfold qA
 simp only[qB,tM,Bool.not_false,Bool.true_and]
 split
 ·rw[(sE c l).1,(sE c l).2]
  simp
 ·rfl
def hM(s:fL)(c:fE):fL:=(s.1,(s.2.1.set c.1.toNat (nth ti s.2.1 c.1.toNat - c.2.2.1),(qA c s.2.2.1,s.2.2.2)))
def bk.L0.aq:bk.L0.D→Prop:=fun(s,c,done,i,z1,z2,z3,a1,a2,L,a3,row)=>s.2.2.1.length≤1000∧∃k:Nat,k≤s.2.2.1.length∧i=k∧L=row.length∧row.length≤2*k
def bk.L0.F:bk.L0.D→bk.L0.Y:=fun(s,c,done,i,z1,z2,z3,a1,a2,L,a3,row)=>(tM done c (s.2.2.1.drop i.toNat),(row++qB done c (s.2.2.1.drop i.toNat)).length,row++qB done c (s.2.2.1.drop i.toNat))
def bk.aq:bk.D→Prop:=fun(s,c)=>s.2.2.1.length≤1000∧s.2.1.length=2∧(0≤c.1∧c.1≤1)∧Bd (nth ti s.2.1 c.1.toNat) 0 1125899906842624∧0≤c.2.2.1∧c.2.2.1≤1125899906842624
def bk.F:bk.D→bk.Y:=fun(s,c)=>hM s c
noncomputable def bk.G:dX:=eX (P:=Tryz.prog) [cn.sg]
noncomputable def bk.L0.E:=cf.cF bk.L0.st bk.L0.aq bk.L0.add bk.L0.F bk.L0.out
noncomputable def bk.L0.call:bk.L0.D→Option bk.L0.X:=dO bk.L0.E bk.L0.st
noncomputable def bk.an:ej:= {loops:=ky [(5,{bt:=[2,3,4,5,6,7],sites:=[4,5,32],kc:=[⟨5,[.snd,.snd,.fst],32,51⟩]})],outs:=kr [(5,{bt:=[3,4,5,6],sites:=[4,5,32]},{bt:=[4]})],gk:=kY [(5,bk.L0.E)],res:=[some hZ]}
noncomputable def bk.A:= @cq Tryz.prog bk.G bk.an 0 Tryz.f72 _ bk.st
abbrev bk.Ok:=cr @bk.A bk.aq bk.add bk.F bk.out
noncomputable def bk.L0.R:= @cP Tryz.prog bk.G bk.an 0 Tryz.f72 0 _ bk.L0.st
abbrev bk.L0.Ok:=fg Tryz.prog bk.G bk.an 0 Tryz.f72 0 bk.L0.st bk.L0.aq bk.L0.add bk.L0.F bk.L0.out
theorem bk.L0.run:bD bk.L0.call bk.L0.aq bk.L0.add bk.L0.F:=fw (fk [.d hZ,.d gr,.d .bool,.d ti,.d ti,.d (.slice ti),.d (.pair ti .unit),.d ti,.d (.slice ti),.n,.d (.pair ti .unit),.d (.slice gr)] fun _=>by kernel_rfl)
theorem bk.L0.aF:gg @bk.L0.R bk.L0.st bk.L0.aq bk.L0.add bk.L0.F bk.L0.bM bk.L0.Ok:=gj
theorem bk.L0.step{R:Type}(sv_2:fL)(c_2:fE)(done:Bool)(i:Int)(n4:Int)(n4_2:(List Int))(n4_3:(Int×Unit))(n5:Int)(n5_2:(List Int))(n5L:Nat)(n5_3:(Int×Unit))(n32:(List fE))(kn:AS→Option R)(kx:Exit→AS→Option R):bk.L0.R (sv_2,c_2,done,i,n4,n4_2,n4_3,n5,n5_2,n5L,n5_3,n32) kn kx=
  aC ((gM i (((List.length sv_2.2.2.1):Nat):Int))) (
   aC ((!done)) (
    aC (dY i (((List.length sv_2.2.2.1):Nat):Int)) (
    ab (cn.call (c_2,(nth gr sv_2.2.2.1 (Int.toNat i)))) fun x1=>
    aC (x1) (
     aC (decide (n5L≤(List.length n32))) (
     aC (dK (n5L+1) 40) (
     aC (dY i (((List.length sv_2.2.2.1):Nat):Int)) (
     aC (decide ((n5L+1)≤(List.length ((List.take n5L n32)++ [c_2])))) (
     aC (dK ((n5L+1)+1) 40) (
     kn (bk.L0.st (sv_2,c_2,true,(bw .i64 i (1:Int)),n4,n4_2,n4_3,n5,n5_2,((n5L+1)+1),n5_3,((List.take (n5L+1) ((List.take n5L n32)++ [c_2]))++ [(nth gr sv_2.2.2.1 (Int.toNat i))])))) none) none) none) none) none) (
     aC (dY i (((List.length sv_2.2.2.1):Nat):Int)) (
     aC (decide (n5L≤(List.length n32))) (
     aC (dK (n5L+1) 40) (
     kn (bk.L0.st (sv_2,c_2,done,(bw .i64 i (1:Int)),n4,n4_2,n4_3,n5,n5_2,(n5L+1),n5_3,((List.take n5L n32)++ [(nth gr sv_2.2.2.1 (Int.toNat i))])))) none) none) none)) none) (
    aC (dY i (((List.length sv_2.2.2.1):Nat):Int)) (
    aC (decide (n5L≤(List.length n32))) (
    aC (dK (n5L+1) 40) (
    kn (bk.L0.st (sv_2,c_2,done,(bw .i64 i (1:Int)),n4,n4_2,n4_3,n5,n5_2,(n5L+1),n5_3,((List.take n5L n32)++ [(nth gr sv_2.2.2.1 (Int.toNat i))])))) none) none) none)) (
   kx (bk.L0.bM ((c_2,n4,n4_2,n4_3,n5,n5_2,n5_3),(done,n5L,n32))).1 (bk.L0.bM ((c_2,n4,n4_2,n4_3,n5,n5_2,n5_3),(done,n5L,n32))).2):=by kernel_rfl
theorem bk.eq{R:Type}(sv:fL)(c:fE)(k:aT→Option R):bk.A (sv,c) k=
  ab (bk.L0.call (sv,c,false,(0:Int),(0:Int),(List.replicate 2 (0:Int)),((0:Int),()),sv.1,sv.2.1,0,sv.2.2.2,([]:List fE))) fun x3=>
  aC ((!x3.2.1)) (
   aC (decide (x3.2.2.1≤(List.length x3.2.2.2))) (
   aC (dK (x3.2.2.1+1) 40) (
   aC (dY x3.1.1.1 (2:Int)) (
   aC (decide ((Int.toNat x3.1.1.1) < (List.length x3.1.2.2.2.2.2.1))) (
   aC (decide ((1+(((Int.toNat x3.1.1.1)*1)+0))=(1+((Int.toNat x3.1.1.1)*1)))) (
   aC (dY x3.1.1.1 (2:Int)) (
   aC (decide ((Int.toNat x3.1.1.1) < (List.length x3.1.2.2.2.2.2.1))) (
   aC (decide ((1+(((Int.toNat x3.1.1.1)*1)+0))=(1+((Int.toNat x3.1.1.1)*1)))) (
   aC (decide ((Int.toNat x3.1.1.1) < (List.length x3.1.2.2.2.2.2.1))) (
   aC (decide (0=0∧(0+(x3.2.2.1+1))≤(List.length ((List.take x3.2.2.1 x3.2.2.2)++ [x3.1.1])))) (
   k (bk.out (x3.1.2.2.2.2.1,((List.set x3.1.2.2.2.2.2.1 (Int.toNat x3.1.1.1) (bS .i64 (nth ti x3.1.2.2.2.2.2.1 (Int.toNat x3.1.1.1)) x3.1.1.2.2.1)),((cut ((List.take x3.2.2.1 x3.2.2.2)++ [x3.1.1]) 0 (x3.2.2.1+1)),x3.1.2.2.2.2.2.2))))) none) none) none) none) none) none) none) none) none) none) (
   aC (dY x3.1.1.1 (2:Int)) (
   aC (decide ((Int.toNat x3.1.1.1) < (List.length x3.1.2.2.2.2.2.1))) (
   aC (decide ((1+(((Int.toNat x3.1.1.1)*1)+0))=(1+((Int.toNat x3.1.1.1)*1)))) (
   aC (dY x3.1.1.1 (2:Int)) (
   aC (decide ((Int.toNat x3.1.1.1) < (List.length x3.1.2.2.2.2.2.1))) (
   aC (decide ((1+(((Int.toNat x3.1.1.1)*1)+0))=(1+((Int.toNat x3.1.1.1)*1)))) (
   aC (decide ((Int.toNat x3.1.1.1) < (List.length x3.1.2.2.2.2.2.1))) (
   aC (decide (0=0∧(0+x3.2.2.1)≤(List.length x3.2.2.2))) (
   k (bk.out (x3.1.2.2.2.2.1,((List.set x3.1.2.2.2.2.2.1 (Int.toNat x3.1.1.1) (bS .i64 (nth ti x3.1.2.2.2.2.2.1 (Int.toNat x3.1.1.1)) x3.1.1.2.2.1)),((cut x3.2.2.2 0 x3.2.2.1),x3.1.2.2.2.2.2.2))))) none) none) none) none) none) none) none) none):=by kernel_rfl
theorem bk.L0.ok:bk.L0.Ok:=by
 refine bk.L0.aF (fun(s,c,done,i,_)=>s.2.2.1.length - i.toNat) ?_
 rintro⟨s,c,done,i,z1,z2,z3,a1,a2,L,a3,row⟩ ⟨hl,k,hk,rfl,rfl,hr⟩
 have hl:s.2.2.1.length≤1000:=hl
 have hk:k≤s.2.2.1.length:=hk
 have hr:row.length≤2*k:=hr
 by_cases h:k < s.2.2.1.length
 ·left
  have n1:nth gr s.2.2.1 k=s.2.2.1[k]:=dT (t:=gr) h
  have hd:s.2.2.1.drop k=s.2.2.1[k]::s.2.2.1.drop (k+1):=List.drop_eq_getElem_cons h
  have e1:∀x:fE,(row++ [x]).length=row.length+1:=fun x=>by rw[List.length_append];rfl
  have e2:∀x y:fE,(row++ [x]++ [y]).length=row.length+1+1:=fun x y=>by rw[List.length_append,List.length_append];rfl
  by_cases hq:(!done && sh c s.2.2.1[k])=true
  ·refine⟨(s,c,true,((k+1:Nat):Int),z1,z2,z3,a1,a2,row.length+1+1,a3,row++ [c]++ [s.2.2.1[k]]),⟨hl,k+1,by omega,rfl,(e2 _ _).symm,by show(row++ [c]++ [s.2.2.1[k]]).length≤_;rw[e2];omega⟩,by simp only[Int.toNat_natCast];omega,?_,fun kn kx=> ?_⟩
   ·simp only[bk.L0.add,bk.L0.F,Int.toNat_natCast,hd,qB,tM,hq,if_true,List.append_assoc,List.cons_append,List.nil_append]
   ·rw[bk.L0.step,bB (by omega),Int.toNat_natCast,n1,N.mC (by omega)]
    obtain⟨q1,q2⟩:=Bool.and_eq_true_iff.1 hq
    rw[q1,ah,ah,bz (by omega) (by omega),ah,cn.c,aa,q2,ah,aD (Nat.le_refl _),ah,eO (by omega) (by omega),ah,ah,List.take_length]
    rw[aD (by rw[e1];exact Nat.le_refl _),ah,eO (by omega) (by omega),ah,List.take_of_length_le (by rw[e1];exact Nat.le_refl _)]
  ·refine⟨(s,c,done,((k+1:Nat):Int),z1,z2,z3,a1,a2,row.length+1,a3,row++ [s.2.2.1[k]]),⟨hl,k+1,by omega,rfl,(e1 _).symm,by show(row++ [s.2.2.1[k]]).length≤_;rw[e1];omega⟩,by simp only[Int.toNat_natCast];omega,?_,fun kn kx=> ?_⟩
   ·simp only[bk.L0.add,bk.L0.F,Int.toNat_natCast,hd,qB,tM,hq,Bool.false_eq_true,if_false,List.append_assoc,List.singleton_append]
   ·rw[bk.L0.step,bB (by omega),Int.toNat_natCast,n1,N.mC (by omega)]
    rw[ah,bz (by omega) (by omega),cn.c,aD (Nat.le_refl _),eO (by omega) (by omega),List.take_length]
    simp only[ah,aa]
    cases done
    ·have q:sh c s.2.2.1[k]=false:=by
      cases e:sh c s.2.2.1[k]
      ·rfl
      ·rw[e]at hq;exact absurd rfl hq
     rw[q]
     rfl
    ·rfl
 ·right
  obtain rfl:k=s.2.2.1.length:=by omega
  intro R kn kx
  rw[bk.L0.step,bm (by omega),ae]
  simp only[bk.L0.add,bk.L0.F,Int.toNat_natCast,List.drop_length,qB,tM,List.append_nil]
theorem bk.ok:bk.Ok:=by
 rintro⟨s,c⟩ ⟨hl,h2,hc,ha,hb⟩
 have hl:s.2.2.1.length≤1000:=hl
 have h2:s.2.1.length=2:=h2
 have hc:0≤c.1∧c.1≤1:=hc
 have ha0:=ha.1
 have ha1:=ha.2
 have hb:0≤c.2.2.1∧c.2.2.1≤1125899906842624:=hb
 rw[bk.eq,bk.L0.run (d:=(s,c,false,0,0,List.replicate 2 0,(0,()),s.1,s.2.1,0,s.2.2.2,[])) ⟨hl,0,Nat.zero_le _,rfl,rfl,Nat.zero_le _⟩]
 simp only[aa,bk.L0.add,bk.L0.F,Int.toNat_zero,List.drop_zero,List.nil_append,bk.add,bk.F,hM]
 have hT:(qB false c s.2.2.1).length≤2*s.2.2.1.length:=by
  have:∀(d:Bool) (l:List fE),(qB d c l).length≤2*l.length:=by
   intro d l
   induction l generalizing d with
   |nil=>exact Nat.le_refl _
   |cons x l ih=>
    rw[qB]
    split
    ·have:=ih true
     simp only[List.length_cons]
     omega
    ·have:=ih d
     simp only[List.length_cons]
     omega
  exact this false _
 have i1:dY c.1 2=true:=bz hc.1 (by omega)
 have i2:c.1.toNat < s.2.1.length:=by omega
 have i3:1+(c.1.toNat*1+0)=1+c.1.toNat*1:=by omega
 rw[fe (by omega) (by omega)]
 simp only[i1,aD i2,aD i3,ah,List.take_length,Nat.zero_add,qA]
 cases tM false c s.2.2.1
 ·rw[Bool.not_false,ah,aD (Nat.le_refl _),ah,eO (by omega) (by omega),ah,aD ⟨trivial,by rw[List.length_append];exact Nat.le_refl _⟩,ah,gG (by rw[List.length_append];rfl)]
  rfl
 ·rw[Bool.not_true,ae,aD ⟨trivial,Nat.le_refl _⟩,ah,gG rfl]
  rw[if_pos rfl,List.append_nil]
noncomputable def bk.E:=Entry.cF [some hZ,some gr] bk.st bk.aq bk.add bk.F bk.out
noncomputable def bk.call:bk.D→Option bk.X:=bC bk.E bk.st
theorem bk.run:bD bk.call bk.aq bk.add bk.F:=cz (cv [.d hZ,.d gr] fun _=>by kernel_rfl)
noncomputable def bk.sg:SG Tryz.prog:=⟨72,aK,bk.E,.fn 1 (by kernel_rfl) bk.ok (And.intro (.cF bk.L0.ok (by kernel_rfl)) trivial)⟩
abbrev dU.D:=fF×fL×fE
def dU.st:dU.D→SA:=fun(ch,sv,c)=>([.d iu ch,.d hZ sv,.d gr c],[])
abbrev dU.Y:=fL×Int
abbrev dU.X:=fL×Int
def dU.out:dU.X→aT:=fun x=>⟨.cons (.d hZ x.1) (.cons (.d ti x.2) (.nil)),[],[]⟩
def dU.add:dU.D→dU.Y→dU.X:=fun(ch,sv,c) y=>y
def Fk:fL:=((0:Int),((List.replicate 2 (0:Int)),(([]:List fE),((0:Int),()))))
def Gn(ch:fF)(t:fL)(c:fE):Int:=nth ti t.2.1 c.1.toNat - (if c.1=ch.2.2.2.2.1 then tW t.2.2.2.1 t.2.2.1.length+660 else 0)
def tI(ch:fF)(s:fL)(c:fE):fL×Int:=
 if(qJ ch s && yx c)=true then
  if s.2.2.1.any (BZ c.1 c.2.1)=true then(Fk,4) else
  if s.2.2.1.length=16 then(Fk,3) else
  if fQ (im (1 - c.1) s.2.2.1)+c.2.2.1 > 1125899906842624 then(Fk,6) else
  if nth ti (hM s c).2.1 c.1.toNat < 0 then(Fk,8) else
  if nth ti (hM s c).2.1 ch.2.2.2.2.1.toNat < tW (hM s c).2.2.2.1 (hM s c).2.2.1.length+660 then(Fk,8) else
  if Gn ch (hM s c) c < 200 then(Fk,10) else(hM s c,0)
 else(Fk,1)
def dU.aq:dU.D→Prop:=fun(ch,s,c)=>jI ch∧oH s∧fh c.2.2.2.1
def dU.F:dU.D→dU.Y:=fun(ch,s,c)=>tI ch s c
noncomputable def dU.G:dX:=eX (P:=Tryz.prog) [aE.sg,df.sg,aL.sg,bK.sg,bk.sg,dy.sg]
noncomputable def dU.an:ej:= {res:=[some hZ,none]}
noncomputable def dU.A:= @cq Tryz.prog dU.G dU.an 0 Tryz.f30 _ dU.st
abbrev dU.Ok:=cr @dU.A dU.aq dU.add dU.F dU.out
theorem dU.eq{R:Type}(ch:fF)(sv:fL)(c:fE)(k:aT→Option R):dU.A (ch,sv,c) k=
  ab (aE.call (ch,sv)) fun x1=>
  ab (df.call c) fun x2=>
  aC ((!x1)) (
   k (dU.out (((0:Int),((List.replicate 2 (0:Int)),(([]:List fE),((0:Int),())))),(1:Int)))) (
   aC ((!x2)) (
    k (dU.out (((0:Int),((List.replicate 2 (0:Int)),(([]:List fE),((0:Int),())))),(1:Int)))) (
    ab (aL.call (sv,c.1,c.2.1)) fun x3=>
    aC ((kX x3 (0:Int))) (
     k (dU.out (((0:Int),((List.replicate 2 (0:Int)),(([]:List fE),((0:Int),())))),(4:Int)))) (
     aC (dY (bS .i64 (1:Int) c.1) (2:Int)) (
     ab (bK.call (sv,(bS .i64 (1:Int) c.1))) fun x4=>
     aC ((gM c.2.2.1 (nth jG ch.2.2.2.1 (Int.toNat (bS .i64 (1:Int) c.1))).2.2.2.2.1)) (
      k (dU.out (((0:Int),((List.replicate 2 (0:Int)),(([]:List fE),((0:Int),())))),(9:Int)))) (
      aC ((ia (((List.length sv.2.2.1):Nat):Int) (16:Int))) (
       k (dU.out (((0:Int),((List.replicate 2 (0:Int)),(([]:List fE),((0:Int),())))),(3:Int)))) (
       aC ((kX x4.1 (nth jG ch.2.2.2.1 (Int.toNat (bS .i64 (1:Int) c.1))).2.2.2.1)) (
        k (dU.out (((0:Int),((List.replicate 2 (0:Int)),(([]:List fE),((0:Int),())))),(3:Int)))) (
        aC ((na (bw .i64 x4.2 c.2.2.1) (nth jG ch.2.2.2.1 (Int.toNat (bS .i64 (1:Int) c.1))).2.2.2.2.2.1)) (
         k (dU.out (((0:Int),((List.replicate 2 (0:Int)),(([]:List fE),((0:Int),())))),(6:Int)))) (
         ab (bk.call (sv,c)) fun x5=>
         ab (dy.call (ch,x5)) fun x6=>
         aC (dY c.1 (2:Int)) (
         aC (decide ((Int.toNat c.1) < (List.length x5.2.1))) (
         aC (decide ((1+(((Int.toNat c.1)*1)+0))=(1+((Int.toNat c.1)*1)))) (
         aC ((gM (nth ti x5.2.1 (Int.toNat c.1)) (0:Int))) (
          k (dU.out (((0:Int),((List.replicate 2 (0:Int)),(([]:List fE),((0:Int),())))),(8:Int)))) (
          aC (dY ch.2.2.2.2.1 (2:Int)) (
          aC (decide ((Int.toNat ch.2.2.2.2.1) < (List.length x5.2.1))) (
          aC (decide ((1+(((Int.toNat ch.2.2.2.2.1)*1)+0))=(1+((Int.toNat ch.2.2.2.2.1)*1)))) (
          aC ((gM (nth ti x5.2.1 (Int.toNat ch.2.2.2.2.1)) x6)) (
           k (dU.out (((0:Int),((List.replicate 2 (0:Int)),(([]:List fE),((0:Int),())))),(8:Int)))) (
           aC (dY c.1 (2:Int)) (
           aC (decide ((Int.toNat c.1) < (List.length x5.2.1))) (
           aC (decide ((1+(((Int.toNat c.1)*1)+0))=(1+((Int.toNat c.1)*1)))) (
           aC ((ia c.1 ch.2.2.2.2.1)) (
            aC ((gM (bS .i64 (nth ti x5.2.1 (Int.toNat c.1)) x6) (nth jG ch.2.2.2.1 (Int.toNat (bS .i64 (1:Int) c.1))).2.1)) (
             k (dU.out (((0:Int),((List.replicate 2 (0:Int)),(([]:List fE),((0:Int),())))),(10:Int)))) (
             k (dU.out (x5,(0:Int))))) (
            aC ((gM (nth ti x5.2.1 (Int.toNat c.1)) (nth jG ch.2.2.2.1 (Int.toNat (bS .i64 (1:Int) c.1))).2.1)) (
             k (dU.out (((0:Int),((List.replicate 2 (0:Int)),(([]:List fE),((0:Int),())))),(10:Int)))) (
             k (dU.out (x5,(0:Int)))))) none) none) none)) none) none) none)) none) none) none))))) none))):=by kernel_rfl
structure tg(ch:fF)(s:fL):Prop where
 no:0≤s.1∧s.1≤1048576
 h0:Bd (nth ti s.2.1 0) 0 1125899906842624
 h1:Bd (nth ti s.2.1 1) 0 1125899906842624
 aV:0≤s.2.2.2.1∧s.2.2.2.1≤1000
 len:s.2.2.1.length≤16
 ko:nu none s.2.2.1=true
 o0:fQ (im 0 s.2.2.1)≤1125899906842624
 o1:fQ (im 1 s.2.2.1)≤1125899906842624
 Jh: @Eq Int (nth ti s.2.1 0+nth ti s.2.1 1+fQ s.2.2.1) ch.2.1
 cost: @GE.ge Int _ (nth ti s.2.1 ch.2.2.2.2.1.toNat) (tW s.2.2.2.1 s.2.2.1.length+660)
theorem mS{ch:fF}{s:fL}:qJ ch s=true↔tg ch s:=by
 unfold qJ ia kX
 simp only[Bool.and_eq_true,kD,decide_eq_true_eq,beq_iff_eq]
 exact⟨fun⟨a,b,c,d,e,f,g,h,i,j⟩=>⟨a,b,c,d,e,f,g,h,i,j⟩,fun h=>⟨h.no,h.h0,h.h1,h.aV,h.len,h.ko,h.o0,h.o1,h.Jh,h.cost⟩⟩
theorem tg.D6{ch:fF}{s:fL}(h:tg ch s){n:Int}(hn:n=0∨n=1):Bd (nth ti s.2.1 n.toNat) 0 1125899906842624:=by
 rcases hn with rfl | rfl
 ·exact h.h0
 ·exact h.h1
theorem tg.a{ch:fF}{s:fL}(h:tg ch s):∀c∈s.2.2.1,yz c:=fun c hc=>(nP _ _ h.ko c hc).a
theorem tg.off{ch:fF}{s:fL}(h:tg ch s){n:Int}(hn:n=0∨n=1):0≤fQ (im n s.2.2.1)∧fQ (im n s.2.2.1)≤1125899906842624:=by
 refine⟨(BE _ fun c hc=>h.a c ((List.mem_filter.1 hc).1)).1,?_⟩
 rcases hn with rfl | rfl
 ·exact h.o0
 ·exact h.o1
theorem uR:∀(c:fE) (l:List fE),(qA c l).length=l.length+1
 |c,[]=>rfl
 |c,x::l=>by
  rw[pR]
  split
  ·rfl
  ·rw[List.length_cons,uR c l];rfl
theorem zB{l:List Int}(h:l.length=2)(a b v:Int)(ha:a=0∨a=1)(hb:b=0∨b=1):nth ti (l.set a.toNat v) b.toNat=if a=b then v else nth ti l b.toNat:=by
 match l,h with
 |[x,y],_=>
  rcases ha with rfl | rfl <;> rcases hb with rfl | rfl <;> rfl
theorem EX{n:Int}(h:0≤n∧n≤1):n=0∨n=1:=by omega
theorem dU.ok:dU.Ok:=by
 rintro⟨ch,s,c⟩ ⟨hch,hu,hc⟩
 have hch:jI ch:=hch
 have hu:oH s:=hu
 rw[dU.eq,aE.run (d:=(ch,s)) ⟨hch,hu⟩]
 simp only[aa,aE.add,aE.F]
 rw[df.run (d:=c) hc]
 simp only[aa,df.add,df.F,dU.add,dU.F,tI]
 cases e1:qJ ch s
 ·rfl
 cases e2:yx c
 ·rfl
 have hs:=mS.1 e1
 have g:=mq.1 e2
 have gs:=EX g.side
 have hlen:=hs.len
 simp only[Bool.not_true,ae,Bool.and_self,if_true]
 rw[aL.run (d:=(s,c.1,c.2.1)) hu.2.1]
 simp only[aa,aL.add,aL.F,rf]
 cases e3:s.2.2.1.any (BZ c.1 c.2.1)
 rotate_left
 ·rfl
 have gs':1 - c.1=0∨1 - c.1=1:=by omega
 obtain⟨d,hd,_⟩:=hch.t gs'
 simp only[ae,Bool.false_eq_true,if_false]
 rw[Bt g.side,bz (by omega) (by omega),ah,bK.run (d:=(s,1 - c.1)) ⟨gs',hs.a,hu.2.1⟩]
 simp only[aa,bK.add,bK.F]
 rw[hd,Jg,E3,Iu,JM,bm (by have:=g.Aq;omega),ae]
 by_cases e4:s.2.2.1.length=16
 ·rw[eu (by omega),ah,if_pos e4];rfl
 have ho:=rz (1 - c.1) s.2.2.1
 have ho2:=hs.off gs'
 have ga:=g.Aq
 rw[dR (by omega),ae,if_neg e4,fx (by omega),ae,dL (by omega) (by omega)]
 by_cases e5:fQ (im (1 - c.1) s.2.2.1)+c.2.2.1 > 1125899906842624
 ·rw[dS e5,ah,if_pos e5];rfl
 have hv:=hs.D6 gs
 have hv0:=hv.1
 have hv1:=hv.2
 rw[cZ e5,ae,if_neg e5,bk.run (d:=(s,c)) ⟨hu.2.1,hu.2.2,g.side,hv,g.a.1,g.a.2⟩]
 simp only[aa,bk.add,bk.F]
 rw[dy.run (d:=(ch,hM s c)) trivial]
 simp only[aa,dy.add,dy.F]
 have l2:(hM s c).2.1.length=2:=by
  show(List.set _ _ _).length=2
  rw[List.length_set];exact hu.2.2
 have hop:=hch.op
 have i1:dY c.1 2=true:=bz g.side.1 (by omega)
 have i2:c.1.toNat < (hM s c).2.1.length:=by rw[l2];omega
 have i3:1+(c.1.toNat*1+0)=1+c.1.toNat*1:=by omega
 have j1:dY ch.2.2.2.2.1 2=true:=bz (by omega) (by omega)
 have j2:ch.2.2.2.2.1.toNat < (hM s c).2.1.length:=by rw[l2];omega
 have j3:1+(ch.2.2.2.2.1.toNat*1+0)=1+ch.2.2.2.2.1.toNat*1:=by omega
 simp only[i1,aD i2,aD i3,j1,aD j2,aD j3,ah]
 by_cases e6:nth ti (hM s c).2.1 c.1.toNat < 0
 ·rw[bB e6,ah,if_pos e6];rfl
 rw[bm e6,ae,if_neg e6]
 by_cases e7:nth ti (hM s c).2.1 ch.2.2.2.2.1.toNat < tW (hM s c).2.2.2.1 (hM s c).2.2.1.length+660
 ·rw[bB e7,ah,if_pos e7];rfl
 have hf:=sw (hM s c).2.2.2.1 (hM s c).2.2.1.length
 have hw: @Eq Int (nth ti (hM s c).2.1 c.1.toNat) (nth ti s.2.1 c.1.toNat - c.2.2.1):=by
  show nth ti (List.set _ _ _) _=_
  rw[zB hu.2.2 _ _ _ gs gs,if_pos rfl]
 rw[bm e7,ae,if_neg e7]
 unfold Gn
 by_cases e8:c.1=ch.2.2.2.2.1
 ·rw[eu e8,ah,fe (by omega) (by omega),if_pos e8]
  by_cases e9:nth ti (hM s c).2.1 c.1.toNat - (tW (hM s c).2.2.2.1 (hM s c).2.2.1.length+660) < 200
  ·rw[bB e9,ah,if_pos e9];rfl
  ·rw[bm e9,ae,if_neg e9]
 ·rw[dR e8,ae,if_neg e8,Int.sub_zero]
  by_cases e9:nth ti (hM s c).2.1 c.1.toNat < 200
  ·rw[bB e9,ah,if_pos e9];rfl
  ·rw[bm e9,ae,if_neg e9]
noncomputable def dU.E:=Entry.cF [some iu,some hZ,some gr] dU.st dU.aq dU.add dU.F dU.out
noncomputable def dU.call:dU.D→Option dU.X:=bC dU.E dU.st
theorem dU.run:bD dU.call dU.aq dU.add dU.F:=cz (cv [.d iu,.d hZ,.d gr] fun _=>by kernel_rfl)
noncomputable def dU.sg:SG Tryz.prog:=⟨30,aK,dU.E,.fn 0 (by kernel_rfl) dU.ok trivial⟩
end Go.Ab
