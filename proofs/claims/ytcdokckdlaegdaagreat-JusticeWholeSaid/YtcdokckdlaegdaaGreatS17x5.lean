/-
  Made short by a program of mine (wip/tools/mini.py).
-/
import Derived.Test.YtcdokckdlaegdaaGreatS17x4
set_option linter.unusedVariables false
set_option linter.unusedSimpArgs false
namespace Go.Ab
open Go.Proofs
set_option maxRecDepth 100000
set_option linter.unusedVariables false
set_option linter.unusedSimpArgs false
set_option synthInstance.maxSize 5000
abbrev eU.D:=Bs×Bs
def eU.st:eU.D→SA:=fun(b,h)=>([.d tB b,.d tH h],[])
abbrev eU.Y:=Bs
abbrev eU.X:=Bs
def eU.out:eU.X→aT:=fun x=>⟨.d tB x,[],[]⟩
def eU.add:eU.D→eU.Y→eU.X:=fun(b,h) y=>y
def eU.aq:eU.D→Prop:=fun(b,h)=>b.length+h.length≤100000000∧h.length=32
def eU.F:eU.D→eU.Y:=fun(b,h)=>b++h
noncomputable def eU.G:dU:=eZ (P:=Tryz.prog) [eb.sg]
noncomputable def eU.an:eu:= {}
noncomputable def eU.A:= @cq Tryz.prog eU.G eU.an 0 Tryz.f108 _ eU.st
abbrev eU.Ok:=cr @eU.A eU.aq eU.add eU.F eU.out
theorem eU.eq{R:Type}(b:Bs)(h:Bs)(k:aT→Option R):eU.A (b,h) k=
 ab (eb.call (b,(cut h 0 32))) fun x1=>
 k (eU.out x1):=by kernel_rfl
theorem eU.ok:eU.Ok:=by
 rintro⟨b,h⟩ ⟨h1,h2⟩
 have h1:b.length+h.length≤100000000:=h1
 have h2:h.length=32:=h2
 rw[eU.eq,gI h2,eb.run (d:=(b,h)) h1]
 rfl
noncomputable def eU.E:=Entry.cD [some tB,some tH] eU.st eU.aq eU.add eU.F eU.out
noncomputable def eU.call:eU.D→Option eU.X:=bC eU.E eU.st
theorem eU.run:bD eU.call eU.aq eU.add eU.F:=cw (cv [.d tB,.d tB] fun _=>by kernel_rfl)
noncomputable def eU.sg:SG Tryz.prog:=⟨108,aK,eU.E,.fn 0 (by kernel_rfl) eU.ok trivial⟩
abbrev eL.D:=Bs×Bs
def eL.st:eL.D→SA:=fun(b,c)=>([.d tB b,.d tB c],[])
abbrev eL.Y:=Bs
abbrev eL.X:=Bs
def eL.out:eL.X→aT:=fun x=>⟨.d tB x,[],[]⟩
def eL.add:eL.D→eL.Y→eL.X:=fun(b,c) y=>y
def eL.aq:eL.D→Prop:=fun(b,c)=>b.length+c.length≤90000000
def eL.F:eL.D→eL.Y:=fun(b,c)=>b++(vk c.length++c)
noncomputable def eL.G:dU:=eZ (P:=Tryz.prog) [cZ.sg,av.sg]
noncomputable def eL.an:eu:= {res:=[some tB]}
noncomputable def eL.A:= @cq Tryz.prog eL.G eL.an 0 Tryz.f109 _ eL.st
abbrev eL.Ok:=cr @eL.A eL.aq eL.add eL.F eL.out
theorem eL.eq{R:Type}(b:Bs)(c:Bs)(k:aT→Option R):eL.A (b,c) k=
 ab (cZ.call (((List.length c):Nat):Int)) fun x1=>
 ab (av.call [b,x1,c]) fun x2=>
 k (eL.out x2):=by kernel_rfl
theorem eL.ok:eL.Ok:=by
 rintro⟨b,c⟩ h
 have h:b.length+c.length≤90000000:=h
 have hl:=rI c.length
 rw[eL.eq,cZ.run (d:=(c.length:Int)) ⟨by omega,by omega⟩]
 simp only[aa,cZ.add,cZ.F]
 rw[av.run (d:=[b,vk c.length,c]) ⟨by show [b,vk c.length,c].length≤_;simp,by show kr [b,vk c.length,c]≤_;simp only[kr,List.flatten_cons,List.flatten_nil,List.append_nil,List.length_append];omega⟩]
 simp only[aa,av.add,av.F,eL.add,eL.F,List.flatten_cons,List.flatten_nil,List.append_nil]
noncomputable def eL.E:=Entry.cD [some tB,some tB] eL.st eL.aq eL.add eL.F eL.out
noncomputable def eL.call:eL.D→Option eL.X:=bC eL.E eL.st
theorem eL.run:bD eL.call eL.aq eL.add eL.F:=cw (cv [.d tB,.d tB] fun _=>by kernel_rfl)
noncomputable def eL.sg:SG Tryz.prog:=⟨109,aK,eL.E,.fn 0 (by kernel_rfl) eL.ok trivial⟩
def vJ(b:List Int)(x:ja):List Int:=fX (b++x.1.1) x.1.2.1
def wa(b:List Int)(o:jw):List Int:=fX b o.1++(vk (Eg o.2.1).length++Eg o.2.1)
def pf(t:hP):List Int:=fX (t.2.1.foldl wa (fX (t.1.foldl vJ (fX [] t.1.length)) t.2.1.length)) t.2.2.1
def xg(t:hP):List Int:=if iq t then tag (bA (⟨#[116,120]⟩:ByteArray)) [pf t] else List.replicate 32 0
def Jp(x:ja):Prop:=Sm x.1.1∧GD x.2.1∧x.2.1.2.1.length≤9223372036854775807
def rZ(t:hP):Prop:=Jf t∧(∀x∈t.1,Jp x)∧t.2.2.1≤9223372036854775807
theorem pb:∀(l:List ja) (m:List (oL×Bool)),oe m l=true→∀x∈l,sz x=true
 |[],_,_,x,hx=>by cases hx
 |y::l,m,h,x,hx=>by
  rw[oe,Bool.and_eq_true,Bool.and_eq_true]at h
  rcases List.mem_cons.1 hx with rfl | hx
  ·exact h.1.2
  ·exact pb l _ h.2 x hx
theorem qC:∀(l:List jw) (s:Int),kE s l=true→∀o∈l,(0≤o.1∧o.1≤1125899906842624)∧jz o.2.1=true
 |[],_,_,o,ho=>by cases ho
 |y::l,s,h,o,ho=>by
  rw[kE,Bool.and_eq_true,Bool.and_eq_true]at h
  rcases List.mem_cons.1 ho with rfl | ho
  ·have h1:=h.1.1
   unfold nH np at h1
   simp only[Bool.and_eq_true,decide_eq_true_eq]at h1
   exact⟨h1.2.1,h.1.2⟩
  ·exact qC l _ h.2 o ho
theorem AU{x:ja}(h:sz x=true):0≤x.1.2.1∧x.1.2.1 < 64∧0≤x.2.1.1∧x.2.1.1 < 4∧x.2.1.2.1.length≤12:=by
 unfold sz oJ at h
 simp only[Bool.and_eq_true,decide_eq_true_eq]at h
 exact⟨h.1.1,h.1.2,h.2.1.1,h.2.1.2,h.2.2⟩
theorem qK{t:hP}(h:iq t=true):(1≤t.1.length∧t.1.length≤64∧t.2.1.length≤64∧0≤t.2.2.1)∧oe [] t.1=true∧kE 0 t.2.1=true:=by
 unfold iq qJ at h
 simp only[Bool.and_eq_true,decide_eq_true_eq]at h
 exact h
theorem BS(b:List Int)(x:ja):(vJ b x).length≤b.length+x.1.1.length+11:=by
 have:=gQ (b++x.1.1) x.1.2.1
 rw[List.length_append]at this
 exact this
theorem zG(b:List Int)(o:jw):(wa b o).length≤b.length+1022:=by
 have h1:=gQ b o.1
 have h2:=rI (Eg o.2.1).length
 have h3:=xQ o.2.1
 unfold wa
 rw[List.length_append,List.length_append]
 omega
abbrev aJ.L0.D:=hP×Bs×(List ja)×Int×Int
def aJ.L0.st:aJ.L0.D→AS:=fun(t_2,b,t13,t14,t15)=>⟨([.undef,.fj kN t_2,.undef,.d tB b]++bw 9 ([.d (.slice jR) t13,.d ti t14,.d ti t15]++bw 38 [])),[],(List.replicate 54 [])⟩
abbrev aJ.L0.Y0:=Bs
abbrev aJ.L0.X0:=(hP)×(Bs)
def aJ.L0.bK:aJ.L0.X0→Exit×AS:=fun x=>(.exit 0,⟨([.undef,.fj kN x.1,.undef,.d tB x.2]++bw 50 []),[],(List.replicate 54 [])⟩)
abbrev aJ.L0.X:=aJ.L0.X0
abbrev aJ.L0.Y:=aJ.L0.Y0
def aJ.L0.out:aJ.L0.X→Out (Exit×AS):=fun x=> .ok (aJ.L0.bK x)
def aJ.L0.add:aJ.L0.D→aJ.L0.Y→aJ.L0.X:=fun(t_2,b,t13,t14,t15) y=>(t_2,y)
abbrev aJ.L1.D:=hP×Bs×(List jw)×Int×Int
def aJ.L1.st:aJ.L1.D→AS:=fun(t_3,b_2,t35,t36,t37)=>⟨([.undef,.fj kN t_3,.undef,.d tB b_2]++bw 31 ([.d (.slice mR) t35,.d ti t36,.d ti t37]++bw 16 [])),[],(List.replicate 54 [])⟩
abbrev aJ.L1.Y0:=Bs
abbrev aJ.L1.X0:=(hP)×(Bs)
def aJ.L1.bK:aJ.L1.X0→Exit×AS:=fun x=>(.exit 2,⟨([.undef,.fj kN x.1,.undef,.d tB x.2]++bw 50 []),[],(List.replicate 54 [])⟩)
abbrev aJ.L1.X:=aJ.L1.X0
abbrev aJ.L1.Y:=aJ.L1.Y0
def aJ.L1.out:aJ.L1.X→Out (Exit×AS):=fun x=> .ok (aJ.L1.bK x)
def aJ.L1.add:aJ.L1.D→aJ.L1.Y→aJ.L1.X:=fun(t_3,b_2,t35,t36,t37) y=>(t_3,y)
abbrev aJ.D:=hP
def aJ.st:aJ.D→SA:=fun t=>([.d kN t],[])
abbrev aJ.Y:=Bs
abbrev aJ.X:=Bs
def aJ.out:aJ.X→aT:=fun x=>⟨.d tB x,[],[]⟩
def aJ.add:aJ.D→aJ.Y→aJ.X:=fun t y=>y
def aJ.L0.aq:aJ.L0.D→Prop:=fun(t,b,l,n,i)=>(l).length≤1000000000∧∃k:Nat,k≤(l).length∧i=k∧n=(l).length∧(l.length≤64)∧(∀x∈l,x.1.1.length=32∧x.1.2.1≤9223372036854775807)∧(b.length≤100+50*k)
def aJ.L0.F:aJ.L0.D→aJ.L0.Y:=fun(t,b,l,n,i)=>(List.drop (Int.toNat i) l).foldl vJ b
def aJ.L1.aq:aJ.L1.D→Prop:=fun(t,b,l,n,i)=>(l).length≤1000000000∧∃k:Nat,k≤(l).length∧i=k∧n=(l).length∧(l.length≤64)∧(∀o∈l,o.1≤9223372036854775807∧oM o.2.1)∧(b.length≤4000+1100*k)
def aJ.L1.F:aJ.L1.D→aJ.L1.Y:=fun(t,b,l,n,i)=>(List.drop (Int.toNat i) l).foldl wa b
def aJ.aq:aJ.D→Prop:=fun t=>iq t=true∧rZ t
def aJ.F:aJ.D→aJ.Y:=fun t=>pf t
noncomputable def aJ.G:dU:=eZ (P:=Tryz.prog) [eE.sg,eU.sg,aG.sg,eL.sg]
noncomputable def aJ.L0.E:=cf.cD aJ.L0.st aJ.L0.aq aJ.L0.add aJ.L0.F aJ.L0.out
noncomputable def aJ.L0.call:aJ.L0.D→Option aJ.L0.X:=dL aJ.L0.E aJ.L0.st
noncomputable def aJ.L1.E:=cf.cD aJ.L1.st aJ.L1.aq aJ.L1.add aJ.L1.F aJ.L1.out
noncomputable def aJ.L1.call:aJ.L1.D→Option aJ.L1.X:=dL aJ.L1.E aJ.L1.st
noncomputable def aJ.an:eu:= {loops:=ki [(3,{bu:=[1,3,13,14,15]}),(9,{bu:=[1,3,35,36,37]})],outs:=kh [(3,{bu:=[1,3]},{bu:=[2]}),(9,{bu:=[1,3]},{bu:=[2]})],gq:=lv [(3,aJ.L0.E),(9,aJ.L1.E)],res:=[some tB]}
noncomputable def aJ.A:= @cq Tryz.prog aJ.G aJ.an 0 Tryz.f52 _ aJ.st
abbrev aJ.Ok:=cr @aJ.A aJ.aq aJ.add aJ.F aJ.out
noncomputable def aJ.L0.R:= @cM Tryz.prog aJ.G aJ.an 0 Tryz.f52 0 _ aJ.L0.st
abbrev aJ.L0.Ok:=fk Tryz.prog aJ.G aJ.an 0 Tryz.f52 0 aJ.L0.st aJ.L0.aq aJ.L0.add aJ.L0.F aJ.L0.out
noncomputable def aJ.L1.R:= @cM Tryz.prog aJ.G aJ.an 0 Tryz.f52 1 _ aJ.L1.st
abbrev aJ.L1.Ok:=fk Tryz.prog aJ.G aJ.an 0 Tryz.f52 1 aJ.L1.st aJ.L1.aq aJ.L1.add aJ.L1.F aJ.L1.out
theorem aJ.L0.run:bD aJ.L0.call aJ.L0.aq aJ.L0.add aJ.L0.F:=fy (fx [.d kN,.d tB,.d (.slice jR),.d ti,.d ti] fun _=>by kernel_rfl)
theorem aJ.L0.aE:fY @aJ.L0.R aJ.L0.st aJ.L0.aq aJ.L0.add aJ.L0.F aJ.L0.bK aJ.L0.Ok:=gj
theorem aJ.L0.step{R:Type}(t_2:hP)(b:Bs)(t13:(List ja))(t14:Int)(t15:Int)(kn:AS→Option R)(kx:Exit→AS→Option R):aJ.L0.R (t_2,b,t13,t14,t15) kn kx=
  aD ((gM t15 t14)) (
   aD (dZ t15 (((List.length t13):Nat):Int)) (
   ab (eU.call (b,(nth jR t13 (Int.toNat t15)).1.1)) fun x1=>
   ab (eE.call (x1,(nth jR t13 (Int.toNat t15)).1.2.1)) fun x2=>
   kn (aJ.L0.st (t_2,x2,t13,t14,(bo .i64 t15 (1:Int))))) none) (
   kx (aJ.L0.bK (t_2,b)).1 (aJ.L0.bK (t_2,b)).2):=by kernel_rfl
theorem aJ.L1.run:bD aJ.L1.call aJ.L1.aq aJ.L1.add aJ.L1.F:=fy (fx [.d kN,.d tB,.d (.slice mR),.d ti,.d ti] fun _=>by kernel_rfl)
theorem aJ.L1.aE:fY @aJ.L1.R aJ.L1.st aJ.L1.aq aJ.L1.add aJ.L1.F aJ.L1.bK aJ.L1.Ok:=gj
theorem aJ.L1.step{R:Type}(t_3:hP)(b_2:Bs)(t35:(List jw))(t36:Int)(t37:Int)(kn:AS→Option R)(kx:Exit→AS→Option R):aJ.L1.R (t_3,b_2,t35,t36,t37) kn kx=
  aD ((gM t37 t36)) (
   aD (dZ t37 (((List.length t35):Nat):Int)) (
   ab (eE.call (b_2,(nth mR t35 (Int.toNat t37)).1)) fun x1=>
   ab (aG.call (nth mR t35 (Int.toNat t37)).2.1) fun x2=>
   ab (eL.call (x1,x2)) fun x3=>
   kn (aJ.L1.st (t_3,x3,t35,t36,(bo .i64 t37 (1:Int))))) none) (
   kx (aJ.L1.bK (t_3,b_2)).1 (aJ.L1.bK (t_3,b_2)).2):=by kernel_rfl
theorem aJ.eq{R:Type}(t:hP)(k:aT→Option R):aJ.A t k=
 ab (eE.call (([]:List Int),(((List.length t.1):Nat):Int))) fun x1=>
 ab (aJ.L0.call (t,x1,t.1,(((List.length t.1):Nat):Int),(0:Int))) fun x4=>
 ab (eE.call (x4.2,(((List.length x4.1.2.1):Nat):Int))) fun x5=>
 ab (aJ.L1.call (x4.1,x5,x4.1.2.1,(((List.length x4.1.2.1):Nat):Int),(0:Int))) fun x9=>
 ab (eE.call (x9.2,x9.1.2.2.1)) fun x10=>
 k (aJ.out x10):=by kernel_rfl
theorem aJ.L0.ok:aJ.L0.Ok:=by
 refine aJ.L0.aE (fun(t,b,l,n,i)=>(l).length - Int.toNat i) ?_
 rintro⟨t,b,l,n,i⟩ ⟨hlen,k,hk,rfl,rfl,h64,hx,hb⟩
 have hlen:(l).length≤1000000000:=hlen
 have hk:k≤(l).length:=hk
 have h64:l.length≤64:=h64
 have hx:∀x∈l,x.1.1.length=32∧x.1.2.1≤9223372036854775807:=hx
 have hb:b.length≤100+50*k:=hb
 by_cases h:k < (l).length
 ·left
  have n1:nth jR l k=l[k]:=dS (t:=jR) h
  have hd:List.drop k l=l[k]::List.drop (k+1) l:=List.drop_eq_getElem_cons h
  refine⟨(t,(vJ b l[k]),l,((l).length:Int),((k+1:Nat):Int)),⟨hlen,k+1,by omega,rfl,rfl,h64,hx,by have:=BS b l[k];have:=(hx _ (List.getElem_mem h)).1;omega⟩,by simp only[Int.toNat_natCast];omega,?_,fun kn kx=> ?_⟩
  ·simp only[aJ.L0.add,aJ.L0.F,Int.toNat_natCast,hd,List.foldl_cons]
  ·rw[aJ.L0.step,bB (by omega),bz (by omega) (by omega),Int.toNat_natCast,n1]
   simp only[ah]
   have e:=hx _ (List.getElem_mem h)
   have e2:(b++l[k].1.1).length=b.length+l[k].1.1.length:=List.length_append
   rw[eU.run (d:=(b,l[k].1.1)) ⟨by show b.length+l[k].1.1.length≤_;omega,e.1⟩]
   simp only[aa,eU.add,eU.F]
   rw[eE.run (d:=(b++l[k].1.1,l[k].1.2.1)) ⟨by show(b++l[k].1.1).length≤_;omega,e.2⟩]
   simp only[aa,eE.add,eE.F]
   rw[N.mq (by omega)]
   rfl
 ·right
  obtain rfl:k=(l).length:=by omega
  intro R kn kx
  rw[aJ.L0.step,bk (by omega),ae]
  simp only[aJ.L0.add,aJ.L0.F,Int.toNat_natCast,List.drop_length,List.foldl_nil]
theorem aJ.L1.ok:aJ.L1.Ok:=by
 refine aJ.L1.aE (fun(t,b,l,n,i)=>(l).length - Int.toNat i) ?_
 rintro⟨t,b,l,n,i⟩ ⟨hlen,k,hk,rfl,rfl,h64,hx,hb⟩
 have hlen:(l).length≤1000000000:=hlen
 have hk:k≤(l).length:=hk
 have h64:l.length≤64:=h64
 have hx:∀o∈l,o.1≤9223372036854775807∧oM o.2.1:=hx
 have hb:b.length≤4000+1100*k:=hb
 by_cases h:k < (l).length
 ·left
  have n1:nth mR l k=l[k]:=dS (t:=mR) h
  have hd:List.drop k l=l[k]::List.drop (k+1) l:=List.drop_eq_getElem_cons h
  refine⟨(t,(wa b l[k]),l,((l).length:Int),((k+1:Nat):Int)),⟨hlen,k+1,by omega,rfl,rfl,h64,hx,by have:=zG b l[k];omega⟩,by simp only[Int.toNat_natCast];omega,?_,fun kn kx=> ?_⟩
  ·simp only[aJ.L1.add,aJ.L1.F,Int.toNat_natCast,hd,List.foldl_cons]
  ·rw[aJ.L1.step,bB (by omega),bz (by omega) (by omega),Int.toNat_natCast,n1]
   simp only[ah]
   have e:=hx _ (List.getElem_mem h)
   have e1:=gQ b l[k].1
   have e2:=xQ l[k].2.1
   rw[eE.run (d:=(b,l[k].1)) ⟨by show b.length≤_;omega,e.1⟩]
   simp only[aa,eE.add,eE.F]
   rw[aG.run (d:=l[k].2.1) e.2]
   simp only[aa,aG.add,aG.F]
   rw[eL.run (d:=(fX b l[k].1,Eg l[k].2.1)) (by show(fX b l[k].1).length+(Eg l[k].2.1).length≤_;omega)]
   simp only[aa,eL.add,eL.F]
   rw[N.mq (by omega)]
   rfl
 ·right
  obtain rfl:k=(l).length:=by omega
  intro R kn kx
  rw[aJ.L1.step,bk (by omega),ae]
  simp only[aJ.L1.add,aJ.L1.F,Int.toNat_natCast,List.drop_length,List.foldl_nil]
theorem xM:∀(l:List ja) (b:List Int),(∀x∈l,x.1.1.length=32)→(l.foldl vJ b).length≤b.length+43*l.length
 |[],b,_=>Nat.le_refl _
 |x::l,b,h=>by
  have h1:=BS b x
  have h2:=h x List.mem_cons_self
  have h3:=xM l (vJ b x) fun y hy=>h y (List.mem_cons_of_mem _ hy)
  rw[List.foldl_cons,List.length_cons]
  omega
theorem va:∀(l:List jw) (b:List Int),(l.foldl wa b).length≤b.length+1022*l.length
 |[],b=>Nat.le_refl _
 |x::l,b=>by
  have h1:=zG b x
  have h3:=va l (wa b x)
  rw[List.foldl_cons,List.length_cons]
  omega
theorem Be{t:hP}(hok:iq t=true)(hv:rZ t):(pf t).length≤70000:=by
 obtain⟨⟨_,a2,a3,_⟩,_,_⟩:=qK hok
 have h1:=xM t.1 (fX [] t.1.length) fun x hx=>(hv.2.1 x hx).1.1
 have h2:=gQ [] t.1.length
 have h3:=gQ (t.1.foldl vJ (fX [] t.1.length)) t.2.1.length
 have h4:=va t.2.1 (fX (t.1.foldl vJ (fX [] t.1.length)) t.2.1.length)
 have h5:=gQ (t.2.1.foldl wa (fX (t.1.foldl vJ (fX [] t.1.length)) t.2.1.length)) t.2.2.1
 have h0:([]:List Int).length=0:=rfl
 unfold pf
 omega
theorem aJ.ok:aJ.Ok:=by
 rintro t ⟨hok,hv⟩
 have hv:rZ t:=hv
 obtain⟨⟨_,a2,a3,_⟩,b1,b2⟩:=qK hok
 have h0:([]:List Int).length=0:=rfl
 have l0:=gQ [] t.1.length
 have l1:=xM t.1 (fX [] t.1.length) fun x hx=>(hv.2.1 x hx).1.1
 have l2:=gQ (t.1.foldl vJ (fX [] t.1.length)) t.2.1.length
 have l3:=va t.2.1 (fX (t.1.foldl vJ (fX [] t.1.length)) t.2.1.length)
 rw[aJ.eq,eE.run (d:=([],(t.1.length:Int))) ⟨by show([]:List Int).length≤_;omega,by show(t.1.length:Int)≤_;omega⟩]
 simp only[aa,eE.add,eE.F]
 rw[aJ.L0.run (d:=(t,fX [] t.1.length,t.1,t.1.length,0)) ⟨by show t.1.length≤_;omega,0,Nat.zero_le _,rfl,rfl,a2,fun x hx=>⟨(hv.2.1 x hx).1.1,by have:=AU (pb _ _ b1 x hx);omega⟩,by show(fX [] t.1.length).length≤_;omega⟩]
 simp only[aa,aJ.L0.add,aJ.L0.F,Int.toNat_zero,List.drop_zero]
 rw[eE.run (d:=(t.1.foldl vJ (fX [] t.1.length),(t.2.1.length:Int))) ⟨by show(t.1.foldl vJ (fX [] t.1.length)).length≤_;omega,by show(t.2.1.length:Int)≤_;omega⟩]
 simp only[aa,eE.add,eE.F]
 rw[aJ.L1.run (d:=(t,fX (t.1.foldl vJ (fX [] t.1.length)) t.2.1.length,t.2.1,t.2.1.length,0)) ⟨by show t.2.1.length≤_;omega,0,Nat.zero_le _,rfl,rfl,a3,fun o ho=>⟨by have:=(qC _ _ b2 o ho).1;omega,hv.1.1 o ho⟩,by show(fX (t.1.foldl vJ (fX [] t.1.length)) t.2.1.length).length≤_;omega⟩]
 simp only[aa,aJ.L1.add,aJ.L1.F,Int.toNat_zero,List.drop_zero]
 rw[eE.run (d:=(t.2.1.foldl wa (fX (t.1.foldl vJ (fX [] t.1.length)) t.2.1.length),t.2.2.1)) ⟨by show(t.2.1.foldl wa (fX (t.1.foldl vJ (fX [] t.1.length)) t.2.1.length)).length≤_;omega,hv.2.2⟩]
 rfl
noncomputable def aJ.E:=Entry.cD [some kN] aJ.st aJ.aq aJ.add aJ.F aJ.out
noncomputable def aJ.call:aJ.D→Option aJ.X:=bC aJ.E aJ.st
theorem aJ.run:bD aJ.call aJ.aq aJ.add aJ.F:=cw (cv [.d kN] fun _=>by kernel_rfl)
noncomputable def aJ.sg:SG Tryz.prog:=⟨52,aK,aJ.E,.fn 2 (by kernel_rfl) aJ.ok (And.intro (.cD aJ.L0.ok (by kernel_rfl)) (And.intro (.cD aJ.L1.ok (by kernel_rfl)) trivial))⟩
set_option synthInstance.maxSize 5000
def pD(n:Int)(x:ja):Int:=n+(10+8*x.2.1.2.1.length)+(if x.2.1.2.2.1=0 then 0 else 4)
def s8(t:hP):Int:=if iq t then t.1.foldl pD (10+8*t.2.1.length) else 0
def kJ(t:hP):List oL:=if iq t then t.1.map (·.1) else []
def l8(id:List Int)(k n:Nat):List oL:=(List.range' k n).map fun i:Nat=>(id,((i:Int),()))
def ji(t:hP):List oL:=if iq t then l8 (xg t) 0 t.2.1.length else []
abbrev tid.D:=hP
def tid.st:tid.D→SA:=fun t=>([.d kN t],[])
abbrev tid.Y:=Bs
abbrev tid.X:=Bs
def tid.out:tid.X→aT:=fun x=>⟨.d tH x,[],[]⟩
def tid.add:tid.D→tid.Y→tid.X:=fun t y=>y
def tid.aq:tid.D→Prop:=fun t=>rZ t
def tid.F:tid.D→tid.Y:=fun t=>xg t
noncomputable def tid.G:dU:=eZ (P:=Tryz.prog) [au.sg,aJ.sg,cG.sg]
noncomputable def tid.an:eu:= {}
noncomputable def tid.A:= @cq Tryz.prog tid.G tid.an 0 Tryz.f19 _ tid.st
abbrev tid.Ok:=cr @tid.A tid.aq tid.add tid.F tid.out
theorem tid.eq{R:Type}(t:hP)(k:aT→Option R):tid.A t k=
  ab (au.call t) fun x1=>
  aD ((!x1)) (
   k (tid.out (List.replicate 32 (0:Int)))) (
   ab (aJ.call t) fun x2=>
   ab (cG.call ((⟨#[116,120]⟩:ByteArray),[x2])) fun x3=>
   k (tid.out x3)):=by kernel_rfl
theorem tid.ok:tid.Ok:=by
 intro t hv
 have hv:rZ t:=hv
 rw[tid.eq,au.run (d:=t) hv.1]
 simp only[aa,au.add,au.F,tid.add,tid.F,xg]
 cases hok:iq t
 ·rfl
 ·have hl:=Be hok hv
  rw[aJ.run (d:=t) ⟨hok,hv⟩]
  simp only[Bool.not_true,ae,if_true,aa,aJ.add,aJ.F]
  rw[cG.run (d:=((⟨#[116,120]⟩:ByteArray),[pf t])) (Af (by decide) (by omega))]
  rfl
noncomputable def tid.E:=Entry.cD [some kN] tid.st tid.aq tid.add tid.F tid.out
noncomputable def tid.call:tid.D→Option tid.X:=bC tid.E tid.st
theorem tid.run:bD tid.call tid.aq tid.add tid.F:=cw (cv [.d kN] fun _=>by kernel_rfl)
noncomputable def tid.sg:SG Tryz.prog:=⟨19,aK,tid.E,.fn 0 (by kernel_rfl) tid.ok trivial⟩
abbrev aU.L0.D:=Int×(List ja)×Int×Int
def aU.L0.st:aU.L0.D→AS:=fun(n,t15,t16,t17)=>⟨([.undef,.undef,.undef,.d ti n]++bw 11 ([.d (.slice jR) t15,.d ti t16,.d ti t17]++bw 19 [])),[],(List.replicate 37 [])⟩
abbrev aU.L0.Y0:=Int
abbrev aU.L0.X0:=Int
def aU.L0.bK:aU.L0.X0→Exit×AS:=fun x=>(.exit 0,⟨([.undef,.undef,.undef,.d ti x]++bw 33 []),[],(List.replicate 37 [])⟩)
abbrev aU.L0.X:=aU.L0.X0
abbrev aU.L0.Y:=aU.L0.Y0
def aU.L0.out:aU.L0.X→Out (Exit×AS):=fun x=> .ok (aU.L0.bK x)
def aU.L0.add:aU.L0.D→aU.L0.Y→aU.L0.X:=fun(n,t15,t16,t17) y=>y
abbrev aU.D:=hP
def aU.st:aU.D→SA:=fun t=>([.d kN t],[])
abbrev aU.Y:=Int
abbrev aU.X:=Int
def aU.out:aU.X→aT:=fun x=>⟨.d ti x,[],[]⟩
def aU.add:aU.D→aU.Y→aU.X:=fun t y=>y
def aU.L0.aq:aU.L0.D→Prop:=fun(n,l,m,i)=>(l).length≤1000000000∧∃k:Nat,k≤(l).length∧i=k∧m=(l).length∧(l.length≤64)∧(∀x∈l,x.2.1.2.1.length≤12)∧(0≤n)∧(n≤1000+200*(k:Int))
def aU.L0.F:aU.L0.D→aU.L0.Y:=fun(n,l,m,i)=>(List.drop (Int.toNat i) l).foldl pD n
def aU.aq:aU.D→Prop:=fun t=>rZ t
def aU.F:aU.D→aU.Y:=fun t=>s8 t
noncomputable def aU.G:dU:=eZ (P:=Tryz.prog) [au.sg]
noncomputable def aU.L0.E:=cf.cD aU.L0.st aU.L0.aq aU.L0.add aU.L0.F aU.L0.out
noncomputable def aU.L0.call:aU.L0.D→Option aU.L0.X:=dL aU.L0.E aU.L0.st
noncomputable def aU.an:eu:= {loops:=ki [(5,{bu:=[3,15,16,17]})],outs:=kh [(5,{bu:=[3]},{bu:=[2]})],gq:=lv [(5,aU.L0.E)]}
noncomputable def aU.A:= @cq Tryz.prog aU.G aU.an 0 Tryz.f23 _ aU.st
abbrev aU.Ok:=cr @aU.A aU.aq aU.add aU.F aU.out
noncomputable def aU.L0.R:= @cM Tryz.prog aU.G aU.an 0 Tryz.f23 0 _ aU.L0.st
abbrev aU.L0.Ok:=fk Tryz.prog aU.G aU.an 0 Tryz.f23 0 aU.L0.st aU.L0.aq aU.L0.add aU.L0.F aU.L0.out
theorem aU.L0.run:bD aU.L0.call aU.L0.aq aU.L0.add aU.L0.F:=fy (fx [.d ti,.d (.slice jR),.d ti,.d ti] fun _=>by kernel_rfl)
theorem aU.L0.aE:fY @aU.L0.R aU.L0.st aU.L0.aq aU.L0.add aU.L0.F aU.L0.bK aU.L0.Ok:=gj
theorem aU.L0.step{R:Type}(n:Int)(t15:(List ja))(t16:Int)(t17:Int)(kn:AS→Option R)(kx:Exit→AS→Option R):aU.L0.R (n,t15,t16,t17) kn kx=
  aD ((gM t17 t16)) (
   aD (dZ t17 (((List.length t15):Nat):Int)) (
   aD ((qQ (nth jR t15 (Int.toNat t17)).2.1.2.2.1 (0:Int))) (
    kn (aU.L0.st ((bo .i64 (bo .i64 n (bo .i64 (10:Int) (eK .i64 (8:Int) (((List.length (nth jR t15 (Int.toNat t17)).2.1.2.1):Nat):Int)))) (4:Int)),t15,t16,(bo .i64 t17 (1:Int))))) (
    kn (aU.L0.st ((bo .i64 n (bo .i64 (10:Int) (eK .i64 (8:Int) (((List.length (nth jR t15 (Int.toNat t17)).2.1.2.1):Nat):Int)))),t15,t16,(bo .i64 t17 (1:Int)))))) none) (
   kx (aU.L0.bK n).1 (aU.L0.bK n).2):=by kernel_rfl
theorem aU.eq{R:Type}(t:hP)(k:aT→Option R):aU.A t k=
  ab (au.call t) fun x1=>
  aD ((!x1)) (
   k (aU.out (0:Int))) (
   ab (aU.L0.call ((bo .i64 (10:Int) (eK .i64 (8:Int) (((List.length t.2.1):Nat):Int))),t.1,(((List.length t.1):Nat):Int),(0:Int))) fun x2=>
   k (aU.out x2)):=by kernel_rfl
theorem aU.L0.ok:aU.L0.Ok:=by
 refine aU.L0.aE (fun(n,l,m,i)=>(l).length - Int.toNat i) ?_
 rintro⟨n,l,m,i⟩ ⟨hlen,k,hk,rfl,rfl,h64,hx,h0,h1⟩
 have hlen:(l).length≤1000000000:=hlen
 have hk:k≤(l).length:=hk
 have h64:l.length≤64:=h64
 have hx:∀x∈l,x.2.1.2.1.length≤12:=hx
 have h0:0≤n:=h0
 have h1:n≤1000+200*(k:Int):=h1
 by_cases h:k < (l).length
 ·left
  have n1:nth jR l k=l[k]:=dS (t:=jR) h
  have hd:List.drop k l=l[k]::List.drop (k+1) l:=List.drop_eq_getElem_cons h
  refine⟨((pD n l[k]),l,((l).length:Int),((k+1:Nat):Int)),⟨hlen,k+1,by omega,rfl,rfl,h64,hx,by unfold pD;split <;> omega,by have:=hx _ (List.getElem_mem h);unfold pD;split <;> omega⟩,by simp only[Int.toNat_natCast];omega,?_,fun kn kx=> ?_⟩
  ·simp only[aU.L0.add,aU.L0.F,Int.toNat_natCast,hd,List.foldl_cons]
  ·rw[aU.L0.step,bB (by omega),bz (by omega) (by omega),Int.toNat_natCast,n1]
   simp only[ah]
   have e:=hx _ (List.getElem_mem h)
   rw[N.Iy (by omega)]
   have e2:bo .i64 10 ((8*l[k].2.1.2.1.length:Nat):Int)=10+8*(l[k].2.1.2.1.length:Int):=by rw[cR (by omega) (by omega)];omega
   rw[e2,cR (x:=n) (by omega) (by omega),N.mq (by omega)]
   unfold pD
   by_cases hs:l[k].2.1.2.2.1=0
   ·rw[gO hs,ae,if_pos hs,Int.add_zero]
   ·rw[iM hs,ah,if_neg hs,cR (by omega) (by omega)]
 ·right
  obtain rfl:k=(l).length:=by omega
  intro R kn kx
  rw[aU.L0.step,bk (by omega),ae]
  simp only[aU.L0.add,aU.L0.F,Int.toNat_natCast,List.drop_length,List.foldl_nil]
theorem aU.ok:aU.Ok:=by
 intro t hv
 have hv:rZ t:=hv
 rw[aU.eq,au.run (d:=t) hv.1]
 simp only[aa,au.add,au.F,aU.add,aU.F,s8]
 cases hok:iq t
 ·rfl
 ·obtain⟨⟨_,a2,a3,_⟩,b1,b2⟩:=qK hok
  rw[N.Iy (by omega),cR (by omega) (by omega),aU.L0.run (d:=(10+((8*t.2.1.length:Nat):Int),t.1,t.1.length,0)) ⟨by show t.1.length≤_;omega,0,Nat.zero_le _,rfl,rfl,a2,fun x hx=>(AU (pb _ _ b1 x hx)).2.2.2.2,by show(0:Int)≤10+((8*t.2.1.length:Nat):Int);omega,by show 10+((8*t.2.1.length:Nat):Int)≤_;omega⟩]
  simp only[aa,aU.L0.add,aU.L0.F,Int.toNat_zero,List.drop_zero,Bool.not_true,ae,if_true,Int.natCast_mul]
  rfl
noncomputable def aU.E:=Entry.cD [some kN] aU.st aU.aq aU.add aU.F aU.out
noncomputable def aU.call:aU.D→Option aU.X:=bC aU.E aU.st
theorem aU.run:bD aU.call aU.aq aU.add aU.F:=cw (cv [.d kN] fun _=>by kernel_rfl)
noncomputable def aU.sg:SG Tryz.prog:=⟨23,aK,aU.E,.fn 1 (by kernel_rfl) aU.ok (And.intro (.cD aU.L0.ok (by kernel_rfl)) trivial)⟩
abbrev bT.L0.D:=Nat×Int×Int×Bs×(List oL)
def bT.L0.st:bT.L0.D→AS:=fun(lL,t12,t13,n3,n21)=>⟨([.undef,.undef,.cT (.new 21 0) 0 [] 0 0 lL,.ptr (.new 3 0) 0 [] 0]++bw 8 ([.d ti t12,.d ti t13]++bw 10 [])),[],([[],[],[],[.obj 0 false (.d tH n3)]]++cC 17 [[.obj 0 false (.vec 35 p9 n21)],[],[]])⟩
abbrev bT.L0.Y0:=Nat×(List oL)
abbrev bT.L0.X0:=Nat×(List oL)
def bT.L0.bK:bT.L0.X0→Exit×AS:=fun x=>(.exit 0,⟨([.undef,.undef,.cT (.new 21 0) 0 [] 0 0 x.1]++bw 21 []),[],(cC 21 [[.obj 0 false (.vec 35 p9 x.2)],[],[]])⟩)
abbrev bT.L0.X:=bT.L0.X0
abbrev bT.L0.Y:=bT.L0.Y0
def bT.L0.out:bT.L0.X→Out (Exit×AS):=fun x=> .ok (bT.L0.bK x)
def bT.L0.add:bT.L0.D→bT.L0.Y→bT.L0.X:=fun(lL,t12,t13,n3,n21) y=>y
abbrev bT.D:=hP
def bT.st:bT.D→SA:=fun t=>([.d kN t],[])
abbrev bT.Y:=(List oL)
abbrev bT.X:=(List oL)
def bT.out:bT.X→aT:=fun x=>⟨.d (.slice p9) x,[],[]⟩
def bT.add:bT.D→bT.Y→bT.X:=fun t y=>y
def bT.L0.aq:bT.L0.D→Prop:=fun(L,n,i,id,r)=>∃k m:Nat,k≤m∧i=k∧n=m∧m≤1000∧L=r.length∧L=k
def bT.L0.F:bT.L0.D→bT.L0.Y:=fun(L,n,i,id,r)=>(L+(n - i).toNat,r++l8 id i.toNat (n - i).toNat)
def bT.aq:bT.D→Prop:=fun t=>rZ t
def bT.F:bT.D→bT.Y:=fun t=>ji t
noncomputable def bT.G:dU:=eZ (P:=Tryz.prog) [tid.sg,au.sg]
noncomputable def bT.L0.E:=cf.cD bT.L0.st bT.L0.aq bT.L0.add bT.L0.F bT.L0.out
noncomputable def bT.L0.call:bT.L0.D→Option bT.L0.X:=dL bT.L0.E bT.L0.st
noncomputable def bT.an:eu:= {loops:=ki [(5,{bu:=[2,3,12,13],sites:=[3,21],j6:=[⟨2,[],21,145⟩]})],outs:=kh [(5,{bu:=[2],sites:=[21]},{bu:=[2]})],gq:=lv [(5,bT.L0.E)],res:=[some (.slice p9)]}
noncomputable def bT.A:= @cq Tryz.prog bT.G bT.an 0 Tryz.f54 _ bT.st
abbrev bT.Ok:=cr @bT.A bT.aq bT.add bT.F bT.out
noncomputable def bT.L0.R:= @cM Tryz.prog bT.G bT.an 0 Tryz.f54 0 _ bT.L0.st
abbrev bT.L0.Ok:=fk Tryz.prog bT.G bT.an 0 Tryz.f54 0 bT.L0.st bT.L0.aq bT.L0.add bT.L0.F bT.L0.out
theorem bT.L0.run:bD bT.L0.call bT.L0.aq bT.L0.add bT.L0.F:=fy (fx [.n,.d ti,.d ti,.d tB,.d (.slice p9)] fun _=>by kernel_rfl)
theorem bT.L0.aE:fY @bT.L0.R bT.L0.st bT.L0.aq bT.L0.add bT.L0.F bT.L0.bK bT.L0.Ok:=gj
theorem bT.L0.step{R:Type}(lL:Nat)(t12:Int)(t13:Int)(n3:Bs)(n21:(List oL))(kn:AS→Option R)(kx:Exit→AS→Option R):bT.L0.R (lL,t12,t13,n3,n21) kn kx=
  aD ((gM t13 t12)) (
   aD (decide (lL≤(List.length n21))) (
   aD (dK (lL+1) 40) (
   kn (bT.L0.st ((lL+1),t12,(bo .i64 t13 (1:Int)),n3,((List.take lL n21)++ [(n3,(t13,()))])))) none) none) (
   kx (bT.L0.bK (lL,n21)).1 (bT.L0.bK (lL,n21)).2):=by kernel_rfl
theorem bT.eq{R:Type}(t:hP)(k:aT→Option R):bT.A t k=
  ab (tid.call t) fun x1=>
  ab (au.call t) fun x2=>
  aD ((!x2)) (
   k (bT.out ([]:List oL))) (
   ab (bT.L0.call (0,(((List.length t.2.1):Nat):Int),(0:Int),x1,([]:List oL))) fun x3=>
   aD (decide (0=0∧(0+x3.1)≤(List.length x3.2))) (
   k (bT.out (cut x3.2 0 x3.1))) none):=by kernel_rfl
theorem C0(id:List Int)(k n:Nat):(l8 id k n).length=n:=by simp[l8]
theorem A1(id:List Int)(k n:Nat):l8 id k (n+1)=(id,((k:Int),()))::l8 id (k+1) n:=by
 unfold l8
 rw[List.range'_succ,List.map_cons]
theorem bT.L0.ok:bT.L0.Ok:=by
 refine bT.L0.aE (fun(L,n,i,id,r)=>(n - i).toNat) ?_
 rintro⟨L,n,i,id,r⟩ ⟨k,m,hk,rfl,rfl,hm,rfl,hrk⟩
 have hrk:r.length=k:=hrk
 by_cases h:k < m
 ·left
  have e1:((m:Int) - (k:Int)).toNat=(m - (k+1))+1:=by omega
  have e2:((m:Int) - ((k+1:Nat):Int)).toNat=m - (k+1):=by omega
  refine⟨(r.length+1,(m:Int),((k+1:Nat):Int),id,r++ [(id,((k:Int),()))]),⟨k+1,m,by omega,rfl,rfl,hm,by rw[List.length_append];rfl,by show r.length+1=_;omega⟩,by show((m:Int) - ((k+1:Nat):Int)).toNat < ((m:Int) - (k:Int)).toNat;omega,?_,fun kn kx=> ?_⟩
  ·simp only[bT.L0.add,bT.L0.F,e1,e2,Int.toNat_natCast,A1,List.append_assoc,List.singleton_append]
   rw[show r.length+1+(m - (k+1))=r.length+(m - (k+1)+1) by omega]
  ·rw[bT.L0.step,bB (by omega),aL (Nat.le_refl _),eR (by omega) (by omega),N.mq (by omega),List.take_length]
   rfl
 ·right
  obtain rfl:k=m:=by omega
  intro R kn kx
  rw[bT.L0.step,bk (by omega),ae]
  simp only[bT.L0.add,bT.L0.F,Int.sub_self,Int.toNat_zero,Nat.add_zero]
  rw[show l8 id (k:Int).toNat 0=[] from rfl,List.append_nil]
theorem bT.ok:bT.Ok:=by
 intro t hv
 have hv:rZ t:=hv
 rw[bT.eq,tid.run (d:=t) hv,au.run (d:=t) hv.1]
 simp only[aa,tid.add,tid.F,au.add,au.F,bT.add,bT.F,ji]
 cases hok:iq t
 ·rfl
 ·obtain⟨⟨_,a2,a3,_⟩,b1,b2⟩:=qK hok
  have hl:=C0 (xg t) 0 t.2.1.length
  rw[bT.L0.run (d:=(0,t.2.1.length,0,xg t,[])) ⟨0,t.2.1.length,Nat.zero_le _,rfl,rfl,by omega,rfl,rfl⟩]
  simp only[Bool.not_true,ae,if_true,aa,bT.L0.add,bT.L0.F,Int.sub_zero,Int.toNat_natCast,Int.toNat_zero,List.nil_append,Nat.zero_add]
  rw[aL ⟨by trivial,by rw[hl];exact Nat.le_refl _⟩,ah,gI hl]
noncomputable def bT.E:=Entry.cD [some kN] bT.st bT.aq bT.add bT.F bT.out
noncomputable def bT.call:bT.D→Option bT.X:=bC bT.E bT.st
theorem bT.run:bD bT.call bT.aq bT.add bT.F:=cw (cv [.d kN] fun _=>by kernel_rfl)
noncomputable def bT.sg:SG Tryz.prog:=⟨54,aK,bT.E,.fn 1 (by kernel_rfl) bT.ok (And.intro (.cD bT.L0.ok (by kernel_rfl)) trivial)⟩
set_option synthInstance.maxSize 5000
abbrev gb.D:=(List ja)
def gb.st:gb.D→SA:=fun sv=>([.d (.slice jR) sv],[])
abbrev gb.Y:=Nat×(List ja)
abbrev gb.X:=Nat×(List ja)
def gb.out:gb.X→aT:=fun x=>⟨.cT (.new 0 0) 0 [] 0 0 x.1,[],[.obj 0 false (.vec 93 jR x.2)]⟩
def gb.add:gb.D→gb.Y→gb.X:=fun sv y=>y
def gb.aq:gb.D→Prop:=fun l=>l.length≤1000000
def gb.F:gb.D→gb.Y:=fun l=>(l.length,l)
noncomputable def gb.G:dU:=eZ (P:=Tryz.prog) []
noncomputable def gb.an:eu:= {bZ:=[5],j6:=[⟨2,[],5,59⟩]}
noncomputable def gb.A:= @cq Tryz.prog gb.G gb.an 0 Tryz.f139 _ gb.st
abbrev gb.Ok:=cr @gb.A gb.aq gb.add gb.F gb.out
theorem gb.eq{R:Type}(sv:(List ja))(k:aT→Option R):gb.A sv k=
  aD (decide (0 < (List.length sv))) (
   aD (dK (0+(List.length sv)) 80) (
   k (gb.out ((0+(List.length sv)),((List.take 0 (List.replicate 0 (((List.replicate 32 (0:Int)),((0:Int),())),(((0:Int),(([]:List Sg),((0:Int),()))),()))))++sv)))) none) (
   nd (
    k (gb.out (0,([]:List ja)))) (
    aD (dK (0+(List.length sv)) 80) (
    k (gb.out ((0+(List.length sv)),((List.take 0 (List.replicate 0 (((List.replicate 32 (0:Int)),((0:Int),())),(((0:Int),(([]:List Sg),((0:Int),()))),()))))++sv)))) none)):=by kernel_rfl
theorem gb.ok:gb.Ok:=by
 intro l hl
 have hl:l.length≤1000000:=hl
 have hr:dK l.length 80=true:=eR (by omega) (by omega)
 rw[gb.eq]
 simp only[Nat.zero_add,hr,ah,List.take_zero,List.nil_append,gb.add,gb.F]
 by_cases h:0 < l.length
 ·simp only[aL h,ah]
 ·have:l=[]:=List.eq_nil_of_length_eq_zero (by omega)
  subst this
  simp only[List.length_nil,pO,bN (Nat.lt_irrefl 0),ae]
noncomputable def gb.E:=Entry.cD [some (.slice jR)] gb.st gb.aq gb.add gb.F gb.out
noncomputable def gb.call:gb.D→Option gb.X:=bC gb.E gb.st
theorem gb.run:bD gb.call gb.aq gb.add gb.F:=cw (cv [.d (.slice jR)] fun _=>by kernel_rfl)
noncomputable def gb.sg:SG Tryz.prog:=⟨139,aK,gb.E,.fn 0 (by kernel_rfl) gb.ok trivial⟩
abbrev ez.D:=(List jw)
def ez.st:ez.D→SA:=fun sv=>([.d (.slice mR) sv],[])
abbrev ez.Y:=Nat×(List jw)
abbrev ez.X:=Nat×(List jw)
def ez.out:ez.X→aT:=fun x=>⟨.cT (.new 0 0) 0 [] 0 0 x.1,[],[.obj 0 false (.vec 100 mR x.2)]⟩
def ez.add:ez.D→ez.Y→ez.X:=fun sv y=>y
def ez.aq:ez.D→Prop:=fun l=>l.length≤1000000
def ez.F:ez.D→ez.Y:=fun l=>(l.length,l)
noncomputable def ez.G:dU:=eZ (P:=Tryz.prog) []
noncomputable def ez.an:eu:= {bZ:=[5],j6:=[⟨2,[],5,60⟩]}
noncomputable def ez.A:= @cq Tryz.prog ez.G ez.an 0 Tryz.f140 _ ez.st
abbrev ez.Ok:=cr @ez.A ez.aq ez.add ez.F ez.out
theorem ez.eq{R:Type}(sv:(List jw))(k:aT→Option R):ez.A sv k=
  aD (decide (0 < (List.length sv))) (
   aD (dK (0+(List.length sv)) 32) (
   k (ez.out ((0+(List.length sv)),((List.take 0 (List.replicate 0 ((0:Int),((([]:List oK),()),()))))++sv)))) none) (
   nd (
    k (ez.out (0,([]:List jw)))) (
    aD (dK (0+(List.length sv)) 32) (
    k (ez.out ((0+(List.length sv)),((List.take 0 (List.replicate 0 ((0:Int),((([]:List oK),()),()))))++sv)))) none)):=by kernel_rfl
theorem ez.ok:ez.Ok:=by
 intro l hl
 have hl:l.length≤1000000:=hl
 have hr:dK l.length 32=true:=eR (by omega) (by omega)
 rw[ez.eq]
 simp only[Nat.zero_add,hr,ah,List.take_zero,List.nil_append,ez.add,ez.F]
 by_cases h:0 < l.length
 ·simp only[aL h,ah]
 ·have:l=[]:=List.eq_nil_of_length_eq_zero (by omega)
  subst this
  simp only[List.length_nil,pO,bN (Nat.lt_irrefl 0),ae]
noncomputable def ez.E:=Entry.cD [some (.slice mR)] ez.st ez.aq ez.add ez.F ez.out
noncomputable def ez.call:ez.D→Option ez.X:=bC ez.E ez.st
theorem ez.run:bD ez.call ez.aq ez.add ez.F:=cw (cv [.d (.slice mR)] fun _=>by kernel_rfl)
noncomputable def ez.sg:SG Tryz.prog:=⟨140,aK,ez.E,.fn 0 (by kernel_rfl) ez.ok trivial⟩
abbrev fZ.D:=(List oK)
def fZ.st:fZ.D→SA:=fun sv=>([.d (.slice pR) sv],[])
abbrev fZ.Y:=Nat×(List oK)
abbrev fZ.X:=Nat×(List oK)
def fZ.out:fZ.X→aT:=fun x=>⟨.cT (.new 0 0) 0 [] 0 0 x.1,[],[.obj 0 false (.vec 58 pR x.2)]⟩
def fZ.add:fZ.D→fZ.Y→fZ.X:=fun sv y=>y
def fZ.aq:fZ.D→Prop:=fun l=>l.length≤1000000
def fZ.F:fZ.D→fZ.Y:=fun l=>(l.length,l)
noncomputable def fZ.G:dU:=eZ (P:=Tryz.prog) []
noncomputable def fZ.an:eu:= {bZ:=[5],j6:=[⟨2,[],5,30⟩]}
noncomputable def fZ.A:= @cq Tryz.prog fZ.G fZ.an 0 Tryz.f112 _ fZ.st
abbrev fZ.Ok:=cr @fZ.A fZ.aq fZ.add fZ.F fZ.out
theorem fZ.eq{R:Type}(sv:(List oK))(k:aT→Option R):fZ.A sv k=
  aD (decide (0 < (List.length sv))) (
   aD (dK (0+(List.length sv)) 48) (
   k (fZ.out ((0+(List.length sv)),((List.take 0 (List.replicate 0 (([]:List Int),((0:Int),((0:Int),((0:Int),()))))))++sv)))) none) (
   nd (
    k (fZ.out (0,([]:List oK)))) (
    aD (dK (0+(List.length sv)) 48) (
    k (fZ.out ((0+(List.length sv)),((List.take 0 (List.replicate 0 (([]:List Int),((0:Int),((0:Int),((0:Int),()))))))++sv)))) none)):=by kernel_rfl
theorem fZ.ok:fZ.Ok:=by
 intro l hl
 have hl:l.length≤1000000:=hl
 have hr:dK l.length 48=true:=eR (by omega) (by omega)
 rw[fZ.eq]
 simp only[Nat.zero_add,hr,ah,List.take_zero,List.nil_append,fZ.add,fZ.F]
 by_cases h:0 < l.length
 ·simp only[aL h,ah]
 ·have:l=[]:=List.eq_nil_of_length_eq_zero (by omega)
  subst this
  simp only[List.length_nil,pO,bN (Nat.lt_irrefl 0),ae]
noncomputable def fZ.E:=Entry.cD [some (.slice pR)] fZ.st fZ.aq fZ.add fZ.F fZ.out
noncomputable def fZ.call:fZ.D→Option fZ.X:=bC fZ.E fZ.st
theorem fZ.run:bD fZ.call fZ.aq fZ.add fZ.F:=cw (cv [.d (.slice pR)] fun _=>by kernel_rfl)
noncomputable def fZ.sg:SG Tryz.prog:=⟨112,aK,fZ.E,.fn 0 (by kernel_rfl) fZ.ok trivial⟩
abbrev eA.D:=(List Sg)
def eA.st:eA.D→SA:=fun sv=>([.d (.slice Dq) sv],[])
abbrev eA.Y:=(List Sg)
abbrev eA.X:=(List Sg)
def eA.out:eA.X→aT:=fun x=>⟨.d (.slice Dq) x,[],[]⟩
def eA.add:eA.D→eA.Y→eA.X:=fun sv y=>y
def eA.aq:eA.D→Prop:=fun l=>l.length≤1000000
def eA.F:eA.D→eA.Y:=fun l=>l
noncomputable def eA.G:dU:=eZ (P:=Tryz.prog) []
noncomputable def eA.an:eu:= {bZ:=[5],res:=[some (.slice Dq)]}
noncomputable def eA.A:= @cq Tryz.prog eA.G eA.an 0 Tryz.f141 _ eA.st
abbrev eA.Ok:=cr @eA.A eA.aq eA.add eA.F eA.out
theorem eA.eq{R:Type}(sv:(List Sg))(k:aT→Option R):eA.A sv k=
  aD (decide (0 < (List.length sv))) (
   aD (dK (0+(List.length sv)) 16) (
   aD (decide (0=0∧(0+(0+(List.length sv)))≤(List.length ((List.take 0 (List.replicate 0 ((0:Int),((0:Int),()))))++sv)))) (
   k (eA.out (cut ((List.take 0 (List.replicate 0 ((0:Int),((0:Int),()))))++sv) 0 (0+(List.length sv))))) none) none) (
   nd (
    k (eA.out ([]:List Sg))) (
    aD (dK (0+(List.length sv)) 16) (
    aD (decide (0=0∧(0+(0+(List.length sv)))≤(List.length ((List.take 0 (List.replicate 0 ((0:Int),((0:Int),()))))++sv)))) (
    k (eA.out (cut ((List.take 0 (List.replicate 0 ((0:Int),((0:Int),()))))++sv) 0 (0+(List.length sv))))) none) none)):=by kernel_rfl
theorem eA.ok:eA.Ok:=by
 intro l hl
 have hl:l.length≤1000000:=hl
 have hr:dK l.length 16=true:=eR (by omega) (by omega)
 rw[eA.eq]
 simp only[Nat.zero_add,hr,ah,List.take_zero,List.nil_append,Nat.le_refl,and_self,decide_true,gI,eA.add,eA.F]
 by_cases h:0 < l.length
 ·simp only[aL h,ah]
 ·have:l=[]:=List.eq_nil_of_length_eq_zero (by omega)
  subst this
  simp only[List.length_nil,pO,bN (Nat.lt_irrefl 0),ae]
noncomputable def eA.E:=Entry.cD [some (.slice Dq)] eA.st eA.aq eA.add eA.F eA.out
noncomputable def eA.call:eA.D→Option eA.X:=bC eA.E eA.st
theorem eA.run:bD eA.call eA.aq eA.add eA.F:=cw (cv [.d (.slice Dq)] fun _=>by kernel_rfl)
noncomputable def eA.sg:SG Tryz.prog:=⟨141,aK,eA.E,.fn 0 (by kernel_rfl) eA.ok trivial⟩
abbrev aj.L0.D:=Int×Int×Nat×Nat×(Int×Unit)×(Int×Unit)×(List ja)×(List jw)
def aj.L0.st:aj.L0.D→AS:=fun(t17,t18,n1L,n1L_2,n1,n2,n9,n12)=>⟨([.undef,.ptr (.new 1 0) 0 [] 0,.ptr (.new 2 0) 0 [] 0]++bw 14 ([.d ti t17,.d ti t18]++bw 56 [])),[],([[],[.obj 0 false (.pr (.cT (.new 9 0) 0 [] 0 0 n1L) (.pr (.cT (.new 12 0) 0 [] 0 0 n1L_2) (.d (.pair ti .unit) n1)))],[.obj 0 false (.pr (.dQ) (.pr (.dQ) (.d (.pair ti .unit) n2)))]]++cC 6 ([[.obj 0 false (.vec 93 jR n9)],[],[],[.obj 0 false (.vec 100 mR n12)]]++cC 62 []))⟩
abbrev aj.L0.Y0:=(List ja)
abbrev aj.L0.X0:=(Nat×Nat×(Int×Unit)×(Int×Unit)×(List jw))×((List ja))
def aj.L0.bK:aj.L0.X0→Exit×AS:=fun x=>(.exit 0,⟨([.undef,.ptr (.new 1 0) 0 [] 0,.ptr (.new 2 0) 0 [] 0]++bw 72 []),[],([[],[.obj 0 false (.pr (.cT (.new 9 0) 0 [] 0 0 x.1.1) (.pr (.cT (.new 12 0) 0 [] 0 0 x.1.2.1) (.d (.pair ti .unit) x.1.2.2.1)))],[.obj 0 false (.pr (.dQ) (.pr (.dQ) (.d (.pair ti .unit) x.1.2.2.2.1)))]]++cC 6 ([[.obj 0 false (.vec 93 jR x.2)],[],[],[.obj 0 false (.vec 100 mR x.1.2.2.2.2)]]++cC 62 []))⟩)
abbrev aj.L0.X:=aj.L0.X0
abbrev aj.L0.Y:=aj.L0.Y0
def aj.L0.out:aj.L0.X→Out (Exit×AS):=fun x=> .ok (aj.L0.bK x)
def aj.L0.add:aj.L0.D→aj.L0.Y→aj.L0.X:=fun(t17,t18,n1L,n1L_2,n1,n2,n9,n12) y=>((n1L,n1L_2,n1,n2,n12),y)
abbrev aj.L1.D:=Int×Int×Nat×Nat×(Int×Unit)×(Int×Unit)×(List ja)×(List jw)
def aj.L1.st:aj.L1.D→AS:=fun(t38,t39,n1L_3,n1L_4,n1_2,n2_2,n9_2,n12_2)=>⟨([.undef,.ptr (.new 1 0) 0 [] 0,.ptr (.new 2 0) 0 [] 0]++bw 35 ([.d ti t38,.d ti t39]++bw 35 [])),[],([[],[.obj 0 false (.pr (.cT (.new 9 0) 0 [] 0 0 n1L_3) (.pr (.cT (.new 12 0) 0 [] 0 0 n1L_4) (.d (.pair ti .unit) n1_2)))],[.obj 0 false (.pr (.dQ) (.pr (.dQ) (.d (.pair ti .unit) n2_2)))]]++cC 6 ([[.obj 0 false (.vec 93 jR n9_2)],[],[],[.obj 0 false (.vec 100 mR n12_2)]]++cC 62 []))⟩
abbrev aj.L1.Y0:=Nat×Nat×(Int×Unit)×(Int×Unit)×(List ja)×(List jw)
abbrev aj.L1.X0:=Nat×Nat×(Int×Unit)×(Int×Unit)×(List ja)×(List jw)
def aj.L1.bK:aj.L1.X0→Exit×AS:=fun x=>(.exit 2,⟨([.undef,.ptr (.new 1 0) 0 [] 0,.ptr (.new 2 0) 0 [] 0]++bw 72 []),[],([[],[.obj 0 false (.pr (.cT (.new 9 0) 0 [] 0 0 x.1) (.pr (.cT (.new 12 0) 0 [] 0 0 x.2.1) (.d (.pair ti .unit) x.2.2.1)))],[.obj 0 false (.pr (.dQ) (.pr (.dQ) (.d (.pair ti .unit) x.2.2.2.1)))]]++cC 6 ([[.obj 0 false (.vec 93 jR x.2.2.2.2.1)],[],[],[.obj 0 false (.vec 100 mR x.2.2.2.2.2)]]++cC 62 []))⟩)
abbrev aj.L1.X:=aj.L1.X0
abbrev aj.L1.Y:=aj.L1.Y0
def aj.L1.out:aj.L1.X→Out (Exit×AS):=fun x=> .ok (aj.L1.bK x)
def aj.L1.add:aj.L1.D→aj.L1.Y→aj.L1.X:=fun(t38,t39,n1L_3,n1L_4,n1_2,n2_2,n9_2,n12_2) y=>y
abbrev aj.L2.D:=Int×Nat×Int×Int×Int×Int×Nat×Nat×(Int×Unit)×(Int×Unit)×(List ja)×(List jw)×(List oK)
def aj.L2.st:aj.L2.D→AS:=fun(kv,lL,t38_2,t39_2,t51,t52,n1L_5,n1L_6,n1_3,n2_3,n9_3,n12_3,n49)=>⟨([.undef,.ptr (.new 1 0) 0 [] 0,.ptr (.new 2 0) 0 [] 0,.undef,.d ti kv,.cT (.new 49 0) 0 [] 0 0 lL]++bw 32 ([.d ti t38_2,.d ti t39_2]++bw 11 ([.d ti t51,.d ti t52]++bw 22 []))),[],([[],[.obj 0 false (.pr (.cT (.new 9 0) 0 [] 0 0 n1L_5) (.pr (.cT (.new 12 0) 0 [] 0 0 n1L_6) (.d (.pair ti .unit) n1_3)))],[.obj 0 false (.pr (.dQ) (.pr (.dQ) (.d (.pair ti .unit) n2_3)))]]++cC 6 ([[.obj 0 false (.vec 93 jR n9_3)],[],[],[.obj 0 false (.vec 100 mR n12_3)]]++cC 36 ([[.obj 0 false (.vec 58 pR n49)]]++cC 25 [])))⟩
abbrev aj.L2.Y0:=(List oK)×(List oK)
abbrev aj.L2.X0:=(Int×Int×Int×Nat×Nat×(Int×Unit)×(Int×Unit)×(List ja)×(List jw))×((List oK)×(List oK))
def aj.L2.bK:aj.L2.X0→Exit×AS:=fun x=>(.exit 4,⟨([.undef,.ptr (.new 1 0) 0 [] 0,.ptr (.new 2 0) 0 [] 0,.undef,.d ti x.1.1,.d (.slice pR) x.2.1]++bw 32 ([.d ti x.1.2.1,.d ti x.1.2.2.1]++bw 35 [])),[],([[],[.obj 0 false (.pr (.cT (.new 9 0) 0 [] 0 0 x.1.2.2.2.1) (.pr (.cT (.new 12 0) 0 [] 0 0 x.1.2.2.2.2.1) (.d (.pair ti .unit) x.1.2.2.2.2.2.1)))],[.obj 0 false (.pr (.dQ) (.pr (.dQ) (.d (.pair ti .unit) x.1.2.2.2.2.2.2.1)))]]++cC 6 ([[.obj 0 false (.vec 93 jR x.1.2.2.2.2.2.2.2.1)],[],[],[.obj 0 false (.vec 100 mR x.1.2.2.2.2.2.2.2.2)]]++cC 36 ([[.obj 0 true (.vec 58 pR x.2.2)]]++cC 25 [])))⟩)
abbrev aj.L2.X:=aj.L2.X0
abbrev aj.L2.Y:=aj.L2.Y0
def aj.L2.out:aj.L2.X→Out (Exit×AS):=fun x=> .ok (aj.L2.bK x)
def aj.L2.add:aj.L2.D→aj.L2.Y→aj.L2.X:=fun(kv,lL,t38_2,t39_2,t51,t52,n1L_5,n1L_6,n1_3,n2_3,n9_3,n12_3,n49) y=>((kv,t38_2,t39_2,n1L_5,n1L_6,n1_3,n2_3,n9_3,n12_3),y)
abbrev aj.D:=hP
def aj.st:aj.D→SA:=fun t=>([.d kN t],[])
abbrev aj.Y:=Nat×((List jw)×(Int×Unit))×(List ja)
abbrev aj.X:=Nat×((List jw)×(Int×Unit))×(List ja)
def aj.out:aj.X→aT:=fun x=>⟨.pr (.cT (.new 0 0) 0 [] 0 0 x.1) (.d (.pair (.slice mR) (.pair ti .unit)) x.2.1),[],[.obj 0 false (.vec 93 jR x.2.2)]⟩
def aj.add:aj.D→aj.Y→aj.X:=fun t y=>y
def aj.L0.aq:aj.L0.D→Prop:=fun(m,i,L,L2,u,v,l,os)=>(l.length≤1000∧∀x∈l,x.2.1.2.1.length≤1000000)∧∃k:Nat,k≤l.length∧i=k∧m=l.length∧L=l.length
def aj.L0.F:aj.L0.D→aj.L0.Y:=fun(m,i,L,L2,u,v,l,os)=>l
def aj.L2.aq:aj.L2.D→Prop:=fun(kv,L,m1,i1,m,i,L5,L6,u,v,ls,os,bs)=>(bs.length≤1000∧∀x∈bs,x.1.length≤1000000)∧∃k:Nat,k≤bs.length∧i=k∧m=bs.length∧L=bs.length
def aj.L2.F:aj.L2.D→aj.L2.Y:=fun(kv,L,m1,i1,m,i,L5,L6,u,v,ls,os,bs)=>(bs,bs)
def aj.L1.aq:aj.L1.D→Prop:=fun(m,i,L3,L,u,v,ls,os)=>(os.length≤1000∧∀x∈os,x.2.1.1.length≤1000∧∀b∈x.2.1.1,b.1.length≤1000000)∧∃k:Nat,k≤os.length∧i=k∧m=os.length∧L=os.length
def aj.L1.F:aj.L1.D→aj.L1.Y:=fun(m,i,L3,L,u,v,ls,os)=>(L3,L,u,v,ls,os)
def aj.aq:aj.D→Prop:=fun t=>iq t=true
def aj.F:aj.D→aj.Y:=fun t=>(t.1.length,(t.2.1,t.2.2),t.1)
noncomputable def aj.G:dU:=eZ (P:=Tryz.prog) [gb.sg,ez.sg,eA.sg,fZ.sg,dq.sg]
noncomputable def aj.L0.E:=cf.cD aj.L0.st aj.L0.aq aj.L0.add aj.L0.F aj.L0.out
noncomputable def aj.L0.call:aj.L0.D→Option aj.L0.X:=dL aj.L0.E aj.L0.st
noncomputable def aj.L1.E:=cf.cD aj.L1.st aj.L1.aq aj.L1.add aj.L1.F aj.L1.out
noncomputable def aj.L1.call:aj.L1.D→Option aj.L1.X:=dL aj.L1.E aj.L1.st
noncomputable def aj.L2.E:=cf.cD aj.L2.st aj.L2.aq aj.L2.add aj.L2.F aj.L2.out
noncomputable def aj.L2.call:aj.L2.D→Option aj.L2.X:=dL aj.L2.E aj.L2.st
noncomputable def aj.an:eu:= {bZ:=[1],loops:=ki [(3,{bu:=[1,2,17,18],sites:=[1,2,9,12]}),(8,{bu:=[1,2,38,39],sites:=[1,2,9,12]}),(12,{bu:=[1,2,4,5,38,39,51,52],sites:=[1,2,9,12,49]})],outs:=kh [(3,{bu:=[1,2],sites:=[1,2,9,12]},{bu:=[2]}),(8,{bu:=[1,2],sites:=[1,2,9,12]},{bu:=[2]}),(12,{bu:=[1,2,4,5,38,39],sites:=[1,2,9,12,49],data:=[(5,(.slice pR))]},{bu:=[2]})],gq:=lv [(3,aj.L0.E),(8,aj.L1.E),(12,aj.L2.E)],yV:=[⟨2,[.snd,.fst],(.slice mR)⟩]}
noncomputable def aj.A:= @cq Tryz.prog aj.G aj.an 0 Tryz.f128 _ aj.st
abbrev aj.Ok:=cr @aj.A aj.aq aj.add aj.F aj.out
noncomputable def aj.L0.R:= @cM Tryz.prog aj.G aj.an 0 Tryz.f128 0 _ aj.L0.st
abbrev aj.L0.Ok:=fk Tryz.prog aj.G aj.an 0 Tryz.f128 0 aj.L0.st aj.L0.aq aj.L0.add aj.L0.F aj.L0.out
noncomputable def aj.L1.R:= @cM Tryz.prog aj.G aj.an 0 Tryz.f128 1 _ aj.L1.st
abbrev aj.L1.Ok:=fk Tryz.prog aj.G aj.an 0 Tryz.f128 1 aj.L1.st aj.L1.aq aj.L1.add aj.L1.F aj.L1.out
noncomputable def aj.L2.R:= @cM Tryz.prog aj.G aj.an 0 Tryz.f128 2 _ aj.L2.st
abbrev aj.L2.Ok:=fk Tryz.prog aj.G aj.an 0 Tryz.f128 2 aj.L2.st aj.L2.aq aj.L2.add aj.L2.F aj.L2.out
theorem aj.L0.run:bD aj.L0.call aj.L0.aq aj.L0.add aj.L0.F:=fy (fx [.d ti,.d ti,.n,.n,.d (.pair ti .unit),.d (.pair ti .unit),.d (.slice jR),.d (.slice mR)] fun _=>by kernel_rfl)
theorem aj.L0.aE:fY @aj.L0.R aj.L0.st aj.L0.aq aj.L0.add aj.L0.F aj.L0.bK aj.L0.Ok:=gj
theorem aj.L0.step{R:Type}(t17:Int)(t18:Int)(n1L:Nat)(n1L_2:Nat)(n1:(Int×Unit))(n2:(Int×Unit))(n9:(List ja))(n12:(List jw))(kn:AS→Option R)(kx:Exit→AS→Option R):aj.L0.R (t17,t18,n1L,n1L_2,n1,n2,n9,n12) kn kx=
  aD ((gM t18 t17)) (
   aD (dZ t18 ((n1L:Nat):Int)) (
   aD (decide ((0+(Int.toNat t18)) < (List.length n9))) (
   aD (decide ((((0+(Int.toNat t18))*36)+34)=(((0+((Int.toNat t18)*36))+33)+1))) (
   ab (eA.call (nth jR n9 (0+(Int.toNat t18))).2.1.2.1) fun x1=>
   aD (dZ t18 ((n1L:Nat):Int)) (
   aD (decide ((0+(Int.toNat t18)) < (List.length n9))) (
   aD (decide ((((0+(Int.toNat t18))*36)+34)=(((0+((Int.toNat t18)*36))+33)+1))) (
   aD (decide ((0+(Int.toNat t18)) < (List.length n9))) (
   kn (aj.L0.st (t17,(bo .i64 t18 (1:Int)),n1L,n1L_2,n1,n2,(List.set n9 (0+(Int.toNat t18)) ((nth jR n9 (0+(Int.toNat t18))).1,(((nth jR n9 (0+(Int.toNat t18))).2.1.1,(x1,(nth jR n9 (0+(Int.toNat t18))).2.1.2.2)),(nth jR n9 (0+(Int.toNat t18))).2.2))),n12))) none) none) none) none) none) none) none) (
   kx (aj.L0.bK ((n1L,n1L_2,n1,n2,n12),n9)).1 (aj.L0.bK ((n1L,n1L_2,n1,n2,n12),n9)).2):=by kernel_rfl
theorem aj.L1.run:bD aj.L1.call aj.L1.aq aj.L1.add aj.L1.F:=fy (fx [.d ti,.d ti,.n,.n,.d (.pair ti .unit),.d (.pair ti .unit),.d (.slice jR),.d (.slice mR)] fun _=>by kernel_rfl)
theorem aj.L1.aE:fY @aj.L1.R aj.L1.st aj.L1.aq aj.L1.add aj.L1.F aj.L1.bK aj.L1.Ok:=gj
theorem aj.L1.step{R:Type}(t38:Int)(t39:Int)(n1L_3:Nat)(n1L_4:Nat)(n1_2:(Int×Unit))(n2_2:(Int×Unit))(n9_2:(List ja))(n12_2:(List jw))(kn:AS→Option R)(kx:Exit→AS→Option R):aj.L1.R (t38,t39,n1L_3,n1L_4,n1_2,n2_2,n9_2,n12_2) kn kx=
  aD ((gM t39 t38)) (
   aD (dZ t39 ((n1L_4:Nat):Int)) (
   aD (decide ((0+(Int.toNat t39)) < (List.length n12_2))) (
   aD (decide ((((0+(Int.toNat t39))*2)+1)=(((0+((Int.toNat t39)*2))+1)+0))) (
   ab (fZ.call (nth mR n12_2 (0+(Int.toNat t39))).2.1.1) fun x1=>
   ab (aj.L2.call (t39,x1.1,t38,t39,((x1.1:Nat):Int),(0:Int),n1L_3,n1L_4,n1_2,n2_2,n9_2,n12_2,x1.2)) fun x2=>
   aD (dZ x2.1.1 ((x2.1.2.2.2.2.1:Nat):Int)) (
   aD (decide ((0+(Int.toNat x2.1.1)) < (List.length x2.1.2.2.2.2.2.2.2.2))) (
   aD (decide ((((0+(Int.toNat x2.1.1))*2)+1)=(((0+((Int.toNat x2.1.1)*2))+1)+0))) (
   aD (decide ((0+(Int.toNat x2.1.1)) < (List.length x2.1.2.2.2.2.2.2.2.2))) (
   kn (aj.L1.st (x2.1.2.1,(bo .i64 x2.1.2.2.1 (1:Int)),x2.1.2.2.2.1,x2.1.2.2.2.2.1,x2.1.2.2.2.2.2.1,x2.1.2.2.2.2.2.2.1,x2.1.2.2.2.2.2.2.2.1,(List.set x2.1.2.2.2.2.2.2.2.2 (0+(Int.toNat x2.1.1)) ((nth mR x2.1.2.2.2.2.2.2.2.2 (0+(Int.toNat x2.1.1))).1,((x2.2.1,(nth mR x2.1.2.2.2.2.2.2.2.2 (0+(Int.toNat x2.1.1))).2.1.2),(nth mR x2.1.2.2.2.2.2.2.2.2 (0+(Int.toNat x2.1.1))).2.2)))))) none) none) none) none) none) none) none) (
   kx (aj.L1.bK (n1L_3,n1L_4,n1_2,n2_2,n9_2,n12_2)).1 (aj.L1.bK (n1L_3,n1L_4,n1_2,n2_2,n9_2,n12_2)).2):=by kernel_rfl
theorem aj.L2.run:bD aj.L2.call aj.L2.aq aj.L2.add aj.L2.F:=fy (fx [.d ti,.n,.d ti,.d ti,.d ti,.d ti,.n,.n,.d (.pair ti .unit),.d (.pair ti .unit),.d (.slice jR),.d (.slice mR),.d (.slice pR)] fun _=>by kernel_rfl)
theorem aj.L2.aE:fY @aj.L2.R aj.L2.st aj.L2.aq aj.L2.add aj.L2.F aj.L2.bK aj.L2.Ok:=gj
theorem aj.L2.step{R:Type}(kv:Int)(lL:Nat)(t38_2:Int)(t39_2:Int)(t51:Int)(t52:Int)(n1L_5:Nat)(n1L_6:Nat)(n1_3:(Int×Unit))(n2_3:(Int×Unit))(n9_3:(List ja))(n12_3:(List jw))(n49:(List oK))(kn:AS→Option R)(kx:Exit→AS→Option R):aj.L2.R (kv,lL,t38_2,t39_2,t51,t52,n1L_5,n1L_6,n1_3,n2_3,n9_3,n12_3,n49) kn kx=
  aD ((gM t52 t51)) (
   aD (dZ t52 ((lL:Nat):Int)) (
   aD (decide ((0+(Int.toNat t52)) < (List.length n49))) (
   aD (decide ((((0+(Int.toNat t52))*4)+0)=((0+((Int.toNat t52)*4))+0))) (
   ab (dq.call (nth pR n49 (0+(Int.toNat t52))).1) fun x1=>
   aD (dZ t52 ((lL:Nat):Int)) (
   aD (decide ((0+(Int.toNat t52)) < (List.length n49))) (
   aD (decide ((((0+(Int.toNat t52))*4)+0)=((0+((Int.toNat t52)*4))+0))) (
   aD (decide ((0+(Int.toNat t52)) < (List.length n49))) (
   kn (aj.L2.st (kv,lL,t38_2,t39_2,t51,(bo .i64 t52 (1:Int)),n1L_5,n1L_6,n1_3,n2_3,n9_3,n12_3,(List.set n49 (0+(Int.toNat t52)) (x1,(nth pR n49 (0+(Int.toNat t52))).2))))) none) none) none) none) none) none) none) (
   aD (decide (0=0∧(0+lL)≤(List.length n49))) (
   kx (aj.L2.bK ((kv,t38_2,t39_2,n1L_5,n1L_6,n1_3,n2_3,n9_3,n12_3),((cut n49 0 lL),n49))).1 (aj.L2.bK ((kv,t38_2,t39_2,n1L_5,n1L_6,n1_3,n2_3,n9_3,n12_3),((cut n49 0 lL),n49))).2) none):=by kernel_rfl
theorem aj.eq{R:Type}(t:hP)(k:aT→Option R):aj.A t k=
 ab (gb.call t.1) fun x1=>
 ab (ez.call t.2.1) fun x2=>
 ab (aj.L0.call (((x1.1:Nat):Int),(0:Int),x1.1,x2.1,t.2.2,((0:Int),()),x1.2,x2.2)) fun x4=>
 ab (aj.L1.call (((x4.1.2.1:Nat):Int),(0:Int),x4.1.1,x4.1.2.1,x4.1.2.2.1,x4.1.2.2.2.1,x4.2,x4.1.2.2.2.2)) fun x8=>
 aD (decide (0=0∧(0+x8.2.1)≤(List.length x8.2.2.2.2.2))) (
 k (aj.out (x8.1,((cut x8.2.2.2.2.2 0 x8.2.1),x8.2.2.1),x8.2.2.2.2.1))) none:=by kernel_rfl
theorem aj.L0.ok:aj.L0.Ok:=by
 refine aj.L0.aE (fun(m,i,L,L2,u,v,l,os)=>l.length - Int.toNat i) ?_
 rintro⟨m,i,L,L2,u,v,l,os⟩ ⟨⟨hlen,hx⟩,k,hk,rfl,rfl,rfl⟩
 have hlen:l.length≤1000:=hlen
 have hk:k≤l.length:=hk
 by_cases h:k < l.length
 ·left
  have n1:nth jR l k=l[k]:=dS (t:=jR) h
  have hs:l.set k l[k]=l:=List.set_getElem_self h
  have e:=hx _ (List.getElem_mem h)
  refine⟨((l.length:Int),((k+1:Nat):Int),l.length,L2,u,v,l,os),⟨⟨hlen,hx⟩,k+1,by omega,rfl,rfl,rfl⟩,by simp only[Int.toNat_natCast];omega,rfl,fun kn kx=> ?_⟩
  rw[aj.L0.step,bB (by omega),bz (by omega) (by omega)]
  simp only[Int.toNat_natCast,Nat.zero_add,Nat.add_zero,Nat.add_assoc,Nat.reduceAdd,ah,aL h,decide_true,n1]
  rw[eA.run (d:=l[k].2.1.2.1) e]
  simp only[aa,eA.add,eA.F]
  rw[N.mq (by omega)]
  exact congrArg (fun z=>kn (aj.L0.st (_,_,_,_,_,_,z,_))) hs
 ·right
  obtain rfl:k=l.length:=by omega
  intro R kn kx
  rw[aj.L0.step,bk (by omega),ae]
  rfl
theorem aj.L2.ok:aj.L2.Ok:=by
 refine aj.L2.aE (fun(kv,L,m1,i1,m,i,L5,L6,u,v,ls,os,bs)=>bs.length - Int.toNat i) ?_
 rintro⟨kv,L,m1,i1,m,i,L5,L6,u,v,ls,os,bs⟩ ⟨⟨hlen,hx⟩,k,hk,rfl,rfl,rfl⟩
 have hlen:bs.length≤1000:=hlen
 have hk:k≤bs.length:=hk
 by_cases h:k < bs.length
 ·left
  have n1:nth pR bs k=bs[k]:=dS (t:=pR) h
  have hs:bs.set k bs[k]=bs:=List.set_getElem_self h
  have e:=hx _ (List.getElem_mem h)
  refine⟨(kv,bs.length,m1,i1,(bs.length:Int),((k+1:Nat):Int),L5,L6,u,v,ls,os,bs),⟨⟨hlen,hx⟩,k+1,by omega,rfl,rfl,rfl⟩,by simp only[Int.toNat_natCast];omega,rfl,fun kn kx=> ?_⟩
  rw[aj.L2.step,bB (by omega),bz (by omega) (by omega)]
  simp only[Int.toNat_natCast,Nat.zero_add,Nat.add_zero,Nat.add_assoc,Nat.reduceAdd,ah,aL h,decide_true,n1]
  rw[dq.run (d:=bs[k].1) e]
  simp only[aa,dq.add,dq.F]
  rw[N.mq (by omega)]
  exact congrArg (fun z=>kn (aj.L2.st (_,_,_,_,_,_,_,_,_,_,_,_,z))) hs
 ·right
  obtain rfl:k=bs.length:=by omega
  intro R kn kx
  rw[aj.L2.step,bk (by omega),ae]
  simp only[Nat.zero_add,Nat.le_refl,and_self,decide_true,ah,gI]
  rfl
theorem aj.L1.ok:aj.L1.Ok:=by
 refine aj.L1.aE (fun(m,i,L3,L,u,v,ls,os)=>os.length - Int.toNat i) ?_
 rintro⟨m,i,L3,L,u,v,ls,os⟩ ⟨⟨hlen,hx⟩,k,hk,rfl,rfl,rfl⟩
 have hlen:os.length≤1000:=hlen
 have hk:k≤os.length:=hk
 by_cases h:k < os.length
 ·left
  have n1:nth mR os k=os[k]:=dS (t:=mR) h
  have hs:os.set k os[k]=os:=List.set_getElem_self h
  have e:=hx _ (List.getElem_mem h)
  refine⟨((os.length:Int),((k+1:Nat):Int),L3,os.length,u,v,ls,os),⟨⟨hlen,hx⟩,k+1,by omega,rfl,rfl,rfl⟩,by simp only[Int.toNat_natCast];omega,rfl,fun kn kx=> ?_⟩
  rw[aj.L1.step,bB (by omega),bz (by omega) (by omega)]
  simp only[Int.toNat_natCast,Nat.zero_add,Nat.add_zero,Nat.add_assoc,Nat.reduceAdd,ah,aL h,decide_true,n1]
  rw[fZ.run (d:=os[k].2.1.1) (by show os[k].2.1.1.length≤_;have:=e.1;omega)]
  simp only[aa,fZ.add,fZ.F]
  rw[aj.L2.run (d:=((k:Int),os[k].2.1.1.length,(os.length:Int),(k:Int),(os[k].2.1.1.length:Int),0,L3,os.length,u,v,ls,os,os[k].2.1.1)) ⟨e,0,Nat.zero_le _,rfl,rfl,rfl⟩]
  simp only[aa,aj.L2.add,aj.L2.F,Int.toNat_natCast,n1,ah,aL h,bz (show(0:Int)≤(k:Int) by omega) (show(k:Int) < (os.length:Int) by omega)]
  rw[N.mq (by omega)]
  exact congrArg (fun z=>kn (aj.L1.st (_,_,_,_,_,_,_,z))) hs
 ·right
  obtain rfl:k=os.length:=by omega
  intro R kn kx
  rw[aj.L1.step,bk (by omega),ae]
  rfl
theorem Hb{l:Lk}(h:jz l=true):l.1.length≤4∧∀b∈l.1,b.1.length≤12:=by
 unfold jz at h
 simp only[Bool.and_eq_true,List.all_eq_true,decide_eq_true_eq]at h
 refine⟨h.2.2,fun b hb=> ?_⟩
 have:=h.1 b hb
 unfold nj at this
 simp only[Bool.and_eq_true,decide_eq_true_eq]at this
 exact this.1
theorem aj.ok:aj.Ok:=by
 rintro⟨is,os,nt,u⟩ hok
 obtain⟨⟨_,a2,a3,_⟩,b1,b2⟩:=qK hok
 have a2:is.length≤64:=a2
 have a3:os.length≤64:=a3
 rw[aj.eq,gb.run (d:=is) (by show is.length≤_;omega),ez.run (d:=os) (by show os.length≤_;omega)]
 simp only[aa,gb.add,gb.F,ez.add,ez.F]
 rw[aj.L0.run (d:=(is.length,0,is.length,os.length,(nt,u),(0,()),is,os)) ⟨⟨by show is.length≤_;omega,fun x hx=>by have:=(AU (pb _ _ b1 x hx)).2.2.2.2;omega⟩,0,Nat.zero_le _,rfl,rfl,rfl⟩]
 simp only[aa,aj.L0.add,aj.L0.F]
 rw[aj.L1.run (d:=(os.length,0,is.length,os.length,(nt,u),(0,()),is,os)) ⟨⟨by show os.length≤_;omega,fun x hx=>by
  have:=Hb (qC _ _ b2 x hx).2
  exact⟨by omega,fun b hb=>by have:=this.2 b hb;omega⟩⟩,0,Nat.zero_le _,rfl,rfl,rfl⟩]
 simp only[aa,aj.L1.add,aj.L1.F,Nat.zero_add,Nat.le_refl,and_self,decide_true,ah,gI]
 rfl
noncomputable def aj.E:=Entry.cD [some kN] aj.st aj.aq aj.add aj.F aj.out
noncomputable def aj.call:aj.D→Option aj.X:=bC aj.E aj.st
theorem aj.run:bD aj.call aj.aq aj.add aj.F:=cw (cv [.d kN] fun _=>by kernel_rfl)
noncomputable def aj.sg:SG Tryz.prog:=⟨128,aK,aj.E,.fn 3 (by kernel_rfl) aj.ok (And.intro (.cD aj.L0.ok (by kernel_rfl)) (And.intro (.cD aj.L1.ok (by kernel_rfl)) (And.intro (.cD aj.L2.ok (by kernel_rfl)) trivial)))⟩
set_option synthInstance.maxSize 5000
theorem pg(x:Int)(m:Int):∀k:Nat,(x%m)^k%m=x^k%m
 | 0=>by rw[Int.pow_zero,Int.pow_zero]
 |k+1=>by rw[Int.pow_succ,Int.pow_succ,Int.mul_emod,pg x m k,Int.emod_emod_of_dvd _ (Int.dvd_refl m),←Int.mul_emod]
theorem Hy(a:Int)(k:Nat):(a*a)^k=a^(2*k):=by
 rw[Int.pow_mul,Int.pow_succ,Int.pow_succ,Int.pow_zero,Int.one_mul]
theorem EF:∀(f:Nat) (a:Int) (n:Nat) (out:Int),n < 2^f→Pn out→yA f a n out=out*a^n%4611686018427377339
 | 0,a,n,out,h,ho=>by
  obtain rfl:n=0:=by omega
  rw[mE,Int.pow_zero,Int.mul_one,Int.emod_eq_of_lt ho.1 ho.2]
 |f+1,a,n,out,h,ho=>by
  have e:(2:Nat)^(f+1)=2^f*2:=Nat.pow_succ 2 f
  rw[yA]
  split
  ·rename_i h0
   subst h0
   rw[Int.pow_zero,Int.mul_one,Int.emod_eq_of_lt ho.1 ho.2]
  ·have hp:Pn (if n%2=1 then kY out a else out):=by
    split
    ·exact mo _ _
    ·exact ho
   rw[EF f _ _ _ (by omega) hp,Int.mul_emod]
   have e1:(kY a a)^(n / 2)%4611686018427377339=a^(2*(n / 2))%4611686018427377339:=by
    unfold kY
    rw[pg,Hy]
   have e2:(if n%2=1 then kY out a else out)%4611686018427377339=(out*a^(n%2))%4611686018427377339:=by
    split
    ·rename_i h1
     rw[h1,Int.pow_succ,Int.pow_zero,Int.one_mul]
     exact Int.emod_emod_of_dvd _ (Int.dvd_refl _)
    ·have h1:n%2=0:=by omega
     rw[h1,Int.pow_zero,Int.mul_one]
   rw[e1,e2,←Int.mul_emod,Int.mul_assoc,←Int.pow_add]
   have e3:n%2+2*(n / 2)=n:=by omega
   rw[e3]
theorem vd(a:Int)(n:Nat)(h:n < 18446744073709551616):pw a n=a^n%4611686018427377339:=by
 unfold pw
 rw[EF 64 a n 1 h ⟨by omega,by omega⟩,Int.one_mul]
theorem one_pow(k:Nat):(1:Int)^k=1:=Int.one_pow
theorem EH(a:Int)(k q:Nat)(hk:k < 18446744073709551616)(hq:q < 18446744073709551616)(h:pw a q=1):pw (pw a k) q=1:=by
 rw[vd _ _ hq]at h
 rw[vd _ _ hq,vd _ _ hk,pg,←Int.pow_mul,Nat.mul_comm,Int.pow_mul,←pg,h,one_pow]
 rfl
theorem wN:pw 4 2305843009213688669=1:=by decide+kernel
theorem Da:pw 1 2305843009213688669=1:=by decide+kernel
theorem BX:lq 4=true:=by rw[lq,wN];rfl
theorem BY:lq 1=true:=by rw[lq,Da];rfl
theorem yf{a:Int}(h:Pn a)(q:Nat)(hq:0 < q)(hq2:q < 18446744073709551616)(hp:pw a q=1):0 < a:=by
 rcases Int.lt_or_eq_of_le h.1 with h0 | h0
 ·exact h0
 ·subst h0
  rw[vd _ _ hq2,Int.zero_pow (by omega)]at hp
  cases hp
theorem D8{a:Int}(h:Pn a)(hp:pw a 2305843009213688669=1):lq a=true:=by
 have h0:=yf h 2305843009213688669 (by decide) (by decide) hp
 rw[lq,hp,decide_eq_true ⟨h0,h.2⟩];rfl
theorem sD{a:Int}(h:lq a=true):pw a 2305843009213688669=1∧Pn a:=by
 rw[lq,Bool.and_eq_true,decide_eq_true_eq,decide_eq_true_eq]at h
 exact⟨h.2,by omega,h.1.2⟩
theorem G7{a:Int}(h:lq a=true)(k:Nat)(hk:k < 18446744073709551616):lq (pw a k)=true:=
 D8 (Ca _ _) (EH a k _ hk (by decide) (sD h).1)
theorem D9(a:Int):lq (tk a)=true:=by
 unfold tk
 cases h:lq a
 ·exact BY
 ·exact h
theorem CW(p k:Int):lq (nA p k)=true:=G7 (D9 p) _ (by omega)
theorem Io{a:Int}(h:lq a=true):tk a=a:=by rw[tk,h];rfl
theorem zb(k:Int):lq (gu k)=true:=CW 4 k
set_option synthInstance.maxSize 5000
def pm(m:Nat):Nat→Nat→Nat→Nat→Nat
 | 0,_,_,out=>out%m
 |f+1,a,n,out=>if n=0 then out%m else pm m f (a*a%m) (n / 2) (if n%2=1 then out*a%m else out)
theorem Gt(m:Nat):∀(f a n out:Nat),n < 2^f→pm m f a n out=out*a^n%m
 | 0,a,n,out,h=>by
  obtain rfl:n=0:=by omega
  rw[pm,Nat.pow_zero,Nat.mul_one]
 |f+1,a,n,out,h=>by
  have e:(2:Nat)^(f+1)=2^f*2:=Nat.pow_succ (n:=2) (m:=f)
  rw[pm]
  split
  ·rename_i h0
   subst h0
   rw[Nat.pow_zero,Nat.mul_one]
  ·rw[Gt m f _ _ _ (by omega),Nat.mul_mod]
   have e1:(a*a%m)^(n / 2)%m=a^(2*(n / 2))%m:=by
    rw[←Nat.pow_mod,Nat.pow_mul,Nat.pow_two]
   have e2:(if n%2=1 then out*a%m else out)%m=(out*a^(n%2))%m:=by
    split
    ·rename_i h1
     rw[h1,Nat.pow_one,Nat.mod_mod]
    ·have h1:n%2=0:=by omega
     rw[h1,Nat.pow_zero,Nat.mul_one]
   rw[e1,e2,←Nat.mul_mod,Nat.mul_assoc,←Nat.pow_add]
   have e3:n%2+2*(n / 2)=n:=by omega
   rw[e3]
theorem D5:∀(r q:Nat) (f:Nat→Nat),(∀i,i < q→f i < r)→(∀i j,i < j→j < q→f i≠f j)→q≤r
 | 0,q,f,h,_=>by
  rcases Nat.eq_zero_or_pos q with h0 | h0
  ·omega
  ·exact absurd (h 0 h0) (Nat.not_lt_zero _)
 |r+1,q,f,h,g=>by
  by_cases hx:∃i,i < q∧f i=r
  ·obtain⟨i,hi,hr⟩:=hx
   have e:=D5 r (q - 1) (fun j=>if j < i then f j else f (j+1)) (fun j hj=>by
    by_cases h1:j < i
    ·have a:=h j (by omega)
     have b:=g j i h1 hi
     simp only[h1,if_true]
     omega
    ·have a:=h (j+1) (by omega)
     have b:=g i (j+1) (by omega) (by omega)
     simp only[h1,if_false]
     omega) (fun j k hjk hk=>by
    by_cases h1:j < i
    ·by_cases h2:k < i
     ·simp only[h1,h2,if_true]
      exact g j k hjk (by omega)
     ·simp only[h1,h2,if_true,if_false]
      exact g j (k+1) (by omega) (by omega)
    ·have h2:¬k < i:=by omega
     simp only[h1,h2,if_false]
     exact g (j+1) (k+1) (by omega) (by omega))
   omega
  ·have e:=D5 r q f (fun i hi=>by
    have a:=h i hi
    have b:f i≠r:=fun x=>hx ⟨i,hi,x⟩
    omega) g
   omega
theorem B8(a m:Nat)(h1:1%m=1):∀i j:Nat,a^i%m=1→a^j%m=1→a^(Nat.gcd i j)%m=1:=by
 intro i
 induction i using Nat.strongRecOn with
 |ind i ih=>
  intro j hi hj
  rcases Nat.eq_zero_or_pos i with h0 | h0
  ·subst h0;rw[Nat.gcd_zero_left];exact hj
  ·rw[Nat.gcd_rec]
   refine ih (j%i) (Nat.mod_lt _ h0) i ?_ hi
   have e:a^j=(a^i)^(j / i)*a^(j%i):=by rw[←Nat.pow_mul,←Nat.pow_add,Nat.div_add_mod]
   rw[e,Nat.mul_mod,Nat.pow_mod,hi,Nat.one_pow,h1,Nat.one_mul,Nat.mod_mod]at hj
   exact hj
def Dw(n:Nat):Prop:=∀d,d∣n→d=1∨d=n
theorem B9{n k:Nat}(h:Dw n)(h0:0 < k)(hk:k < n):Nat.gcd k n=1:=by
 rcases h _ (Nat.gcd_dvd_right k n) with h1 | h1
 ·exact h1
 ·have:=Nat.le_of_dvd h0 (Nat.gcd_dvd_left k n);omega
theorem zB{n:Nat}(hn:1 < n)(h:∀r,1 < r→r*r≤n→¬r∣n):Dw n:=by
 intro d hd
 obtain⟨e,he⟩:=hd
 have hd0:0 < d:=Nat.pos_of_ne_zero (by intro x;rw[x,Nat.zero_mul]at he;omega)
 have he0:0 < e:=Nat.pos_of_ne_zero (by intro x;rw[x,Nat.mul_zero]at he;omega)
 by_cases h1:d=1
 ·exact .inl h1
 by_cases h2:e=1
 ·right;rw[he,h2,Nat.mul_one]
 exfalso
 rcases Nat.le_total d e with hle | hle
 ·exact h d (by omega) (by rw[he];exact Nat.mul_le_mul_left d hle) ⟨e,he⟩
 ·exact h e (by omega) (by rw[he];exact Nat.mul_le_mul_right e hle) ⟨d,by rw[he,Nat.mul_comm]⟩
theorem Hl{n q b:Nat}(hn:1 < n)(hq:Dw q)(hq1:1 < q)(hqq:n < q*q)(hb:b^q%n=1)(hg:Nat.gcd (b - 1) n=1)(hb0:0 < b):Dw n:=by
 refine zB hn fun r hr hrr hrn=> ?_
 have h1r:1%r=1:=Nat.mod_eq_of_lt hr
 have hbr:b^q%r=1:=by
  have:=Nat.mod_mod_of_dvd (b^q) hrn
  rw[←this,hb,h1r]
 have hne:b%r≠1:=by
  intro hx
  have hd:r∣b - 1:=by have e:=Nat.dvd_sub_mod (n:=r) b;rw[hx]at e;exact e
  have:=Nat.dvd_gcd hd hrn
  rw[hg]at this
  have:=Nat.le_of_dvd (by omega) this
  omega
 have key:q≤r:=by
  refine D5 r q (fun i=>b^i%r) (fun i _=>Nat.mod_lt _ (by omega)) fun i j hij hj he=> ?_
  have e1:b^(j - i)%r=1:=by
   have x1:b^(q - i)*b^i%r=b^(q - i)*b^j%r:=by rw[Nat.mul_mod,he,←Nat.mul_mod]
   rw[←Nat.pow_add,←Nat.pow_add,show q - i+i=q by omega,show q - i+j=q+(j - i) by omega,Nat.pow_add,Nat.mul_mod,hbr,Nat.one_mul,Nat.mod_mod]at x1
   exact x1.symm
  have e2:=B8 b r h1r (j - i) q e1 hbr
  rw[B9 hq (by omega) (by omega),Nat.pow_one]at e2
  exact hne e2
 have:q*q≤r*r:=Nat.mul_le_mul key key
 omega
def Er(n:Nat):Nat→Bool
 | 0=>true
 |k+1=>n%(k+2) !=0 && Er n k
theorem zA(n:Nat):∀k,Er n k=true→∀d,1 < d→d≤k+1→¬d∣n
 | 0,_,d,h1,h2=>by omega
 |k+1,h,d,h1,h2=>by
  rw[Er,Bool.and_eq_true]at h
  by_cases hd:d=k+2
  ·intro hx
   have:=Nat.mod_eq_zero_of_dvd hx
   rw[hd]at this
   rw[this]at h
   exact absurd h.1 (by decide)
  ·exact zA n k h.2 d h1 (by omega)
theorem IX:Dw 7930907:=by
 refine zB (by decide) fun r hr hrr=>zA 7930907 2820 (by decide+kernel) r hr ?_
 apply Nat.le_of_not_lt
 intro h
 have:2822*2822≤r*r:=Nat.mul_le_mul (by omega) (by omega)
 omega
theorem rB{n q:Nat}(a e:Nat)(hq:Dw q)(hq1:1 < q)(hn:1 < n)(hqq:n < q*q)(he:e < 2^64)(hq2:q < 2^64)(h1:pm n 64 (pm n 64 a e 1) q 1=1)(h2:Nat.gcd (pm n 64 a e 1 - 1) n=1)(h3:0 < pm n 64 a e 1):Dw n:=by
 generalize pm n 64 a e 1=b at*
 rw[Gt _ _ _ _ _ hq2,Nat.one_mul]at h1
 exact Hl hn hq hq1 hqq h1 h2 h3
theorem IW:Dw 11864636873:=rB (q:=7930907) 2 1496 IX (by decide) (by decide) (by decide) (by decide) (by decide) (by decide+kernel) (by decide+kernel) (by decide+kernel)
theorem IV:Dw 1732236983459:=rB (q:=11864636873) 2 146 IW (by decide) (by decide) (by decide) (by decide) (by decide) (by decide+kernel) (by decide+kernel) (by decide+kernel)
theorem IU:Dw 249442125618097:=rB (q:=1732236983459) 2 144 IV (by decide) (by decide) (by decide) (by decide) (by decide) (by decide+kernel) (by decide+kernel) (by decide+kernel)
theorem IY:Dw 2305843009213688669:=rB (q:=249442125618097) 2 9244 IU (by decide) (by decide) (by decide) (by decide) (by decide) (by decide+kernel) (by decide+kernel) (by decide+kernel)
def gP(n:Nat):Int:=((4^n%4611686018427377339:Nat):Int)
theorem wb(a m q:Nat)(h1:1%m=1)(h:a^q%m=1)(n:Nat):a^(n%q)%m=a^n%m:=by
 have e:a^n=(a^q)^(n / q)*a^(n%q):=by rw[←Nat.pow_mul,←Nat.pow_add,Nat.div_add_mod]
 rw[e,Nat.mul_mod,Nat.pow_mod (a^q),h,Nat.one_pow,h1,Nat.one_mul,Nat.mod_mod]
theorem Ga:∀q:Nat,q=2305843009213688669→4^q%4611686018427377339=1:=by
 intro q hq
 have h:=wN
 rw[vd _ _ (by decide)]at h
 rw[←hq]at h
 have e:(((4^q%4611686018427377339:Nat)):Int)=1:=by
  rw[Int.natCast_emod,Int.natCast_pow]
  exact h
 omega
theorem G3(n:Nat):gP (n%2305843009213688669)=gP n:=by
 unfold gP
 obtain⟨q,hq⟩:∃q:Nat,q=2305843009213688669:=⟨_,rfl⟩
 rw[←hq,wb 4 4611686018427377339 q (by decide) (Ga q hq)]
theorem H3(n:Nat)(h:n < 18446744073709551616):pw 4 n=gP n:=by
 rw[vd _ _ h]
 unfold gP
 rw[Int.natCast_emod,Int.natCast_pow]
 rfl
theorem G4(k:Int)(h:0≤k):(k%2305843009213688669).toNat=k.toNat%2305843009213688669:=by omega
theorem Ft(k:Int)(h:0≤k):gu k=gP k.toNat:=by
 show pw (tk 4) _=_
 rw[Io BX,H3 _ (by omega),G4 k h,G3]
theorem H2{n:Nat}(h:0 < n)(hn:n < 2305843009213688669):gP n≠1:=by
 intro he
 unfold gP at he
 have he:4^n%4611686018427377339=1:=by omega
 obtain⟨q,hq⟩:∃q:Nat,q=2305843009213688669:=⟨_,rfl⟩
 have e:=B8 4 4611686018427377339 (by decide) n q he (Ga q hq)
 rw[B9 (by rw[hq];exact IY) h (by omega)]at e
 exact absurd e (by decide)
set_option synthInstance.maxSize 5000
def ns{α:Type}(p:α→Bool):List α→Int→Int⊕Unit
 |[],_=> .inr ()
 |x::xs,i=>if p x then .inl i else ns p xs (i+1)
def vV{α:Type}(p:α→Bool)(l:List α):Int:=match ns p l 0 with | .inl i=>i | .inr _=> -1
theorem y7{α:Type}(p:α→Bool):∀(l:List α) (i:Int),0≤i→(match ns p l i with | .inl i=>decide (i≥0) | .inr _=>false)=l.any p
 |[],_,_=>rfl
 |x::l,i,h=>by
  rw[ns,List.any_cons]
  cases hp:p x
  ·simp only[Bool.false_eq_true,if_false,Bool.false_or]
   exact y7 p l (i+1) (by omega)
  ·simp[h]
theorem rb{α:Type}(p:α→Bool)(l:List α):lk (vV p l) 0=l.any p:=by
 have:=y7 p l 0 (by omega)
 unfold vV lk
 cases h:ns p l 0
 ·rw[h]at this;exact this
 ·rw[h]at this;rw[←this];rfl
def qm(k:Int):Bool:=decide (¬(k < 2305843009213688669∧k≠0))
def mJ(t:hP)(i br:Int)(ks:List Int):Bool:=iq t && (decide (0≤i∧i < t.1.length∧0≤br∧br < 4∧ks.length≤12) && !(ks.any qm))
def kG(t:hP)(i br:Int)(ks:List Int)(sc:Int):hP×Int:=
 if mJ t i br ks then((t.1.set i.toNat ((nth jR t.1 i.toNat).1,(br,ks.map (fun k=>pq k (xg t)),sc,()),()),t.2),0) else(([],[],0,()),1)
theorem E4{t:hP}:Sm (xg t):=by
 unfold xg
 split
 ·exact vA _ _
 ·exact⟨by rw[List.length_replicate],fun x hx=>by obtain rfl:=(List.mem_replicate.1 hx).2;exact⟨by decide,by decide⟩⟩
abbrev eP.D:=Int
def eP.st:eP.D→SA:=fun kv=>([.d tu kv],[])
abbrev eP.Y:=Bool
abbrev eP.X:=Bool
def eP.out:eP.X→aT:=fun x=>⟨.d .bool x,[],[]⟩
def eP.add:eP.D→eP.Y→eP.X:=fun kv y=>y
def eP.aq:eP.D→Prop:=fun _=>True
def eP.F:eP.D→eP.Y:=fun k=>qm k
noncomputable def eP.G:dU:=eZ (P:=Tryz.prog) [dz.sg]
noncomputable def eP.an:eu:= {}
noncomputable def eP.A:= @cq Tryz.prog eP.G eP.an 0 Tryz.f125 _ eP.st
abbrev eP.Ok:=cr @eP.A eP.aq eP.add eP.F eP.out
theorem eP.eq{R:Type}(kv:Int)(k:aT→Option R):eP.A kv k=
  aD ((jO kv (0:Int))) (
   k (eP.out true)) (
   ab (dz.call kv) fun x1=>
   k (eP.out (!x1))):=by kernel_rfl
theorem eP.ok:eP.Ok:=by
 intro(k:Int) _
 rw[eP.eq,dz.run (d:=k) trivial]
 simp only[eP.add,eP.F,qm,aa,dz.add,dz.F]
 by_cases h:k=0
 ·rw[fg h,ah,aL (by omega)]
 ·rw[eo h,ae]
  by_cases h2:k < 2305843009213688669
  ·rw[bB h2,bN (by omega)];rfl
  ·rw[bk h2,aL (by omega)];rfl
noncomputable def eP.E:=Entry.cD [some tu] eP.st eP.aq eP.add eP.F eP.out
noncomputable def eP.call:eP.D→Option eP.X:=bC eP.E eP.st
theorem eP.run:bD eP.call eP.aq eP.add eP.F:=cw (cv [.d tu] fun _=>by kernel_rfl)
noncomputable def eP.sg:SG Tryz.prog:=⟨125,aK,eP.E,.fn 0 (by kernel_rfl) eP.ok trivial⟩
abbrev bf.L0.D:=Bs×Int×Int
def bf.L0.st:bf.L0.D→AS:=fun(sv_2,t7,t8)=>⟨([.d tU sv_2,.fn 125 (.nil)]++bw 5 ([.d ti t7,.d ti t8]++bw 10 [])),[],(List.replicate 19 [])⟩
abbrev bf.L0.Y0:=Int
abbrev bf.L0.X0:=Int
def bf.L0.bK:bf.L0.X0→Exit×AS:=fun x=>(.ret,⟨(bw 4 ([.d ti x]++bw 14 [])),[],(List.replicate 19 [])⟩)
abbrev bf.L0.Y1:=Unit
abbrev bf.L0.X1:=Unit
def bf.L0.iW:bf.L0.X1→Exit×AS:=fun x=>(.exit 0,⟨(bw 19 []),[],(List.replicate 19 [])⟩)
abbrev bf.L0.X:=(bf.L0.X0)⊕(bf.L0.X1)
abbrev bf.L0.Y:=(bf.L0.Y0)⊕(bf.L0.Y1)
def bf.L0.out:bf.L0.X→Out (Exit×AS):=fun x=> .br x.isLeft (.get x.getLeft? fun a=> .ok (bf.L0.bK a)) (.get x.getRight? fun b=> .ok (bf.L0.iW b))
def bf.L0.add:bf.L0.D→bf.L0.Y→bf.L0.X:=fun(sv_2,t7,t8) y=>match y with | .inl y=> .inl y | .inr z=> .inr (z)
abbrev bf.D:=Bs
def bf.st:bf.D→SA:=fun sv=>([.d tU sv,.fn 125 (.nil)],[])
abbrev bf.Y:=Int
abbrev bf.X:=Int
def bf.out:bf.X→aT:=fun x=>⟨.d ti x,[],[]⟩
def bf.add:bf.D→bf.Y→bf.X:=fun sv y=>y
def bf.L0.aq:bf.L0.D→Prop:=fun(l,n,i)=>(∀x∈l,True)∧l.length≤1000000000∧n=l.length∧∃k:Nat,k≤l.length∧i=k
def bf.L0.F:bf.L0.D→bf.L0.Y:=fun(l,n,i)=>ns qm (l.drop i.toNat) i
def bf.aq:bf.D→Prop:=fun l=>(∀x∈l,True)∧l.length≤1000000000
def bf.F:bf.D→bf.Y:=fun l=>vV qm l
noncomputable def bf.G:dU:=eZ (P:=Tryz.prog) [eP.sg]
noncomputable def bf.L0.E:=cf.cD bf.L0.st bf.L0.aq bf.L0.add bf.L0.F bf.L0.out
noncomputable def bf.L0.call:bf.L0.D→Option bf.L0.X:=dL bf.L0.E bf.L0.st
noncomputable def bf.an:eu:= {loops:=ki [(2,{bu:=[0,1,7,8]})],outs:=kh [(2,{},{bu:=[4]})],gq:=lv [(2,bf.L0.E)]}
noncomputable def bf.A:= @cq Tryz.prog bf.G bf.an 0 Tryz.f163 _ bf.st
abbrev bf.Ok:=cr @bf.A bf.aq bf.add bf.F bf.out
noncomputable def bf.L0.R:= @cM Tryz.prog bf.G bf.an 0 Tryz.f163 0 _ bf.L0.st
abbrev bf.L0.Ok:=fk Tryz.prog bf.G bf.an 0 Tryz.f163 0 bf.L0.st bf.L0.aq bf.L0.add bf.L0.F bf.L0.out
theorem bf.L0.run:bD bf.L0.call bf.L0.aq bf.L0.add bf.L0.F:=fy (fx [.d tU,.d ti,.d ti] fun _=>by kernel_rfl)
theorem bf.L0.aE:pT @bf.L0.R bf.L0.st bf.L0.aq bf.L0.add bf.L0.F bf.L0.out bf.L0.Ok:=qo
theorem bf.L0.step{R:Type}(sv_2:Bs)(t7:Int)(t8:Int)(kn:AS→Option R)(kx:Exit→AS→Option R):bf.L0.R (sv_2,t7,t8) kn kx=
  aD ((gM t8 t7)) (
   aD (dZ t8 (((List.length sv_2):Nat):Int)) (
   ab (eP.call (nth tu sv_2 (Int.toNat t8))) fun x1=>
   aD (x1) (
    kx (bf.L0.bK t8).1 (bf.L0.bK t8).2) (
    kn (bf.L0.st (sv_2,t7,(bo .i64 t8 (1:Int)))))) none) (
   kx (bf.L0.iW ()).1 (bf.L0.iW ()).2):=by kernel_rfl
theorem bf.eq{R:Type}(sv:Bs)(k:aT→Option R):bf.A sv k=
  ab (bf.L0.call (sv,(((List.length sv):Nat):Int),(0:Int))) fun x2=>
  aD (x2.isLeft) (
   ab (x2.getLeft?) fun a3=>
   k (bf.out a3)) (
   ab (x2.getRight?) fun b4=>
   k (bf.out (-1:Int))):=by kernel_rfl
theorem bf.L0.ok:bf.L0.Ok:=by
 refine bf.L0.aE (fun(l,n,i)=>l.length - i.toNat) ?_
 rintro⟨l,n,i⟩ ⟨hl,hb,rfl,k,hk,rfl⟩
 have hb:l.length≤1000000000:=hb
 have hk:k≤l.length:=hk
 by_cases h:k < l.length
 ·have hx:=hl _ (List.getElem_mem h)
  have n1:nth tu l k=l[k]:=dS (t:=tu) h
  have hd:ns qm (l.drop k) k=if qm l[k] then .inl (k:Int) else ns qm (l.drop (k+1)) ((k+1:Nat):Int):=by rw[List.drop_eq_getElem_cons h];rfl
  have step:∀ {R:Type} (kn:AS→Option R) (kx:Exit→AS→Option R),bf.L0.R (l,(l.length:Int),(k:Int)) kn kx=aD (qm l[k]) (kx (bf.L0.bK (k:Int)).1 (bf.L0.bK (k:Int)).2) (kn (bf.L0.st (l,(l.length:Int),((k+1:Nat):Int)))):=by
   intro R kn kx
   rw[bf.L0.step,bB (by omega),bz (by omega) (by omega),Int.toNat_natCast,n1,eP.run (d:=l[k]) hx,N.mq (by omega)]
   rfl
  cases hp:qm l[k]
  ·left
   refine⟨(l,l.length,((k+1:Nat):Int)),⟨hl,hb,rfl,k+1,by omega,rfl⟩,by simp only[Int.toNat_natCast];omega,?_,fun kn kx=> ?_⟩
   ·simp only[bf.L0.add,bf.L0.F,Int.toNat_natCast,hd,hp,Bool.false_eq_true,if_false]
   ·rw[step,hp,ae]
  ·right
   refine⟨bf.L0.bK (k:Int),?_,fun kn kx=> ?_⟩
   ·simp only[bf.L0.add,bf.L0.F,Int.toNat_natCast,hd,hp,if_true]
    rfl
   ·rw[step,hp,ah]
 ·right
  obtain rfl:k=l.length:=by omega
  refine⟨bf.L0.iW (),?_,fun kn kx=> ?_⟩
  ·simp only[bf.L0.add,bf.L0.F,Int.toNat_natCast,List.drop_length]
   rfl
  ·rw[bf.L0.step,bk (by omega),ae]
theorem bf.ok:bf.Ok:=by
 rintro l ⟨hl,hb⟩
 rw[bf.eq,bf.L0.run (d:=(l,l.length,0)) ⟨hl,hb,rfl,0,by omega,rfl⟩]
 simp only[aa,bf.L0.add,bf.L0.F,Int.toNat_zero,List.drop_zero,bf.add,bf.F,vV]
 cases ns qm l 0 <;> rfl
noncomputable def bf.E:=Entry.cD [some tU,none] bf.st bf.aq bf.add bf.F bf.out
noncomputable def bf.call:bf.D→Option bf.X:=bC bf.E bf.st
theorem bf.run:bD bf.call bf.aq bf.add bf.F:=cw (cv [.d tU] fun _=>by kernel_rfl)
noncomputable def bf.sg:SG Tryz.prog:=⟨163,aK,bf.E,.fn 1 (by kernel_rfl) bf.ok (And.intro (.cD bf.L0.ok (by kernel_rfl)) trivial)⟩
abbrev bY.D:=Bs
def bY.st:bY.D→SA:=fun sv=>([.d tU sv,.fn 125 (.nil)],[])
abbrev bY.Y:=Bool
abbrev bY.X:=Bool
def bY.out:bY.X→aT:=fun x=>⟨.d .bool x,[],[]⟩
def bY.add:bY.D→bY.Y→bY.X:=fun sv y=>y
def bY.aq:bY.D→Prop:=fun l=>(∀x∈l,True)∧l.length≤1000000000
def bY.F:bY.D→bY.Y:=fun l=>l.any qm
noncomputable def bY.G:dU:=eZ (P:=Tryz.prog) [bf.sg]
noncomputable def bY.an:eu:= {}
noncomputable def bY.A:= @cq Tryz.prog bY.G bY.an 0 Tryz.f127 _ bY.st
abbrev bY.Ok:=cr @bY.A bY.aq bY.add bY.F bY.out
theorem bY.eq{R:Type}(sv:Bs)(k:aT→Option R):bY.A sv k=
 ab (bf.call sv) fun x1=>
 k (bY.out (lk x1 (0:Int))):=by kernel_rfl
theorem bY.ok:bY.Ok:=by
 rintro l ⟨hl,hb⟩
 rw[bY.eq,bf.run (d:=l) ⟨hl,hb⟩]
 simp only[aa,bf.add,bf.F,rb]
 rfl
noncomputable def bY.E:=Entry.cD [some tU,none] bY.st bY.aq bY.add bY.F bY.out
noncomputable def bY.call:bY.D→Option bY.X:=bC bY.E bY.st
theorem bY.run:bD bY.call bY.aq bY.add bY.F:=cw (cv [.d tU] fun _=>by kernel_rfl)
noncomputable def bY.sg:SG Tryz.prog:=⟨127,aK,bY.E,.fn 0 (by kernel_rfl) bY.ok trivial⟩
abbrev bR.L0.D:=Int×Bs×Int×Int×hP×(Int×Unit)×Int×Nat×(Int×Unit)×Bs×(List Sg)
def bR.L0.st:bR.L0.D→AS:=fun(inv_2,t52,t53,t54,n5,n10,n13,n13L,n13_2,n14,n64)=>⟨([.undef,.d ti inv_2,.undef,.undef,.undef,.ptr (.new 5 0) 0 [] 0]++bw 4 ([.ptr (.new 10 0) 0 [] 0,.undef,.undef,.ptr (.new 13 0) 0 [] 0,.ptr (.new 14 0) 0 [] 0]++bw 37 ([.d tU t52,.d ti t53,.d ti t54]++bw 21 []))),[],(cC 5 ([[.obj 0 false (.d kN n5)]]++cC 4 ([[.obj 0 false (.pr (.dQ) (.pr (.dQ) (.d (.pair ti .unit) n10)))],[],[],[.obj 0 false (.pr (.d ti n13) (.pr (.cT (.new 64 0) 0 [] 0 0 n13L) (.d (.pair tu .unit) n13_2)))],[.obj 0 false (.d tH n14)]]++cC 49 ([[.obj 0 false (.vec 131 Dq n64)]]++cC 11 []))))⟩
abbrev bR.L0.Y0:=At×(List Sg)
abbrev bR.L0.X0:=(Int×hP×(Int×Unit))×(At×(List Sg))
def bR.L0.bK:bR.L0.X0→Exit×AS:=fun x=>(.exit 0,⟨([.undef,.d ti x.1.1,.undef,.undef,.undef,.ptr (.new 5 0) 0 [] 0]++bw 4 ([.ptr (.new 10 0) 0 [] 0,.undef,.undef,.ptr (.new 13 0) 0 [] 0]++bw 62 [])),[],(cC 5 ([[.obj 0 false (.d kN x.1.2.1)]]++cC 4 ([[.obj 0 false (.pr (.dQ) (.pr (.dQ) (.d (.pair ti .unit) x.1.2.2)))],[],[],[.obj 0 false (.d Il x.2.1)]]++cC 50 ([[.obj 0 true (.vec 131 Dq x.2.2)]]++cC 11 []))))⟩)
abbrev bR.L0.X:=bR.L0.X0
abbrev bR.L0.Y:=bR.L0.Y0
def bR.L0.out:bR.L0.X→Out (Exit×AS):=fun x=> .ok (bR.L0.bK x)
def bR.L0.add:bR.L0.D→bR.L0.Y→bR.L0.X:=fun(inv_2,t52,t53,t54,n5,n10,n13,n13L,n13_2,n14,n64) y=>((inv_2,n5,n10),y)
abbrev bR.D:=hP×Int×Int×Bs×Int
def bR.st:bR.D→SA:=fun(t,inv,branch,keys,secret)=>([.d kN t,.d ti inv,.d ti branch,.d tU keys,.d tu secret],[])
abbrev bR.Y:=hP×Int
abbrev bR.X:=hP×Int
def bR.out:bR.X→aT:=fun x=>⟨.cons (.d kN x.1) (.cons (.d ti x.2) (.nil)),[],[]⟩
def bR.add:bR.D→bR.Y→bR.X:=fun(t,inv,branch,keys,secret) y=>y
def bR.L0.aq:bR.L0.D→Prop:=fun(i0,l,n,i,t,e,br,L,sc,id,r)=>l.length≤1000∧(∀x∈l,fo x)∧Sm id∧∃k:Nat,k≤l.length∧i=k∧n=l.length∧L=r.length∧r.length≤1000+k
def bR.L0.F:bR.L0.D→bR.L0.Y:=fun(i0,l,n,i,t,e,br,L,sc,id,r)=>((br,r++(l.drop i.toNat).map (fun k=>pq k id),sc),r++(l.drop i.toNat).map (fun k=>pq k id))
def bR.aq:bR.D→Prop:=fun(t,i,br,ks,sc)=>rZ t∧(∀x∈ks,fo x)∧ks.length≤1000000000
def bR.F:bR.D→bR.Y:=fun(t,i,br,ks,sc)=>kG t i br ks sc
noncomputable def bR.G:dU:=eZ (P:=Tryz.prog) [au.sg,fP.sg,bY.sg,tid.sg,eI.sg,aj.sg]
noncomputable def bR.L0.E:=cf.cD bR.L0.st bR.L0.aq bR.L0.add bR.L0.F bR.L0.out
noncomputable def bR.L0.call:bR.L0.D→Option bR.L0.X:=dL bR.L0.E bR.L0.st
noncomputable def bR.an:eu:= {bZ:=[5],loops:=ki [(7,{bu:=[1,5,10,13,14,52,53,54],sites:=[5,10,13,14,64],j6:=[⟨13,[.snd,.fst],64,89⟩]})],outs:=kh [(7,{bu:=[1,5,10,13],sites:=[5,10,13,64],yV:=[⟨13,[.snd,.fst],(.slice Dq)⟩]},{bu:=[10,11]})],gq:=lv [(7,bR.L0.E)],res:=[some kN,none]}
noncomputable def bR.A:= @cq Tryz.prog bR.G bR.an 0 Tryz.f75 _ bR.st
abbrev bR.Ok:=cr @bR.A bR.aq bR.add bR.F bR.out
noncomputable def bR.L0.R:= @cM Tryz.prog bR.G bR.an 0 Tryz.f75 0 _ bR.L0.st
abbrev bR.L0.Ok:=fk Tryz.prog bR.G bR.an 0 Tryz.f75 0 bR.L0.st bR.L0.aq bR.L0.add bR.L0.F bR.L0.out
theorem bR.L0.run:bD bR.L0.call bR.L0.aq bR.L0.add bR.L0.F:=fy (fx [.d ti,.d tU,.d ti,.d ti,.d kN,.d (.pair ti .unit),.d ti,.n,.d (.pair tu .unit),.d tB,.d (.slice Dq)] fun _=>by kernel_rfl)
theorem bR.L0.aE:fY @bR.L0.R bR.L0.st bR.L0.aq bR.L0.add bR.L0.F bR.L0.bK bR.L0.Ok:=gj
theorem bR.L0.step{R:Type}(inv_2:Int)(t52:Bs)(t53:Int)(t54:Int)(n5:hP)(n10:(Int×Unit))(n13:Int)(n13L:Nat)(n13_2:(Int×Unit))(n14:Bs)(n64:(List Sg))(kn:AS→Option R)(kx:Exit→AS→Option R):bR.L0.R (inv_2,t52,t53,t54,n5,n10,n13,n13L,n13_2,n14,n64) kn kx=
  aD ((gM t54 t53)) (
   aD (dZ t54 (((List.length t52):Nat):Int)) (
   ab (eI.call ((nth tu t52 (Int.toNat t54)),n14)) fun x4=>
   aD (decide (n13L≤(List.length n64))) (
   aD (dK (n13L+1) 16) (
   kn (bR.L0.st (inv_2,t52,t53,(bo .i64 t54 (1:Int)),n5,n10,n13,(n13L+1),n13_2,n14,((List.take n13L n64)++ [x4])))) none) none) none) (
   aD (decide (0=0∧(0+n13L)≤(List.length n64))) (
   kx (bR.L0.bK ((inv_2,n5,n10),((n13,((cut n64 0 n13L),n13_2)),n64))).1 (bR.L0.bK ((inv_2,n5,n10),((n13,((cut n64 0 n13L),n13_2)),n64))).2) none):=by kernel_rfl
theorem bR.eq{R:Type}(t:hP)(inv:Int)(branch:Int)(keys:Bs)(secret:Int)(k:aT→Option R):bR.A (t,inv,branch,keys,secret) k=
  ab (au.call t) fun x10=>
  aD ((!x10)) (
   k (bR.out ((([]:List ja),(([]:List jw),((0:Int),()))),(1:Int)))) (
   aD ((gM inv (0:Int))) (
    k (bR.out ((([]:List ja),(([]:List jw),((0:Int),()))),(1:Int)))) (
    aD ((lk inv (((List.length t.1):Nat):Int))) (
     k (bR.out ((([]:List ja),(([]:List jw),((0:Int),()))),(1:Int)))) (
     ab (fP.call (branch,(([]:List Sg),(secret,())))) fun x11=>
     aD ((!x11)) (
      k (bR.out ((([]:List ja),(([]:List jw),((0:Int),()))),(1:Int)))) (
      aD ((mX (((List.length keys):Nat):Int) (12:Int))) (
       k (bR.out ((([]:List ja),(([]:List jw),((0:Int),()))),(1:Int)))) (
       ab (bY.call keys) fun x12=>
       aD (x12) (
        k (bR.out ((([]:List ja),(([]:List jw),((0:Int),()))),(1:Int)))) (
        ab (tid.call t) fun x16=>
        ab (bR.L0.call (inv,keys,(((List.length keys):Nat):Int),(0:Int),t,((0:Int),()),branch,0,(secret,()),x16,([]:List Sg))) fun x26=>
        ab (aj.call x26.1.2.1) fun x30=>
        aD (dZ x26.1.1 ((x30.1:Nat):Int)) (
        aD (decide ((0+(Int.toNat x26.1.1)) < (List.length x30.2.2))) (
        aD (decide ((((0+(Int.toNat x26.1.1))*36)+33)=((0+((Int.toNat x26.1.1)*36))+33))) (
        aD (decide ((0+(Int.toNat x26.1.1)) < (List.length x30.2.2))) (
        aD (decide (0=0∧(0+x30.1)≤(List.length (List.set x30.2.2 (0+(Int.toNat x26.1.1)) ((nth jR x30.2.2 (0+(Int.toNat x26.1.1))).1,(x26.2.1,(nth jR x30.2.2 (0+(Int.toNat x26.1.1))).2.2)))))) (
        k (bR.out (((cut (List.set x30.2.2 (0+(Int.toNat x26.1.1)) ((nth jR x30.2.2 (0+(Int.toNat x26.1.1))).1,(x26.2.1,(nth jR x30.2.2 (0+(Int.toNat x26.1.1))).2.2))) 0 x30.1),x30.2.1),(0:Int)))) none) none) none) none) none)))))):=by kernel_rfl
theorem bR.L0.ok:bR.L0.Ok:=by
 refine bR.L0.aE (fun(i0,l,n,i,t,e,br,L,sc,id,r)=>l.length - i.toNat) ?_
 rintro⟨i0,l,n,i,t,e,br,L,sc,id,r⟩ ⟨hlen,hu,hm,k,hk,rfl,rfl,rfl,hr⟩
 have hlen:l.length≤1000:=hlen
 have hk:k≤l.length:=hk
 have hr:r.length≤1000+k:=hr
 by_cases h:k < l.length
 ·left
  have n1:nth tu l k=l[k]:=dS (t:=tu) h
  have hd:List.drop k l=l[k]::List.drop (k+1) l:=List.drop_eq_getElem_cons h
  refine⟨(i0,l,l.length,((k+1:Nat):Int),t,e,br,r.length+1,sc,id,r++ [pq l[k] id]),⟨hlen,hu,hm,k+1,by omega,rfl,rfl,by rw[List.length_append];rfl,by rw[List.length_append];show r.length+1≤_;omega⟩,by simp only[Int.toNat_natCast];omega,?_,fun kn kx=> ?_⟩
  ·simp only[bR.L0.add,bR.L0.F,Int.toNat_natCast,hd,List.map_cons,List.append_assoc,List.singleton_append]
  ·rw[bR.L0.step,bB (by omega),bz (by omega) (by omega),Int.toNat_natCast,n1,eI.run (d:=(l[k],id)) ⟨hu _ (List.getElem_mem h),hm⟩]
   simp only[ah,aa,eI.add,eI.F]
   rw[aL (Nat.le_refl _),eR (by omega) (by omega),N.mq (by omega),List.take_length]
   rfl
 ·right
  obtain rfl:k=l.length:=by omega
  intro R kn kx
  rw[bR.L0.step,bk (by omega),ae]
  simp only[bR.L0.add,bR.L0.F,Int.toNat_natCast,List.drop_length,List.map_nil,List.append_nil,Nat.zero_add,Nat.le_refl,and_self,decide_true,ah,gI]
theorem bR.ok:bR.Ok:=by
 rintro⟨⟨is,os,nt,u⟩,i,br,ks,sc⟩ ⟨hv,hu,hl⟩
 have hv:rZ (is,os,nt,u):=hv
 have hl:ks.length≤1000000000:=hl
 rw[bR.eq,au.run (d:=(is,os,nt,u)) hv.1]
 simp only[aa,au.add,au.F,bR.add,bR.F,kG,mJ]
 rcases Bool.eq_false_or_eq_true (iq (is,os,nt,u)) with hok | hok
 rotate_left
 ·simp only[hok];rfl
 obtain⟨⟨_,a2,a3,_⟩,b1,b2⟩:=qK hok
 have a2:is.length≤64:=a2
 simp only[hok,Bool.not_true,ae,Bool.true_and]
 by_cases h1:i < 0
 ·rw[bB h1,ah,bN (by omega)];rfl
 rw[bk h1,ae]
 by_cases h2:i≥(is.length:Int)
 ·rw[ij h2,ah,bN (by omega)];rfl
 rw[fR h2,ae,fP.run (d:=(br,([],(sc,())))) trivial]
 simp only[aa,fP.add,fP.F,oJ]
 by_cases h3:0≤br∧br < 4
 ·rw[aL h3]
  by_cases h4:ks.length > 12
  ·rw[ee (by omega),bN (p:=0≤i∧i < (is.length:Int)∧0≤br∧br < 4∧ks.length≤12) (by omega)];rfl
  ·rw[dj (by omega),aL (p:=0≤i∧i < (is.length:Int)∧0≤br∧br < 4∧ks.length≤12) (by omega),bY.run (d:=ks) ⟨fun _ _=>trivial,hl⟩]
   simp only[aa,bY.add,bY.F]
   rcases Bool.eq_false_or_eq_true (ks.any qm) with hb | hb
   rotate_left
   ·simp only[hb]
    obtain⟨k,rfl⟩:∃k:Nat,i=k:=⟨i.toNat,by omega⟩
    have hk:k < is.length:=by omega
    simp only[show(([]:List Sg).length≤12)=True from eq_true (Nat.zero_le _),decide_true,Bool.and_self,Bool.not_true,Bool.not_false,ae,Bool.true_and,if_true]
    rw[tid.run (d:=(is,os,nt,u)) hv]
    simp only[aa,tid.add,tid.F]
    rw[bR.L0.run (d:=((k:Int),ks,ks.length,0,(is,os,nt,u),(0,()),br,0,(sc,()),xg (is,os,nt,u),[])) ⟨by show ks.length≤_;omega,hu,E4,0,Nat.zero_le _,rfl,rfl,rfl,Nat.zero_le _⟩]
    simp only[aa,bR.L0.add,bR.L0.F,Int.toNat_zero,List.drop_zero,List.nil_append]
    rw[aj.run (d:=(is,os,nt,u)) hok]
    simp only[aa,aj.add,aj.F,Int.toNat_natCast,Nat.zero_add,Nat.add_zero,bz (show(0:Int)≤(k:Int) by omega) (show(k:Int) < (is.length:Int) by omega),ah,aL hk,decide_true,List.length_set,Nat.le_refl,and_self]
    rw[gI (by rw[List.length_set])]
   ·simp only[hb];rfl
 ·rw[bN h3,bN (p:=0≤i∧i < (is.length:Int)∧0≤br∧br < 4∧ks.length≤12) (by omega)];rfl
noncomputable def bR.E:=Entry.cD [some kN,some ti,some ti,some tU,some tu] bR.st bR.aq bR.add bR.F bR.out
noncomputable def bR.call:bR.D→Option bR.X:=bC bR.E bR.st
theorem bR.run:bD bR.call bR.aq bR.add bR.F:=cw (cv [.d kN,.d ti,.d ti,.d tU,.d tu] fun _=>by kernel_rfl)
noncomputable def bR.sg:SG Tryz.prog:=⟨75,aK,bR.E,.fn 1 (by kernel_rfl) bR.ok (And.intro (.cD bR.L0.ok (by kernel_rfl)) trivial)⟩
set_option synthInstance.maxSize 5000
abbrev gw.D:=Bs×Bs
def gw.st:gw.D→SA:=fun(a,b)=>([.d tB a,.d tB b],[])
abbrev gw.Y:=Int
abbrev gw.X:=Int
def gw.out:gw.X→aT:=fun x=>⟨.d ti x,[],[]⟩
def gw.add:gw.D→gw.Y→gw.X:=fun(a,b) y=>y
def gw.aq:gw.D→Prop:=fun _=>True
def gw.F:gw.D→gw.Y:=fun(a,b)=>AG a b
noncomputable def gw.G:dU:=eZ (P:=Tryz.prog) [⟨133,aK,BF.E,BF.of (fn:=Tryz.f133) (by kernel_rfl) (by kernel_rfl) (by kernel_rfl) (by kernel_rfl) (by kernel_rfl)⟩]
noncomputable def gw.an:eu:= {}
noncomputable def gw.A:= @cq Tryz.prog gw.G gw.an 0 Tryz.f89 _ gw.st
abbrev gw.Ok:=cr @gw.A gw.aq gw.add gw.F gw.out
theorem gw.eq{R:Type}(a:Bs)(b:Bs)(k:aT→Option R):gw.A (a,b) k=
 ab (BF.call (a,b)) fun x1=>
 k (gw.out x1):=by kernel_rfl
theorem gw.ok:gw.Ok:=by
 rintro⟨a,b⟩ _
 rw[gw.eq,BF.run]
 rfl
noncomputable def gw.E:=Entry.cD [some tB,some tB] gw.st gw.aq gw.add gw.F gw.out
noncomputable def gw.call:gw.D→Option gw.X:=bC gw.E gw.st
theorem gw.run:bD gw.call gw.aq gw.add gw.F:=cw (cv [.d tB,.d tB] fun _=>by kernel_rfl)
noncomputable def gw.sg:SG Tryz.prog:=⟨89,aK,gw.E,.fn 0 (by kernel_rfl) gw.ok trivial⟩
abbrev fV.D:=Int
def fV.st:fV.D→SA:=fun x=>([.d ti x],[])
abbrev fV.Y:=Bool
abbrev fV.X:=Bool
def fV.out:fV.X→aT:=fun x=>⟨.d .bool x,[],[]⟩
def fV.add:fV.D→fV.Y→fV.X:=fun x y=>y
def fV.aq:fV.D→Prop:=fun _=>True
def fV.F:fV.D→fV.Y:=fun _=>false
noncomputable def fV.G:dU:=eZ (P:=Tryz.prog) []
noncomputable def fV.an:eu:= {}
noncomputable def fV.A:= @cq Tryz.prog fV.G fV.an 0 Tryz.f132 _ fV.st
abbrev fV.Ok:=cr @fV.A fV.aq fV.add fV.F fV.out
theorem fV.eq{R:Type}(x:Int)(k:aT→Option R):fV.A x k=
 k (fV.out (qQ x x)):=by kernel_rfl
theorem fV.ok:fV.Ok:=by
 intro x _
 rw[fV.eq]
 simp only[fV.add,fV.F,gO rfl]
noncomputable def fV.E:=Entry.cD [some ti] fV.st fV.aq fV.add fV.F fV.out
noncomputable def fV.call:fV.D→Option fV.X:=bC fV.E fV.st
theorem fV.run:bD fV.call fV.aq fV.add fV.F:=cw (cv [.d ti] fun _=>by kernel_rfl)
noncomputable def fV.sg:SG Tryz.prog:=⟨132,aK,fV.E,.fn 0 (by kernel_rfl) fV.ok trivial⟩
def pV(x y:Int):Int:=if x < y then -1 else if x > y then 1 else 0
abbrev fw.D:=Int×Int
def fw.st:fw.D→SA:=fun(x,yv)=>([.d ti x,.d ti yv],[])
abbrev fw.Y:=Int
abbrev fw.X:=Int
def fw.out:fw.X→aT:=fun x=>⟨.d ti x,[],[]⟩
def fw.add:fw.D→fw.Y→fw.X:=fun(x,yv) y=>y
def fw.aq:fw.D→Prop:=fun _=>True
def fw.F:fw.D→fw.Y:=fun(x,y)=>pV x y
noncomputable def fw.G:dU:=eZ (P:=Tryz.prog) [fV.sg]
noncomputable def fw.an:eu:= {}
noncomputable def fw.A:= @cq Tryz.prog fw.G fw.an 0 Tryz.f88 _ fw.st
abbrev fw.Ok:=cr @fw.A fw.aq fw.add fw.F fw.out
theorem fw.eq{R:Type}(x:Int)(yv:Int)(k:aT→Option R):fw.A (x,yv) k=
  ab (fV.call x) fun x1=>
  ab (fV.call yv) fun x2=>
  aD (x1) (
   aD (x2) (
    k (fw.out (0:Int))) (
    k (fw.out (-1:Int)))) (
   aD (x2) (
    k (fw.out (1:Int))) (
    aD ((gM x yv)) (
     k (fw.out (-1:Int))) (
     aD ((mX x yv)) (
      k (fw.out (1:Int))) (
      k (fw.out (0:Int)))))):=by kernel_rfl
theorem fw.ok:fw.Ok:=by
 rintro⟨x,y⟩ _
 rw[fw.eq,fV.run (d:=x) trivial]
 simp only[aa,fV.add,fV.F]
 rw[fV.run (d:=y) trivial]
 simp only[aa,fV.add,fV.F,ae,fw.add,fw.F,pV]
 by_cases h:x < y
 ·rw[bB h,ah,if_pos h]
 ·rw[bk h,ae,if_neg h]
  by_cases h2:x > y
  ·rw[ee h2,ah,if_pos h2]
  ·rw[dj h2,ae,if_neg h2]
noncomputable def fw.E:=Entry.cD [some ti,some ti] fw.st fw.aq fw.add fw.F fw.out
noncomputable def fw.call:fw.D→Option fw.X:=bC fw.E fw.st
theorem fw.run:bD fw.call fw.aq fw.add fw.F:=cw (cv [.d ti,.d ti] fun _=>by kernel_rfl)
noncomputable def fw.sg:SG Tryz.prog:=⟨88,aK,fw.E,.fn 0 (by kernel_rfl) fw.ok trivial⟩
abbrev fp.L0.D:=Int×(List Int)×Int×Int
def fp.L0.st:fp.L0.D→AS:=fun(zero,t6,t7,t8)=>⟨([.undef,.undef,.undef,.d ti zero,.undef,.undef,.d (.slice ti) t6,.d ti t7,.d ti t8]++bw 9 []),[],(List.replicate 18 [])⟩
abbrev fp.L0.Y0:=Int
abbrev fp.L0.X0:=Int
def fp.L0.bK:fp.L0.X0→Exit×AS:=fun x=>(.ret,⟨([.undef,.undef,.d ti x]++bw 15 []),[],(List.replicate 18 [])⟩)
abbrev fp.L0.Y1:=Unit
abbrev fp.L0.X1:=Int
def fp.L0.iW:fp.L0.X1→Exit×AS:=fun x=>(.exit 0,⟨([.undef,.undef,.undef,.d ti x]++bw 14 []),[],(List.replicate 18 [])⟩)
abbrev fp.L0.X:=(fp.L0.X0)⊕(fp.L0.X1)
abbrev fp.L0.Y:=(fp.L0.Y0)⊕(fp.L0.Y1)
def fp.L0.out:fp.L0.X→Out (Exit×AS):=fun x=> .br x.isLeft (.get x.getLeft? fun a=> .ok (fp.L0.bK a)) (.get x.getRight? fun b=> .ok (fp.L0.iW b))
def fp.L0.add:fp.L0.D→fp.L0.Y→fp.L0.X:=fun(zero,t6,t7,t8) y=>match y with | .inl y=> .inl y | .inr z=> .inr (zero)
abbrev fp.D:=(List Int)
def fp.st:fp.D→SA:=fun iL=>([.d (.slice ti) iL],[])
abbrev fp.Y:=Int
abbrev fp.X:=Int
def fp.out:fp.X→aT:=fun x=>⟨.d ti x,[],[]⟩
def fp.add:fp.D→fp.Y→fp.X:=fun iL y=>y
def Ex:List Int→Int
 |[]=>0
 |x::l=>if x≠0 then x else Ex l
def Gr:List Int→Int⊕Unit
 |[]=> .inr ()
 |x::l=>if x≠0 then .inl x else Gr l
theorem Gs:∀l:List Int,Ex l=match Gr l with | .inl x=>x | .inr _=>0
 |[]=>rfl
 |x::l=>by
  simp only[Ex,Gr]
  split
  ·rfl
  ·exact Gs l
def fp.L0.aq:fp.L0.D→Prop:=fun(z,l,n,i)=>z=0∧l.length≤1000000000∧n=l.length∧∃k:Nat,k≤l.length∧i=k
def fp.L0.F:fp.L0.D→fp.L0.Y:=fun(z,l,n,i)=>Gr (l.drop i.toNat)
def fp.aq:fp.D→Prop:=fun l=>l.length≤1000000000
def fp.F:fp.D→fp.Y:=fun l=>Ex l
noncomputable def fp.G:dU:=eZ (P:=Tryz.prog) []
noncomputable def fp.L0.E:=cf.cD fp.L0.st fp.L0.aq fp.L0.add fp.L0.F fp.L0.out
noncomputable def fp.L0.call:fp.L0.D→Option fp.L0.X:=dL fp.L0.E fp.L0.st
noncomputable def fp.an:eu:= {loops:=ki [(3,{bu:=[3,6,7,8]})],outs:=kh [(3,{bu:=[3]},{bu:=[2]})],gq:=lv [(3,fp.L0.E)]}
noncomputable def fp.A:= @cq Tryz.prog fp.G fp.an 0 Tryz.f87 _ fp.st
abbrev fp.Ok:=cr @fp.A fp.aq fp.add fp.F fp.out
noncomputable def fp.L0.R:= @cM Tryz.prog fp.G fp.an 0 Tryz.f87 0 _ fp.L0.st
abbrev fp.L0.Ok:=fk Tryz.prog fp.G fp.an 0 Tryz.f87 0 fp.L0.st fp.L0.aq fp.L0.add fp.L0.F fp.L0.out
theorem fp.L0.run:bD fp.L0.call fp.L0.aq fp.L0.add fp.L0.F:=fy (fx [.d ti,.d (.slice ti),.d ti,.d ti] fun _=>by kernel_rfl)
theorem fp.L0.aE:pT @fp.L0.R fp.L0.st fp.L0.aq fp.L0.add fp.L0.F fp.L0.out fp.L0.Ok:=qo
theorem fp.L0.step{R:Type}(zero:Int)(t6:(List Int))(t7:Int)(t8:Int)(kn:AS→Option R)(kx:Exit→AS→Option R):fp.L0.R (zero,t6,t7,t8) kn kx=
  aD ((gM t8 t7)) (
   aD (dZ t8 (((List.length t6):Nat):Int)) (
   aD ((qQ (nth ti t6 (Int.toNat t8)) zero)) (
    kx (fp.L0.bK (nth ti t6 (Int.toNat t8))).1 (fp.L0.bK (nth ti t6 (Int.toNat t8))).2) (
    kn (fp.L0.st (zero,t6,t7,(bo .i64 t8 (1:Int)))))) none) (
   kx (fp.L0.iW zero).1 (fp.L0.iW zero).2):=by kernel_rfl
theorem fp.eq{R:Type}(iL:(List Int))(k:aT→Option R):fp.A iL k=
  ab (fp.L0.call ((0:Int),iL,(((List.length iL):Nat):Int),(0:Int))) fun x1=>
  aD (x1.isLeft) (
   ab (x1.getLeft?) fun a2=>
   k (fp.out a2)) (
   ab (x1.getRight?) fun b3=>
   k (fp.out b3)):=by kernel_rfl
theorem fp.L0.ok:fp.L0.Ok:=by
 refine fp.L0.aE (fun(z,l,n,i)=>l.length - i.toNat) ?_
 rintro⟨z,l,n,i⟩ ⟨rfl,hl,rfl,k,hk,rfl⟩
 by_cases h:k < l.length
 ·have hd:l.drop k=l[k]::l.drop (k+1):=List.drop_eq_getElem_cons h
  have n1:nth ti l k=l[k]:=dS (t:=ti) h
  by_cases h2:l[k]≠0
  ·right
   refine⟨fp.L0.bK l[k],?_,fun kn kx=> ?_⟩
   rotate_left
   ·rw[fp.L0.step,bB (by omega),ah,bz (by omega) (by omega),ah,Int.toNat_natCast,n1,iM h2,ah]
   ·simp only[fp.L0.add,fp.L0.F,Int.toNat_natCast,hd,Gr,if_pos h2]
    rfl
  ·left
   refine⟨(0,l,(l.length:Int),((k+1:Nat):Int)),⟨rfl,hl,rfl,k+1,by omega,rfl⟩,by simp only[Int.toNat_natCast];omega,?_,fun kn kx=> ?_⟩
   ·simp only[fp.L0.add,fp.L0.F,Int.toNat_natCast,hd,Gr,if_neg h2]
   ·rw[fp.L0.step,bB (by omega),ah,bz (by omega) (by omega),ah,Int.toNat_natCast,n1,gO (by omega),ae,N.mq (by omega)]
 ·right
  obtain rfl:k=l.length:=by omega
  refine⟨fp.L0.iW 0,?_,fun kn kx=> ?_⟩
  rotate_left
  ·rw[fp.L0.step,bk (by omega),ae]
  ·simp only[fp.L0.add,fp.L0.F,Int.toNat_natCast,List.drop_length,Gr]
   rfl
theorem fp.ok:fp.Ok:=by
 intro l hl
 rw[fp.eq,fp.L0.run (d:=(0,l,(l.length:Int),0)) ⟨rfl,hl,rfl,0,Nat.zero_le _,rfl⟩]
 simp only[aa,fp.L0.add,fp.L0.F,Int.toNat_zero,List.drop_zero,fp.add,fp.F]
 rw[Gs]
 cases Gr l <;> rfl
noncomputable def fp.E:=Entry.cD [some (.slice ti)] fp.st fp.aq fp.add fp.F fp.out
noncomputable def fp.call:fp.D→Option fp.X:=bC fp.E fp.st
theorem fp.run:bD fp.call fp.aq fp.add fp.F:=cw (cv [.d (.slice ti)] fun _=>by kernel_rfl)
noncomputable def fp.sg:SG Tryz.prog:=⟨87,aK,fp.E,.fn 1 (by kernel_rfl) fp.ok (And.intro (.cD fp.L0.ok (by kernel_rfl)) trivial)⟩
set_option synthInstance.maxSize 5000
theorem ET(k:Int)(m:List Int):Je (pq k m):=by
 unfold pq
 split
 ·exact⟨(Ch _).u,(xr _ _).u⟩
 ·exact⟨⟨Int.le_refl 0,by decide⟩,Int.le_refl 0,by decide⟩
theorem y1:∀(l l':List ja) (b:List Int),l.map (·.1)=l'.map (·.1)→l.foldl vJ b=l'.foldl vJ b
 |[],[],_,_=>rfl
 |[],_::_,_,h=>by cases h
 |_::_,[],_,h=>by cases h
 |x::l,y::l',b,h=>by
  rw[List.map_cons,List.map_cons,List.cons.injEq]at h
  have e:vJ b x=vJ b y:=by unfold vJ;rw[h.1]
  rw[List.foldl_cons,List.foldl_cons,e,y1 l l' _ h.2]
theorem Dc{l l':List ja}(t:List jw×Int×Unit)(h:l.map (·.1)=l'.map (·.1)):pf (l,t)=pf (l',t):=by
 have hl:l.length=l'.length:=by have:=congrArg List.length h;simpa using this
 unfold pf
 simp only[hl]
 rw[y1 l l' _ h]
theorem y9:∀(l l':List ja) (m:List (oL×Bool)),l.map (·.1)=l'.map (·.1)→oe m l=true→(∀x∈l',oJ x.2.1=true)→oe m l'=true
 |[],[],_,_,_,_=>rfl
 |[],_::_,_,h,_,_=>by cases h
 |_::_,[],_,h,_,_=>by cases h
 |x::l,y::l',m,h,hi,hw=>by
  rw[List.map_cons,List.map_cons,List.cons.injEq]at h
  rw[oe,Bool.and_eq_true,Bool.and_eq_true]at hi ⊢
  have hx:=hi.1.2
  unfold sz at hx
  rw[Bool.and_eq_true]at hx
  refine⟨⟨?_,?_⟩,?_⟩
  ·have:=hi.1.1
   unfold q9 at this ⊢
   rw[←h.1]
   exact this
  ·unfold sz
   rw[←h.1,hx.1,hw y List.mem_cons_self]
   rfl
  ·rw[←h.1]
   exact y9 l l' _ h.2 hi.2 fun z hz=>hw z (List.mem_cons_of_mem _ hz)
theorem E6{l l':List ja}{t:List jw×Int×Unit}(h:l.map (·.1)=l'.map (·.1))(hok:iq (l,t)=true)(hw:∀x∈l',oJ x.2.1=true):iq (l',t)=true:=by
 have hl:l.length=l'.length:=by have:=congrArg List.length h;simpa using this
 unfold iq qJ at hok ⊢
 rw[Bool.and_eq_true,Bool.and_eq_true]at hok ⊢
 simp only[hl]at hok
 exact⟨hok.1,y9 l l' _ h hok.2.1 hw,hok.2.2⟩
theorem Ck{l l':List ja}{t:List jw×Int×Unit}(h:l.map (·.1)=l'.map (·.1))(h1:iq (l,t)=true)(h2:iq (l',t)=true):xg (l',t)=xg (l,t):=by
 unfold xg
 rw[h1,h2,Dc t h]
theorem Bl{l l':List ja}{t:List jw×Int×Unit}(h:l.map (·.1)=l'.map (·.1))(h1:iq (l,t)=true)(h2:iq (l',t)=true):kJ (l',t)=kJ (l,t):=by
 unfold kJ
 rw[h1,h2]
 exact h.symm
theorem El{l l':List ja}{t:List jw×Int×Unit}(h:l.map (·.1)=l'.map (·.1))(h1:iq (l,t)=true)(h2:iq (l',t)=true):ji (l',t)=ji (l,t):=by
 unfold ji
 rw[h1,h2,Ck h h1 h2]
def rP(t:hP)(k:Nat)(w:At):hP:=(t.1.set k ((nth jR t.1 k).1,w,()),t.2)
theorem rQ(l:List ja)(k:Nat)(w:At)(h:k < l.length):l.map (·.1)=(l.set k ((nth jR l k).1,w,())).map (·.1):=by
 have n1:nth jR l k=l[k]:=dS (t:=jR) h
 rw[n1,List.map_set]
 have e:(l[k].1:oL)=(l.map (·.1))[k]'(by rw[List.length_map];exact h):=by rw[List.getElem_map]
 show _=(l.map (·.1)).set k l[k].1
 rw[e,List.set_getElem_self]
theorem zR{l:List ja}{k:Nat}{w:At}{x:ja}(h:k < l.length)(hx:x∈l.set k ((nth jR l k).1,w,())):x∈l∨(x.1=l[k].1∧x.2.1=w):=by
 have n1:nth jR l k=l[k]:=dS (t:=jR) h
 rw[n1]at hx
 rcases List.mem_or_eq_of_mem_set hx with h1 | h1
 ·exact .inl h1
 ·exact .inr ⟨by rw[h1],by rw[h1]⟩
theorem uc{t:hP}{k:Nat}{w:At}(h:k < t.1.length)(hok:iq t=true)(hw:oJ w=true):iq (rP t k w)=true:=by
 obtain⟨_,b1,_⟩:=qK hok
 refine E6 (l:=t.1) (rQ t.1 k w h) hok fun x hx=> ?_
 rcases zR h hx with h1 | h1
 ·have:=pb _ _ b1 x h1
  unfold sz at this
  rw[Bool.and_eq_true]at this
  exact this.2
 ·rw[h1.2];exact hw
theorem Hr{t:hP}{k:Nat}{w:At}(h:k < t.1.length)(hv:rZ t)(hu:GD w)(hl:w.2.1.length≤9223372036854775807):rZ (rP t k w):=by
 refine⟨⟨hv.1.1,by show(t.1.set k _).length≤_;rw[List.length_set];exact hv.1.2.1,hv.1.2.2⟩,fun x hx=> ?_,hv.2.2⟩
 rcases zR h hx with h1 | h1
 ·exact hv.2.1 x h1
 ·refine⟨?_,by rw[h1.2];exact hu,by rw[h1.2];exact hl⟩
  rw[h1.1]
  exact(hv.2.1 _ (List.getElem_mem h)).1
theorem FY{t:hP}{k:Nat}{w:At}(h:k < t.1.length)(hok:iq t=true)(hw:oJ w=true):xg (rP t k w)=xg t∧kJ (rP t k w)=kJ t∧ji (rP t k w)=ji t:=
 ⟨Ck (l:=t.1) (rQ t.1 k w h) hok (uc h hok hw),Bl (l:=t.1) (rQ t.1 k w h) hok (uc h hok hw),El (l:=t.1) (rQ t.1 k w h) hok (uc h hok hw)⟩
theorem vn(t:hP)(k:Nat)(w:At):(rP t k w).1.length=t.1.length:=List.length_set
def sX(t:hP)(br:Int)(ks:List Int)(sc:Int):At:=(br,ks.map (fun k=>pq k (xg t)),sc,())
theorem zV(t:hP)(i br:Int)(ks:List Int)(sc:Int):kG t i br ks sc=if mJ t i br ks then(rP t i.toNat (sX t br ks sc),0) else(([],[],0,()),1):=rfl
theorem zU{t:hP}{i br:Int}{ks:List Int}(h:mJ t i br ks=true):iq t=true∧(0≤i∧i < t.1.length∧0≤br∧br < 4∧ks.length≤12)∧∀k∈ks,k < 2305843009213688669∧k≠0:=by
 unfold mJ at h
 simp only[Bool.and_eq_true,decide_eq_true_eq,Bool.not_eq_true']at h
 refine⟨h.1,h.2.1,fun k hk=> ?_⟩
 have:=h.2.2
 rw[List.any_eq_false]at this
 have:=this k hk
 unfold qm at this
 simpa using this
theorem FZ{t:hP}{i br:Int}{ks:List Int}(sc:Int)(h:mJ t i br ks=true):oJ (sX t br ks sc)=true:=by
 have e:=(zU h).2.1
 unfold oJ sX
 rw[aL ⟨e.2.2.1,e.2.2.2.1⟩,aL (by rw[List.length_map];exact e.2.2.2.2)]
 rfl
theorem Hv(t:hP)(br:Int)(ks:List Int){sc:Int}(h:fo sc):GD (sX t br ks sc):=⟨fun s hs=>by
  obtain⟨k,_,rfl⟩:=List.mem_map.1 (show s∈ks.map fun k=>pq k (xg t) from hs)
  exact ET k _,h⟩
theorem zW{t:hP}{i br sc:Int}{ks:List Int}(hv:rZ t)(h:mJ t i br ks=true)(hs:fo sc):
  iq (rP t i.toNat (sX t br ks sc))=true∧rZ (rP t i.toNat (sX t br ks sc))∧xg (rP t i.toNat (sX t br ks sc))=xg t∧kJ (rP t i.toNat (sX t br ks sc))=kJ t∧ji (rP t i.toNat (sX t br ks sc))=ji t:=by
 obtain⟨hok,e,_⟩:=zU h
 have hk:i.toNat < t.1.length:=by omega
 have hw:=FZ sc h
 exact⟨uc hk hok hw,Hr hk hv (Hv t br ks hs) (by show(ks.map _).length≤_;rw[List.length_map];omega),FY hk hok hw⟩
set_option synthInstance.maxSize 5000
theorem qW(k:Int):fo (gu k):=(Ca _ _).u
def mT:List Int:=[152,45,158,62,185,150,245,89,230,51,244,209,148,222,243,118,29,144,159,90,59,100,125,26,133,31,234,214,124,50,201,209]
theorem s3:pq 3 mT=(2066670005889522986,1913675330412042729,()):=by decide+kernel
set_option synthInstance.maxSize 5000
theorem u0:fo 0:=⟨Int.le_refl 0,by decide⟩
theorem IL:xI 0=true:=rfl
set_option synthInstance.maxSize 5000
abbrev aY.L0.D:=Int×Int×Int
def aY.L0.st:aY.L0.D→AS:=fun(a_2,b_2,outv)=>⟨([.d tu a_2,.d tu b_2,.undef,.undef,.undef,.d tu outv]++bw 16 []),[],(List.replicate 22 [])⟩
abbrev aY.L0.Y0:=Int
abbrev aY.L0.X0:=Int
def aY.L0.bK:aY.L0.X0→Exit×AS:=fun x=>(.exit 0,⟨(bw 5 ([.d tu x]++bw 16 [])),[],(List.replicate 22 [])⟩)
abbrev aY.L0.X:=aY.L0.X0
abbrev aY.L0.Y:=aY.L0.Y0
def aY.L0.out:aY.L0.X→Out (Exit×AS):=fun x=> .ok (aY.L0.bK x)
def aY.L0.add:aY.L0.D→aY.L0.Y→aY.L0.X:=fun(a_2,b_2,outv) y=>y
abbrev aY.D:=Int×Int
def aY.st:aY.D→SA:=fun(a,b)=>([.d tu a,.d tu b],[])
abbrev aY.Y:=Int
abbrev aY.X:=Int
def aY.out:aY.X→aT:=fun x=>⟨.d tu x,[],[]⟩
def aY.add:aY.D→aY.Y→aY.X:=fun(a,b) y=>y
def aY.L0.aq:aY.L0.D→Prop:=fun(a,b,o)=>Pn a∧fo b∧Pn o
def aY.L0.F:aY.L0.D→aY.L0.Y:=fun(a,b,o)=>(o+a*b)%4611686018427377339
def aY.aq:aY.D→Prop:=fun(a,b)=>Pn a∧fo b
def aY.F:aY.D→aY.Y:=fun(a,b)=>kY a b
noncomputable def aY.G:dU:=eZ (P:=Tryz.prog) []
noncomputable def aY.L0.E:=cf.cD aY.L0.st aY.L0.aq aY.L0.add aY.L0.F aY.L0.out
noncomputable def aY.L0.call:aY.L0.D→Option aY.L0.X:=dL aY.L0.E aY.L0.st
noncomputable def aY.an:eu:= {loops:=ki [(2,{bu:=[0,1,5]})],outs:=kh [(2,{bu:=[5]},{bu:=[4]})],gq:=lv [(2,aY.L0.E)]}
noncomputable def aY.A:= @cq Tryz.prog aY.G aY.an 0 Tryz.f181 _ aY.st
abbrev aY.Ok:=cr @aY.A aY.aq aY.add aY.F aY.out
noncomputable def aY.L0.R:= @cM Tryz.prog aY.G aY.an 0 Tryz.f181 0 _ aY.L0.st
abbrev aY.L0.Ok:=fk Tryz.prog aY.G aY.an 0 Tryz.f181 0 aY.L0.st aY.L0.aq aY.L0.add aY.L0.F aY.L0.out
theorem aY.L0.run:bD aY.L0.call aY.L0.aq aY.L0.add aY.L0.F:=fy (fx [.d tu,.d tu,.d tu] fun _=>by kernel_rfl)
theorem aY.L0.aE:fY @aY.L0.R aY.L0.st aY.L0.aq aY.L0.add aY.L0.F aY.L0.bK aY.L0.Ok:=gj
theorem aY.L0.step{R:Type}(a_2:Int)(b_2:Int)(outv:Int)(kn:AS→Option R)(kx:Exit→AS→Option R):aY.L0.R (a_2,b_2,outv) kn kx=
  aD ((mX b_2 (0:Int))) (
   aD ((jO (fI b_2 (2:Int)) (1:Int))) (
    kn (aY.L0.st ((fI (bo .u64 a_2 a_2) (4611686018427377339:Int)),(kM .u64 b_2 (2:Int)),(fI (bo .u64 outv a_2) (4611686018427377339:Int))))) (
    kn (aY.L0.st ((fI (bo .u64 a_2 a_2) (4611686018427377339:Int)),(kM .u64 b_2 (2:Int)),outv)))) (
   kx (aY.L0.bK outv).1 (aY.L0.bK outv).2):=by kernel_rfl
theorem aY.eq{R:Type}(a:Int)(b:Int)(k:aT→Option R):aY.A (a,b) k=
 ab (aY.L0.call (a,b,(0:Int))) fun x1=>
 k (aY.out x1):=by kernel_rfl
theorem CS(o a b:Int)(m:Int):(o+a*b)%m=((if b%2=1 then(o+a)%m else o)+(a+a)%m*(b / 2))%m:=by
 have e:b=2*(b / 2)+b%2:=by omega
 have hb:b%2=0∨b%2=1:=by omega
 generalize b / 2=q at*
 have l1:∀x y:Int,(x%m+(a+a)%m*y)%m=(x+(a+a)*y)%m:=fun x y=>by
  rw[Int.add_emod,Int.emod_emod_of_dvd _ (Int.dvd_refl m),Int.mul_emod,Int.emod_emod_of_dvd _ (Int.dvd_refl m),←Int.mul_emod,←Int.add_emod]
 have l2:∀x y:Int,(x+(a+a)%m*y)%m=(x+(a+a)*y)%m:=fun x y=>by
  rw[Int.add_emod,Int.mul_emod,Int.emod_emod_of_dvd _ (Int.dvd_refl m),←Int.mul_emod,←Int.add_emod]
 rcases hb with h | h
 ·rw[if_neg (by omega),l2]
  rw[h]at e
  rw[e,Int.add_zero,Int.add_mul,←Int.mul_assoc,Int.mul_comm a 2,Int.two_mul,Int.add_mul]
 ·rw[if_pos h,l1]
  rw[h]at e
  rw[e,Int.mul_add,Int.mul_one,←Int.mul_assoc,Int.mul_comm a 2,Int.two_mul]
  congr 1
  omega
theorem Ge{n:Int}(h:fo n):kM .u64 n 2=n / 2:=xN h.1 (by omega) h.2
theorem aY.L0.ok:aY.L0.Ok:=by
 refine aY.L0.aE (fun(a,b,o)=>b.toNat) ?_
 rintro⟨a,b,o⟩ ⟨ha,hb,ho⟩
 have ha:Pn a:=ha
 have hb:fo b:=hb
 have ho:Pn o:=ho
 obtain⟨a0,a1⟩:=ha
 obtain⟨b0,b1⟩:=hb
 obtain⟨o0,o1⟩:=ho
 by_cases h:0 < b
 ·left
  have e1:fI (bo .u64 a a) 4611686018427377339=(a+a)%4611686018427377339:=by
   have:bo .u64 a a=a+a:=by rw[iX];omega
   rw[this,gS (by omega)]
  have e2:fI (bo .u64 o a) 4611686018427377339=(o+a)%4611686018427377339:=by
   have:bo .u64 o a=o+a:=by rw[iX];omega
   rw[this,gS (by omega)]
  refine⟨((a+a)%4611686018427377339,b / 2,if b%2=1 then(o+a)%4611686018427377339 else o),⟨⟨by omega,by omega⟩,⟨by omega,by omega⟩,?_⟩,by simp only[];omega,?_,fun kn kx=> ?_⟩
  ·show Pn (if b%2=1 then(o+a)%4611686018427377339 else o)
   split
   ·exact⟨by omega,by omega⟩
   ·exact⟨o0,o1⟩
  ·exact congrArg _ (CS o a b 4611686018427377339).symm
  ·rw[aY.L0.step,ee h,e1,e2,Ge ⟨b0,b1⟩,gS b0]
   by_cases h1:b%2=1
   ·rw[fg h1,if_pos h1];rfl
   ·rw[eo h1,if_neg h1];rfl
 ·right
  intro R kn kx
  obtain rfl:b=0:=by omega
  rw[aY.L0.step,dj (by omega)]
  simp only[ae,aY.L0.add,aY.L0.F]
  rw[show(o+a*0)%4611686018427377339=o by omega]
theorem aY.ok:aY.Ok:=by
 rintro⟨a,b⟩ ⟨ha,hb⟩
 rw[aY.eq,aY.L0.run (d:=(a,b,0)) ⟨ha,hb,by omega,by omega⟩]
 simp only[aa,aY.L0.add,aY.L0.F,Int.zero_add]
 rfl
noncomputable def aY.E:=Entry.cD [some tu,some tu] aY.st aY.aq aY.add aY.F aY.out
noncomputable def aY.call:aY.D→Option aY.X:=bC aY.E aY.st
theorem aY.run:bD aY.call aY.aq aY.add aY.F:=cw (cv [.d tu,.d tu] fun _=>by kernel_rfl)
noncomputable def aY.sg:SG Tryz.prog:=⟨181,aK,aY.E,.fn 1 (by kernel_rfl) aY.ok (And.intro (.cD aY.L0.ok (by kernel_rfl)) trivial)⟩
abbrev aX.L0.D:=Int×Int×Int
def aX.L0.st:aX.L0.D→AS:=fun(a_2,n_2,outv)=>⟨([.d tu a_2,.d tu n_2,.undef,.undef,.undef,.d tu outv]++bw 14 []),[],(List.replicate 20 [])⟩
abbrev aX.L0.Y0:=Int
abbrev aX.L0.X0:=Int
def aX.L0.bK:aX.L0.X0→Exit×AS:=fun x=>(.exit 0,⟨(bw 5 ([.d tu x]++bw 14 [])),[],(List.replicate 20 [])⟩)
abbrev aX.L0.X:=aX.L0.X0
abbrev aX.L0.Y:=aX.L0.Y0
def aX.L0.out:aX.L0.X→Out (Exit×AS):=fun x=> .ok (aX.L0.bK x)
def aX.L0.add:aX.L0.D→aX.L0.Y→aX.L0.X:=fun(a_2,n_2,outv) y=>y
abbrev aX.D:=Int×Int
def aX.st:aX.D→SA:=fun(a,n)=>([.d tu a,.d tu n],[])
abbrev aX.Y:=Int
abbrev aX.X:=Int
def aX.out:aX.X→aT:=fun x=>⟨.d tu x,[],[]⟩
def aX.add:aX.D→aX.Y→aX.X:=fun(a,n) y=>y
def aX.L0.aq:aX.L0.D→Prop:=fun(a,n,o)=>Pn a∧fo n∧Pn o
def aX.L0.F:aX.L0.D→aX.L0.Y:=fun(a,n,o)=>yA 64 a n.toNat o
def aX.aq:aX.D→Prop:=fun(a,n)=>Pn a∧fo n
def aX.F:aX.D→aX.Y:=fun(a,n)=>pw a n.toNat
noncomputable def aX.G:dU:=eZ (P:=Tryz.prog) [aY.sg]
noncomputable def aX.L0.E:=cf.cD aX.L0.st aX.L0.aq aX.L0.add aX.L0.F aX.L0.out
noncomputable def aX.L0.call:aX.L0.D→Option aX.L0.X:=dL aX.L0.E aX.L0.st
noncomputable def aX.an:eu:= {loops:=ki [(2,{bu:=[0,1,5]})],outs:=kh [(2,{bu:=[5]},{bu:=[4]})],gq:=lv [(2,aX.L0.E)]}
noncomputable def aX.A:= @cq Tryz.prog aX.G aX.an 0 Tryz.f156 _ aX.st
abbrev aX.Ok:=cr @aX.A aX.aq aX.add aX.F aX.out
noncomputable def aX.L0.R:= @cM Tryz.prog aX.G aX.an 0 Tryz.f156 0 _ aX.L0.st
abbrev aX.L0.Ok:=fk Tryz.prog aX.G aX.an 0 Tryz.f156 0 aX.L0.st aX.L0.aq aX.L0.add aX.L0.F aX.L0.out
theorem aX.L0.run:bD aX.L0.call aX.L0.aq aX.L0.add aX.L0.F:=fy (fx [.d tu,.d tu,.d tu] fun _=>by kernel_rfl)
theorem aX.L0.aE:fY @aX.L0.R aX.L0.st aX.L0.aq aX.L0.add aX.L0.F aX.L0.bK aX.L0.Ok:=gj
theorem aX.L0.step{R:Type}(a_2:Int)(n_2:Int)(outv:Int)(kn:AS→Option R)(kx:Exit→AS→Option R):aX.L0.R (a_2,n_2,outv) kn kx=
  aD ((mX n_2 (0:Int))) (
   aD ((jO (fI n_2 (2:Int)) (1:Int))) (
    ab (aY.call (outv,a_2)) fun x1=>
    ab (aY.call (a_2,a_2)) fun x2=>
    kn (aX.L0.st (x2,(kM .u64 n_2 (2:Int)),x1))) (
    ab (aY.call (a_2,a_2)) fun x3=>
    kn (aX.L0.st (x3,(kM .u64 n_2 (2:Int)),outv)))) (
   kx (aX.L0.bK outv).1 (aX.L0.bK outv).2):=by kernel_rfl
theorem aX.eq{R:Type}(a:Int)(n:Int)(k:aT→Option R):aX.A (a,n) k=
 ab (aX.L0.call (a,n,(1:Int))) fun x4=>
 k (aX.out x4):=by kernel_rfl
theorem aX.L0.ok:aX.L0.Ok:=by
 refine aX.L0.aE (fun(a,n,o)=>n.toNat) ?_
 rintro⟨a,n,o⟩ ⟨ha,hn,ho⟩
 have ha:Pn a:=ha
 have hn:fo n:=hn
 have ho:Pn o:=ho
 have n0:=hn.1
 have n1:=hn.2
 by_cases h:0 < n
 ·left
  have e:aX.L0.F (a,n,o)=aX.L0.F (kY a a,n / 2,if n%2=1 then kY o a else o):=by
   show yA 64 a n.toNat o=yA 64 (kY a a) (n / 2).toNat _
   rw[vc 64 65 a n.toNat o (by omega) (by omega)]
   have t1:(n / 2).toNat=n.toNat / 2:=by omega
   have t2:(n%2=1)=(n.toNat%2=1):=by apply propext;omega
   rw[t1]
   simp only[t2]
   show(if n.toNat=0 then o else _)=_
   rw[if_neg (by omega)]
  refine⟨(kY a a,n / 2,if n%2=1 then kY o a else o),⟨mo a a,⟨by omega,by omega⟩,?_⟩,by show(n / 2).toNat < n.toNat;omega,?_,fun kn kx=> ?_⟩
  ·show Pn (if n%2=1 then kY o a else o)
   split
   ·exact mo _ _
   ·exact ho
  ·exact congrArg _ e.symm
  ·rw[aX.L0.step,ee h,Ge hn,gS n0,aY.run (d:=(o,a)) ⟨ho,ha.u⟩,aY.run (d:=(a,a)) ⟨ha,ha.u⟩]
   by_cases h1:n%2=1
   ·rw[fg h1,if_pos h1];rfl
   ·rw[eo h1,if_neg h1];rfl
 ·right
  intro R kn kx
  obtain rfl:n=0:=by omega
  rw[aX.L0.step,dj (by omega)]
  simp only[ae,aX.L0.add,aX.L0.F]
  rw[show yA 64 a (Int.toNat 0) o=o from mE _ _ _]
theorem aX.ok:aX.Ok:=by
 rintro⟨a,n⟩ ⟨ha,hn⟩
 rw[aX.eq,aX.L0.run (d:=(a,n,1)) ⟨ha,hn,by omega,by omega⟩]
 rfl
noncomputable def aX.E:=Entry.cD [some tu,some tu] aX.st aX.aq aX.add aX.F aX.out
noncomputable def aX.call:aX.D→Option aX.X:=bC aX.E aX.st
theorem aX.run:bD aX.call aX.aq aX.add aX.F:=cw (cv [.d tu,.d tu] fun _=>by kernel_rfl)
noncomputable def aX.sg:SG Tryz.prog:=⟨156,aK,aX.E,.fn 1 (by kernel_rfl) aX.ok (And.intro (.cD aX.L0.ok (by kernel_rfl)) trivial)⟩
abbrev cg.D:=Int
def cg.st:cg.D→SA:=fun p=>([.d tu p],[])
abbrev cg.Y:=Bool
abbrev cg.X:=Bool
def cg.out:cg.X→aT:=fun x=>⟨.d .bool x,[],[]⟩
def cg.add:cg.D→cg.Y→cg.X:=fun p y=>y
def cg.aq:cg.D→Prop:=fun p=>fo p
def cg.F:cg.D→cg.Y:=fun p=>lq p
noncomputable def cg.G:dU:=eZ (P:=Tryz.prog) [aX.sg]
noncomputable def cg.an:eu:= {}
noncomputable def cg.A:= @cq Tryz.prog cg.G cg.an 0 Tryz.f119 _ cg.st
abbrev cg.Ok:=cr @cg.A cg.aq cg.add cg.F cg.out
theorem cg.eq{R:Type}(p:Int)(k:aT→Option R):cg.A p k=
  aD ((lk p (1:Int))) (
   aD ((gM p (4611686018427377339:Int))) (
    ab (aX.call (p,(2305843009213688669:Int))) fun x1=>
    k (cg.out (jO x1 (1:Int)))) (
    k (cg.out false))) (
   k (cg.out false)):=by kernel_rfl
theorem cg.ok:cg.Ok:=by
 intro(p:Int) hp
 have hp:fo p:=hp
 rw[cg.eq]
 simp only[cg.add,cg.F,lq]
 by_cases h:0 < p
 ·rw[ij (by omega),ah]
  by_cases h2:p < 4611686018427377339
  ·rw[bB h2,ah,aL ⟨h,h2⟩,Bool.true_and,aX.run (d:=(p,2305843009213688669)) ⟨⟨by omega,h2⟩,by constructor <;> decide⟩]
   rfl
  ·rw[bk h2,ae,bN (fun x=>h2 x.2),Bool.false_and]
 ·rw[fR (by omega),ae,bN (fun x=>h x.1),Bool.false_and]
noncomputable def cg.E:=Entry.cD [some tu] cg.st cg.aq cg.add cg.F cg.out
noncomputable def cg.call:cg.D→Option cg.X:=bC cg.E cg.st
theorem cg.run:bD cg.call cg.aq cg.add cg.F:=cw (cv [.d tu] fun _=>by kernel_rfl)
noncomputable def cg.sg:SG Tryz.prog:=⟨119,aK,cg.E,.fn 0 (by kernel_rfl) cg.ok trivial⟩
abbrev cQ.D:=Int
def cQ.st:cQ.D→SA:=fun p=>([.d tu p],[])
abbrev cQ.Y:=Int
abbrev cQ.X:=Int
def cQ.out:cQ.X→aT:=fun x=>⟨.d tu x,[],[]⟩
def cQ.add:cQ.D→cQ.Y→cQ.X:=fun p y=>y
def cQ.aq:cQ.D→Prop:=fun p=>fo p
def cQ.F:cQ.D→cQ.Y:=fun p=>tk p
noncomputable def cQ.G:dU:=eZ (P:=Tryz.prog) [cg.sg]
noncomputable def cQ.an:eu:= {}
noncomputable def cQ.A:= @cq Tryz.prog cQ.G cQ.an 0 Tryz.f157 _ cQ.st
abbrev cQ.Ok:=cr @cQ.A cQ.aq cQ.add cQ.F cQ.out
theorem cQ.eq{R:Type}(p:Int)(k:aT→Option R):cQ.A p k=
  ab (cg.call p) fun x1=>
  aD (x1) (
   k (cQ.out p)) (
   k (cQ.out (1:Int))):=by kernel_rfl
theorem cQ.ok:cQ.Ok:=by
 intro p hp
 rw[cQ.eq,cg.run (d:=p) hp]
 simp only[aa,cg.add,cg.F,cQ.add,cQ.F,tk]
 cases lq p <;> rfl
noncomputable def cQ.E:=Entry.cD [some tu] cQ.st cQ.aq cQ.add cQ.F cQ.out
noncomputable def cQ.call:cQ.D→Option cQ.X:=bC cQ.E cQ.st
theorem cQ.run:bD cQ.call cQ.aq cQ.add cQ.F:=cw (cv [.d tu] fun _=>by kernel_rfl)
noncomputable def cQ.sg:SG Tryz.prog:=⟨157,aK,cQ.E,.fn 0 (by kernel_rfl) cQ.ok trivial⟩
abbrev dg.D:=Int×Int
def dg.st:dg.D→SA:=fun(p,kv)=>([.d tu p,.d tu kv],[])
abbrev dg.Y:=Int
abbrev dg.X:=Int
def dg.out:dg.X→aT:=fun x=>⟨.d tu x,[],[]⟩
def dg.add:dg.D→dg.Y→dg.X:=fun(p,kv) y=>y
def dg.aq:dg.D→Prop:=fun(p,k)=>fo p∧fo k
def dg.F:dg.D→dg.Y:=fun(p,k)=>nA p k
noncomputable def dg.G:dU:=eZ (P:=Tryz.prog) [cQ.sg,aX.sg]
noncomputable def dg.an:eu:= {}
noncomputable def dg.A:= @cq Tryz.prog dg.G dg.an 0 Tryz.f115 _ dg.st
abbrev dg.Ok:=cr @dg.A dg.aq dg.add dg.F dg.out
theorem dg.eq{R:Type}(p:Int)(kv:Int)(k:aT→Option R):dg.A (p,kv) k=
 ab (cQ.call p) fun x1=>
 ab (aX.call (x1,(fI kv (2305843009213688669:Int)))) fun x2=>
 k (dg.out x2):=by kernel_rfl
theorem dg.ok:dg.Ok:=by
 rintro⟨p,k⟩ ⟨hp,hk⟩
 have hk:fo k:=hk
 have e:=gS (y:=2305843009213688669) hk.1
 have b:fo (k%2305843009213688669):=⟨by omega,by omega⟩
 rw[dg.eq,cQ.run (d:=p) hp,e]
 simp only[aa,cQ.add,cQ.F]
 rw[aX.run (d:=(tk p,k%2305843009213688669)) ⟨E2 p,b⟩]
 rfl
noncomputable def dg.E:=Entry.cD [some tu,some tu] dg.st dg.aq dg.add dg.F dg.out
noncomputable def dg.call:dg.D→Option dg.X:=bC dg.E dg.st
theorem dg.run:bD dg.call dg.aq dg.add dg.F:=cw (cv [.d tu,.d tu] fun _=>by kernel_rfl)
noncomputable def dg.sg:SG Tryz.prog:=⟨115,aK,dg.E,.fn 0 (by kernel_rfl) dg.ok trivial⟩
abbrev cY.D:=Int
def cY.st:cY.D→SA:=fun kv=>([.d tu kv],[])
abbrev cY.Y:=Int
abbrev cY.X:=Int
def cY.out:cY.X→aT:=fun x=>⟨.d tu x,[],[]⟩
def cY.add:cY.D→cY.Y→cY.X:=fun kv y=>y
def cY.aq:cY.D→Prop:=fun k=>fo k
def cY.F:cY.D→cY.Y:=fun k=>gu k
noncomputable def cY.G:dU:=eZ (P:=Tryz.prog) [dg.sg]
noncomputable def cY.an:eu:= {}
noncomputable def cY.A:= @cq Tryz.prog cY.G cY.an 0 Tryz.f62 _ cY.st
abbrev cY.Ok:=cr @cY.A cY.aq cY.add cY.F cY.out
theorem cY.eq{R:Type}(kv:Int)(k:aT→Option R):cY.A kv k=
 ab (dg.call ((4:Int),kv)) fun x1=>
 k (cY.out x1):=by kernel_rfl
theorem cY.ok:cY.Ok:=by
 intro k hk
 rw[cY.eq,dg.run (d:=(4,k)) ⟨⟨by omega,by omega⟩,hk⟩]
 rfl
noncomputable def cY.E:=Entry.cD [some tu] cY.st cY.aq cY.add cY.F cY.out
noncomputable def cY.call:cY.D→Option cY.X:=bC cY.E cY.st
theorem cY.run:bD cY.call cY.aq cY.add cY.F:=cw (cv [.d tu] fun _=>by kernel_rfl)
noncomputable def cY.sg:SG Tryz.prog:=⟨62,aK,cY.E,.fn 0 (by kernel_rfl) cY.ok trivial⟩
set_option synthInstance.maxSize 5000
abbrev bl.L0.D:=Bs×Int×Int
def bl.L0.st:bl.L0.D→AS:=fun(h_2,n,i)=>⟨([.undef,.fj tH h_2,.undef,.d tu n,.d ti i]++bw 25 []),[],(List.replicate 30 [])⟩
abbrev bl.L0.Y0:=Int
abbrev bl.L0.X0:=Int
def bl.L0.bK:bl.L0.X0→Exit×AS:=fun x=>(.exit 0,⟨([.undef,.undef,.undef,.d tu x]++bw 26 []),[],(List.replicate 30 [])⟩)
abbrev bl.L0.X:=bl.L0.X0
abbrev bl.L0.Y:=bl.L0.Y0
def bl.L0.out:bl.L0.X→Out (Exit×AS):=fun x=> .ok (bl.L0.bK x)
def bl.L0.add:bl.L0.D→bl.L0.Y→bl.L0.X:=fun(h_2,n,i) y=>y
abbrev bl.D:=Bs
def bl.st:bl.D→SA:=fun h=>([.d tH h],[])
abbrev bl.Y:=Int
abbrev bl.X:=Int
def bl.out:bl.X→aT:=fun x=>⟨.d tu x,[],[]⟩
def bl.add:bl.D→bl.Y→bl.X:=fun h y=>y
def bl.L0.aq:bl.L0.D→Prop:=fun(h,n,i)=>xm.b n∧h.length=32∧Bytes h∧∃k:Nat,k≤32∧i=k
def bl.L0.F:bl.L0.D→bl.L0.Y:=fun(h,n,i)=>(h.drop i.toNat).foldl (fun n b=>(n*256+b)%2305843009213688668) n
def bl.aq:bl.D→Prop:=fun h=>h.length=32∧Bytes h
def bl.F:bl.D→bl.Y:=fun h=>gV h
noncomputable def bl.G:dU:=eZ (P:=Tryz.prog) []
noncomputable def bl.L0.E:=cf.cD bl.L0.st bl.L0.aq bl.L0.add bl.L0.F bl.L0.out
noncomputable def bl.L0.call:bl.L0.D→Option bl.L0.X:=dL bl.L0.E bl.L0.st
noncomputable def bl.an:eu:= {loops:=ki [(3,{bu:=[1,3,4]}),(6,{bu:=[1,3,4,5]})],outs:=kh [(3,{bu:=[3]},{bu:=[2]}),(6,{bu:=[1,3,4]},{bu:=[2]})],gq:=lv [(3,bl.L0.E)]}
noncomputable def bl.A:= @cq Tryz.prog bl.G bl.an 12 Tryz.f60 _ bl.st
abbrev bl.Ok:=cr @bl.A bl.aq bl.add bl.F bl.out
noncomputable def bl.L0.R:= @cM Tryz.prog bl.G bl.an 12 Tryz.f60 0 _ bl.L0.st
abbrev bl.L0.Ok:=fk Tryz.prog bl.G bl.an 12 Tryz.f60 0 bl.L0.st bl.L0.aq bl.L0.add bl.L0.F bl.L0.out
theorem bl.L0.run:bD bl.L0.call bl.L0.aq bl.L0.add bl.L0.F:=fy (fx [.d tH,.d tu,.d ti] fun _=>by kernel_rfl)
theorem bl.L0.aE:fY @bl.L0.R bl.L0.st bl.L0.aq bl.L0.add bl.L0.F bl.L0.bK bl.L0.Ok:=gj
theorem bl.L0.step{R:Type}(h_2:Bs)(n:Int)(i:Int)(kn:AS→Option R)(kx:Exit→AS→Option R):bl.L0.R (h_2,n,i) kn kx=
  aD ((gM i (32:Int))) (
   aD (dZ i (32:Int)) (
   aD (dZ i (32:Int)) (
   aD (dZ i (32:Int)) (
   aD (dZ i (32:Int)) (
   aD (dZ i (32:Int)) (
   aD (dZ i (32:Int)) (
   aD (dZ i (32:Int)) (
   aD (dZ i (32:Int)) (
   kn (bl.L0.st (h_2,(fI (bo .u64 (eK .u64 (2:Int) (fI (bo .u64 (eK .u64 (2:Int) (fI (bo .u64 (eK .u64 (2:Int) (fI (bo .u64 (eK .u64 (2:Int) (fI (bo .u64 (eK .u64 (2:Int) (fI (bo .u64 (eK .u64 (2:Int) (fI (bo .u64 (eK .u64 (2:Int) (fI (bo .u64 (eK .u64 (2:Int) n) (ct .and .u64 (bW .u64 (dG .u64 (nth tb h_2 (Int.toNat i))) (7:Int)) (1:Int))) (2305843009213688668:Int))) (ct .and .u64 (bW .u64 (dG .u64 (nth tb h_2 (Int.toNat i))) (6:Int)) (1:Int))) (2305843009213688668:Int))) (ct .and .u64 (bW .u64 (dG .u64 (nth tb h_2 (Int.toNat i))) (5:Int)) (1:Int))) (2305843009213688668:Int))) (ct .and .u64 (bW .u64 (dG .u64 (nth tb h_2 (Int.toNat i))) (4:Int)) (1:Int))) (2305843009213688668:Int))) (ct .and .u64 (bW .u64 (dG .u64 (nth tb h_2 (Int.toNat i))) (3:Int)) (1:Int))) (2305843009213688668:Int))) (ct .and .u64 (bW .u64 (dG .u64 (nth tb h_2 (Int.toNat i))) (2:Int)) (1:Int))) (2305843009213688668:Int))) (ct .and .u64 (bW .u64 (dG .u64 (nth tb h_2 (Int.toNat i))) (1:Int)) (1:Int))) (2305843009213688668:Int))) (ct .and .u64 (bW .u64 (dG .u64 (nth tb h_2 (Int.toNat i))) (0:Int)) (1:Int))) (2305843009213688668:Int)),(bo .i64 i (1:Int))))) none) none) none) none) none) none) none) none) (
   kx (bl.L0.bK n).1 (bl.L0.bK n).2):=by kernel_rfl
theorem bl.eq{R:Type}(h:Bs)(k:aT→Option R):bl.A h k=
 ab (bl.L0.call (h,(0:Int),(0:Int))) fun x1=>
 k (bl.out (bo .u64 x1 (1:Int))):=by kernel_rfl
theorem oT{c:Int}(hc:vK c)(k:Nat)(hk:k≤7):ct .and .u64 (bW .u64 (dG .u64 c) (k:Int)) 1=c / 2^k%2:=by
 obtain⟨h1,h2⟩:=hc
 have e:dG .u64 c=c:=by rw[AT];omega
 have p:(0:Int) < 2^k:=Int.pow_pos (by omega)
 have q0:0≤c / 2^k:=Int.ediv_nonneg h1 (by omega)
 have q1:c / 2^k≤c:=Int.ediv_le_self _ h1
 rw[e,lB k (by rfl) (by omega),HP q0 (by omega)]
theorem DE:∀c:Fin 256,(c.val:Int) / 2^7%2*128+(c.val:Int) / 2^6%2*64+(c.val:Int) / 2^5%2*32+(c.val:Int) / 2^4%2*16+(c.val:Int) / 2^3%2*8+(c.val:Int) / 2^2%2*4+(c.val:Int) / 2^1%2*2+(c.val:Int) / 2^0%2=(c.val:Int):=by decide+kernel
theorem DF{c:Int}(hc:vK c):c / 2^7%2*128+c / 2^6%2*64+c / 2^5%2*32+c / 2^4%2*16+c / 2^3%2*8+c / 2^2%2*4+c / 2^1%2*2+c / 2^0%2=c:=by
 obtain⟨n,rfl⟩:∃n:Nat,c=n:=⟨c.toNat,by have:=hc.1;omega⟩
 exact DE ⟨n,by have:=hc.2;omega⟩
theorem CB{c:Int}(hc:vK c):∃d7 d6 d5 d4 d3 d2 d1 d0:Int,(0≤d7∧d7 < 2)∧(0≤d6∧d6 < 2)∧(0≤d5∧d5 < 2)∧(0≤d4∧d4 < 2)∧(0≤d3∧d3 < 2)∧(0≤d2∧d2 < 2)∧(0≤d1∧d1 < 2)∧(0≤d0∧d0 < 2)∧ct .and .u64 (bW .u64 (dG .u64 c) 7) 1=d7∧ct .and .u64 (bW .u64 (dG .u64 c) 6) 1=d6∧ct .and .u64 (bW .u64 (dG .u64 c) 5) 1=d5∧ct .and .u64 (bW .u64 (dG .u64 c) 4) 1=d4∧ct .and .u64 (bW .u64 (dG .u64 c) 3) 1=d3∧ct .and .u64 (bW .u64 (dG .u64 c) 2) 1=d2∧ct .and .u64 (bW .u64 (dG .u64 c) 1) 1=d1∧ct .and .u64 (bW .u64 (dG .u64 c) 0) 1=d0∧d7*128+d6*64+d5*32+d4*16+d3*8+d2*4+d1*2+d0=c:=by
 have z:∀x:Int,0≤x%2∧x%2 < 2:=fun x=>by omega
 exact⟨c / 2^7%2,c / 2^6%2,c / 2^5%2,c / 2^4%2,c / 2^3%2,c / 2^2%2,c / 2^1%2,c / 2^0%2,z _,z _,z _,z _,z _,z _,z _,z _,oT hc 7 (by omega),oT hc 6 (by omega),oT hc 5 (by omega),oT hc 4 (by omega),oT hc 3 (by omega),oT hc 2 (by omega),oT hc 1 (by omega),oT hc 0 (by omega),DF hc⟩
theorem oU{n b:Int}(hn:xm.b n)(hb:0≤b∧b < 2):fI (bo .u64 (eK .u64 2 n) b) 2305843009213688668=(2*n+b)%2305843009213688668∧xm.b ((2*n+b)%2305843009213688668):=by
 obtain⟨h1,h2⟩:=hn
 have e:bo .u64 (eK .u64 2 n) b=2*n+b:=by rw[ln,iX];omega
 rw[e,gS (by omega)]
 exact⟨rfl,by omega,by omega⟩
theorem AL(n c d7 d6 d5 d4 d3 d2 d1 d0:Int)(M:Int)(h:d7*128+d6*64+d5*32+d4*16+d3*8+d2*4+d1*2+d0=c):
  (2*((2*((2*((2*((2*((2*((2*((2*n+d7)%M)+d6)%M)+d5)%M)+d4)%M)+d3)%M)+d2)%M)+d1)%M)+d0)%M=(n*256+c)%M:=by
 have l:∀x b:Int,(2*(x%M)+b)%M=(2*x+b)%M:=fun x b=>by
  rw[Int.add_emod,Int.mul_emod,Int.emod_emod_of_dvd _ (Int.dvd_refl M),←Int.mul_emod,←Int.add_emod]
 simp only[l]
 have e:2*(2*(2*(2*(2*(2*(2*(2*n+d7)+d6)+d5)+d4)+d3)+d2)+d1)+d0=n*256+c:=by omega
 rw[e]
theorem bl.L0.ok:bl.L0.Ok:=by
 refine bl.L0.aE (fun(h,n,i)=>32 - i.toNat) ?_
 rintro⟨h,n,i⟩ ⟨hn,hl,hb,k,hk,rfl⟩
 have hn:xm.b n:=hn
 have hl:h.length=32:=hl
 have hb:Bytes h:=hb
 by_cases hlt:k < 32
 ·left
  have hx:vK (h[k]'(by omega)):=hb _ (List.getElem_mem _)
  have n1:nth (.int .u8) h k=h[k]'(by omega):=dS (t:= .int .u8) (by omega)
  refine⟨(h,(n*256+h[k]'(by omega))%2305843009213688668,((k+1:Nat):Int)),⟨⟨by omega,by omega⟩,hl,hb,k+1,by omega,rfl⟩,by simp only[Int.toNat_natCast];omega,?_,fun kn kx=> ?_⟩
  ·simp only[bl.L0.add,bl.L0.F,Int.toNat_natCast]
   rw[List.drop_eq_getElem_cons (by omega:k < h.length)]
   rfl
  ·rw[bl.L0.step]
   generalize hc:h[k]'(by omega)=c at hx n1
   obtain⟨d7,d6,d5,d4,d3,d2,d1,d0,z7,z6,z5,z4,z3,z2,z1,z0,b7,b6,b5,b4,b3,b2,b1,b0,aO⟩:=CB hx
   obtain⟨f7,g7⟩:=oU hn z7
   obtain⟨f6,g6⟩:=oU g7 z6
   obtain⟨f5,g5⟩:=oU g6 z5
   obtain⟨f4,g4⟩:=oU g5 z4
   obtain⟨f3,g3⟩:=oU g4 z3
   obtain⟨f2,g2⟩:=oU g3 z2
   obtain⟨f1,g1⟩:=oU g2 z1
   obtain⟨f0,g0⟩:=oU g1 z0
   have e8:=AL n c _ _ _ _ _ _ _ _ 2305843009213688668 aO
   have hi:gM (k:Int) 32=true:=bB (by omega)
   have hib:dZ (k:Int) 32=true:=bz (by omega) (by omega)
   have ha:bo .i64 (k:Int) 1=((k+1:Nat):Int):=by rw[cR (by omega) (by omega)];omega
   simp only[hi,hib,ha,ah,Int.toNat_natCast,n1,b7,b6,b5,b4,b3,b2,b1,b0,f7,f6,f5,f4,f3,f2,f1,f0,e8]
 ·right
  obtain rfl:k=32:=by omega
  intro R kn kx
  rw[bl.L0.step]
  simp(disch:=omega) only[↓S1,↓if_pos,↓if_neg,if_pos,if_neg,if_true,if_false,S2,bl.L0.add,bl.L0.F]
  rw[List.drop_of_length_le (by omega)]
  rfl
theorem bl.ok:bl.Ok:=by
 rintro h ⟨hl,hb⟩
 have e:=uD h 0 ⟨by omega,by omega⟩
 have h1:=e.1
 have h2:=e.2
 rw[bl.eq,bl.L0.run (d:=(h,0,0)) ⟨⟨by omega,by omega⟩,hl,hb,0,by omega,rfl⟩]
 simp only[aa,bl.L0.add,bl.L0.F,bl.add,bl.F,gV,Int.toNat_zero,List.drop_zero]
 revert h1 h2
 generalize h.foldl (fun n b=>(n*256+b)%2305843009213688668) 0=m
 intro h1 h2
 have e:bo .u64 m 1=m+1:=by rw[iX];omega
 rw[e]
noncomputable def bl.E:=Entry.cD [some tH] bl.st bl.aq bl.add bl.F bl.out
noncomputable def bl.call:bl.D→Option bl.X:=bC bl.E bl.st
theorem bl.run:bD bl.call bl.aq bl.add bl.F:=cw (cv [.d tB] fun _=>by kernel_rfl)
noncomputable def bl.sg:SG Tryz.prog:=⟨60,aK,bl.E,.fn 2 (by kernel_rfl) bl.ok (And.intro (.cD bl.L0.ok (by kernel_rfl)) (And.intro (.none (by kernel_rfl)) trivial))⟩
set_option synthInstance.maxSize 5000
abbrev gl:Ty:=(.pair ti (.pair ti (.pair ti (.pair tu (.pair ti .unit)))))
abbrev fG:=(Int×(Int×(Int×(Int×(Int×Unit)))))
abbrev iY:Ty:=(.pair ti (.pair ti (.pair ti (.pair ti (.pair ti (.pair ti .unit))))))
abbrev yC:=(Int×(Int×(Int×(Int×(Int×(Int×Unit))))))
abbrev hZ:Ty:=(.pair ti (.pair (.arr 2 ti) (.pair (.slice gl) (.pair ti .unit))))
abbrev fL:=(Int×((List Int)×((List fG)×(Int×Unit))))
abbrev nR:Ty:=(.pair tu (.pair tu (.pair tu (.pair tu (.pair tu (.pair tH .unit))))))
abbrev lC:=(Int×(Int×(Int×(Int×(Int×(Bs×Unit))))))
abbrev ma:Ty:=(.pair tu (.pair tu (.pair tu Dq)))
abbrev Cp:=(Int×(Int×(Int×Sg)))
abbrev iu:Ty:=(.pair p9 (.pair ti (.pair (.arr 2 ma) (.pair (.arr 2 iY) (.pair ti .unit)))))
abbrev fF:=(oL×(Int×((List Cp)×((List yC)×(Int×Unit)))))
abbrev yl:Ty:=(.pair ti (.pair gl .unit))
abbrev qR:=(Int×(fG×Unit))
abbrev HA:Ty:=(.pair kN (.pair (.slice yl) .unit))
abbrev Aq:=(hP×((List qR)×Unit))
abbrev qa:Ty:=(.pair p9 (.pair ti (.pair tu .unit)))
abbrev kP:=(oL×(Int×(Int×Unit)))
abbrev jl:Ty:=(.pair mR (.pair yl (.pair tH .unit)))
abbrev iD:=(jw×(qR×(Bs×Unit)))
abbrev Fl:Ty:=(.pair tb (.pair (.int .u16) (.pair (.int .u16) (.pair tu .unit))))
abbrev Cq:=(Int×(Int×(Int×(Int×Unit))))
abbrev EY:Ty:=(.pair (.arr 2 tH) (.pair (.int .u32) (.pair (.int .u32) (.pair tb (.pair tb (.pair (.slice Fl) (.pair (.int .u16) (.pair tH .unit))))))))
abbrev tc:=((List Bs)×(Int×(Int×(Int×(Int×((List Cq)×(Int×(Bs×Unit))))))))
def Bd(x lo hi:Int):Prop:=lo≤x∧x≤hi
def kQ(n lo hi:Int):Bool:=decide (lo≤n) && decide (n≤hi)
theorem lp{n lo hi:Int}:kQ n lo hi=true↔lo≤n∧n≤hi:=by
 unfold kQ;rw[Bool.and_eq_true,decide_eq_true_eq,decide_eq_true_eq]
theorem ik{n lo hi:Int}(h:lo≤n)(h2:n≤hi):kQ n lo hi=true:=lp.2 ⟨h,h2⟩
theorem jP{n lo hi:Int}(h:¬(lo≤n∧n≤hi)):kQ n lo hi=false:=by
 cases e:kQ n lo hi
 ·rfl
 ·exact absurd (lp.1 e) h
def we(p:Int):Bool:=lq p && qQ p 1
def Dx(p:Int):Prop:=fo p∧we p=true
def GA(b:Cp):Prop:=Dx b.1∧Dx b.2.1∧Dx b.2.2.1∧Dx b.2.2.2.1∧Dx b.2.2.2.2.1
def te(d:Int):yC:=(100,(200,(d,(16,(1,(1125899906842624,()))))))
def pY(a:Int)(b0 b1:Cp)(o:Int):fF:=((List.replicate 32 0,(0,())),(a,([b0,b1],([te 5,te 6],(o,())))))
def jn(ch:fF):Prop:=∃a b0 b1 o,ch=pY a b0 b1 o∧20000≤a∧a≤4294987295∧GA b0∧GA b1∧(o=0∨o=1)
def Fe(n:Int):Int:=if 0≤n∧n≤16 then 68+8*n else 0
def tG(r n:Int):Int:=if 0≤r∧r≤1000 then r*Fe n else 0
theorem Bw(n:Int):0≤Fe n∧Fe n≤196:=by
 unfold Fe;split <;> omega
theorem rq{r w a b:Int}(h0:0≤r)(h1:r≤a)(w0:0≤w)(w1:w≤b):0≤r*w∧r*w≤a*b:=⟨Int.mul_nonneg h0 w0,Int.mul_le_mul h1 w1 w0 (by omega)⟩
theorem o5(r n:Int):0≤tG r n∧tG r n≤196000:=by
 unfold tG
 split
 ·next h=>
  have:=Bw n
  have:=rq h.1 h.2 this.1 this.2
  omega
 ·omega
def yy(c:fG):Bool:=we c.2.2.2.1 && (kQ c.1 0 1 && (kQ c.2.1 1 1048576 && (kQ c.2.2.1 1 1125899906842624 && kQ c.2.2.2.2.1 1 1048576)))
structure F5(c:fG):Prop where
 pt:we c.2.2.2.1=true
 side:0≤c.1∧c.1≤1
 id:1≤c.2.1∧c.2.1≤1048576
 yH:1≤c.2.2.1∧c.2.2.1≤1125899906842624
 exp:1≤c.2.2.2.2.1∧c.2.2.2.2.1≤1048576
theorem mi{c:fG}:yy c=true↔F5 c:=by
 unfold yy
 simp only[Bool.and_eq_true,lp]
 exact⟨fun h=>⟨h.1,h.2.1,h.2.2.1,h.2.2.2.1,h.2.2.2.2⟩,fun h=>⟨h.pt,h.side,h.id,h.yH,h.exp⟩⟩
def r9(a b:fG):Bool:=decide (a.1 < b.1∨a.1=b.1∧a.2.1 < b.2.1)
def nm:Option fG→List fG→Bool
 |_,[]=>true
 |none,c::l=>yy c && nm (some c) l
 |some p,c::l=>yy c && (r9 p c && nm (some c) l)
def rA(l:List fG)(k:Nat):Option fG:=if k=0 then none else some (nth gl l (k - 1))
theorem nJ:∀(o:Option fG) (l:List fG),nm o l=true→∀c∈l,F5 c
 |_,[],_,c,hc=>by cases hc
 |none,d::l,h,c,hc=>by
  simp only[nm,Bool.and_eq_true]at h
  rcases List.mem_cons.1 hc with rfl | hc
  ·exact mi.1 h.1
  ·exact nJ _ l h.2 c hc
 |some p,d::l,h,c,hc=>by
  simp only[nm,Bool.and_eq_true]at h
  rcases List.mem_cons.1 hc with rfl | hc
  ·exact mi.1 h.1
  ·exact nJ _ l h.2.2 c hc
theorem BK{l:List fG}{k:Nat}(h:k < l.length):nm (rA l k) (l.drop k)=(yy l[k] && ((decide (k=0) || r9 (nth gl l (k - 1)) l[k]) && nm (rA l (k+1)) (l.drop (k+1)))):=by
 have n1:nth gl l k=l[k]:=dS (t:=gl) h
 have e2:rA l (k+1)=some l[k]:=by
  unfold rA
  rw[if_neg (by omega),Nat.add_sub_cancel,n1]
 rw[e2,List.drop_eq_getElem_cons h]
 unfold rA
 by_cases h0:k=0
 ·rw[if_pos h0,nm,aL h0,Bool.true_or,Bool.true_and]
 ·rw[if_neg h0,nm,bN h0,Bool.false_or]
def fC:List fG→Int
 |[]=>0
 |c::l=>c.2.2.1+fC l
def im(to:Int)(l:List fG):List fG:=l.filter fun c=>jO c.1 (1 - to)
def yu(c:fG):Prop:=0≤c.2.2.1∧c.2.2.1≤1125899906842624
theorem xu:∀(l:List fG),(∀c∈l,yu c)→0≤fC l∧fC l≤1125899906842624*l.length
 |[],_=>⟨Int.le_refl _,by simp[fC]⟩
 |c::l,h=>by
  have h1:=h c List.mem_cons_self
  have h2:=xu l fun x hx=>h x (List.mem_cons_of_mem _ hx)
  unfold yu at h1
  simp only[fC,List.length_cons]
  omega
theorem ru(to:Int)(l:List fG):(im to l).length≤l.length:=List.length_filter_le _ _
theorem sP(to:Int)(c:fG)(l:List fG):im to (c::l)=if jO c.1 (1 - to)=true then c::im to l else im to l:=by
 unfold im
 rw[List.filter_cons]
def pv(ch:fF)(s:fL):Bool:=
  kQ s.1 0 1048576 && (kQ (nth ti s.2.1 0) 0 1125899906842624 && (kQ (nth ti s.2.1 1) 0 1125899906842624 && (kQ s.2.2.2.1 0 1000 && (decide (s.2.2.1.length≤16) &&
   (nm none s.2.2.1 && (decide (fC (im 0 s.2.2.1)≤1125899906842624) && (decide (fC (im 1 s.2.2.1)≤1125899906842624) &&
    (jO (nth ti s.2.1 0+nth ti s.2.1 1+fC s.2.2.1) ch.2.1 && lk (nth ti s.2.1 ch.2.2.2.2.1.toNat) (tG s.2.2.2.1 s.2.2.1.length+660)))))))))
def nG(s:fL):Prop:=(∀c∈s.2.2.1,fo c.2.2.2.1)∧s.2.2.1.length≤1000∧s.2.1.length=2
abbrev fm.D:=Int×Int×Int
def fm.st:fm.D→SA:=fun(n,low,high)=>([.d ti n,.d ti low,.d ti high],[])
abbrev fm.Y:=Bool
abbrev fm.X:=Bool
def fm.out:fm.X→aT:=fun x=>⟨.d .bool x,[],[]⟩
def fm.add:fm.D→fm.Y→fm.X:=fun(n,low,high) y=>y
def fm.aq:fm.D→Prop:=fun _=>True
def fm.F:fm.D→fm.Y:=fun(n,lo,hi)=>kQ n lo hi
noncomputable def fm.G:dU:=eZ (P:=Tryz.prog) []
noncomputable def fm.an:eu:= {}
noncomputable def fm.A:= @cq Tryz.prog fm.G fm.an 0 Tryz.f116 _ fm.st
abbrev fm.Ok:=cr @fm.A fm.aq fm.add fm.F fm.out
theorem fm.eq{R:Type}(n:Int)(low:Int)(high:Int)(k:aT→Option R):fm.A (n,low,high) k=
  aD ((lk n low)) (
   k (fm.out (yz n high))) (
   k (fm.out false)):=by kernel_rfl
theorem fm.ok:fm.Ok:=by
 rintro⟨n,lo,hi⟩ _
 rw[fm.eq]
 simp only[fm.add,fm.F,kQ]
 have e:decide (lo≤n)=lk n lo:=rfl
 rw[e]
 cases lk n lo <;> rfl
noncomputable def fm.E:=Entry.cD [some ti,some ti,some ti] fm.st fm.aq fm.add fm.F fm.out
noncomputable def fm.call:fm.D→Option fm.X:=bC fm.E fm.st
theorem fm.run:bD fm.call fm.aq fm.add fm.F:=cw (cv [.d ti,.d ti,.d ti] fun _=>by kernel_rfl)
noncomputable def fm.sg:SG Tryz.prog:=⟨116,aK,fm.E,.fn 0 (by kernel_rfl) fm.ok trivial⟩
theorem fm.c(n lo hi:Int):fm.call (n,lo,hi)=some (kQ n lo hi):=fm.run (d:=(n,lo,hi)) trivial
abbrev fH.D:=Int×Int×Int
def fH.st:fH.D→SA:=fun(n,low,high)=>([.d ti n,.d ti low,.d ti high],[])
abbrev fH.Y:=Bool
abbrev fH.X:=Bool
def fH.out:fH.X→aT:=fun x=>⟨.d .bool x,[],[]⟩
def fH.add:fH.D→fH.Y→fH.X:=fun(n,low,high) y=>y
def fH.aq:fH.D→Prop:=fun _=>True
def fH.F:fH.D→fH.Y:=fun(n,lo,hi)=>kQ n lo hi
noncomputable def fH.G:dU:=eZ (P:=Tryz.prog) []
noncomputable def fH.an:eu:= {}
noncomputable def fH.A:= @cq Tryz.prog fH.G fH.an 0 Tryz.f64 _ fH.st
abbrev fH.Ok:=cr @fH.A fH.aq fH.add fH.F fH.out
theorem fH.eq{R:Type}(n:Int)(low:Int)(high:Int)(k:aT→Option R):fH.A (n,low,high) k=
  aD ((lk n low)) (
   k (fH.out (yz n high))) (
   k (fH.out false)):=by kernel_rfl
theorem fH.ok:fH.Ok:=by
 rintro⟨n,lo,hi⟩ _
 rw[fH.eq]
 simp only[fH.add,fH.F,kQ]
 have e:decide (lo≤n)=lk n lo:=rfl
 rw[e]
 cases lk n lo <;> rfl
noncomputable def fH.E:=Entry.cD [some ti,some ti,some ti] fH.st fH.aq fH.add fH.F fH.out
noncomputable def fH.call:fH.D→Option fH.X:=bC fH.E fH.st
theorem fH.run:bD fH.call fH.aq fH.add fH.F:=cw (cv [.d ti,.d ti,.d ti] fun _=>by kernel_rfl)
noncomputable def fH.sg:SG Tryz.prog:=⟨64,aK,fH.E,.fn 0 (by kernel_rfl) fH.ok trivial⟩
theorem fH.c(n lo hi:Int):fH.call (n,lo,hi)=some (kQ n lo hi):=fH.run (d:=(n,lo,hi)) trivial
abbrev jE.D:=Int×Int×Int
def jE.st:jE.D→SA:=fun(n,low,high)=>([.d ti n,.d ti low,.d ti high],[])
abbrev jE.Y:=Bool
abbrev jE.X:=Bool
def jE.out:jE.X→aT:=fun x=>⟨.d .bool x,[],[]⟩
def jE.add:jE.D→jE.Y→jE.X:=fun(n,low,high) y=>y
def jE.aq:jE.D→Prop:=fun _=>True
def jE.F:jE.D→jE.Y:=fun(n,lo,hi)=>kQ n lo hi
noncomputable def jE.G:dU:=eZ (P:=Tryz.prog) []
noncomputable def jE.an:eu:= {}
noncomputable def jE.A:= @cq Tryz.prog jE.G jE.an 0 Tryz.f168 _ jE.st
abbrev jE.Ok:=cr @jE.A jE.aq jE.add jE.F jE.out
theorem jE.eq{R:Type}(n:Int)(low:Int)(high:Int)(k:aT→Option R):jE.A (n,low,high) k=
  aD ((yz low n)) (
   k (jE.out (yz n high))) (
   k (jE.out false)):=by kernel_rfl
theorem jE.ok:jE.Ok:=by
 rintro⟨n,lo,hi⟩ _
 rw[jE.eq]
 simp only[jE.add,jE.F,kQ]
 have e:decide (lo≤n)=yz lo n:=rfl
 rw[e]
 cases yz lo n <;> rfl
noncomputable def jE.E:=Entry.cD [some ti,some ti,some ti] jE.st jE.aq jE.add jE.F jE.out
noncomputable def jE.call:jE.D→Option jE.X:=bC jE.E jE.st
theorem jE.run:bD jE.call jE.aq jE.add jE.F:=cw (cv [.d ti,.d ti,.d ti] fun _=>by kernel_rfl)
noncomputable def jE.sg:SG Tryz.prog:=⟨168,aK,jE.E,.fn 0 (by kernel_rfl) jE.ok trivial⟩
theorem jE.c(n lo hi:Int):jE.call (n,lo,hi)=some (kQ n lo hi):=jE.run (d:=(n,lo,hi)) trivial
abbrev kj.D:=Int
def kj.st:kj.D→SA:=fun conds=>([.d ti conds],[])
abbrev kj.Y:=Int
abbrev kj.X:=Int
def kj.out:kj.X→aT:=fun x=>⟨.d ti x,[],[]⟩
def kj.add:kj.D→kj.Y→kj.X:=fun conds y=>y
def kj.aq:kj.D→Prop:=fun _=>True
def kj.F:kj.D→kj.Y:=fun n=>Fe n
noncomputable def kj.G:dU:=eZ (P:=Tryz.prog) [fm.sg]
noncomputable def kj.an:eu:= {}
noncomputable def kj.A:= @cq Tryz.prog kj.G kj.an 0 Tryz.f158 _ kj.st
abbrev kj.Ok:=cr @kj.A kj.aq kj.add kj.F kj.out
theorem kj.eq{R:Type}(conds:Int)(k:aT→Option R):kj.A conds k=
  ab (fm.call (conds,(0:Int),(16:Int))) fun x1=>
  aD ((!x1)) (
   k (kj.out (0:Int))) (
   k (kj.out (bo .i64 (36:Int) (eK .i64 (bo .i64 (4:Int) conds) (8:Int))))):=by kernel_rfl
theorem kj.ok:kj.Ok:=by
 intro(n:Int) _
 rw[kj.eq,fm.c]
 simp only[aa,kj.add,kj.F,Fe]
 by_cases h:0≤n∧n≤16
 ·rw[ik h.1 h.2,if_pos h,Bool.not_true,ae,show bo .i64 4 n=4+n from cR (by omega) (by omega),iw (by omega) (by omega),cR (by omega) (by omega)]
  rw[show(36+(4+n)*8:Int)=68+8*n by omega]
 ·rw[jP h,if_neg h];rfl
noncomputable def kj.E:=Entry.cD [some ti] kj.st kj.aq kj.add kj.F kj.out
noncomputable def kj.call:kj.D→Option kj.X:=bC kj.E kj.st
theorem kj.run:bD kj.call kj.aq kj.add kj.F:=cw (cv [.d ti] fun _=>by kernel_rfl)
noncomputable def kj.sg:SG Tryz.prog:=⟨158,aK,kj.E,.fn 0 (by kernel_rfl) kj.ok trivial⟩
abbrev eG.D:=Int×Int
def eG.st:eG.D→SA:=fun(bp,conds)=>([.d ti bp,.d ti conds],[])
abbrev eG.Y:=Int
abbrev eG.X:=Int
def eG.out:eG.X→aT:=fun x=>⟨.d ti x,[],[]⟩
def eG.add:eG.D→eG.Y→eG.X:=fun(bp,conds) y=>y
def eG.aq:eG.D→Prop:=fun _=>True
def eG.F:eG.D→eG.Y:=fun(r,n)=>tG r n
noncomputable def eG.G:dU:=eZ (P:=Tryz.prog) [fm.sg,kj.sg]
noncomputable def eG.an:eu:= {}
noncomputable def eG.A:= @cq Tryz.prog eG.G eG.an 0 Tryz.f120 _ eG.st
abbrev eG.Ok:=cr @eG.A eG.aq eG.add eG.F eG.out
theorem eG.eq{R:Type}(bp:Int)(conds:Int)(k:aT→Option R):eG.A (bp,conds) k=
  ab (fm.call (bp,(0:Int),(1000:Int))) fun x1=>
  aD ((!x1)) (
   k (eG.out (0:Int))) (
   ab (kj.call conds) fun x2=>
   k (eG.out (eK .i64 bp x2))):=by kernel_rfl
theorem eG.ok:eG.Ok:=by
 rintro⟨r,n⟩ _
 rw[eG.eq,fm.c]
 simp only[aa,eG.add,eG.F,tG]
 by_cases h:0≤r∧r≤1000
 ·have hw:=Bw n
  have hm:=rq h.1 h.2 hw.1 hw.2
  rw[ik h.1 h.2,if_pos h,Bool.not_true,ae,kj.run (d:=n) trivial]
  simp only[aa,kj.add,kj.F]
  rw[iw (by omega) (by omega)]
 ·rw[jP h,if_neg h];rfl
noncomputable def eG.E:=Entry.cD [some ti,some ti] eG.st eG.aq eG.add eG.F eG.out
noncomputable def eG.call:eG.D→Option eG.X:=bC eG.E eG.st
theorem eG.run:bD eG.call eG.aq eG.add eG.F:=cw (cv [.d ti,.d ti] fun _=>by kernel_rfl)
noncomputable def eG.sg:SG Tryz.prog:=⟨120,aK,eG.E,.fn 0 (by kernel_rfl) eG.ok trivial⟩
abbrev b8.D:=Int
def b8.st:b8.D→SA:=fun conds=>([.d ti conds],[])
abbrev b8.Y:=Int
abbrev b8.X:=Int
def b8.out:b8.X→aT:=fun x=>⟨.d ti x,[],[]⟩
def b8.add:b8.D→b8.Y→b8.X:=fun conds y=>y
def b8.aq:b8.D→Prop:=fun _=>True
def b8.F:b8.D→b8.Y:=fun n=>Fe n
noncomputable def b8.G:dU:=eZ (P:=Tryz.prog) []
noncomputable def b8.an:eu:= {}
noncomputable def b8.A:= @cq Tryz.prog b8.G b8.an 0 Tryz.f43 _ b8.st
abbrev b8.Ok:=cr @b8.A b8.aq b8.add b8.F b8.out
theorem b8.eq{R:Type}(conds:Int)(k:aT→Option R):b8.A conds k=
  aD ((gM conds (0:Int))) (
   k (b8.out (0:Int))) (
   aD ((mX conds (16:Int))) (
    k (b8.out (0:Int))) (
    k (b8.out (bo .i64 (68:Int) (eK .i64 (8:Int) conds))))):=by kernel_rfl
theorem b8.ok:b8.Ok:=by
 intro(n:Int) _
 rw[b8.eq]
 simp only[b8.add,b8.F,Fe]
 by_cases h:n < 0
 ·rw[bB h,ah,if_neg (by omega)]
 ·rw[bk h,ae]
  by_cases h2:n > 16
  ·rw[ee h2,ah,if_neg (by omega)]
  ·rw[dj h2,ae,if_pos ⟨by omega,by omega⟩,iw (by omega) (by omega),cR (by omega) (by omega)]
noncomputable def b8.E:=Entry.cD [some ti] b8.st b8.aq b8.add b8.F b8.out
noncomputable def b8.call:b8.D→Option b8.X:=bC b8.E b8.st
theorem b8.run:bD b8.call b8.aq b8.add b8.F:=cw (cv [.d ti] fun _=>by kernel_rfl)
noncomputable def b8.sg:SG Tryz.prog:=⟨43,aK,b8.E,.fn 0 (by kernel_rfl) b8.ok trivial⟩
abbrev dY.D:=Int×Int
def dY.st:dY.D→SA:=fun(bp,conds)=>([.d ti bp,.d ti conds],[])
abbrev dY.Y:=Int
abbrev dY.X:=Int
def dY.out:dY.X→aT:=fun x=>⟨.d ti x,[],[]⟩
def dY.add:dY.D→dY.Y→dY.X:=fun(bp,conds) y=>y
def dY.aq:dY.D→Prop:=fun _=>True
def dY.F:dY.D→dY.Y:=fun(r,n)=>tG r n
noncomputable def dY.G:dU:=eZ (P:=Tryz.prog) [b8.sg]
noncomputable def dY.an:eu:= {}
noncomputable def dY.A:= @cq Tryz.prog dY.G dY.an 0 Tryz.f16 _ dY.st
abbrev dY.Ok:=cr @dY.A dY.aq dY.add dY.F dY.out
theorem dY.eq{R:Type}(bp:Int)(conds:Int)(k:aT→Option R):dY.A (bp,conds) k=
  aD ((gM bp (0:Int))) (
   k (dY.out (0:Int))) (
   aD ((mX bp (1000:Int))) (
    k (dY.out (0:Int))) (
    ab (b8.call conds) fun x1=>
    k (dY.out (eK .i64 bp x1)))):=by kernel_rfl
theorem dY.ok:dY.Ok:=by
 rintro⟨r,n⟩ _
 rw[dY.eq]
 simp only[dY.add,dY.F,tG]
 by_cases h:r < 0
 ·rw[bB h,ah,if_neg (by omega)]
 ·rw[bk h,ae]
  by_cases h2:r > 1000
  ·rw[ee h2,ah,if_neg (by omega)]
  ·have hw:=Bw n
   have hm:=rq (r:=r) (by omega) (show r≤1000 by omega) hw.1 hw.2
   rw[dj h2,ae,if_pos ⟨by omega,by omega⟩,b8.run (d:=n) trivial]
   simp only[aa,b8.add,b8.F]
   rw[iw (by omega) (by omega)]
noncomputable def dY.E:=Entry.cD [some ti,some ti] dY.st dY.aq dY.add dY.F dY.out
noncomputable def dY.call:dY.D→Option dY.X:=bC dY.E dY.st
theorem dY.run:bD dY.call dY.aq dY.add dY.F:=cw (cv [.d ti,.d ti] fun _=>by kernel_rfl)
noncomputable def dY.sg:SG Tryz.prog:=⟨16,aK,dY.E,.fn 0 (by kernel_rfl) dY.ok trivial⟩
abbrev cz.D:=yC×Int
def cz.st:cz.D→SA:=fun(t,amount)=>([.d iY t,.d ti amount],[])
abbrev cz.Y:=Bool
abbrev cz.X:=Bool
def cz.out:cz.X→aT:=fun x=>⟨.d .bool x,[],[]⟩
def cz.add:cz.D→cz.Y→cz.X:=fun(t,amount) y=>y
def cz.aq:cz.D→Prop:=fun _=>True
def cz.F:cz.D→cz.Y:=fun(t,n)=>lk n t.1
noncomputable def cz.G:dU:=eZ (P:=Tryz.prog) []
noncomputable def cz.an:eu:= {}
noncomputable def cz.A:= @cq Tryz.prog cz.G cz.an 0 Tryz.f14 _ cz.st
abbrev cz.Ok:=cr @cz.A cz.aq cz.add cz.F cz.out
theorem cz.eq{R:Type}(t:yC)(amount:Int)(k:aT→Option R):cz.A (t,amount) k=
 k (cz.out (lk amount t.1)):=by kernel_rfl
theorem cz.ok:cz.Ok:=by
 rintro⟨t,n⟩ _
 rw[cz.eq]
 rfl
noncomputable def cz.E:=Entry.cD [some iY,some ti] cz.st cz.aq cz.add cz.F cz.out
noncomputable def cz.call:cz.D→Option cz.X:=bC cz.E cz.st
theorem cz.run:bD cz.call cz.aq cz.add cz.F:=cw (cv [.d iY,.d ti] fun _=>by kernel_rfl)
noncomputable def cz.sg:SG Tryz.prog:=⟨14,aK,cz.E,.fn 0 (by kernel_rfl) cz.ok trivial⟩
abbrev ke.D:=yC
def ke.st:ke.D→SA:=fun t=>([.d iY t],[])
abbrev ke.Y:=Bool
abbrev ke.X:=Bool
def ke.out:ke.X→aT:=fun x=>⟨.d .bool x,[],[]⟩
def ke.add:ke.D→ke.Y→ke.X:=fun t y=>y
def ke.aq:ke.D→Prop:=fun t=>t=te 5∨t=te 6
def ke.F:ke.D→ke.Y:=fun _=>true
noncomputable def ke.G:dU:=eZ (P:=Tryz.prog) [fm.sg]
noncomputable def ke.an:eu:= {}
noncomputable def ke.A:= @cq Tryz.prog ke.G ke.an 0 Tryz.f117 _ ke.st
abbrev ke.Ok:=cr @ke.A ke.aq ke.add ke.F ke.out
theorem ke.eq{R:Type}(t:yC)(k:aT→Option R):ke.A t k=
  ab (fm.call (t.1,(0:Int),(65536:Int))) fun x1=>
  aD (x1) (
   ab (fm.call (t.2.1,t.1,(1125899906842624:Int))) fun x2=>
   aD (x2) (
    ab (fm.call (t.2.2.1,(1:Int),(4096:Int))) fun x3=>
    aD (x3) (
     ab (fm.call (t.2.2.2.1,(0:Int),(16:Int))) fun x4=>
     aD (x4) (
      ab (fm.call (t.2.2.2.2.1,(1:Int),(1125899906842624:Int))) fun x5=>
      aD (x5) (
       ab (fm.call (t.2.2.2.2.2.1,(0:Int),(1125899906842624:Int))) fun x6=>
       k (ke.out x6)) (
       k (ke.out false))) (
      k (ke.out false))) (
     k (ke.out false))) (
    k (ke.out false))) (
   k (ke.out false)):=by kernel_rfl
theorem ke.ok:ke.Ok:=by
 rintro t (rfl | rfl) <;> (rw[ke.eq];simp only[fm.c,aa];rfl)
noncomputable def ke.E:=Entry.cD [some iY] ke.st ke.aq ke.add ke.F ke.out
noncomputable def ke.call:ke.D→Option ke.X:=bC ke.E ke.st
theorem ke.run:bD ke.call ke.aq ke.add ke.F:=cw (cv [.d iY] fun _=>by kernel_rfl)
noncomputable def ke.sg:SG Tryz.prog:=⟨117,aK,ke.E,.fn 0 (by kernel_rfl) ke.ok trivial⟩
abbrev cJ.D:=yC
def cJ.st:cJ.D→SA:=fun t=>([.d iY t],[])
abbrev cJ.Y:=Bool
abbrev cJ.X:=Bool
def cJ.out:cJ.X→aT:=fun x=>⟨.d .bool x,[],[]⟩
def cJ.add:cJ.D→cJ.Y→cJ.X:=fun t y=>y
def cJ.aq:cJ.D→Prop:=fun t=>t=te 5∨t=te 6
def cJ.F:cJ.D→cJ.Y:=fun _=>true
noncomputable def cJ.G:dU:=eZ (P:=Tryz.prog) [jE.sg]
noncomputable def cJ.an:eu:= {}
noncomputable def cJ.A:= @cq Tryz.prog cJ.G cJ.an 0 Tryz.f134 _ cJ.st
abbrev cJ.Ok:=cr @cJ.A cJ.aq cJ.add cJ.F cJ.out
theorem cJ.eq{R:Type}(t:yC)(k:aT→Option R):cJ.A t k=
  ab (jE.call (t.1,(0:Int),(65536:Int))) fun x1=>
  aD (x1) (
   ab (jE.call (t.2.2.1,(1:Int),(4096:Int))) fun x2=>
   aD (x2) (
    ab (jE.call (t.2.2.2.1,(0:Int),(16:Int))) fun x3=>
    aD (x3) (
     ab (jE.call (t.2.1,t.1,(1125899906842624:Int))) fun x4=>
     aD (x4) (
      ab (jE.call (t.2.2.2.2.1,(1:Int),(1125899906842624:Int))) fun x5=>
      aD (x5) (
       ab (jE.call (t.2.2.2.2.2.1,(0:Int),(1125899906842624:Int))) fun x6=>
       k (cJ.out x6)) (
       k (cJ.out false))) (
      k (cJ.out false))) (
     k (cJ.out false))) (
    k (cJ.out false))) (
   k (cJ.out false)):=by kernel_rfl
theorem cJ.ok:cJ.Ok:=by
 rintro t (rfl | rfl) <;> (rw[cJ.eq];simp only[jE.c,aa];rfl)
noncomputable def cJ.E:=Entry.cD [some iY] cJ.st cJ.aq cJ.add cJ.F cJ.out
noncomputable def cJ.call:cJ.D→Option cJ.X:=bC cJ.E cJ.st
theorem cJ.run:bD cJ.call cJ.aq cJ.add cJ.F:=cw (cv [.d iY] fun _=>by kernel_rfl)
noncomputable def cJ.sg:SG Tryz.prog:=⟨134,aK,cJ.E,.fn 0 (by kernel_rfl) cJ.ok trivial⟩
abbrev dW.D:=Int
def dW.st:dW.D→SA:=fun p=>([.d tu p],[])
abbrev dW.Y:=Bool
abbrev dW.X:=Bool
def dW.out:dW.X→aT:=fun x=>⟨.d .bool x,[],[]⟩
def dW.add:dW.D→dW.Y→dW.X:=fun p y=>y
def dW.aq:dW.D→Prop:=fun p=>fo p
def dW.F:dW.D→dW.Y:=fun p=>we p
noncomputable def dW.G:dU:=eZ (P:=Tryz.prog) [cg.sg]
noncomputable def dW.an:eu:= {}
noncomputable def dW.A:= @cq Tryz.prog dW.G dW.an 0 Tryz.f118 _ dW.st
abbrev dW.Ok:=cr @dW.A dW.aq dW.add dW.F dW.out
theorem dW.eq{R:Type}(p:Int)(k:aT→Option R):dW.A p k=
  ab (cg.call p) fun x1=>
  aD (x1) (
   k (dW.out (qQ p (1:Int)))) (
   k (dW.out false)):=by kernel_rfl
theorem dW.ok:dW.Ok:=by
 intro p hp
 rw[dW.eq,cg.run (d:=p) hp]
 simp only[aa,cg.add,cg.F,dW.add,dW.F,we]
 cases lq p <;> rfl
noncomputable def dW.E:=Entry.cD [some tu] dW.st dW.aq dW.add dW.F dW.out
noncomputable def dW.call:dW.D→Option dW.X:=bC dW.E dW.st
theorem dW.run:bD dW.call dW.aq dW.add dW.F:=cw (cv [.d tu] fun _=>by kernel_rfl)
noncomputable def dW.sg:SG Tryz.prog:=⟨118,aK,dW.E,.fn 0 (by kernel_rfl) dW.ok trivial⟩
theorem dW.g{p:Int}(h:Dx p):dW.call p=some true:=by
 rw[dW.run (d:=p) h.1]
 simp only[dW.add,dW.F,h.2]
abbrev bE.L0.D:=fF×Int
def bE.L0.st:bE.L0.D→AS:=fun(ch_2,i)=>⟨([.undef,.fj iu ch_2,.undef,.d ti i]++bw 67 []),[],(List.replicate 71 [])⟩
abbrev bE.L0.Y0:=Unit
abbrev bE.L0.X0:=Unit
def bE.L0.bK:bE.L0.X0→Exit×AS:=fun x=>(.ret,⟨([.undef,.undef,.d ti (1:Int)]++bw 68 []),[],(List.replicate 71 [])⟩)
abbrev bE.L0.Y1:=Unit
abbrev bE.L0.X1:=fF
def bE.L0.iW:bE.L0.X1→Exit×AS:=fun x=>(.exit 0,⟨([.undef,.fj iu x]++bw 69 []),[],(List.replicate 71 [])⟩)
abbrev bE.L0.X:=(bE.L0.X0)⊕(bE.L0.X1)
abbrev bE.L0.Y:=(bE.L0.Y0)⊕(bE.L0.Y1)
def bE.L0.out:bE.L0.X→Out (Exit×AS):=fun x=> .br x.isLeft (.get x.getLeft? fun a=> .ok (bE.L0.bK a)) (.get x.getRight? fun b=> .ok (bE.L0.iW b))
def bE.L0.add:bE.L0.D→bE.L0.Y→bE.L0.X:=fun(ch_2,i) y=>match y with | .inl y=> .inl y | .inr z=> .inr (ch_2)
abbrev bE.D:=fF
def bE.st:bE.D→SA:=fun ch=>([.d iu ch],[])
abbrev bE.Y:=Int
abbrev bE.X:=Int
def bE.out:bE.X→aT:=fun x=>⟨.d ti x,[],[]⟩
def bE.add:bE.D→bE.Y→bE.X:=fun ch y=>y
def bE.L0.aq:bE.L0.D→Prop:=fun(ch,i)=>jn ch∧∃k:Nat,k≤2∧i=k
def bE.L0.F:bE.L0.D→bE.L0.Y:=fun _=> .inr ()
def bE.aq:bE.D→Prop:=fun ch=>jn ch
def bE.F:bE.D→bE.Y:=fun _=>0
noncomputable def bE.G:dU:=eZ (P:=Tryz.prog) [fm.sg,ke.sg,dW.sg]
noncomputable def bE.L0.E:=cf.cD bE.L0.st bE.L0.aq bE.L0.add bE.L0.F bE.L0.out
noncomputable def bE.L0.call:bE.L0.D→Option bE.L0.X:=dL bE.L0.E bE.L0.st
noncomputable def bE.an:eu:= {loops:=ki [(4,{bu:=[1,3]}),(11,{bu:=[1,3,5,6],sites:=[4,9,15,21,47,57]})],outs:=kh [(4,{bu:=[1]},{bu:=[2]}),(11,{bu:=[1,3],sites:=[4,9,15,21,47,57]},{bu:=[2],sites:=[4,9,15,21,47,57]})],gq:=lv [(4,bE.L0.E)]}
noncomputable def bE.A:= @cq Tryz.prog bE.G bE.an 6 Tryz.f63 _ bE.st
abbrev bE.Ok:=cr @bE.A bE.aq bE.add bE.F bE.out
noncomputable def bE.L0.R:= @cM Tryz.prog bE.G bE.an 6 Tryz.f63 0 _ bE.L0.st
abbrev bE.L0.Ok:=fk Tryz.prog bE.G bE.an 6 Tryz.f63 0 bE.L0.st bE.L0.aq bE.L0.add bE.L0.F bE.L0.out
theorem bE.L0.run:bD bE.L0.call bE.L0.aq bE.L0.add bE.L0.F:=fy (fx [.d iu,.d ti] fun _=>by kernel_rfl)
theorem bE.L0.aE:pT @bE.L0.R bE.L0.st bE.L0.aq bE.L0.add bE.L0.F bE.L0.out bE.L0.Ok:=qo
theorem bE.L0.step{R:Type}(ch_2:fF)(i:Int)(kn:AS→Option R)(kx:Exit→AS→Option R):bE.L0.R (ch_2,i) kn kx=
  aD ((gM i (2:Int))) (
   aD (dZ i (2:Int)) (
   aD (dZ i (2:Int)) (
   ab (ke.call (nth iY ch_2.2.2.2.1 (Int.toNat i))) fun x1=>
   aD ((!x1)) (
    kx (bE.L0.bK ()).1 (bE.L0.bK ()).2) (
    ab (dW.call (nth ma ch_2.2.2.1 (Int.toNat i)).1) fun x2=>
    aD ((!x2)) (
     kx (bE.L0.bK ()).1 (bE.L0.bK ()).2) (
     ab (dW.call (nth ma ch_2.2.2.1 (Int.toNat i)).2.1) fun x3=>
     aD ((!x3)) (
      kx (bE.L0.bK ()).1 (bE.L0.bK ()).2) (
      ab (dW.call (nth ma ch_2.2.2.1 (Int.toNat i)).2.2.1) fun x4=>
      aD ((!x4)) (
       kx (bE.L0.bK ()).1 (bE.L0.bK ()).2) (
       ab (dW.call (nth ma ch_2.2.2.1 (Int.toNat i)).2.2.2.1) fun x5=>
       aD ((!x5)) (
        kx (bE.L0.bK ()).1 (bE.L0.bK ()).2) (
        ab (dW.call (nth ma ch_2.2.2.1 (Int.toNat i)).2.2.2.2.1) fun x6=>
        aD ((!x6)) (
         kx (bE.L0.bK ()).1 (bE.L0.bK ()).2) (
         kn (bE.L0.st (ch_2,(bo .i64 i (1:Int))))))))))) none) none) (
   kx (bE.L0.iW ch_2).1 (bE.L0.iW ch_2).2):=by kernel_rfl
theorem bE.eq{R:Type}(ch:fF)(k:aT→Option R):bE.A ch k=
  ab (fm.call (ch.2.1,(1:Int),(1125899906842624:Int))) fun x1=>
  aD ((!x1)) (
   k (bE.out (1:Int))) (
   ab (fm.call (ch.1.2.1,(0:Int),(63:Int))) fun x2=>
   aD ((!x2)) (
    k (bE.out (1:Int))) (
    ab (fm.call (ch.2.2.2.2.1,(0:Int),(1:Int))) fun x3=>
    aD ((!x3)) (
     k (bE.out (1:Int))) (
     ab (bE.L0.call (ch,(0:Int))) fun x10=>
     aD (x10.isLeft) (
      ab (x10.getLeft?) fun a11=>
      k (bE.out (1:Int))) (
      ab (x10.getRight?) fun b12=>
      aD ((mX (bo .i64 (nth iY b12.2.2.2.1 0).2.1 (nth iY b12.2.2.2.1 1).2.1) b12.2.1)) (
       k (bE.out (10:Int))) (
       k (bE.out (0:Int))))))):=by kernel_rfl
theorem bE.L0.ok:bE.L0.Ok:=by
 refine bE.L0.aE (fun(_,i)=>(2 - i).toNat) ?_
 rintro⟨ch,i⟩ ⟨⟨a,b0,b1,o,rfl,ha,ha2,g0,g1,ho⟩,k,hk,rfl⟩
 have hk:k≤2:=hk
 have hg:jn (pY a b0 b1 o):=⟨a,b0,b1,o,rfl,ha,ha2,g0,g1,ho⟩
 by_cases h:k < 2
 ·left
  refine⟨(pY a b0 b1 o,((k+1:Nat):Int)),⟨hg,k+1,by omega,rfl⟩,by show(2 - ((k+1:Nat):Int)).toNat < (2 - (k:Int)).toNat;omega,rfl,fun kn kx=> ?_⟩
  have ht:nth iY [te 5,te 6] k=te 5∨nth iY [te 5,te 6] k=te 6:=by
   obtain rfl | rfl:k=0∨k=1:=by omega
   ·exact .inl rfl
   ·exact .inr rfl
  have hb:GA (nth ma [b0,b1] k):=by
   obtain rfl | rfl:k=0∨k=1:=by omega
   ·exact g0
   ·exact g1
  rw[bE.L0.step,bB (by omega),ah,bz (by omega) (by omega),ah,ah,Int.toNat_natCast]
  simp only[pY]
  rw[ke.run (d:=nth iY [te 5,te 6] k) ht]
  simp only[aa,ke.add,ke.F,Bool.not_true,ae]
  rw[dW.g hb.1]
  simp only[aa,Bool.not_true,ae]
  rw[dW.g hb.2.1]
  simp only[aa,Bool.not_true,ae]
  rw[dW.g hb.2.2.1]
  simp only[aa,Bool.not_true,ae]
  rw[dW.g hb.2.2.2.1]
  simp only[aa,Bool.not_true,ae]
  rw[dW.g hb.2.2.2.2]
  simp only[aa,Bool.not_true,ae]
  rw[N.mq (by omega)]
 ·right
  obtain rfl:k=2:=by omega
  refine⟨bE.L0.iW (pY a b0 b1 o),rfl,fun kn kx=> ?_⟩
  rw[bE.L0.step,bk (by omega),ae]
theorem bE.ok:bE.Ok:=by
 rintro ch hg
 obtain⟨a,b0,b1,o,rfl,ha,ha2,g0,g1,ho⟩:=id hg
 rw[bE.eq,fm.c,fm.c,fm.c]
 simp only[pY,aa]
 rw[ik (by omega) (by omega),ik (by omega) (by omega),ik (by omega) (by omega)]
 simp only[Bool.not_true,ae]
 have:=bE.L0.run (d:=(pY a b0 b1 o,0)) ⟨hg,0,by omega,rfl⟩
 simp only[pY]at this
 rw[this]
 simp only[aa,bE.L0.add,bE.L0.F,Sum.isLeft_inr,ae,Sum.getRight?_inr]
 rw[show(bo .i64 (nth iY [te 5,te 6] 0).2.1 (nth iY [te 5,te 6] 1).2.1)=400 from rfl,dj (by omega),ae]
 rfl
noncomputable def bE.E:=Entry.cD [some iu] bE.st bE.aq bE.add bE.F bE.out
noncomputable def bE.call:bE.D→Option bE.X:=bC bE.E bE.st
theorem bE.run:bD bE.call bE.aq bE.add bE.F:=cw (cv [.d iu] fun _=>by kernel_rfl)
noncomputable def bE.sg:SG Tryz.prog:=⟨63,aK,bE.E,.fn 2 (by kernel_rfl) bE.ok (And.intro (.cD bE.L0.ok (by kernel_rfl)) (And.intro (.none (by kernel_rfl)) trivial))⟩
abbrev gr.D:=Int
def gr.st:gr.D→SA:=fun p=>([.d tu p],[])
abbrev gr.Y:=Bool
abbrev gr.X:=Bool
def gr.out:gr.X→aT:=fun x=>⟨.d .bool x,[],[]⟩
def gr.add:gr.D→gr.Y→gr.X:=fun p y=>y
def gr.aq:gr.D→Prop:=fun p=>fo p
def gr.F:gr.D→gr.Y:=fun p=> !we p
noncomputable def gr.G:dU:=eZ (P:=Tryz.prog) [cP.sg]
noncomputable def gr.an:eu:= {}
noncomputable def gr.A:= @cq Tryz.prog gr.G gr.an 0 Tryz.f169 _ gr.st
abbrev gr.Ok:=cr @gr.A gr.aq gr.add gr.F gr.out
theorem gr.eq{R:Type}(p:Int)(k:aT→Option R):gr.A p k=
  aD ((jO p (1:Int))) (
   k (gr.out true)) (
   ab (cP.call p) fun x1=>
   k (gr.out (!x1))):=by kernel_rfl
theorem gr.ok:gr.Ok:=by
 intro p hp
 rw[gr.eq]
 simp only[gr.add,gr.F,we]
 by_cases h:p=1
 ·rw[fg h,ah,gO h,Bool.and_false];rfl
 ·rw[eo h,ae,cP.run (d:=p) hp,iM h,Bool.and_true]
  rfl
noncomputable def gr.E:=Entry.cD [some tu] gr.st gr.aq gr.add gr.F gr.out
noncomputable def gr.call:gr.D→Option gr.X:=bC gr.E gr.st
theorem gr.run:bD gr.call gr.aq gr.add gr.F:=cw (cv [.d tu] fun _=>by kernel_rfl)
noncomputable def gr.sg:SG Tryz.prog:=⟨169,aK,gr.E,.fn 0 (by kernel_rfl) gr.ok trivial⟩
abbrev fq.L0.D:=Bs×Int×Int
def fq.L0.st:fq.L0.D→AS:=fun(sv_2,t7,t8)=>⟨([.d tU sv_2,.fn 169 (.nil)]++bw 5 ([.d ti t7,.d ti t8]++bw 10 [])),[],(List.replicate 19 [])⟩
abbrev fq.L0.Y0:=Int
abbrev fq.L0.X0:=Int
def fq.L0.bK:fq.L0.X0→Exit×AS:=fun x=>(.ret,⟨(bw 4 ([.d ti x]++bw 14 [])),[],(List.replicate 19 [])⟩)
abbrev fq.L0.Y1:=Unit
abbrev fq.L0.X1:=Unit
def fq.L0.iW:fq.L0.X1→Exit×AS:=fun x=>(.exit 0,⟨(bw 19 []),[],(List.replicate 19 [])⟩)
abbrev fq.L0.X:=(fq.L0.X0)⊕(fq.L0.X1)
abbrev fq.L0.Y:=(fq.L0.Y0)⊕(fq.L0.Y1)
def fq.L0.out:fq.L0.X→Out (Exit×AS):=fun x=> .br x.isLeft (.get x.getLeft? fun a=> .ok (fq.L0.bK a)) (.get x.getRight? fun b=> .ok (fq.L0.iW b))
def fq.L0.add:fq.L0.D→fq.L0.Y→fq.L0.X:=fun(sv_2,t7,t8) y=>match y with | .inl y=> .inl y | .inr z=> .inr (z)
abbrev fq.D:=Bs
def fq.st:fq.D→SA:=fun sv=>([.d tU sv,.fn 169 (.nil)],[])
abbrev fq.Y:=Int
abbrev fq.X:=Int
def fq.out:fq.X→aT:=fun x=>⟨.d ti x,[],[]⟩
def fq.add:fq.D→fq.Y→fq.X:=fun sv y=>y
def fq.L0.aq:fq.L0.D→Prop:=fun(l,n,i)=>(∀x∈l,fo x)∧l.length≤1000000000∧n=l.length∧∃k:Nat,k≤l.length∧i=k
def fq.L0.F:fq.L0.D→fq.L0.Y:=fun(l,n,i)=>ns (fun p=> !we p) (l.drop i.toNat) i
def fq.aq:fq.D→Prop:=fun l=>(∀x∈l,fo x)∧l.length≤1000000000
def fq.F:fq.D→fq.Y:=fun l=>vV (fun p=> !we p) l
noncomputable def fq.G:dU:=eZ (P:=Tryz.prog) [gr.sg]
noncomputable def fq.L0.E:=cf.cD fq.L0.st fq.L0.aq fq.L0.add fq.L0.F fq.L0.out
noncomputable def fq.L0.call:fq.L0.D→Option fq.L0.X:=dL fq.L0.E fq.L0.st
noncomputable def fq.an:eu:= {loops:=ki [(2,{bu:=[0,1,7,8]})],outs:=kh [(2,{},{bu:=[4]})],gq:=lv [(2,fq.L0.E)]}
noncomputable def fq.A:= @cq Tryz.prog fq.G fq.an 0 Tryz.f77 _ fq.st
abbrev fq.Ok:=cr @fq.A fq.aq fq.add fq.F fq.out
noncomputable def fq.L0.R:= @cM Tryz.prog fq.G fq.an 0 Tryz.f77 0 _ fq.L0.st
abbrev fq.L0.Ok:=fk Tryz.prog fq.G fq.an 0 Tryz.f77 0 fq.L0.st fq.L0.aq fq.L0.add fq.L0.F fq.L0.out
theorem fq.L0.run:bD fq.L0.call fq.L0.aq fq.L0.add fq.L0.F:=fy (fx [.d tU,.d ti,.d ti] fun _=>by kernel_rfl)
theorem fq.L0.aE:pT @fq.L0.R fq.L0.st fq.L0.aq fq.L0.add fq.L0.F fq.L0.out fq.L0.Ok:=qo
theorem fq.L0.step{R:Type}(sv_2:Bs)(t7:Int)(t8:Int)(kn:AS→Option R)(kx:Exit→AS→Option R):fq.L0.R (sv_2,t7,t8) kn kx=
  aD ((gM t8 t7)) (
   aD (dZ t8 (((List.length sv_2):Nat):Int)) (
   ab (gr.call (nth tu sv_2 (Int.toNat t8))) fun x1=>
   aD (x1) (
    kx (fq.L0.bK t8).1 (fq.L0.bK t8).2) (
    kn (fq.L0.st (sv_2,t7,(bo .i64 t8 (1:Int)))))) none) (
   kx (fq.L0.iW ()).1 (fq.L0.iW ()).2):=by kernel_rfl
theorem fq.eq{R:Type}(sv:Bs)(k:aT→Option R):fq.A sv k=
  ab (fq.L0.call (sv,(((List.length sv):Nat):Int),(0:Int))) fun x2=>
  aD (x2.isLeft) (
   ab (x2.getLeft?) fun a3=>
   k (fq.out a3)) (
   ab (x2.getRight?) fun b4=>
   k (fq.out (-1:Int))):=by kernel_rfl
theorem fq.L0.ok:fq.L0.Ok:=by
 refine fq.L0.aE (fun(l,n,i)=>l.length - i.toNat) ?_
 rintro⟨l,n,i⟩ ⟨hl,hb,rfl,k,hk,rfl⟩
 have hb:l.length≤1000000000:=hb
 have hk:k≤l.length:=hk
 by_cases h:k < l.length
 ·have hx:=hl _ (List.getElem_mem h)
  have n1:nth tu l k=l[k]:=dS (t:=tu) h
  have hd:ns (fun p=> !we p) (l.drop k) k=if(fun p=> !we p) l[k] then .inl (k:Int) else ns (fun p=> !we p) (l.drop (k+1)) ((k+1:Nat):Int):=by rw[List.drop_eq_getElem_cons h];rfl
  have step:∀ {R:Type} (kn:AS→Option R) (kx:Exit→AS→Option R),fq.L0.R (l,(l.length:Int),(k:Int)) kn kx=aD ((fun p=> !we p) l[k]) (kx (fq.L0.bK (k:Int)).1 (fq.L0.bK (k:Int)).2) (kn (fq.L0.st (l,(l.length:Int),((k+1:Nat):Int)))):=by
   intro R kn kx
   rw[fq.L0.step,bB (by omega),bz (by omega) (by omega),Int.toNat_natCast,n1,gr.run (d:=l[k]) hx,N.mq (by omega)]
   rfl
  cases hp:(fun p=> !we p) l[k]
  ·left
   refine⟨(l,l.length,((k+1:Nat):Int)),⟨hl,hb,rfl,k+1,by omega,rfl⟩,by simp only[Int.toNat_natCast];omega,?_,fun kn kx=> ?_⟩
   ·simp only[fq.L0.add,fq.L0.F,Int.toNat_natCast,hd,hp,Bool.false_eq_true,if_false]
   ·rw[step,hp,ae]
  ·right
   refine⟨fq.L0.bK (k:Int),?_,fun kn kx=> ?_⟩
   ·simp only[fq.L0.add,fq.L0.F,Int.toNat_natCast,hd,hp,if_true]
    rfl
   ·rw[step,hp,ah]
 ·right
  obtain rfl:k=l.length:=by omega
  refine⟨fq.L0.iW (),?_,fun kn kx=> ?_⟩
  ·simp only[fq.L0.add,fq.L0.F,Int.toNat_natCast,List.drop_length]
   rfl
  ·rw[fq.L0.step,bk (by omega),ae]
theorem fq.ok:fq.Ok:=by
 rintro l ⟨hl,hb⟩
 rw[fq.eq,fq.L0.run (d:=(l,l.length,0)) ⟨hl,hb,rfl,0,by omega,rfl⟩]
 simp only[aa,fq.L0.add,fq.L0.F,Int.toNat_zero,List.drop_zero,fq.add,fq.F,vV]
 cases ns (fun p=> !we p) l 0 <;> rfl
noncomputable def fq.E:=Entry.cD [some tU,none] fq.st fq.aq fq.add fq.F fq.out
noncomputable def fq.call:fq.D→Option fq.X:=bC fq.E fq.st
theorem fq.run:bD fq.call fq.aq fq.add fq.F:=cw (cv [.d tU] fun _=>by kernel_rfl)
noncomputable def fq.sg:SG Tryz.prog:=⟨77,aK,fq.E,.fn 1 (by kernel_rfl) fq.ok (And.intro (.cD fq.L0.ok (by kernel_rfl)) trivial)⟩
abbrev kO.D:=Bs
def kO.st:kO.D→SA:=fun sv=>([.d tU sv,.fn 169 (.nil)],[])
abbrev kO.Y:=Bool
abbrev kO.X:=Bool
def kO.out:kO.X→aT:=fun x=>⟨.d .bool x,[],[]⟩
def kO.add:kO.D→kO.Y→kO.X:=fun sv y=>y
def kO.aq:kO.D→Prop:=fun l=>(∀x∈l,fo x)∧l.length≤1000000000
def kO.F:kO.D→kO.Y:=fun l=>l.any (fun p=> !we p)
noncomputable def kO.G:dU:=eZ (P:=Tryz.prog) [fq.sg]
noncomputable def kO.an:eu:= {}
noncomputable def kO.A:= @cq Tryz.prog kO.G kO.an 0 Tryz.f35 _ kO.st
abbrev kO.Ok:=cr @kO.A kO.aq kO.add kO.F kO.out
theorem kO.eq{R:Type}(sv:Bs)(k:aT→Option R):kO.A sv k=
 ab (fq.call sv) fun x1=>
 k (kO.out (lk x1 (0:Int))):=by kernel_rfl
theorem kO.ok:kO.Ok:=by
 rintro l ⟨hl,hb⟩
 rw[kO.eq,fq.run (d:=l) ⟨hl,hb⟩]
 simp only[aa,fq.add,fq.F,rb]
 rfl
noncomputable def kO.E:=Entry.cD [some tU,none] kO.st kO.aq kO.add kO.F kO.out
noncomputable def kO.call:kO.D→Option kO.X:=bC kO.E kO.st
theorem kO.run:bD kO.call kO.aq kO.add kO.F:=cw (cv [.d tU] fun _=>by kernel_rfl)
noncomputable def kO.sg:SG Tryz.prog:=⟨35,aK,kO.E,.fn 0 (by kernel_rfl) kO.ok trivial⟩
abbrev cl.D:=Cp
def cl.st:cl.D→SA:=fun b=>([.d ma b],[])
abbrev cl.Y:=Bool
abbrev cl.X:=Bool
def cl.out:cl.X→aT:=fun x=>⟨.d .bool x,[],[]⟩
def cl.add:cl.D→cl.Y→cl.X:=fun b y=>y
def cl.aq:cl.D→Prop:=fun b=>GA b
def cl.F:cl.D→cl.Y:=fun _=>true
noncomputable def cl.G:dU:=eZ (P:=Tryz.prog) [kO.sg]
noncomputable def cl.an:eu:= {}
noncomputable def cl.A:= @cq Tryz.prog cl.G cl.an 0 Tryz.f135 _ cl.st
abbrev cl.Ok:=cr @cl.A cl.aq cl.add cl.F cl.out
theorem cl.eq{R:Type}(b:Cp)(k:aT→Option R):cl.A b k=
 ab (kO.call [b.1,b.2.1,b.2.2.1,b.2.2.2.1,b.2.2.2.2.1]) fun x1=>
 k (cl.out (!x1)):=by kernel_rfl
theorem cl.ok:cl.Ok:=by
 intro b hb
 rw[cl.eq,kO.run (d:=[b.1,b.2.1,b.2.2.1,b.2.2.2.1,b.2.2.2.2.1]) ⟨fun x hx=> ?_,by show 5≤_;decide⟩]
 ·simp only[aa,kO.add,kO.F,List.any_cons,List.any_nil,hb.1.2,hb.2.1.2,hb.2.2.1.2,hb.2.2.2.1.2,hb.2.2.2.2.2]
  rfl
 ·simp only[List.mem_cons,List.mem_nil_iff,or_false]at hx
  rcases hx with rfl | rfl | rfl | rfl | rfl
  ·exact hb.1.1
  ·exact hb.2.1.1
  ·exact hb.2.2.1.1
  ·exact hb.2.2.2.1.1
  ·exact hb.2.2.2.2.1
noncomputable def cl.E:=Entry.cD [some ma] cl.st cl.aq cl.add cl.F cl.out
noncomputable def cl.call:cl.D→Option cl.X:=bC cl.E cl.st
theorem cl.run:bD cl.call cl.aq cl.add cl.F:=cw (cv [.d ma] fun _=>by kernel_rfl)
noncomputable def cl.sg:SG Tryz.prog:=⟨135,aK,cl.E,.fn 0 (by kernel_rfl) cl.ok trivial⟩
abbrev bI.L0.D:=fF×(List yC)×Int
def bI.L0.st:bI.L0.D→AS:=fun(ch_2,t34,t35)=>⟨([.undef,.fj iu ch_2]++bw 32 ([.d (.arr 2 iY) t34,.d ti t35]++bw 35 [])),[],(List.replicate 71 [])⟩
abbrev bI.L0.Y0:=Unit
abbrev bI.L0.X0:=Unit
def bI.L0.bK:bI.L0.X0→Exit×AS:=fun x=>(.ret,⟨([.undef,.undef,.d ti (1:Int)]++bw 68 []),[],(List.replicate 71 [])⟩)
abbrev bI.L0.Y1:=Unit
abbrev bI.L0.X1:=fF
def bI.L0.iW:bI.L0.X1→Exit×AS:=fun x=>(.exit 0,⟨([.undef,.fj iu x]++bw 69 []),[],(List.replicate 71 [])⟩)
abbrev bI.L0.X:=(bI.L0.X0)⊕(bI.L0.X1)
abbrev bI.L0.Y:=(bI.L0.Y0)⊕(bI.L0.Y1)
def bI.L0.out:bI.L0.X→Out (Exit×AS):=fun x=> .br x.isLeft (.get x.getLeft? fun a=> .ok (bI.L0.bK a)) (.get x.getRight? fun b=> .ok (bI.L0.iW b))
def bI.L0.add:bI.L0.D→bI.L0.Y→bI.L0.X:=fun(ch_2,t34,t35) y=>match y with | .inl y=> .inl y | .inr z=> .inr (ch_2)
abbrev bI.D:=fF
def bI.st:bI.D→SA:=fun ch=>([.d iu ch],[])
abbrev bI.Y:=Int
abbrev bI.X:=Int
def bI.out:bI.X→aT:=fun x=>⟨.d ti x,[],[]⟩
def bI.add:bI.D→bI.Y→bI.X:=fun ch y=>y
def bI.L0.aq:bI.L0.D→Prop:=fun(ch,l,i)=>jn ch∧l=[te 5,te 6]∧∃k:Nat,k≤2∧i=k
def bI.L0.F:bI.L0.D→bI.L0.Y:=fun _=> .inr ()
def bI.aq:bI.D→Prop:=fun ch=>jn ch
def bI.F:bI.D→bI.Y:=fun _=>0
noncomputable def bI.G:dU:=eZ (P:=Tryz.prog) [cJ.sg,cl.sg,fM.sg]
noncomputable def bI.L0.E:=cf.cD bI.L0.st bI.L0.aq bI.L0.add bI.L0.F bI.L0.out
noncomputable def bI.L0.call:bI.L0.D→Option bI.L0.X:=dL bI.L0.E bI.L0.st
noncomputable def bI.an:eu:= {loops:=ki [(4,{bu:=[1,34,35]})],outs:=kh [(4,{bu:=[1]},{bu:=[2]})],gq:=lv [(4,bI.L0.E)]}
noncomputable def bI.A:= @cq Tryz.prog bI.G bI.an 0 Tryz.f91 _ bI.st
abbrev bI.Ok:=cr @bI.A bI.aq bI.add bI.F bI.out
noncomputable def bI.L0.R:= @cM Tryz.prog bI.G bI.an 0 Tryz.f91 0 _ bI.L0.st
abbrev bI.L0.Ok:=fk Tryz.prog bI.G bI.an 0 Tryz.f91 0 bI.L0.st bI.L0.aq bI.L0.add bI.L0.F bI.L0.out
theorem bI.L0.run:bD bI.L0.call bI.L0.aq bI.L0.add bI.L0.F:=fy (fx [.d iu,.d (.slice iY),.d ti] fun _=>by kernel_rfl)
theorem bI.L0.aE:pT @bI.L0.R bI.L0.st bI.L0.aq bI.L0.add bI.L0.F bI.L0.out bI.L0.Ok:=qo
theorem bI.L0.step{R:Type}(ch_2:fF)(t34:(List yC))(t35:Int)(kn:AS→Option R)(kx:Exit→AS→Option R):bI.L0.R (ch_2,t34,t35) kn kx=
  aD ((gM t35 (2:Int))) (
   aD (dZ t35 (2:Int)) (
   ab (cJ.call (nth iY t34 (Int.toNat t35))) fun x1=>
   aD ((!x1)) (
    kx (bI.L0.bK ()).1 (bI.L0.bK ()).2) (
    aD (dZ t35 (2:Int)) (
    ab (cl.call (nth ma ch_2.2.2.1 (Int.toNat t35))) fun x2=>
    aD ((!x2)) (
     kx (bI.L0.bK ()).1 (bI.L0.bK ()).2) (
     kn (bI.L0.st (ch_2,t34,(bo .i64 t35 (1:Int)))))) none)) none) (
   kx (bI.L0.iW ch_2).1 (bI.L0.iW ch_2).2):=by kernel_rfl
theorem bI.eq{R:Type}(ch:fF)(k:aT→Option R):bI.A ch k=
  aD ((gM ch.2.1 (1:Int))) (
   k (bI.out (1:Int))) (
   aD ((mX ch.2.1 (1125899906842624:Int))) (
    k (bI.out (1:Int))) (
    aD ((gM ch.1.2.1 (0:Int))) (
     k (bI.out (1:Int))) (
     aD ((lk ch.1.2.1 (64:Int))) (
      k (bI.out (1:Int))) (
      aD ((qQ (ct .andNot .i64 ch.2.2.2.2.1 (1:Int)) (0:Int))) (
       k (bI.out (1:Int))) (
       ab (bI.L0.call (ch,ch.2.2.2.1,(0:Int))) fun x3=>
       aD (x3.isLeft) (
        ab (x3.getLeft?) fun a4=>
        k (bI.out (1:Int))) (
        ab (x3.getRight?) fun b5=>
        ab (fM.call ((nth iY b5.2.2.2.1 0).2.1,(nth iY b5.2.2.2.1 1).2.1)) fun x6=>
        aD ((!x6.2)) (
         k (bI.out (10:Int))) (
         aD ((mX x6.1 b5.2.1)) (
          k (bI.out (10:Int))) (
          k (bI.out (0:Int)))))))))):=by kernel_rfl
theorem bI.L0.ok:bI.L0.Ok:=by
 refine bI.L0.aE (fun(_,_,i)=>(2 - i).toNat) ?_
 rintro⟨ch,l,i⟩ ⟨⟨a,b0,b1,o,rfl,ha,ha2,g0,g1,ho⟩,rfl,k,hk,rfl⟩
 have hk:k≤2:=hk
 have hg:jn (pY a b0 b1 o):=⟨a,b0,b1,o,rfl,ha,ha2,g0,g1,ho⟩
 by_cases h:k < 2
 ·left
  refine⟨(pY a b0 b1 o,[te 5,te 6],((k+1:Nat):Int)),⟨hg,rfl,k+1,by omega,rfl⟩,by show(2 - ((k+1:Nat):Int)).toNat < (2 - (k:Int)).toNat;omega,rfl,fun kn kx=> ?_⟩
  have ht:nth iY [te 5,te 6] k=te 5∨nth iY [te 5,te 6] k=te 6:=by
   obtain rfl | rfl:k=0∨k=1:=by omega
   ·exact .inl rfl
   ·exact .inr rfl
  have hb:GA (nth ma [b0,b1] k):=by
   obtain rfl | rfl:k=0∨k=1:=by omega
   ·exact g0
   ·exact g1
  rw[bI.L0.step,bB (by omega),ah,bz (by omega) (by omega),ah,Int.toNat_natCast]
  rw[cJ.run (d:=nth iY [te 5,te 6] k) ht]
  simp only[aa,cJ.add,cJ.F,Bool.not_true,ae,ah]
  simp only[pY]
  rw[cl.run (d:=nth ma [b0,b1] k) hb]
  simp only[aa,cl.add,cl.F,Bool.not_true,ae]
  rw[N.mq (by omega)]
 ·right
  obtain rfl:k=2:=by omega
  refine⟨bI.L0.iW (pY a b0 b1 o),rfl,fun kn kx=> ?_⟩
  rw[bI.L0.step,bk (by omega),ae]
theorem Fq{o:Int}(h:o=0∨o=1):qQ (ct .andNot .i64 o 1) 0=false:=by
 rcases h with rfl | rfl
 ·decide
 ·decide
theorem bI.ok:bI.Ok:=by
 rintro ch hg
 obtain⟨a,b0,b1,o,rfl,ha,ha2,g0,g1,ho⟩:=id hg
 have hl:=bI.L0.run (d:=(pY a b0 b1 o,[te 5,te 6],0)) ⟨hg,rfl,0,by omega,rfl⟩
 rw[bI.eq]
 simp only[pY]at hl
 simp only[pY,aa]
 rw[bk (by omega),ae,dj (by omega),ae,bk (by omega),ae,fR (by omega),ae,Fq ho,ae,hl]
 simp only[aa,bI.L0.add,bI.L0.F,Sum.isLeft_inr,ae,Sum.getRight?_inr]
 rw[fM.run (d:=((nth iY [te 5,te 6] 0).2.1,(nth iY [te 5,te 6] 1).2.1)) trivial]
 simp only[aa,fM.add,fM.F]
 rw[show(bif nH (nth iY [te 5,te 6] 0).2.1 (nth iY [te 5,te 6] 1).2.1 then(nth iY [te 5,te 6] 0).2.1+(nth iY [te 5,te 6] 1).2.1 else 0)=400 from rfl,show nH (nth iY [te 5,te 6] 0).2.1 (nth iY [te 5,te 6] 1).2.1=true from rfl,Bool.not_true,ae,dj (by omega),ae]
 rfl
noncomputable def bI.E:=Entry.cD [some iu] bI.st bI.aq bI.add bI.F bI.out
noncomputable def bI.call:bI.D→Option bI.X:=bC bI.E bI.st
theorem bI.run:bD bI.call bI.aq bI.add bI.F:=cw (cv [.d iu] fun _=>by kernel_rfl)
noncomputable def bI.sg:SG Tryz.prog:=⟨91,aK,bI.E,.fn 1 (by kernel_rfl) bI.ok (And.intro (.cD bI.L0.ok (by kernel_rfl)) trivial)⟩
set_option synthInstance.maxSize 5000
abbrev df.D:=fG
def df.st:df.D→SA:=fun c=>([.d gl c],[])
abbrev df.Y:=Bool
abbrev df.X:=Bool
def df.out:df.X→aT:=fun x=>⟨.d .bool x,[],[]⟩
def df.add:df.D→df.Y→df.X:=fun c y=>y
def df.aq:df.D→Prop:=fun c=>fo c.2.2.2.1
def df.F:df.D→df.Y:=fun c=>yy c
noncomputable def df.G:dU:=eZ (P:=Tryz.prog) [cg.sg,fH.sg]
noncomputable def df.an:eu:= {}
noncomputable def df.A:= @cq Tryz.prog df.G df.an 0 Tryz.f65 _ df.st
abbrev df.Ok:=cr @df.A df.aq df.add df.F df.out
theorem df.eq{R:Type}(c:fG)(k:aT→Option R):df.A c k=
  ab (cg.call c.2.2.2.1) fun x1=>
  aD (x1) (
   aD ((qQ c.2.2.2.1 (1:Int))) (
    ab (fH.call (c.1,(0:Int),(1:Int))) fun x2=>
    aD (x2) (
     ab (fH.call (c.2.1,(1:Int),(1048576:Int))) fun x3=>
     aD (x3) (
      ab (fH.call (c.2.2.1,(1:Int),(1125899906842624:Int))) fun x4=>
      aD (x4) (
       ab (fH.call (c.2.2.2.2.1,(1:Int),(1048576:Int))) fun x5=>
       k (df.out x5)) (
       k (df.out false))) (
      k (df.out false))) (
     k (df.out false))) (
    k (df.out false))) (
   k (df.out false)):=by kernel_rfl
theorem df.ok:df.Ok:=by
 intro c hc
 rw[df.eq,cg.run (d:=c.2.2.2.1) hc]
 simp only[aa,fH.c,cg.add,cg.F,df.add,df.F,yy,we]
 cases lq c.2.2.2.1 <;> cases qQ c.2.2.2.1 1 <;> cases kQ c.1 0 1 <;> cases kQ c.2.1 1 1048576 <;> cases kQ c.2.2.1 1 1125899906842624 <;> rfl
noncomputable def df.E:=Entry.cD [some gl] df.st df.aq df.add df.F df.out
noncomputable def df.call:df.D→Option df.X:=bC df.E df.st
theorem df.run:bD df.call df.aq df.add df.F:=cw (cv [.d gl] fun _=>by kernel_rfl)
noncomputable def df.sg:SG Tryz.prog:=⟨65,aK,df.E,.fn 0 (by kernel_rfl) df.ok trivial⟩
abbrev cm.D:=fG×fG
def cm.st:cm.D→SA:=fun(a,b)=>([.d gl a,.d gl b],[])
abbrev cm.Y:=Bool
abbrev cm.X:=Bool
def cm.out:cm.X→aT:=fun x=>⟨.d .bool x,[],[]⟩
def cm.add:cm.D→cm.Y→cm.X:=fun(a,b) y=>y
def cm.aq:cm.D→Prop:=fun _=>True
def cm.F:cm.D→cm.Y:=fun(a,b)=>r9 a b
noncomputable def cm.G:dU:=eZ (P:=Tryz.prog) []
noncomputable def cm.an:eu:= {}
noncomputable def cm.A:= @cq Tryz.prog cm.G cm.an 0 Tryz.f66 _ cm.st
abbrev cm.Ok:=cr @cm.A cm.aq cm.add cm.F cm.out
theorem cm.eq{R:Type}(a:fG)(b:fG)(k:aT→Option R):cm.A (a,b) k=
  aD ((gM a.1 b.1)) (
   k (cm.out true)) (
   aD ((jO a.1 b.1)) (
    k (cm.out (gM a.2.1 b.2.1))) (
    k (cm.out false))):=by kernel_rfl
theorem cm.ok:cm.Ok:=by
 rintro⟨a,b⟩ _
 rw[cm.eq]
 simp only[cm.add,cm.F,r9]
 by_cases h:a.1 < b.1
 ·rw[bB h,ah,aL (.inl h)]
 ·rw[bk h,ae]
  by_cases h2:a.1=b.1
  ·rw[fg h2,ah]
   by_cases h3:a.2.1 < b.2.1
   ·rw[bB h3,aL (.inr ⟨h2,h3⟩)]
   ·rw[bk h3,bN (by rintro(x | x);exact h x;exact h3 x.2)]
  ·rw[eo h2,ae,bN (by rintro(x | x);exact h x;exact h2 x.1)]
noncomputable def cm.E:=Entry.cD [some gl,some gl] cm.st cm.aq cm.add cm.F cm.out
noncomputable def cm.call:cm.D→Option cm.X:=bC cm.E cm.st
theorem cm.run:bD cm.call cm.aq cm.add cm.F:=cw (cv [.d gl,.d gl] fun _=>by kernel_rfl)
noncomputable def cm.sg:SG Tryz.prog:=⟨66,aK,cm.E,.fn 0 (by kernel_rfl) cm.ok trivial⟩
theorem cm.c(a b:fG):cm.call (a,b)=some (r9 a b):=cm.run (d:=(a,b)) trivial
abbrev dy.D:=fF×fL
def dy.st:dy.D→SA:=fun(ch,sv)=>([.d iu ch,.d hZ sv],[])
abbrev dy.Y:=Int
abbrev dy.X:=Int
def dy.out:dy.X→aT:=fun x=>⟨.d ti x,[],[]⟩
def dy.add:dy.D→dy.Y→dy.X:=fun(ch,sv) y=>y
def dy.aq:dy.D→Prop:=fun _=>True
def dy.F:dy.D→dy.Y:=fun(_,s)=>tG s.2.2.2.1 s.2.2.1.length+660
noncomputable def dy.G:dU:=eZ (P:=Tryz.prog) [eG.sg]
noncomputable def dy.an:eu:= {}
noncomputable def dy.A:= @cq Tryz.prog dy.G dy.an 0 Tryz.f69 _ dy.st
abbrev dy.Ok:=cr @dy.A dy.aq dy.add dy.F dy.out
theorem dy.eq{R:Type}(ch:fF)(sv:fL)(k:aT→Option R):dy.A (ch,sv) k=
 ab (eG.call (sv.2.2.2.1,(((List.length sv.2.2.1):Nat):Int))) fun x1=>
 k (dy.out (bo .i64 x1 (660:Int))):=by kernel_rfl
theorem dy.ok:dy.Ok:=by
 rintro⟨ch,s⟩ _
 rw[dy.eq,eG.run (d:=(s.2.2.2.1,(s.2.2.1.length:Int))) trivial]
 simp only[aa,eG.add,eG.F,dy.add,dy.F]
 have:=o5 s.2.2.2.1 s.2.2.1.length
 rw[cR (by omega) (by omega)]
noncomputable def dy.E:=Entry.cD [some iu,some hZ] dy.st dy.aq dy.add dy.F dy.out
noncomputable def dy.call:dy.D→Option dy.X:=bC dy.E dy.st
theorem dy.run:bD dy.call dy.aq dy.add dy.F:=cw (cv [.d iu,.d hZ] fun _=>by kernel_rfl)
noncomputable def dy.sg:SG Tryz.prog:=⟨69,aK,dy.E,.fn 0 (by kernel_rfl) dy.ok trivial⟩
abbrev dO.D:=fF×fL
def dO.st:dO.D→SA:=fun(ch,sv)=>([.d iu ch,.d hZ sv],[])
abbrev dO.Y:=Int
abbrev dO.X:=Int
def dO.out:dO.X→aT:=fun x=>⟨.d ti x,[],[]⟩
def dO.add:dO.D→dO.Y→dO.X:=fun(ch,sv) y=>y
def dO.aq:dO.D→Prop:=fun _=>True
def dO.F:dO.D→dO.Y:=fun(_,s)=>tG s.2.2.2.1 s.2.2.1.length+660
noncomputable def dO.G:dU:=eZ (P:=Tryz.prog) [dY.sg]
noncomputable def dO.an:eu:= {}
noncomputable def dO.A:= @cq Tryz.prog dO.G dO.an 0 Tryz.f97 _ dO.st
abbrev dO.Ok:=cr @dO.A dO.aq dO.add dO.F dO.out
theorem dO.eq{R:Type}(ch:fF)(sv:fL)(k:aT→Option R):dO.A (ch,sv) k=
 ab (dY.call (sv.2.2.2.1,(((List.length sv.2.2.1):Nat):Int))) fun x1=>
 k (dO.out (bo .i64 x1 (660:Int))):=by kernel_rfl
theorem dO.ok:dO.Ok:=by
 rintro⟨ch,s⟩ _
 rw[dO.eq,dY.run (d:=(s.2.2.2.1,(s.2.2.1.length:Int))) trivial]
 simp only[aa,dY.add,dY.F,dO.add,dO.F]
 have:=o5 s.2.2.2.1 s.2.2.1.length
 rw[cR (by omega) (by omega)]
noncomputable def dO.E:=Entry.cD [some iu,some hZ] dO.st dO.aq dO.add dO.F dO.out
noncomputable def dO.call:dO.D→Option dO.X:=bC dO.E dO.st
theorem dO.run:bD dO.call dO.aq dO.add dO.F:=cw (cv [.d iu,.d hZ] fun _=>by kernel_rfl)
noncomputable def dO.sg:SG Tryz.prog:=⟨97,aK,dO.E,.fn 0 (by kernel_rfl) dO.ok trivial⟩
theorem tY{to:Int}(h:to=0∨to=1):bV .i64 1 to=1 - to:=fi (by omega) (by omega)
abbrev bJ.L0.D:=Int×fL×Int×Int×Int
def bJ.L0.st:bJ.L0.D→AS:=fun(to_2,sv_2,n,sum,i)=>⟨([.undef,.d ti to_2,.fj hZ sv_2,.undef,.undef,.undef,.d ti n,.d ti sum,.d ti i]++bw 28 []),[],(List.replicate 37 [])⟩
abbrev bJ.L0.Y0:=Int×Int
abbrev bJ.L0.X0:=Int×Int
def bJ.L0.bK:bJ.L0.X0→Exit×AS:=fun x=>(.exit 0,⟨(bw 6 ([.d ti x.1,.d ti x.2]++bw 29 [])),[],(List.replicate 37 [])⟩)
abbrev bJ.L0.X:=bJ.L0.X0
abbrev bJ.L0.Y:=bJ.L0.Y0
def bJ.L0.out:bJ.L0.X→Out (Exit×AS):=fun x=> .ok (bJ.L0.bK x)
def bJ.L0.add:bJ.L0.D→bJ.L0.Y→bJ.L0.X:=fun(to_2,sv_2,n,sum,i) y=>y
abbrev bJ.D:=fL×Int
def bJ.st:bJ.D→SA:=fun(sv,to)=>([.d hZ sv,.d ti to],[])
abbrev bJ.Y:=Int×Int
abbrev bJ.X:=Int×Int
def bJ.out:bJ.X→aT:=fun x=>⟨.cons (.d ti x.1) (.cons (.d ti x.2) (.nil)),[],[]⟩
def bJ.add:bJ.D→bJ.Y→bJ.X:=fun(sv,to) y=>y
def bJ.L0.aq:bJ.L0.D→Prop:=fun(to,sv,n,sum,i)=>(to=0∨to=1)∧(∀c∈sv.2.2.1,yu c)∧sv.2.2.1.length≤1000∧∃k:Nat,k≤sv.2.2.1.length∧i=k∧(0≤n∧n≤k)∧0≤sum∧sum≤1125899906842624*k
def bJ.L0.F:bJ.L0.D→bJ.L0.Y:=fun(to,sv,n,sum,i)=>(n+(im to (sv.2.2.1.drop i.toNat)).length,sum+fC (im to (sv.2.2.1.drop i.toNat)))
def bJ.aq:bJ.D→Prop:=fun(s,to)=>(to=0∨to=1)∧(∀c∈s.2.2.1,yu c)∧s.2.2.1.length≤1000
def bJ.F:bJ.D→bJ.Y:=fun(s,to)=>(((im to s.2.2.1).length:Nat),fC (im to s.2.2.1))
noncomputable def bJ.G:dU:=eZ (P:=Tryz.prog) []
noncomputable def bJ.L0.E:=cf.cD bJ.L0.st bJ.L0.aq bJ.L0.add bJ.L0.F bJ.L0.out
noncomputable def bJ.L0.call:bJ.L0.D→Option bJ.L0.X:=dL bJ.L0.E bJ.L0.st
noncomputable def bJ.an:eu:= {loops:=ki [(4,{bu:=[1,2,6,7,8]})],outs:=kh [(4,{bu:=[6,7]},{bu:=[4,5]})],gq:=lv [(4,bJ.L0.E)]}
noncomputable def bJ.A:= @cq Tryz.prog bJ.G bJ.an 0 Tryz.f67 _ bJ.st
abbrev bJ.Ok:=cr @bJ.A bJ.aq bJ.add bJ.F bJ.out
noncomputable def bJ.L0.R:= @cM Tryz.prog bJ.G bJ.an 0 Tryz.f67 0 _ bJ.L0.st
abbrev bJ.L0.Ok:=fk Tryz.prog bJ.G bJ.an 0 Tryz.f67 0 bJ.L0.st bJ.L0.aq bJ.L0.add bJ.L0.F bJ.L0.out
theorem bJ.L0.run:bD bJ.L0.call bJ.L0.aq bJ.L0.add bJ.L0.F:=fy (fx [.d ti,.d hZ,.d ti,.d ti,.d ti] fun _=>by kernel_rfl)
theorem bJ.L0.aE:fY @bJ.L0.R bJ.L0.st bJ.L0.aq bJ.L0.add bJ.L0.F bJ.L0.bK bJ.L0.Ok:=gj
theorem bJ.L0.step{R:Type}(to_2:Int)(sv_2:fL)(n:Int)(sum:Int)(i:Int)(kn:AS→Option R)(kx:Exit→AS→Option R):bJ.L0.R (to_2,sv_2,n,sum,i) kn kx=
  aD ((gM i (((List.length sv_2.2.2.1):Nat):Int))) (
   aD (dZ i (((List.length sv_2.2.2.1):Nat):Int)) (
   aD ((jO (nth gl sv_2.2.2.1 (Int.toNat i)).1 (bV .i64 (1:Int) to_2))) (
    aD (dZ i (((List.length sv_2.2.2.1):Nat):Int)) (
    kn (bJ.L0.st (to_2,sv_2,(bo .i64 n (1:Int)),(bo .i64 sum (nth gl sv_2.2.2.1 (Int.toNat i)).2.2.1),(bo .i64 i (1:Int))))) none) (
    kn (bJ.L0.st (to_2,sv_2,n,sum,(bo .i64 i (1:Int)))))) none) (
   kx (bJ.L0.bK (n,sum)).1 (bJ.L0.bK (n,sum)).2):=by kernel_rfl
theorem bJ.eq{R:Type}(sv:fL)(to:Int)(k:aT→Option R):bJ.A (sv,to) k=
 ab (bJ.L0.call (to,sv,(0:Int),(0:Int),(0:Int))) fun x1=>
 k (bJ.out (x1.1,x1.2)):=by kernel_rfl
theorem bJ.L0.ok:bJ.L0.Ok:=by
 refine bJ.L0.aE (fun(to,sv,n,sum,i)=>sv.2.2.1.length - i.toNat) ?_
 rintro⟨to,sv,n,sum,i⟩ ⟨hto,hc,hl,k,hk,rfl,hn,hs0,hs1⟩
 have hk:k≤sv.2.2.1.length:=hk
 have hl:sv.2.2.1.length≤1000:=hl
 have hto:to=0∨to=1:=hto
 have hn:0≤n∧n≤k:=hn
 have hs0:0≤sum:=hs0
 have hs1:sum≤1125899906842624*k:=hs1
 by_cases h:k < sv.2.2.1.length
 ·left
  have hx:0≤sv.2.2.1[k].2.2.1∧sv.2.2.1[k].2.2.1≤1125899906842624:=hc _ (List.getElem_mem h)
  have n1:nth gl sv.2.2.1 k=sv.2.2.1[k]:=dS (t:=gl) h
  have hd:=sP to sv.2.2.1[k] (sv.2.2.1.drop (k+1))
  rw[←List.drop_eq_getElem_cons h]at hd
  by_cases hq:sv.2.2.1[k].1=1 - to
  ·refine⟨(to,sv,n+1,sum+sv.2.2.1[k].2.2.1,((k+1:Nat):Int)),⟨hto,hc,hl,k+1,by omega,rfl,by omega,by omega,by omega⟩,by simp only[Int.toNat_natCast];omega,?_,fun kn kx=> ?_⟩
   ·rw[fg hq,if_pos rfl]at hd
    simp only[bJ.L0.add,bJ.L0.F,Int.toNat_natCast,hd,List.length_cons,fC]
    rw[show n+1+((im to (sv.2.2.1.drop (k+1))).length:Int)=n+(((im to (sv.2.2.1.drop (k+1))).length+1:Nat):Int) by omega,Int.add_assoc]
   ·rw[bJ.L0.step,bB (by omega),bz (by omega) (by omega),Int.toNat_natCast,n1,tY hto,fg hq,N.mq (by omega),cR (by omega) (by omega),cR (by omega) (by omega)]
    simp only[ah]
  ·refine⟨(to,sv,n,sum,((k+1:Nat):Int)),⟨hto,hc,hl,k+1,by omega,rfl,by omega,by omega,by omega⟩,by simp only[Int.toNat_natCast];omega,?_,fun kn kx=> ?_⟩
   ·rw[eo hq,if_neg (by simp)]at hd
    simp only[bJ.L0.add,bJ.L0.F,Int.toNat_natCast,hd]
   ·rw[bJ.L0.step,bB (by omega),bz (by omega) (by omega),Int.toNat_natCast,n1,tY hto,eo hq,N.mq (by omega)]
    simp only[ah,ae]
 ·right
  obtain rfl:k=sv.2.2.1.length:=by omega
  intro R kn kx
  rw[bJ.L0.step,bk (by omega),ae]
  simp only[bJ.L0.add,bJ.L0.F,Int.toNat_natCast,List.drop_length,im,List.filter_nil,List.length_nil,fC,Int.add_zero]
  rw[show(n+((0:Nat):Int))=n by omega]
theorem bJ.ok:bJ.Ok:=by
 rintro⟨s,to⟩ ⟨hto,hc,hl⟩
 rw[bJ.eq,bJ.L0.run (d:=(to,s,0,0,0)) ⟨hto,hc,hl,0,Nat.zero_le _,rfl,⟨by decide,by decide⟩,by decide,by decide⟩]
 simp only[aa,bJ.L0.add,bJ.L0.F,Int.toNat_zero,List.drop_zero,Int.zero_add,bJ.add,bJ.F]
noncomputable def bJ.E:=Entry.cD [some hZ,some ti] bJ.st bJ.aq bJ.add bJ.F bJ.out
noncomputable def bJ.call:bJ.D→Option bJ.X:=bC bJ.E bJ.st
theorem bJ.run:bD bJ.call bJ.aq bJ.add bJ.F:=cw (cv [.d hZ,.d ti] fun _=>by kernel_rfl)
noncomputable def bJ.sg:SG Tryz.prog:=⟨67,aK,bJ.E,.fn 1 (by kernel_rfl) bJ.ok (And.intro (.cD bJ.L0.ok (by kernel_rfl)) trivial)⟩
abbrev bO.L0.D:=Int×Int×Int×(List fG)×Int×Int
def bO.L0.st:bO.L0.D→AS:=fun(to_2,n,sum,t11,t12,t13)=>⟨([.undef,.d ti to_2]++bw 4 ([.d ti n,.d ti sum,.undef,.undef,.undef,.d (.slice gl) t11,.d ti t12,.d ti t13]++bw 17 [])),[],(List.replicate 31 [])⟩
abbrev bO.L0.Y0:=Int×Int
abbrev bO.L0.X0:=Int×Int
def bO.L0.bK:bO.L0.X0→Exit×AS:=fun x=>(.exit 0,⟨(bw 6 ([.d ti x.1,.d ti x.2]++bw 23 [])),[],(List.replicate 31 [])⟩)
abbrev bO.L0.X:=bO.L0.X0
abbrev bO.L0.Y:=bO.L0.Y0
def bO.L0.out:bO.L0.X→Out (Exit×AS):=fun x=> .ok (bO.L0.bK x)
def bO.L0.add:bO.L0.D→bO.L0.Y→bO.L0.X:=fun(to_2,n,sum,t11,t12,t13) y=>y
abbrev bO.D:=fL×Int
def bO.st:bO.D→SA:=fun(sv,to)=>([.d hZ sv,.d ti to],[])
abbrev bO.Y:=Int×Int
abbrev bO.X:=Int×Int
def bO.out:bO.X→aT:=fun x=>⟨.cons (.d ti x.1) (.cons (.d ti x.2) (.nil)),[],[]⟩
def bO.add:bO.D→bO.Y→bO.X:=fun(sv,to) y=>y
def bO.L0.aq:bO.L0.D→Prop:=fun(to,n,sum,l,m,i)=>(to=0∨to=1)∧(∀c∈l,yu c)∧l.length≤1000∧m=l.length∧∃k:Nat,k≤l.length∧i=k∧(0≤n∧n≤k)∧0≤sum∧sum≤1125899906842624*k
def bO.L0.F:bO.L0.D→bO.L0.Y:=fun(to,n,sum,l,m,i)=>(n+(im to (l.drop i.toNat)).length,sum+fC (im to (l.drop i.toNat)))
def bO.aq:bO.D→Prop:=fun(s,to)=>(to=0∨to=1)∧(∀c∈s.2.2.1,yu c)∧s.2.2.1.length≤1000
def bO.F:bO.D→bO.Y:=fun(s,to)=>(((im to s.2.2.1).length:Nat),fC (im to s.2.2.1))
noncomputable def bO.G:dU:=eZ (P:=Tryz.prog) []
noncomputable def bO.L0.E:=cf.cD bO.L0.st bO.L0.aq bO.L0.add bO.L0.F bO.L0.out
noncomputable def bO.L0.call:bO.L0.D→Option bO.L0.X:=dL bO.L0.E bO.L0.st
noncomputable def bO.an:eu:= {loops:=ki [(3,{bu:=[1,6,7,11,12,13]})],outs:=kh [(3,{bu:=[6,7]},{bu:=[4,5]})],gq:=lv [(3,bO.L0.E)]}
noncomputable def bO.A:= @cq Tryz.prog bO.G bO.an 0 Tryz.f95 _ bO.st
abbrev bO.Ok:=cr @bO.A bO.aq bO.add bO.F bO.out
noncomputable def bO.L0.R:= @cM Tryz.prog bO.G bO.an 0 Tryz.f95 0 _ bO.L0.st
abbrev bO.L0.Ok:=fk Tryz.prog bO.G bO.an 0 Tryz.f95 0 bO.L0.st bO.L0.aq bO.L0.add bO.L0.F bO.L0.out
theorem bO.L0.run:bD bO.L0.call bO.L0.aq bO.L0.add bO.L0.F:=fy (fx [.d ti,.d ti,.d ti,.d (.slice gl),.d ti,.d ti] fun _=>by kernel_rfl)
theorem bO.L0.aE:fY @bO.L0.R bO.L0.st bO.L0.aq bO.L0.add bO.L0.F bO.L0.bK bO.L0.Ok:=gj
theorem bO.L0.step{R:Type}(to_2:Int)(n:Int)(sum:Int)(t11:(List fG))(t12:Int)(t13:Int)(kn:AS→Option R)(kx:Exit→AS→Option R):bO.L0.R (to_2,n,sum,t11,t12,t13) kn kx=
  aD ((gM t13 t12)) (
   aD (dZ t13 (((List.length t11):Nat):Int)) (
   aD ((jO (nth gl t11 (Int.toNat t13)).1 (bV .i64 (1:Int) to_2))) (
    kn (bO.L0.st (to_2,(bo .i64 n (1:Int)),(bo .i64 sum (nth gl t11 (Int.toNat t13)).2.2.1),t11,t12,(bo .i64 t13 (1:Int))))) (
    kn (bO.L0.st (to_2,n,sum,t11,t12,(bo .i64 t13 (1:Int)))))) none) (
   kx (bO.L0.bK (n,sum)).1 (bO.L0.bK (n,sum)).2):=by kernel_rfl
theorem bO.eq{R:Type}(sv:fL)(to:Int)(k:aT→Option R):bO.A (sv,to) k=
 ab (bO.L0.call (to,(0:Int),(0:Int),sv.2.2.1,(((List.length sv.2.2.1):Nat):Int),(0:Int))) fun x1=>
 k (bO.out (x1.1,x1.2)):=by kernel_rfl
theorem bO.L0.ok:bO.L0.Ok:=by
 refine bO.L0.aE (fun(to,n,sum,l,m,i)=>l.length - i.toNat) ?_
 rintro⟨to,n,sum,l,m,i⟩ ⟨hto,hc,hl,rfl,k,hk,rfl,hn,hs0,hs1⟩
 have hk:k≤l.length:=hk
 have hl:l.length≤1000:=hl
 have hto:to=0∨to=1:=hto
 have hn:0≤n∧n≤k:=hn
 have hs0:0≤sum:=hs0
 have hs1:sum≤1125899906842624*k:=hs1
 by_cases h:k < l.length
 ·left
  have hx:0≤l[k].2.2.1∧l[k].2.2.1≤1125899906842624:=hc _ (List.getElem_mem h)
  have n1:nth gl l k=l[k]:=dS (t:=gl) h
  have hd:=sP to l[k] (l.drop (k+1))
  rw[←List.drop_eq_getElem_cons h]at hd
  by_cases hq:l[k].1=1 - to
  ·refine⟨(to,n+1,sum+l[k].2.2.1,l,(l.length:Int),((k+1:Nat):Int)),⟨hto,hc,hl,rfl,k+1,by omega,rfl,by omega,by omega,by omega⟩,by simp only[Int.toNat_natCast];omega,?_,fun kn kx=> ?_⟩
   ·rw[fg hq,if_pos rfl]at hd
    simp only[bO.L0.add,bO.L0.F,Int.toNat_natCast,hd,List.length_cons,fC]
    rw[show n+1+((im to (l.drop (k+1))).length:Int)=n+(((im to (l.drop (k+1))).length+1:Nat):Int) by omega,Int.add_assoc]
   ·rw[bO.L0.step,bB (by omega),bz (by omega) (by omega),Int.toNat_natCast,n1,tY hto,fg hq,N.mq (by omega),cR (by omega) (by omega),cR (by omega) (by omega)]
    simp only[ah]
  ·refine⟨(to,n,sum,l,(l.length:Int),((k+1:Nat):Int)),⟨hto,hc,hl,rfl,k+1,by omega,rfl,by omega,by omega,by omega⟩,by simp only[Int.toNat_natCast];omega,?_,fun kn kx=> ?_⟩
   ·rw[eo hq,if_neg (by simp)]at hd
    simp only[bO.L0.add,bO.L0.F,Int.toNat_natCast,hd]
   ·rw[bO.L0.step,bB (by omega),bz (by omega) (by omega),Int.toNat_natCast,n1,tY hto,eo hq,N.mq (by omega)]
    simp only[ah,ae]
 ·right
  obtain rfl:k=l.length:=by omega
  intro R kn kx
  rw[bO.L0.step,bk (by omega),ae]
  simp only[bO.L0.add,bO.L0.F,Int.toNat_natCast,List.drop_length,im,List.filter_nil,List.length_nil,fC,Int.add_zero]
  rw[show(n+((0:Nat):Int))=n by omega]
theorem bO.ok:bO.Ok:=by
 rintro⟨s,to⟩ ⟨hto,hc,hl⟩
 rw[bO.eq,bO.L0.run (d:=(to,0,0,s.2.2.1,(s.2.2.1.length:Int),0)) ⟨hto,hc,hl,rfl,0,Nat.zero_le _,rfl,⟨by decide,by decide⟩,by decide,by decide⟩]
 simp only[aa,bO.L0.add,bO.L0.F,Int.toNat_zero,List.drop_zero,Int.zero_add,bO.add,bO.F]
noncomputable def bO.E:=Entry.cD [some hZ,some ti] bO.st bO.aq bO.add bO.F bO.out
noncomputable def bO.call:bO.D→Option bO.X:=bC bO.E bO.st
theorem bO.run:bD bO.call bO.aq bO.add bO.F:=cw (cv [.d hZ,.d ti] fun _=>by kernel_rfl)
noncomputable def bO.sg:SG Tryz.prog:=⟨95,aK,bO.E,.fn 1 (by kernel_rfl) bO.ok (And.intro (.cD bO.L0.ok (by kernel_rfl)) trivial)⟩
abbrev bU.L0.D:=fL×Int×Int
def bU.L0.st:bU.L0.D→AS:=fun(sv_2,sum,i)=>⟨([.undef,.fj hZ sv_2,.undef,.d ti sum,.d ti i]++bw 23 []),[],(List.replicate 28 [])⟩
abbrev bU.L0.Y0:=Int
abbrev bU.L0.X0:=Int
def bU.L0.bK:bU.L0.X0→Exit×AS:=fun x=>(.exit 0,⟨([.undef,.undef,.undef,.d ti x]++bw 24 []),[],(List.replicate 28 [])⟩)
abbrev bU.L0.X:=bU.L0.X0
abbrev bU.L0.Y:=bU.L0.Y0
def bU.L0.out:bU.L0.X→Out (Exit×AS):=fun x=> .ok (bU.L0.bK x)
def bU.L0.add:bU.L0.D→bU.L0.Y→bU.L0.X:=fun(sv_2,sum,i) y=>y
abbrev bU.D:=fL
def bU.st:bU.D→SA:=fun sv=>([.d hZ sv],[])
abbrev bU.Y:=Int
abbrev bU.X:=Int
def bU.out:bU.X→aT:=fun x=>⟨.d ti x,[],[]⟩
def bU.add:bU.D→bU.Y→bU.X:=fun sv y=>y
def bU.L0.aq:bU.L0.D→Prop:=fun(sv,sum,i)=>(∀c∈sv.2.2.1,yu c)∧sv.2.2.1.length≤1000∧∃k:Nat,k≤sv.2.2.1.length∧i=k∧0≤sum∧sum≤2251799813685248+1125899906842624*k
def bU.L0.F:bU.L0.D→bU.L0.Y:=fun(sv,sum,i)=>sum+fC (sv.2.2.1.drop i.toNat)
def bU.aq:bU.D→Prop:=fun s=>(∀c∈s.2.2.1,yu c)∧s.2.2.1.length≤1000∧Bd (nth ti s.2.1 0) 0 1125899906842624∧Bd (nth ti s.2.1 1) 0 1125899906842624
def bU.F:bU.D→bU.Y:=fun s=>nth ti s.2.1 0+nth ti s.2.1 1+fC s.2.2.1
noncomputable def bU.G:dU:=eZ (P:=Tryz.prog) []
noncomputable def bU.L0.E:=cf.cD bU.L0.st bU.L0.aq bU.L0.add bU.L0.F bU.L0.out
noncomputable def bU.L0.call:bU.L0.D→Option bU.L0.X:=dL bU.L0.E bU.L0.st
noncomputable def bU.an:eu:= {loops:=ki [(3,{bu:=[1,3,4]})],outs:=kh [(3,{bu:=[3]},{bu:=[2]})],gq:=lv [(3,bU.L0.E)]}
noncomputable def bU.A:= @cq Tryz.prog bU.G bU.an 0 Tryz.f68 _ bU.st
abbrev bU.Ok:=cr @bU.A bU.aq bU.add bU.F bU.out
noncomputable def bU.L0.R:= @cM Tryz.prog bU.G bU.an 0 Tryz.f68 0 _ bU.L0.st
abbrev bU.L0.Ok:=fk Tryz.prog bU.G bU.an 0 Tryz.f68 0 bU.L0.st bU.L0.aq bU.L0.add bU.L0.F bU.L0.out
theorem bU.L0.run:bD bU.L0.call bU.L0.aq bU.L0.add bU.L0.F:=fy (fx [.d hZ,.d ti,.d ti] fun _=>by kernel_rfl)
theorem bU.L0.aE:fY @bU.L0.R bU.L0.st bU.L0.aq bU.L0.add bU.L0.F bU.L0.bK bU.L0.Ok:=gj
theorem bU.L0.step{R:Type}(sv_2:fL)(sum:Int)(i:Int)(kn:AS→Option R)(kx:Exit→AS→Option R):bU.L0.R (sv_2,sum,i) kn kx=
  aD ((gM i (((List.length sv_2.2.2.1):Nat):Int))) (
   aD (dZ i (((List.length sv_2.2.2.1):Nat):Int)) (
   kn (bU.L0.st (sv_2,(bo .i64 sum (nth gl sv_2.2.2.1 (Int.toNat i)).2.2.1),(bo .i64 i (1:Int))))) none) (
   kx (bU.L0.bK sum).1 (bU.L0.bK sum).2):=by kernel_rfl
theorem bU.eq{R:Type}(sv:fL)(k:aT→Option R):bU.A sv k=
 ab (bU.L0.call (sv,(bo .i64 (nth ti sv.2.1 0) (nth ti sv.2.1 1)),(0:Int))) fun x1=>
 k (bU.out x1):=by kernel_rfl
theorem bU.L0.ok:bU.L0.Ok:=by
 refine bU.L0.aE (fun(sv,sum,i)=>sv.2.2.1.length - i.toNat) ?_
 rintro⟨sv,sum,i⟩ ⟨hc,hl,k,hk,rfl,hs0,hs1⟩
 have hk:k≤sv.2.2.1.length:=hk
 have hl:sv.2.2.1.length≤1000:=hl
 have hs0:0≤sum:=hs0
 have hs1:sum≤2251799813685248+1125899906842624*k:=hs1
 by_cases h:k < sv.2.2.1.length
 ·left
  have hx:0≤sv.2.2.1[k].2.2.1∧sv.2.2.1[k].2.2.1≤1125899906842624:=hc _ (List.getElem_mem h)
  have n1:nth gl sv.2.2.1 k=sv.2.2.1[k]:=dS (t:=gl) h
  refine⟨(sv,sum+sv.2.2.1[k].2.2.1,((k+1:Nat):Int)),⟨hc,hl,k+1,by omega,rfl,by omega,by omega⟩,by simp only[Int.toNat_natCast];omega,?_,fun kn kx=> ?_⟩
  ·simp only[bU.L0.add,bU.L0.F,Int.toNat_natCast]
   rw[List.drop_eq_getElem_cons h,fC,Int.add_assoc]
  ·rw[bU.L0.step,bB (by omega),bz (by omega) (by omega),Int.toNat_natCast,n1,N.mq (by omega),cR (by omega) (by omega)]
   simp only[ah]
 ·right
  obtain rfl:k=sv.2.2.1.length:=by omega
  intro R kn kx
  rw[bU.L0.step,bk (by omega),ae]
  simp only[bU.L0.add,bU.L0.F,Int.toNat_natCast,List.drop_length,fC,Int.add_zero]
theorem bU.ok:bU.Ok:=by
 rintro s ⟨hc,hl,h0,h1⟩
 have h00:=h0.1
 have h01:=h0.2
 have h10:=h1.1
 have h11:=h1.2
 rw[bU.eq,cR (by omega) (by omega),bU.L0.run (d:=(s,nth ti s.2.1 0+nth ti s.2.1 1,0)) ⟨hc,hl,0,Nat.zero_le _,rfl,by omega,by omega⟩]
 simp only[aa,bU.L0.add,bU.L0.F,Int.toNat_zero,List.drop_zero,bU.add,bU.F]
noncomputable def bU.E:=Entry.cD [some hZ] bU.st bU.aq bU.add bU.F bU.out
noncomputable def bU.call:bU.D→Option bU.X:=bC bU.E bU.st
theorem bU.run:bD bU.call bU.aq bU.add bU.F:=cw (cv [.d hZ] fun _=>by kernel_rfl)
noncomputable def bU.sg:SG Tryz.prog:=⟨68,aK,bU.E,.fn 1 (by kernel_rfl) bU.ok (And.intro (.cD bU.L0.ok (by kernel_rfl)) trivial)⟩
abbrev aV.L0.D:=Int×(List fG)×Int×Int
def aV.L0.st:aV.L0.D→AS:=fun(sum,t14,t15,t16)=>⟨([.undef,.undef,.undef,.d ti sum]++bw 10 ([.d (.slice gl) t14,.d ti t15,.d ti t16]++bw 9 [])),[],(List.replicate 26 [])⟩
abbrev aV.L0.Y0:=Int
abbrev aV.L0.X0:=Int
def aV.L0.bK:aV.L0.X0→Exit×AS:=fun x=>(.exit 0,⟨([.undef,.undef,.undef,.d ti x]++bw 22 []),[],(List.replicate 26 [])⟩)
abbrev aV.L0.X:=aV.L0.X0
abbrev aV.L0.Y:=aV.L0.Y0
def aV.L0.out:aV.L0.X→Out (Exit×AS):=fun x=> .ok (aV.L0.bK x)
def aV.L0.add:aV.L0.D→aV.L0.Y→aV.L0.X:=fun(sum,t14,t15,t16) y=>y
abbrev aV.D:=fL
def aV.st:aV.D→SA:=fun sv=>([.d hZ sv],[])
abbrev aV.Y:=Int
abbrev aV.X:=Int
def aV.out:aV.X→aT:=fun x=>⟨.d ti x,[],[]⟩
def aV.add:aV.D→aV.Y→aV.X:=fun sv y=>y
def aV.L0.aq:aV.L0.D→Prop:=fun(sum,l,m,i)=>(∀c∈l,yu c)∧l.length≤1000∧m=l.length∧∃k:Nat,k≤l.length∧i=k∧0≤sum∧sum≤2251799813685248+1125899906842624*k
def aV.L0.F:aV.L0.D→aV.L0.Y:=fun(sum,l,m,i)=>sum+fC (l.drop i.toNat)
def aV.aq:aV.D→Prop:=fun s=>(∀c∈s.2.2.1,yu c)∧s.2.2.1.length≤1000∧Bd (nth ti s.2.1 0) 0 1125899906842624∧Bd (nth ti s.2.1 1) 0 1125899906842624
def aV.F:aV.D→aV.Y:=fun s=>nth ti s.2.1 0+nth ti s.2.1 1+fC s.2.2.1
noncomputable def aV.G:dU:=eZ (P:=Tryz.prog) []
noncomputable def aV.L0.E:=cf.cD aV.L0.st aV.L0.aq aV.L0.add aV.L0.F aV.L0.out
noncomputable def aV.L0.call:aV.L0.D→Option aV.L0.X:=dL aV.L0.E aV.L0.st
noncomputable def aV.an:eu:= {loops:=ki [(3,{bu:=[3,14,15,16]})],outs:=kh [(3,{bu:=[3]},{bu:=[2]})],gq:=lv [(3,aV.L0.E)]}
noncomputable def aV.A:= @cq Tryz.prog aV.G aV.an 0 Tryz.f96 _ aV.st
abbrev aV.Ok:=cr @aV.A aV.aq aV.add aV.F aV.out
noncomputable def aV.L0.R:= @cM Tryz.prog aV.G aV.an 0 Tryz.f96 0 _ aV.L0.st
abbrev aV.L0.Ok:=fk Tryz.prog aV.G aV.an 0 Tryz.f96 0 aV.L0.st aV.L0.aq aV.L0.add aV.L0.F aV.L0.out
theorem aV.L0.run:bD aV.L0.call aV.L0.aq aV.L0.add aV.L0.F:=fy (fx [.d ti,.d (.slice gl),.d ti,.d ti] fun _=>by kernel_rfl)
theorem aV.L0.aE:fY @aV.L0.R aV.L0.st aV.L0.aq aV.L0.add aV.L0.F aV.L0.bK aV.L0.Ok:=gj
theorem aV.L0.step{R:Type}(sum:Int)(t14:(List fG))(t15:Int)(t16:Int)(kn:AS→Option R)(kx:Exit→AS→Option R):aV.L0.R (sum,t14,t15,t16) kn kx=
  aD ((gM t16 t15)) (
   aD (dZ t16 (((List.length t14):Nat):Int)) (
   kn (aV.L0.st ((bo .i64 sum (nth gl t14 (Int.toNat t16)).2.2.1),t14,t15,(bo .i64 t16 (1:Int))))) none) (
   kx (aV.L0.bK sum).1 (aV.L0.bK sum).2):=by kernel_rfl
theorem aV.eq{R:Type}(sv:fL)(k:aT→Option R):aV.A sv k=
 ab (aV.L0.call ((bo .i64 (nth ti sv.2.1 0) (nth ti sv.2.1 1)),sv.2.2.1,(((List.length sv.2.2.1):Nat):Int),(0:Int))) fun x1=>
 k (aV.out x1):=by kernel_rfl
theorem aV.L0.ok:aV.L0.Ok:=by
 refine aV.L0.aE (fun(sum,l,m,i)=>l.length - i.toNat) ?_
 rintro⟨sum,l,m,i⟩ ⟨hc,hl,rfl,k,hk,rfl,hs0,hs1⟩
 have hk:k≤l.length:=hk
 have hl:l.length≤1000:=hl
 have hs0:0≤sum:=hs0
 have hs1:sum≤2251799813685248+1125899906842624*k:=hs1
 by_cases h:k < l.length
 ·left
  have hx:0≤l[k].2.2.1∧l[k].2.2.1≤1125899906842624:=hc _ (List.getElem_mem h)
  have n1:nth gl l k=l[k]:=dS (t:=gl) h
  refine⟨(sum+l[k].2.2.1,l,(l.length:Int),((k+1:Nat):Int)),⟨hc,hl,rfl,k+1,by omega,rfl,by omega,by omega⟩,by simp only[Int.toNat_natCast];omega,?_,fun kn kx=> ?_⟩
  ·simp only[aV.L0.add,aV.L0.F,Int.toNat_natCast]
   rw[List.drop_eq_getElem_cons h,fC,Int.add_assoc]
  ·rw[aV.L0.step,bB (by omega),bz (by omega) (by omega),Int.toNat_natCast,n1,N.mq (by omega),cR (by omega) (by omega)]
   simp only[ah]
 ·right
  obtain rfl:k=l.length:=by omega
  intro R kn kx
  rw[aV.L0.step,bk (by omega),ae]
  simp only[aV.L0.add,aV.L0.F,Int.toNat_natCast,List.drop_length,fC,Int.add_zero]
theorem aV.ok:aV.Ok:=by
 rintro s ⟨hc,hl,h0,h1⟩
 have h00:=h0.1
 have h01:=h0.2
 have h10:=h1.1
 have h11:=h1.2
 rw[aV.eq,cR (by omega) (by omega),aV.L0.run (d:=(nth ti s.2.1 0+nth ti s.2.1 1,s.2.2.1,(s.2.2.1.length:Int),0)) ⟨hc,hl,rfl,0,Nat.zero_le _,rfl,by omega,by omega⟩]
 simp only[aa,aV.L0.add,aV.L0.F,Int.toNat_zero,List.drop_zero,aV.add,aV.F]
noncomputable def aV.E:=Entry.cD [some hZ] aV.st aV.aq aV.add aV.F aV.out
noncomputable def aV.call:aV.D→Option aV.X:=bC aV.E aV.st
theorem aV.run:bD aV.call aV.aq aV.add aV.F:=cw (cv [.d hZ] fun _=>by kernel_rfl)
noncomputable def aV.sg:SG Tryz.prog:=⟨96,aK,aV.E,.fn 1 (by kernel_rfl) aV.ok (And.intro (.cD aV.L0.ok (by kernel_rfl)) trivial)⟩
abbrev gg.D:=Int×Int×Int
def gg.st:gg.D→SA:=fun(n,o0,o1)=>([.d ti n,.ptr (.dI 0) 0 [] 0,.ptr (.dI 1) 0 [] 0],[.obj 0 false (.d ti o0),.obj 0 false (.d ti o1)])
abbrev gg.Y:=Bool
abbrev gg.X:=(Int×Int)×(Bool)
def gg.out:gg.X→aT:=fun x=>⟨.d .bool x.2,[.obj 0 false (.d ti x.1.1),.obj 0 false (.d ti x.1.2)],[]⟩
def gg.add:gg.D→gg.Y→gg.X:=fun(n,o0,o1) y=>((o0,o1),y)
def gg.aq:gg.D→Prop:=fun _=>True
def gg.F:gg.D→gg.Y:=fun(n,lo,hi)=> !kQ n lo hi
noncomputable def gg.G:dU:=eZ (P:=Tryz.prog) []
noncomputable def gg.an:eu:= {}
noncomputable def gg.A:= @cq Tryz.prog gg.G gg.an 0 Tryz.f137 _ gg.st
abbrev gg.Ok:=cr @gg.A gg.aq gg.add gg.F gg.out
theorem gg.eq{R:Type}(n:Int)(o0:Int)(o1:Int)(k:aT→Option R):gg.A (n,o0,o1) k=
  aD ((gM n o0)) (
   k (gg.out ((o0,o1),true))) (
   k (gg.out ((o0,o1),(mX n o1)))):=by kernel_rfl
theorem gg.ok:gg.Ok:=by
 rintro⟨n,lo,hi⟩ _
 rw[gg.eq]
 simp only[gg.add,gg.F]
 by_cases h:n < lo
 ·rw[bB h,ah,jP (by omega)];rfl
 ·rw[bk h,ae]
  by_cases h2:n > hi
  ·rw[ee h2,jP (by omega)];rfl
  ·rw[dj h2,ik (by omega) (by omega)];rfl
noncomputable def gg.E:=Entry.cD [some ti,none,none] gg.st gg.aq gg.add gg.F gg.out
noncomputable def gg.call:gg.D→Option gg.X:=bC gg.E gg.st
theorem gg.run:bD gg.call gg.aq gg.add gg.F:=cw (cv [.d ti,.d ti,.d ti] fun _=>by kernel_rfl)
noncomputable def gg.sg:SG Tryz.prog:=⟨137,aK,gg.E,.fn 0 (by kernel_rfl) gg.ok trivial⟩
abbrev cK.L0.D:=(List Int)×Int×Int×Int×Int
def cK.L0.st:cK.L0.D→AS:=fun(sv_2,t7,t8,o0_2,o1_2)=>⟨([.d (.slice ti) sv_2,.fn 137 (.cons (.ptr (.dI 0) 0 [] 0) (.cons (.ptr (.dI 1) 0 [] 0) (.nil)))]++bw 5 ([.d ti t7,.d ti t8]++bw 10 [])),[.obj 0 false (.d ti o0_2),.obj 0 false (.d ti o1_2)],(List.replicate 19 [])⟩
abbrev cK.L0.Y0:=Int×Int×Int
abbrev cK.L0.X0:=Int×Int×Int
def cK.L0.bK:cK.L0.X0→Exit×AS:=fun x=>(.ret,⟨(bw 4 ([.d ti x.1]++bw 14 [])),[.obj 0 false (.d ti x.2.1),.obj 0 false (.d ti x.2.2)],(List.replicate 19 [])⟩)
abbrev cK.L0.Y1:=Int×Int
abbrev cK.L0.X1:=Int×Int
def cK.L0.iW:cK.L0.X1→Exit×AS:=fun x=>(.exit 0,⟨(bw 19 []),[.obj 0 false (.d ti x.1),.obj 0 false (.d ti x.2)],(List.replicate 19 [])⟩)
abbrev cK.L0.X:=(cK.L0.X0)⊕(cK.L0.X1)
abbrev cK.L0.Y:=(cK.L0.Y0)⊕(cK.L0.Y1)
def cK.L0.out:cK.L0.X→Out (Exit×AS):=fun x=> .br x.isLeft (.get x.getLeft? fun a=> .ok (cK.L0.bK a)) (.get x.getRight? fun b=> .ok (cK.L0.iW b))
def cK.L0.add:cK.L0.D→cK.L0.Y→cK.L0.X:=fun(sv_2,t7,t8,o0_2,o1_2) y=>match y with | .inl y=> .inl y | .inr z=> .inr (z)
abbrev cK.D:=(List Int)×Int×Int
def cK.st:cK.D→SA:=fun(sv,o0,o1)=>([.d (.slice ti) sv,.fn 137 (.cons (.ptr (.dI 0) 0 [] 0) (.cons (.ptr (.dI 1) 0 [] 0) (.nil)))],[.obj 0 false (.d ti o0),.obj 0 false (.d ti o1)])
abbrev cK.Y:=Int×Int×Int
abbrev cK.X:=Int×Int×Int
def cK.out:cK.X→aT:=fun x=>⟨.d ti x.1,[.obj 0 false (.d ti x.2.1),.obj 0 false (.d ti x.2.2)],[]⟩
def cK.add:cK.D→cK.Y→cK.X:=fun(sv,o0,o1) y=>y
def cK.L0.aq:cK.L0.D→Prop:=fun(l,n,i,lo,hi)=>l.length≤1000000000∧n=l.length∧∃k:Nat,k≤l.length∧i=k
def cK.L0.F:cK.L0.D→cK.L0.Y:=fun(l,n,i,lo,hi)=>match ns (fun x=> !kQ x lo hi) (l.drop i.toNat) i with | .inl j=> .inl (j,lo,hi) | .inr _=> .inr (lo,hi)
def cK.aq:cK.D→Prop:=fun(l,_,_)=>l.length≤1000000000
def cK.F:cK.D→cK.Y:=fun(l,lo,hi)=>(vV (fun x=> !kQ x lo hi) l,lo,hi)
noncomputable def cK.G:dU:=eZ (P:=Tryz.prog) [gg.sg]
noncomputable def cK.L0.E:=cf.cD cK.L0.st cK.L0.aq cK.L0.add cK.L0.F cK.L0.out
noncomputable def cK.L0.call:cK.L0.D→Option cK.L0.X:=dL cK.L0.E cK.L0.st
noncomputable def cK.an:eu:= {loops:=ki [(2,{bu:=[0,1,7,8]})],outs:=kh [(2,{},{bu:=[4]})],gq:=lv [(2,cK.L0.E)]}
noncomputable def cK.A:= @cq Tryz.prog cK.G cK.an 0 Tryz.f170 _ cK.st
abbrev cK.Ok:=cr @cK.A cK.aq cK.add cK.F cK.out
noncomputable def cK.L0.R:= @cM Tryz.prog cK.G cK.an 0 Tryz.f170 0 _ cK.L0.st
abbrev cK.L0.Ok:=fk Tryz.prog cK.G cK.an 0 Tryz.f170 0 cK.L0.st cK.L0.aq cK.L0.add cK.L0.F cK.L0.out
theorem cK.L0.run:bD cK.L0.call cK.L0.aq cK.L0.add cK.L0.F:=fy (fx [.d (.slice ti),.d ti,.d ti,.d ti,.d ti] fun _=>by kernel_rfl)
theorem cK.L0.aE:pT @cK.L0.R cK.L0.st cK.L0.aq cK.L0.add cK.L0.F cK.L0.out cK.L0.Ok:=qo
theorem cK.L0.step{R:Type}(sv_2:(List Int))(t7:Int)(t8:Int)(o0_2:Int)(o1_2:Int)(kn:AS→Option R)(kx:Exit→AS→Option R):cK.L0.R (sv_2,t7,t8,o0_2,o1_2) kn kx=
  aD ((gM t8 t7)) (
   aD (dZ t8 (((List.length sv_2):Nat):Int)) (
   ab (gg.call ((nth ti sv_2 (Int.toNat t8)),o0_2,o1_2)) fun x1=>
   aD (x1.2) (
    kx (cK.L0.bK (t8,x1.1.1,x1.1.2)).1 (cK.L0.bK (t8,x1.1.1,x1.1.2)).2) (
    kn (cK.L0.st (sv_2,t7,(bo .i64 t8 (1:Int)),x1.1.1,x1.1.2)))) none) (
   kx (cK.L0.iW (o0_2,o1_2)).1 (cK.L0.iW (o0_2,o1_2)).2):=by kernel_rfl
theorem cK.eq{R:Type}(sv:(List Int))(o0:Int)(o1:Int)(k:aT→Option R):cK.A (sv,o0,o1) k=
  ab (cK.L0.call (sv,(((List.length sv):Nat):Int),(0:Int),o0,o1)) fun x2=>
  aD (x2.isLeft) (
   ab (x2.getLeft?) fun a3=>
   k (cK.out (a3.1,a3.2.1,a3.2.2))) (
   ab (x2.getRight?) fun b4=>
   k (cK.out ((-1:Int),b4.1,b4.2))):=by kernel_rfl
theorem gg.c(n lo hi:Int):gg.call (n,lo,hi)=some ((lo,hi),!kQ n lo hi):=gg.run (d:=(n,lo,hi)) trivial
theorem cK.L0.ok:cK.L0.Ok:=by
 refine cK.L0.aE (fun(l,n,i,lo,hi)=>l.length - i.toNat) ?_
 rintro⟨l,n,i,lo,hi⟩ ⟨hl,rfl,k,hk,rfl⟩
 have hl:l.length≤1000000000:=hl
 have hk:k≤l.length:=hk
 by_cases h:k < l.length
 ·have n1:nth ti l k=l[k]:=dS (t:=ti) h
  have hd:ns (fun x=> !kQ x lo hi) (l.drop k) k=if(!kQ l[k] lo hi)=true then .inl (k:Int) else ns (fun x=> !kQ x lo hi) (l.drop (k+1)) ((k+1:Nat):Int):=by rw[List.drop_eq_getElem_cons h];rfl
  have step:∀ {R:Type} (kn:AS→Option R) (kx:Exit→AS→Option R),cK.L0.R (l,(l.length:Int),(k:Int),lo,hi) kn kx=aD (!kQ l[k] lo hi) (kx (cK.L0.bK ((k:Int),lo,hi)).1 (cK.L0.bK ((k:Int),lo,hi)).2) (kn (cK.L0.st (l,(l.length:Int),((k+1:Nat):Int),lo,hi))):=by
   intro R kn kx
   rw[cK.L0.step,bB (by omega),bz (by omega) (by omega),Int.toNat_natCast,n1,gg.c,N.mq (by omega)]
   rfl
  cases hp:kQ l[k] lo hi
  ·right
   refine⟨cK.L0.bK ((k:Int),lo,hi),?_,fun kn kx=> ?_⟩
   ·simp only[cK.L0.add,cK.L0.F,Int.toNat_natCast,hd,hp,Bool.not_false,if_true]
    rfl
   ·rw[step,hp,Bool.not_false,ah]
  ·left
   refine⟨(l,l.length,((k+1:Nat):Int),lo,hi),⟨hl,rfl,k+1,by omega,rfl⟩,by simp only[Int.toNat_natCast];omega,?_,fun kn kx=> ?_⟩
   ·simp only[cK.L0.add,cK.L0.F,Int.toNat_natCast,hd,hp,Bool.not_true,Bool.false_eq_true,if_false]
   ·rw[step,hp,Bool.not_true,ae]
 ·right
  obtain rfl:k=l.length:=by omega
  refine⟨cK.L0.iW (lo,hi),?_,fun kn kx=> ?_⟩
  ·simp only[cK.L0.add,cK.L0.F,Int.toNat_natCast,List.drop_length]
   rfl
  ·rw[cK.L0.step,bk (by omega),ae]
theorem cK.ok:cK.Ok:=by
 rintro⟨l,lo,hi⟩ hl
 rw[cK.eq,cK.L0.run (d:=(l,l.length,0,lo,hi)) ⟨hl,rfl,0,Nat.zero_le _,rfl⟩]
 simp only[aa,cK.L0.add,cK.L0.F,Int.toNat_zero,List.drop_zero,cK.add,cK.F,vV]
 cases ns (fun x=> !kQ x lo hi) l 0 <;> rfl
noncomputable def cK.E:=Entry.cD [some (.slice ti),none] cK.st cK.aq cK.add cK.F cK.out
noncomputable def cK.call:cK.D→Option cK.X:=bC cK.E cK.st
theorem cK.run:bD cK.call cK.aq cK.add cK.F:=cw (cv [.d (.slice ti),.d ti,.d ti] fun _=>by kernel_rfl)
noncomputable def cK.sg:SG Tryz.prog:=⟨170,aK,cK.E,.fn 1 (by kernel_rfl) cK.ok (And.intro (.cD cK.L0.ok (by kernel_rfl)) trivial)⟩
abbrev gm.D:=(List Int)×Int×Int
def gm.st:gm.D→SA:=fun(sv,o0,o1)=>([.d (.slice ti) sv,.fn 137 (.cons (.ptr (.dI 0) 0 [] 0) (.cons (.ptr (.dI 1) 0 [] 0) (.nil)))],[.obj 0 false (.d ti o0),.obj 0 false (.d ti o1)])
abbrev gm.Y:=Bool×Int×Int
abbrev gm.X:=Bool×Int×Int
def gm.out:gm.X→aT:=fun x=>⟨.d .bool x.1,[.obj 0 false (.d ti x.2.1),.obj 0 false (.d ti x.2.2)],[]⟩
def gm.add:gm.D→gm.Y→gm.X:=fun(sv,o0,o1) y=>y
def gm.aq:gm.D→Prop:=fun(l,_,_)=>l.length≤1000000000
def gm.F:gm.D→gm.Y:=fun(l,lo,hi)=>(l.any fun x=> !kQ x lo hi,lo,hi)
noncomputable def gm.G:dU:=eZ (P:=Tryz.prog) [cK.sg]
noncomputable def gm.an:eu:= {}
noncomputable def gm.A:= @cq Tryz.prog gm.G gm.an 0 Tryz.f136 _ gm.st
abbrev gm.Ok:=cr @gm.A gm.aq gm.add gm.F gm.out
theorem gm.eq{R:Type}(sv:(List Int))(o0:Int)(o1:Int)(k:aT→Option R):gm.A (sv,o0,o1) k=
 ab (cK.call (sv,o0,o1)) fun x1=>
 k (gm.out ((lk x1.1 (0:Int)),x1.2.1,x1.2.2)):=by kernel_rfl
theorem gm.ok:gm.Ok:=by
 rintro⟨l,lo,hi⟩ hl
 rw[gm.eq,cK.run (d:=(l,lo,hi)) hl]
 simp only[aa,cK.add,cK.F,rb,gm.add,gm.F]
noncomputable def gm.E:=Entry.cD [some (.slice ti),none] gm.st gm.aq gm.add gm.F gm.out
noncomputable def gm.call:gm.D→Option gm.X:=bC gm.E gm.st
theorem gm.run:bD gm.call gm.aq gm.add gm.F:=cw (cv [.d (.slice ti),.d ti,.d ti] fun _=>by kernel_rfl)
noncomputable def gm.sg:SG Tryz.prog:=⟨136,aK,gm.E,.fn 0 (by kernel_rfl) gm.ok trivial⟩
abbrev bH.D:=Int×Int×(List Int)
def bH.st:bH.D→SA:=fun(low,high,l)=>([.d ti low,.d ti high,.d (.slice ti) l],[])
abbrev bH.Y:=Bool
abbrev bH.X:=Bool
def bH.out:bH.X→aT:=fun x=>⟨.d .bool x,[],[]⟩
def bH.add:bH.D→bH.Y→bH.X:=fun(low,high,l) y=>y
def bH.aq:bH.D→Prop:=fun(_,_,l)=>l.length≤1000000000
def bH.F:bH.D→bH.Y:=fun(lo,hi,l)=>l.all fun x=>kQ x lo hi
noncomputable def bH.G:dU:=eZ (P:=Tryz.prog) [gm.sg]
noncomputable def bH.an:eu:= {bZ:=[3,4]}
noncomputable def bH.A:= @cq Tryz.prog bH.G bH.an 0 Tryz.f92 _ bH.st
abbrev bH.Ok:=cr @bH.A bH.aq bH.add bH.F bH.out
theorem bH.eq{R:Type}(low:Int)(high:Int)(l:(List Int))(k:aT→Option R):bH.A (low,high,l) k=
 ab (gm.call (l,low,high)) fun x1=>
 k (bH.out (!x1.1)):=by kernel_rfl
theorem bH.ok:bH.Ok:=by
 rintro⟨lo,hi,l⟩ hl
 rw[bH.eq,gm.run (d:=(l,lo,hi)) hl]
 simp only[aa,gm.add,gm.F,bH.add,bH.F]
 rw[List.not_any_eq_all_not]
 simp only[Bool.not_not]
noncomputable def bH.E:=Entry.cD [some ti,some ti,some (.slice ti)] bH.st bH.aq bH.add bH.F bH.out
noncomputable def bH.call:bH.D→Option bH.X:=bC bH.E bH.st
theorem bH.run:bD bH.call bH.aq bH.add bH.F:=cw (cv [.d ti,.d ti,.d (.slice ti)] fun _=>by kernel_rfl)
noncomputable def bH.sg:SG Tryz.prog:=⟨92,aK,bH.E,.fn 0 (by kernel_rfl) bH.ok trivial⟩
theorem bH.c1(lo hi x:Int):bH.call (lo,hi,[x])=some (kQ x lo hi):=by
 rw[bH.run (d:=(lo,hi,[x])) (by show 1≤_;decide)]
 simp only[bH.add,bH.F,List.all_cons,List.all_nil,Bool.and_true]
theorem bH.c2(lo hi x y:Int):bH.call (lo,hi,[x,y])=some (kQ x lo hi && kQ y lo hi):=by
 rw[bH.run (d:=(lo,hi,[x,y])) (by show 2≤_;decide)]
 simp only[bH.add,bH.F,List.all_cons,List.all_nil,Bool.and_true]
abbrev dr.D:=fG
def dr.st:dr.D→SA:=fun c=>([.d gl c],[])
abbrev dr.Y:=Bool
abbrev dr.X:=Bool
def dr.out:dr.X→aT:=fun x=>⟨.d .bool x,[],[]⟩
def dr.add:dr.D→dr.Y→dr.X:=fun c y=>y
def dr.aq:dr.D→Prop:=fun c=>fo c.2.2.2.1
def dr.F:dr.D→dr.Y:=fun c=>yy c
noncomputable def dr.G:dU:=eZ (P:=Tryz.prog) [bH.sg,cP.sg]
noncomputable def dr.an:eu:= {}
noncomputable def dr.A:= @cq Tryz.prog dr.G dr.an 0 Tryz.f93 _ dr.st
abbrev dr.Ok:=cr @dr.A dr.aq dr.add dr.F dr.out
theorem dr.eq{R:Type}(c:fG)(k:aT→Option R):dr.A c k=
  ab (bH.call ((0:Int),(1:Int),[c.1])) fun x1=>
  aD (x1) (
   ab (bH.call ((1:Int),(1048576:Int),[c.2.1])) fun x2=>
   aD (x2) (
    ab (bH.call ((1:Int),(1125899906842624:Int),[c.2.2.1])) fun x3=>
    aD (x3) (
     ab (bH.call ((1:Int),(1048576:Int),[c.2.2.2.2.1])) fun x4=>
     aD (x4) (
      ab (cP.call c.2.2.2.1) fun x5=>
      aD (x5) (
       k (dr.out (qQ c.2.2.2.1 (1:Int)))) (
       k (dr.out false))) (
      k (dr.out false))) (
     k (dr.out false))) (
    k (dr.out false))) (
   k (dr.out false)):=by kernel_rfl
theorem dr.ok:dr.Ok:=by
 intro c hc
 rw[dr.eq,cP.run (d:=c.2.2.2.1) hc]
 simp only[aa,bH.c1,cP.add,cP.F,dr.add,dr.F,yy,we]
 cases lq c.2.2.2.1 <;> cases qQ c.2.2.2.1 1 <;> cases kQ c.1 0 1 <;> cases kQ c.2.1 1 1048576 <;> cases kQ c.2.2.1 1 1125899906842624 <;> cases kQ c.2.2.2.2.1 1 1048576 <;> rfl
noncomputable def dr.E:=Entry.cD [some gl] dr.st dr.aq dr.add dr.F dr.out
noncomputable def dr.call:dr.D→Option dr.X:=bC dr.E dr.st
theorem dr.run:bD dr.call dr.aq dr.add dr.F:=cw (cv [.d gl] fun _=>by kernel_rfl)
noncomputable def dr.sg:SG Tryz.prog:=⟨93,aK,dr.E,.fn 0 (by kernel_rfl) dr.ok trivial⟩
theorem GF(x y u v:Int):Ex [pV x y,pV u v]=if decide (x < y∨x=y∧u < v)=true then -1 else if x=y∧u=v then 0 else 1:=by
 by_cases h1:x < y
 ·simp[Ex,pV,h1]
 ·by_cases h2:x=y
  ·by_cases h3:u < v
   ·simp[Ex,pV,h2,h3]
   ·by_cases h4:u=v
    ·simp[Ex,pV,h2,h4]
    ·have h5:v < u:=by omega
     simp[Ex,pV,h2,h3,h4,h5]
  ·have h5:y < x:=by omega
   simp[Ex,pV,h1,h2,h5]
abbrev dB.D:=fG×fG
def dB.st:dB.D→SA:=fun(a,b)=>([.d gl a,.d gl b],[])
abbrev dB.Y:=Int
abbrev dB.X:=Int
def dB.out:dB.X→aT:=fun x=>⟨.d ti x,[],[]⟩
def dB.add:dB.D→dB.Y→dB.X:=fun(a,b) y=>y
def dB.aq:dB.D→Prop:=fun _=>True
def dB.F:dB.D→dB.Y:=fun(a,b)=>if r9 a b=true then -1 else if a.1=b.1∧a.2.1=b.2.1 then 0 else 1
noncomputable def dB.G:dU:=eZ (P:=Tryz.prog) [fw.sg,fp.sg]
noncomputable def dB.an:eu:= {}
noncomputable def dB.A:= @cq Tryz.prog dB.G dB.an 0 Tryz.f94 _ dB.st
abbrev dB.Ok:=cr @dB.A dB.aq dB.add dB.F dB.out
theorem dB.eq{R:Type}(a:fG)(b:fG)(k:aT→Option R):dB.A (a,b) k=
 ab (fw.call (a.1,b.1)) fun x1=>
 ab (fw.call (a.2.1,b.2.1)) fun x2=>
 ab (fp.call [x1,x2]) fun x3=>
 k (dB.out x3):=by kernel_rfl
theorem dB.ok:dB.Ok:=by
 rintro⟨a,b⟩ _
 rw[dB.eq,fw.run (d:=(a.1,b.1)) trivial]
 simp only[aa,fw.add,fw.F]
 rw[fw.run (d:=(a.2.1,b.2.1)) trivial]
 simp only[aa,fw.add,fw.F]
 rw[fp.run (d:=[pV a.1 b.1,pV a.2.1 b.2.1]) (by show 2≤_;decide)]
 simp only[aa,fp.add,fp.F,dB.add,dB.F,r9]
 rw[GF]
 rfl
noncomputable def dB.E:=Entry.cD [some gl,some gl] dB.st dB.aq dB.add dB.F dB.out
noncomputable def dB.call:dB.D→Option dB.X:=bC dB.E dB.st
theorem dB.run:bD dB.call dB.aq dB.add dB.F:=cw (cv [.d gl,.d gl] fun _=>by kernel_rfl)
noncomputable def dB.sg:SG Tryz.prog:=⟨94,aK,dB.E,.fn 0 (by kernel_rfl) dB.ok trivial⟩
theorem dB.ge(a b:fG):∃n,dB.call (a,b)=some n∧lk n 0= !r9 a b:=by
 refine⟨_,dB.run (d:=(a,b)) trivial,?_⟩
 simp only[dB.add,dB.F]
 cases r9 a b
 ·simp only[Bool.false_eq_true,if_false]
  split <;> rfl
 ·rfl
set_option synthInstance.maxSize 5000
theorem E1(d:Int):(te d).2.2.2.1=16:=rfl
theorem Im(d:Int):(te d).2.2.2.2.2.1=1125899906842624:=rfl
theorem Jb(d:Int):(te d).2.2.2.2.1=1:=rfl
theorem JG(d:Int):(te d).2.1=200:=rfl
theorem Ja(d:Int):(te d).2.2.1=d:=rfl
theorem jn.t0{ch:fF}(h:jn ch):nth iY ch.2.2.2.1 0=te 5:=by
 obtain⟨a,b0,b1,o,rfl,_⟩:=h
 rfl
theorem jn.t1{ch:fF}(h:jn ch):nth iY ch.2.2.2.1 1=te 6:=by
 obtain⟨a,b0,b1,o,rfl,_⟩:=h
 rfl
theorem jn.t{ch:fF}(h:jn ch){n:Int}(hn:n=0∨n=1):∃d,nth iY ch.2.2.2.1 n.toNat=te d∧(d=5∨d=6):=by
 rcases hn with rfl | rfl
 ·exact⟨5,h.t0,.inl rfl⟩
 ·exact⟨6,h.t1,.inr rfl⟩
theorem jn.op{ch:fF}(h:jn ch):ch.2.2.2.2.1=0∨ch.2.2.2.2.1=1:=by
 obtain⟨a,b0,b1,o,rfl,_,_,_,_,ho⟩:=h
 exact ho
theorem jn.yH{ch:fF}(h:jn ch):20000≤ch.2.1∧ch.2.1≤4294987295:=by
 obtain⟨a,b0,b1,o,rfl,h1,h2,_⟩:=h
 exact⟨h1,h2⟩
theorem F5.a{c:fG}(h:F5 c):yu c:=⟨by have:=h.yH.1;omega,h.yH.2⟩
theorem Ad{n:Int}(h:0≤n∧n≤1):bV .i64 1 n=1 - n:=fi (by omega) (by omega)
abbrev aF.L0.D:=fF×fL×Int
def aF.L0.st:aF.L0.D→AS:=fun(ch_2,sv_2,i)=>⟨([.undef,.undef,.fj iu ch_2,.fj hZ sv_2,.undef,.d ti i]++bw 135 []),[],(List.replicate 141 [])⟩
abbrev aF.L0.Y0:=Unit
abbrev aF.L0.X0:=Unit
def aF.L0.bK:aF.L0.X0→Exit×AS:=fun x=>(.ret,⟨(bw 4 ([.d .bool false]++bw 136 [])),[],(List.replicate 141 [])⟩)
abbrev aF.L0.Y1:=Unit
abbrev aF.L0.X1:=fF×fL
def aF.L0.iW:aF.L0.X1→Exit×AS:=fun x=>(.exit 0,⟨([.undef,.undef,.fj iu x.1,.fj hZ x.2]++bw 137 []),[],(List.replicate 141 [])⟩)
abbrev aF.L0.X:=(aF.L0.X0)⊕(aF.L0.X1)
abbrev aF.L0.Y:=(aF.L0.Y0)⊕(aF.L0.Y1)
def aF.L0.out:aF.L0.X→Out (Exit×AS):=fun x=> .br x.isLeft (.get x.getLeft? fun a=> .ok (aF.L0.bK a)) (.get x.getRight? fun b=> .ok (aF.L0.iW b))
def aF.L0.add:aF.L0.D→aF.L0.Y→aF.L0.X:=fun(ch_2,sv_2,i) y=>match y with | .inl y=> .inl y | .inr z=> .inr ((ch_2,sv_2))
abbrev aF.D:=fF×fL
def aF.st:aF.D→SA:=fun(ch,sv)=>([.d iu ch,.d hZ sv],[])
abbrev aF.Y:=Bool
abbrev aF.X:=Bool
def aF.out:aF.X→aT:=fun x=>⟨.d .bool x,[],[]⟩
def aF.add:aF.D→aF.Y→aF.X:=fun(ch,sv) y=>y
def aF.L0.aq:aF.L0.D→Prop:=fun(ch,sv,i)=>jn ch∧nG sv∧∃k:Nat,k≤sv.2.2.1.length∧i=k
def aF.L0.F:aF.L0.D→aF.L0.Y:=fun(ch,sv,i)=>if nm (rA sv.2.2.1 i.toNat) (sv.2.2.1.drop i.toNat)=true then .inr () else .inl ()
def aF.aq:aF.D→Prop:=fun(ch,s)=>jn ch∧nG s
def aF.F:aF.D→aF.Y:=fun(ch,s)=>pv ch s
noncomputable def aF.G:dU:=eZ (P:=Tryz.prog) [bE.sg,fH.sg,df.sg,cm.sg,bJ.sg,bU.sg,dy.sg]
noncomputable def aF.L0.E:=cf.cD aF.L0.st aF.L0.aq aF.L0.add aF.L0.F aF.L0.out
noncomputable def aF.L0.call:aF.L0.D→Option aF.L0.X:=dL aF.L0.E aF.L0.st
noncomputable def aF.an:eu:= {loops:=ki [(4,{bu:=[2,3,5]}),(10,{bu:=[2,3,7],sites:=[11,16,23,30,36,57,75,106,126,138]})],outs:=kh [(4,{bu:=[2,3]},{bu:=[4]}),(10,{bu:=[2,3],sites:=[11,16,23,30,36,57,75,106,126,138]},{bu:=[4],sites:=[11,16,23,30,36,57,75,106,126,138]})],gq:=lv [(4,aF.L0.E)]}
noncomputable def aF.A:= @cq Tryz.prog aF.G aF.an 3 Tryz.f27 _ aF.st
abbrev aF.Ok:=cr @aF.A aF.aq aF.add aF.F aF.out
noncomputable def aF.L0.R:= @cM Tryz.prog aF.G aF.an 3 Tryz.f27 0 _ aF.L0.st
abbrev aF.L0.Ok:=fk Tryz.prog aF.G aF.an 3 Tryz.f27 0 aF.L0.st aF.L0.aq aF.L0.add aF.L0.F aF.L0.out
theorem aF.L0.run:bD aF.L0.call aF.L0.aq aF.L0.add aF.L0.F:=fy (fx [.d iu,.d hZ,.d ti] fun _=>by kernel_rfl)
theorem aF.L0.aE:pT @aF.L0.R aF.L0.st aF.L0.aq aF.L0.add aF.L0.F aF.L0.out aF.L0.Ok:=qo
theorem aF.L0.step{R:Type}(ch_2:fF)(sv_2:fL)(i:Int)(kn:AS→Option R)(kx:Exit→AS→Option R):aF.L0.R (ch_2,sv_2,i) kn kx=
  aD ((gM i (((List.length sv_2.2.2.1):Nat):Int))) (
   aD (dZ i (((List.length sv_2.2.2.1):Nat):Int)) (
   ab (df.call (nth gl sv_2.2.2.1 (Int.toNat i))) fun x1=>
   aD ((!x1)) (
    kx (aF.L0.bK ()).1 (aF.L0.bK ()).2) (
    aD ((mX i (0:Int))) (
     aD (dZ (bV .i64 i (1:Int)) (((List.length sv_2.2.2.1):Nat):Int)) (
     aD (dZ i (((List.length sv_2.2.2.1):Nat):Int)) (
     ab (cm.call ((nth gl sv_2.2.2.1 (Int.toNat (bV .i64 i (1:Int)))),(nth gl sv_2.2.2.1 (Int.toNat i)))) fun x2=>
     aD ((!x2)) (
      kx (aF.L0.bK ()).1 (aF.L0.bK ()).2) (
      aD (dZ i (((List.length sv_2.2.2.1):Nat):Int)) (
      aD (dZ i (((List.length sv_2.2.2.1):Nat):Int)) (
      aD (dZ (bV .i64 (1:Int) (nth gl sv_2.2.2.1 (Int.toNat i)).1) (2:Int)) (
      aD ((gM (nth gl sv_2.2.2.1 (Int.toNat i)).2.2.1 (nth iY ch_2.2.2.2.1 (Int.toNat (bV .i64 (1:Int) (nth gl sv_2.2.2.1 (Int.toNat i)).1))).2.2.2.2.1)) (
       kx (aF.L0.bK ()).1 (aF.L0.bK ()).2) (
       kn (aF.L0.st (ch_2,sv_2,(bo .i64 i (1:Int)))))) none) none) none)) none) none) (
     aD (dZ i (((List.length sv_2.2.2.1):Nat):Int)) (
     aD (dZ i (((List.length sv_2.2.2.1):Nat):Int)) (
     aD (dZ (bV .i64 (1:Int) (nth gl sv_2.2.2.1 (Int.toNat i)).1) (2:Int)) (
     aD ((gM (nth gl sv_2.2.2.1 (Int.toNat i)).2.2.1 (nth iY ch_2.2.2.2.1 (Int.toNat (bV .i64 (1:Int) (nth gl sv_2.2.2.1 (Int.toNat i)).1))).2.2.2.2.1)) (
      kx (aF.L0.bK ()).1 (aF.L0.bK ()).2) (
      kn (aF.L0.st (ch_2,sv_2,(bo .i64 i (1:Int)))))) none) none) none))) none) (
   kx (aF.L0.iW (ch_2,sv_2)).1 (aF.L0.iW (ch_2,sv_2)).2):=by kernel_rfl
theorem aF.eq{R:Type}(ch:fF)(sv:fL)(k:aT→Option R):aF.A (ch,sv) k=
  ab (bE.call ch) fun x1=>
  aD ((qQ x1 (0:Int))) (
   k (aF.out false)) (
   ab (fH.call (sv.1,(0:Int),(1048576:Int))) fun x2=>
   aD ((!x2)) (
    k (aF.out false)) (
    ab (fH.call ((nth ti sv.2.1 0),(0:Int),(1125899906842624:Int))) fun x3=>
    aD ((!x3)) (
     k (aF.out false)) (
     ab (fH.call ((nth ti sv.2.1 1),(0:Int),(1125899906842624:Int))) fun x4=>
     aD ((!x4)) (
      k (aF.out false)) (
      ab (fH.call (sv.2.2.2.1,(0:Int),(1000:Int))) fun x5=>
      aD ((!x5)) (
       k (aF.out false)) (
       aD ((mX (((List.length sv.2.2.1):Nat):Int) (16:Int))) (
        k (aF.out false)) (
        ab (aF.L0.call (ch,sv,(0:Int))) fun x8=>
        aD (x8.isLeft) (
         ab (x8.getLeft?) fun a9=>
         k (aF.out false)) (
         ab (x8.getRight?) fun b10=>
         ab (bJ.call (b10.2,(0:Int))) fun x11=>
         aD ((mX x11.1 (nth iY b10.1.2.2.2.1 0).2.2.2.1)) (
          k (aF.out false)) (
          aD ((mX x11.2 (nth iY b10.1.2.2.2.1 0).2.2.2.2.2.1)) (
           k (aF.out false)) (
           ab (bJ.call (b10.2,(1:Int))) fun x12=>
           aD ((mX x12.1 (nth iY b10.1.2.2.2.1 1).2.2.2.1)) (
            k (aF.out false)) (
            aD ((mX x12.2 (nth iY b10.1.2.2.2.1 1).2.2.2.2.2.1)) (
             k (aF.out false)) (
             ab (bU.call b10.2) fun x13=>
             aD ((jO x13 b10.1.2.1)) (
              aD (dZ b10.1.2.2.2.2.1 (2:Int)) (
              ab (dy.call (b10.1,b10.2)) fun x14=>
              k (aF.out (lk (nth ti b10.2.2.1 (Int.toNat b10.1.2.2.2.2.1)) x14))) none) (
              k (aF.out false))))))))))))):=by kernel_rfl
theorem aF.L0.ok:aF.L0.Ok:=by
 refine aF.L0.aE (fun(ch,sv,i)=>sv.2.2.1.length - i.toNat) ?_
 rintro⟨ch,sv,i⟩ ⟨hch,hu,k,hk,rfl⟩
 have hu:nG sv:=hu
 have hl:sv.2.2.1.length≤1000:=hu.2.1
 have hk:k≤sv.2.2.1.length:=hk
 by_cases h:k < sv.2.2.1.length
 ·have hd:=BK h
  have step:∀ {R:Type} (kn:AS→Option R) (kx:Exit→AS→Option R),aF.L0.R (ch,sv,(k:Int)) kn kx=aD (yy sv.2.2.1[k] && (decide (k=0) || r9 (nth gl sv.2.2.1 (k - 1)) sv.2.2.1[k])) (kn (aF.L0.st (ch,sv,((k+1:Nat):Int)))) (kx (aF.L0.bK ()).1 (aF.L0.bK ()).2):=by
   intro R kn kx
   have n1:nth gl sv.2.2.1 k=sv.2.2.1[k]:=dS (t:=gl) h
   have hx:fo sv.2.2.1[k].2.2.2.1:=hu.1 _ (List.getElem_mem h)
   rw[aF.L0.step,bB (by omega),bz (by omega) (by omega),Int.toNat_natCast,n1,df.run (d:=sv.2.2.1[k]) hx,N.mq (by omega)]
   simp only[ah,aa,df.add,df.F]
   cases hb:yy sv.2.2.1[k]
   ·rfl
   ·have g:=mi.1 hb
    have i2:dZ (1 - sv.2.2.1[k].1) 2=true:=bz (by have:=g.side;omega) (by have:=g.side;omega)
    obtain⟨d,hd2,_⟩:=hch.t (n:=1 - sv.2.2.1[k].1) (by have:=g.side;omega)
    rw[Bool.not_true,ae,Ad g.side,hd2,Jb,bk (by have:=g.yH.1;omega),i2]
    simp only[ah,ae]
    by_cases h0:k=0
    ·subst h0
     rw[dj (by omega),ae,aL rfl]
     rfl
    ·rw[ee (by omega),ah,N.IB (by omega) (by omega),bz (by omega) (by omega),ah,Int.toNat_natCast,cm.c,aa,bN h0]
     cases r9 (nth gl sv.2.2.1 (k - 1)) sv.2.2.1[k] <;> rfl
  cases hp:(yy sv.2.2.1[k] && (decide (k=0) || r9 (nth gl sv.2.2.1 (k - 1)) sv.2.2.1[k]))
  ·right
   refine⟨aF.L0.bK (),?_,fun kn kx=> ?_⟩
   ·rw[←Bool.and_assoc,hp,Bool.false_and]at hd
    simp only[aF.L0.add,aF.L0.F,Int.toNat_natCast,hd,Bool.false_eq_true,if_false]
    rfl
   ·rw[step,hp,ae]
  ·left
   refine⟨(ch,sv,((k+1:Nat):Int)),⟨hch,hu,k+1,by omega,rfl⟩,by simp only[Int.toNat_natCast];omega,?_,fun kn kx=> ?_⟩
   ·rw[←Bool.and_assoc,hp,Bool.true_and]at hd
    simp only[aF.L0.add,aF.L0.F,Int.toNat_natCast,hd]
   ·rw[step,hp,ah]
 ·right
  obtain rfl:k=sv.2.2.1.length:=by omega
  refine⟨aF.L0.iW (ch,sv),?_,fun kn kx=> ?_⟩
  ·simp only[aF.L0.add,aF.L0.F,Int.toNat_natCast,List.drop_length,nm,if_true]
   rfl
  ·rw[aF.L0.step,bk (by omega),ae]
theorem aF.ok:aF.Ok:=by
 rintro⟨ch,s⟩ ⟨hch,hu⟩
 have hch:jn ch:=hch
 rw[aF.eq,bE.run (d:=ch) hch]
 simp only[aa,bE.add,bE.F,fH.c]
 rw[gO rfl,ae]
 simp only[aF.add,aF.F,pv]
 cases h1:kQ s.1 0 1048576
 ·rfl
 cases h2:kQ (nth ti s.2.1 0) 0 1125899906842624
 ·rfl
 cases h3:kQ (nth ti s.2.1 1) 0 1125899906842624
 ·rfl
 cases h4:kQ s.2.2.2.1 0 1000
 ·rfl
 simp only[Bool.not_true,ae,Bool.true_and]
 by_cases h5:s.2.2.1.length≤16
 rotate_left
 ·rw[ee (by omega),ah,bN h5];rfl
 rw[dj (by omega),ae,aL h5,Bool.true_and,aF.L0.run (d:=(ch,s,0)) ⟨hch,hu,0,Nat.zero_le _,rfl⟩]
 simp only[aa,aF.L0.add,aF.L0.F,Int.toNat_zero,List.drop_zero]
 rw[show rA s.2.2.1 0=none from rfl]
 cases h6:nm none s.2.2.1
 ·simp only[Bool.false_eq_true,if_false,Sum.isLeft_inl,ah,Sum.getLeft?_inl,aa,Bool.false_and]
 have hA:∀c∈s.2.2.1,yu c:=fun c hc=>(nJ _ _ h6 c hc).a
 simp only[if_true,Sum.isLeft_inr,ae,Sum.getRight?_inr,aa,Bool.true_and]
 rw[bJ.run (d:=(s,0)) ⟨.inl rfl,hA,by have:s.2.2.1.length≤16:=h5;show s.2.2.1.length≤1000;omega⟩]
 simp only[aa,bJ.add,bJ.F]
 have o0:=ru 0 s.2.2.1
 have o1:=ru 1 s.2.2.1
 rw[hch.t0,E1,Im,dj (by omega),ae]
 by_cases h7:fC (im 0 s.2.2.1)≤1125899906842624
 rotate_left
 ·rw[ee (by omega),ah,bN h7];rfl
 rw[dj (by omega),ae,aL h7,Bool.true_and,bJ.run (d:=(s,1)) ⟨.inr rfl,hA,by have:s.2.2.1.length≤16:=h5;show s.2.2.1.length≤1000;omega⟩]
 simp only[aa,bJ.add,bJ.F]
 rw[hch.t1,E1,Im,dj (by omega),ae]
 by_cases h8:fC (im 1 s.2.2.1)≤1125899906842624
 rotate_left
 ·rw[ee (by omega),ah,bN h8];rfl
 rw[dj (by omega),ae,aL h8,Bool.true_and,bU.run (d:=s) ⟨hA,by have:s.2.2.1.length≤16:=h5;show s.2.2.1.length≤1000;omega,lp.1 h2,lp.1 h3⟩]
 simp only[aa,bU.add,bU.F]
 cases jO (nth ti s.2.1 0+nth ti s.2.1 1+fC s.2.2.1) ch.2.1
 ·rfl
 have ho:=hch.op
 rw[ah,bz (by omega) (by omega),ah,dy.run (d:=(ch,s)) trivial]
 rfl
noncomputable def aF.E:=Entry.cD [some iu,some hZ] aF.st aF.aq aF.add aF.F aF.out
noncomputable def aF.call:aF.D→Option aF.X:=bC aF.E aF.st
theorem aF.run:bD aF.call aF.aq aF.add aF.F:=cw (cv [.d iu,.d hZ] fun _=>by kernel_rfl)
noncomputable def aF.sg:SG Tryz.prog:=⟨27,aK,aF.E,.fn 2 (by kernel_rfl) aF.ok (And.intro (.cD aF.L0.ok (by kernel_rfl)) (And.intro (.none (by kernel_rfl)) trivial))⟩
abbrev ak.L0.D:=fF×fL×(List fG)×Int×Int
def ak.L0.st:ak.L0.D→AS:=fun(ch_2,sv_2,t46,t47,t48)=>⟨([.undef,.undef,.fj iu ch_2,.fj hZ sv_2]++bw 42 ([.d (.slice gl) t46,.d ti t47,.d ti t48]++bw 74 [])),[],(List.replicate 123 [])⟩
abbrev ak.L0.Y0:=Unit
abbrev ak.L0.X0:=Unit
def ak.L0.bK:ak.L0.X0→Exit×AS:=fun x=>(.ret,⟨(bw 4 ([.d .bool false]++bw 118 [])),[],(List.replicate 123 [])⟩)
abbrev ak.L0.Y1:=Unit
abbrev ak.L0.X1:=fF×fL
def ak.L0.iW:ak.L0.X1→Exit×AS:=fun x=>(.exit 0,⟨([.undef,.undef,.fj iu x.1,.fj hZ x.2]++bw 119 []),[],(List.replicate 123 [])⟩)
abbrev ak.L0.X:=(ak.L0.X0)⊕(ak.L0.X1)
abbrev ak.L0.Y:=(ak.L0.Y0)⊕(ak.L0.Y1)
def ak.L0.out:ak.L0.X→Out (Exit×AS):=fun x=> .br x.isLeft (.get x.getLeft? fun a=> .ok (ak.L0.bK a)) (.get x.getRight? fun b=> .ok (ak.L0.iW b))
def ak.L0.add:ak.L0.D→ak.L0.Y→ak.L0.X:=fun(ch_2,sv_2,t46,t47,t48) y=>match y with | .inl y=> .inl y | .inr z=> .inr ((ch_2,sv_2))
abbrev ak.L1.D:=fF×fL×(List yC)×Int
def ak.L1.st:ak.L1.D→AS:=fun(ch_3,sv_3,t85,t86)=>⟨([.undef,.undef,.fj iu ch_3,.fj hZ sv_3]++bw 81 ([.d (.arr 2 iY) t85,.d ti t86]++bw 36 [])),[],(List.replicate 123 [])⟩
abbrev ak.L1.Y0:=Unit
abbrev ak.L1.X0:=Unit
def ak.L1.bK:ak.L1.X0→Exit×AS:=fun x=>(.ret,⟨(bw 4 ([.d .bool false]++bw 118 [])),[],(List.replicate 123 [])⟩)
abbrev ak.L1.Y1:=Unit
abbrev ak.L1.X1:=fF×fL
def ak.L1.iW:ak.L1.X1→Exit×AS:=fun x=>(.exit 2,⟨([.undef,.undef,.fj iu x.1,.fj hZ x.2]++bw 119 []),[],(List.replicate 123 [])⟩)
abbrev ak.L1.X:=(ak.L1.X0)⊕(ak.L1.X1)
abbrev ak.L1.Y:=(ak.L1.Y0)⊕(ak.L1.Y1)
def ak.L1.out:ak.L1.X→Out (Exit×AS):=fun x=> .br x.isLeft (.get x.getLeft? fun a=> .ok (ak.L1.bK a)) (.get x.getRight? fun b=> .ok (ak.L1.iW b))
def ak.L1.add:ak.L1.D→ak.L1.Y→ak.L1.X:=fun(ch_3,sv_3,t85,t86) y=>match y with | .inl y=> .inl y | .inr z=> .inr ((ch_3,sv_3))
abbrev ak.D:=fF×fL
def ak.st:ak.D→SA:=fun(ch,sv)=>([.d iu ch,.d hZ sv],[])
abbrev ak.Y:=Bool
abbrev ak.X:=Bool
def ak.out:ak.X→aT:=fun x=>⟨.d .bool x,[],[]⟩
def ak.add:ak.D→ak.Y→ak.X:=fun(ch,sv) y=>y
def ak.L1.aq:ak.L1.D→Prop:=fun(ch,s,l,i)=>jn ch∧(∀c∈s.2.2.1,yu c)∧s.2.2.1.length≤16∧l=ch.2.2.2.1∧(i=0∨i=1∨i=2)
def ak.L1.F:ak.L1.D→ak.L1.Y:=fun(ch,s,l,i)=>if(decide (i≤0→fC (im 0 s.2.2.1)≤1125899906842624) && decide (i≤1→fC (im 1 s.2.2.1)≤1125899906842624))=true then .inr () else .inl ()
def ak.L0.aq:ak.L0.D→Prop:=fun(ch,sv,l,m,i)=>jn ch∧nG sv∧l=sv.2.2.1∧m=sv.2.2.1.length∧∃k:Nat,k≤sv.2.2.1.length∧i=k
def ak.L0.F:ak.L0.D→ak.L0.Y:=fun(ch,sv,l,m,i)=>if nm (rA sv.2.2.1 i.toNat) (sv.2.2.1.drop i.toNat)=true then .inr () else .inl ()
def ak.aq:ak.D→Prop:=fun(ch,s)=>jn ch∧nG s
def ak.F:ak.D→ak.Y:=fun(ch,s)=>pv ch s
noncomputable def ak.G:dU:=eZ (P:=Tryz.prog) [bI.sg,bH.sg,dr.sg,dB.sg,bO.sg,aV.sg,dO.sg]
noncomputable def ak.L0.E:=cf.cD ak.L0.st ak.L0.aq ak.L0.add ak.L0.F ak.L0.out
noncomputable def ak.L0.call:ak.L0.D→Option ak.L0.X:=dL ak.L0.E ak.L0.st
noncomputable def ak.L1.E:=cf.cD ak.L1.st ak.L1.aq ak.L1.add ak.L1.F ak.L1.out
noncomputable def ak.L1.call:ak.L1.D→Option ak.L1.X:=dL ak.L1.E ak.L1.st
noncomputable def ak.an:eu:= {loops:=ki [(4,{bu:=[2,3,46,47,48]}),(10,{bu:=[2,3,85,86]})],outs:=kh [(4,{bu:=[2,3]},{bu:=[4]}),(10,{bu:=[2,3]},{bu:=[4]})],gq:=lv [(4,ak.L0.E),(10,ak.L1.E)]}
noncomputable def ak.A:= @cq Tryz.prog ak.G ak.an 0 Tryz.f41 _ ak.st
abbrev ak.Ok:=cr @ak.A ak.aq ak.add ak.F ak.out
noncomputable def ak.L0.R:= @cM Tryz.prog ak.G ak.an 0 Tryz.f41 0 _ ak.L0.st
abbrev ak.L0.Ok:=fk Tryz.prog ak.G ak.an 0 Tryz.f41 0 ak.L0.st ak.L0.aq ak.L0.add ak.L0.F ak.L0.out
noncomputable def ak.L1.R:= @cM Tryz.prog ak.G ak.an 0 Tryz.f41 1 _ ak.L1.st
abbrev ak.L1.Ok:=fk Tryz.prog ak.G ak.an 0 Tryz.f41 1 ak.L1.st ak.L1.aq ak.L1.add ak.L1.F ak.L1.out
theorem ak.L0.run:bD ak.L0.call ak.L0.aq ak.L0.add ak.L0.F:=fy (fx [.d iu,.d hZ,.d (.slice gl),.d ti,.d ti] fun _=>by kernel_rfl)
theorem ak.L0.aE:pT @ak.L0.R ak.L0.st ak.L0.aq ak.L0.add ak.L0.F ak.L0.out ak.L0.Ok:=qo
theorem ak.L0.step{R:Type}(ch_2:fF)(sv_2:fL)(t46:(List fG))(t47:Int)(t48:Int)(kn:AS→Option R)(kx:Exit→AS→Option R):ak.L0.R (ch_2,sv_2,t46,t47,t48) kn kx=
  aD ((gM t48 t47)) (
   aD (dZ t48 (((List.length t46):Nat):Int)) (
   ab (dr.call (nth gl t46 (Int.toNat t48))) fun x1=>
   aD ((!x1)) (
    kx (ak.L0.bK ()).1 (ak.L0.bK ()).2) (
    aD (dZ (bV .i64 (1:Int) (nth gl t46 (Int.toNat t48)).1) (2:Int)) (
    aD ((gM (nth gl t46 (Int.toNat t48)).2.2.1 (nth iY ch_2.2.2.2.1 (Int.toNat (bV .i64 (1:Int) (nth gl t46 (Int.toNat t48)).1))).2.2.2.2.1)) (
     kx (ak.L0.bK ()).1 (ak.L0.bK ()).2) (
     aD ((mX t48 (0:Int))) (
      aD (dZ (bV .i64 t48 (1:Int)) (((List.length sv_2.2.2.1):Nat):Int)) (
      ab (dB.call ((nth gl sv_2.2.2.1 (Int.toNat (bV .i64 t48 (1:Int)))),(nth gl t46 (Int.toNat t48)))) fun x2=>
      aD ((lk x2 (0:Int))) (
       kx (ak.L0.bK ()).1 (ak.L0.bK ()).2) (
       kn (ak.L0.st (ch_2,sv_2,t46,t47,(bo .i64 t48 (1:Int)))))) none) (
      kn (ak.L0.st (ch_2,sv_2,t46,t47,(bo .i64 t48 (1:Int))))))) none)) none) (
   kx (ak.L0.iW (ch_2,sv_2)).1 (ak.L0.iW (ch_2,sv_2)).2):=by kernel_rfl
theorem ak.L1.run:bD ak.L1.call ak.L1.aq ak.L1.add ak.L1.F:=fy (fx [.d iu,.d hZ,.d (.slice iY),.d ti] fun _=>by kernel_rfl)
theorem ak.L1.aE:pT @ak.L1.R ak.L1.st ak.L1.aq ak.L1.add ak.L1.F ak.L1.out ak.L1.Ok:=qo
theorem ak.L1.step{R:Type}(ch_3:fF)(sv_3:fL)(t85:(List yC))(t86:Int)(kn:AS→Option R)(kx:Exit→AS→Option R):ak.L1.R (ch_3,sv_3,t85,t86) kn kx=
  aD ((gM t86 (2:Int))) (
   aD (dZ t86 (2:Int)) (
   ab (bO.call (sv_3,t86)) fun x1=>
   aD ((mX x1.1 (nth iY t85 (Int.toNat t86)).2.2.2.1)) (
    kx (ak.L1.bK ()).1 (ak.L1.bK ()).2) (
    aD ((mX x1.2 (nth iY t85 (Int.toNat t86)).2.2.2.2.2.1)) (
     kx (ak.L1.bK ()).1 (ak.L1.bK ()).2) (
     kn (ak.L1.st (ch_3,sv_3,t85,(bo .i64 t86 (1:Int))))))) none) (
   kx (ak.L1.iW (ch_3,sv_3)).1 (ak.L1.iW (ch_3,sv_3)).2):=by kernel_rfl
theorem ak.eq{R:Type}(ch:fF)(sv:fL)(k:aT→Option R):ak.A (ch,sv) k=
  ab (bI.call ch) fun x1=>
  aD ((qQ x1 (0:Int))) (
   k (ak.out false)) (
   ab (bH.call ((0:Int),(1048576:Int),[sv.1])) fun x2=>
   aD ((!x2)) (
    k (ak.out false)) (
    ab (bH.call ((0:Int),(1125899906842624:Int),[(nth ti sv.2.1 0),(nth ti sv.2.1 1)])) fun x3=>
    aD ((!x3)) (
     k (ak.out false)) (
     ab (bH.call ((0:Int),(1000:Int),[sv.2.2.2.1])) fun x4=>
     aD ((!x4)) (
      k (ak.out false)) (
      aD ((mX (((List.length sv.2.2.1):Nat):Int) (16:Int))) (
       k (ak.out false)) (
       ab (ak.L0.call (ch,sv,sv.2.2.1,(((List.length sv.2.2.1):Nat):Int),(0:Int))) fun x7=>
       aD (x7.isLeft) (
        ab (x7.getLeft?) fun a8=>
        k (ak.out false)) (
        ab (x7.getRight?) fun b9=>
        ab (ak.L1.call (b9.1,b9.2,b9.1.2.2.2.1,(0:Int))) fun x11=>
        aD (x11.isLeft) (
         ab (x11.getLeft?) fun a12=>
         k (ak.out false)) (
         ab (x11.getRight?) fun b13=>
         ab (aV.call b13.2) fun x14=>
         aD ((jO x14 b13.1.2.1)) (
          aD (dZ b13.1.2.2.2.2.1 (2:Int)) (
          ab (dO.call (b13.1,b13.2)) fun x15=>
          k (ak.out (lk (nth ti b13.2.2.1 (Int.toNat b13.1.2.2.2.2.1)) x15))) none) (
          k (ak.out false))))))))):=by kernel_rfl
theorem ak.L0.ok:ak.L0.Ok:=by
 refine ak.L0.aE (fun(ch,sv,l,m,i)=>sv.2.2.1.length - i.toNat) ?_
 rintro⟨ch,sv,l,m,i⟩ ⟨hch,hu,rfl,rfl,k,hk,rfl⟩
 have hu:nG sv:=hu
 have hl:sv.2.2.1.length≤1000:=hu.2.1
 have hk:k≤sv.2.2.1.length:=hk
 by_cases h:k < sv.2.2.1.length
 ·have hd:=BK h
  have step:∀ {R:Type} (kn:AS→Option R) (kx:Exit→AS→Option R),ak.L0.R (ch,sv,sv.2.2.1,(sv.2.2.1.length:Int),(k:Int)) kn kx=aD (yy sv.2.2.1[k] && (decide (k=0) || r9 (nth gl sv.2.2.1 (k - 1)) sv.2.2.1[k])) (kn (ak.L0.st (ch,sv,sv.2.2.1,(sv.2.2.1.length:Int),((k+1:Nat):Int)))) (kx (ak.L0.bK ()).1 (ak.L0.bK ()).2):=by
   intro R kn kx
   have n1:nth gl sv.2.2.1 k=sv.2.2.1[k]:=dS (t:=gl) h
   have hx:fo sv.2.2.1[k].2.2.2.1:=hu.1 _ (List.getElem_mem h)
   obtain⟨an,ac,ag⟩:=dB.ge (nth gl sv.2.2.1 (k - 1)) sv.2.2.1[k]
   rw[ak.L0.step,bB (by omega),bz (by omega) (by omega),Int.toNat_natCast,n1,dr.run (d:=sv.2.2.1[k]) hx,N.mq (by omega)]
   simp only[ah,aa,dr.add,dr.F]
   cases hb:yy sv.2.2.1[k]
   ·rfl
   ·have g:=mi.1 hb
    have i2:dZ (1 - sv.2.2.1[k].1) 2=true:=bz (by have:=g.side;omega) (by have:=g.side;omega)
    obtain⟨d,hd2,_⟩:=hch.t (n:=1 - sv.2.2.1[k].1) (by have:=g.side;omega)
    rw[Bool.not_true,ae,Ad g.side,hd2,Jb,bk (by have:=g.yH.1;omega),i2]
    simp only[ah,ae]
    by_cases h0:k=0
    ·subst h0
     rw[dj (by omega),ae,aL rfl]
     rfl
    ·rw[ee (by omega),ah,N.IB (by omega) (by omega),bz (by omega) (by omega),ah,Int.toNat_natCast,ac,aa,ag,bN h0]
     cases r9 (nth gl sv.2.2.1 (k - 1)) sv.2.2.1[k] <;> rfl
  cases hp:(yy sv.2.2.1[k] && (decide (k=0) || r9 (nth gl sv.2.2.1 (k - 1)) sv.2.2.1[k]))
  ·right
   refine⟨ak.L0.bK (),?_,fun kn kx=> ?_⟩
   ·rw[←Bool.and_assoc,hp,Bool.false_and]at hd
    simp only[ak.L0.add,ak.L0.F,Int.toNat_natCast,hd,Bool.false_eq_true,if_false]
    rfl
   ·rw[step,hp,ae]
  ·left
   refine⟨(ch,sv,sv.2.2.1,(sv.2.2.1.length:Int),((k+1:Nat):Int)),⟨hch,hu,rfl,rfl,k+1,by omega,rfl⟩,by simp only[Int.toNat_natCast];omega,?_,fun kn kx=> ?_⟩
   ·rw[←Bool.and_assoc,hp,Bool.true_and]at hd
    simp only[ak.L0.add,ak.L0.F,Int.toNat_natCast,hd]
   ·rw[step,hp,ah]
 ·right
  obtain rfl:k=sv.2.2.1.length:=by omega
  refine⟨ak.L0.iW (ch,sv),?_,fun kn kx=> ?_⟩
  ·simp only[ak.L0.add,ak.L0.F,Int.toNat_natCast,List.drop_length,nm,if_true]
   rfl
  ·rw[ak.L0.step,bk (by omega),ae]
theorem ak.L1.ok:ak.L1.Ok:=by
 refine ak.L1.aE (fun(_,_,_,i)=>(2 - i).toNat) ?_
 rintro⟨ch,s,l,i⟩ ⟨hch,hA,hl,rfl,hi⟩
 have hch:jn ch:=hch
 have hl:s.2.2.1.length≤16:=hl
 have o0:=ru 0 s.2.2.1
 have o1:=ru 1 s.2.2.1
 rcases hi with rfl | rfl | rfl
 ·have step:∀ {R:Type} (kn:AS→Option R) (kx:Exit→AS→Option R),ak.L1.R (ch,s,ch.2.2.2.1,0) kn kx=aD (decide (fC (im 0 s.2.2.1)≤1125899906842624)) (kn (ak.L1.st (ch,s,ch.2.2.2.1,1))) (kx (ak.L1.bK ()).1 (ak.L1.bK ()).2):=by
   intro R kn kx
   rw[ak.L1.step,bB (by omega),bz (by omega) (by omega),bO.run (d:=(s,0)) ⟨.inl rfl,hA,by show s.2.2.1.length≤1000;omega⟩]
   simp only[ah,aa,bO.add,bO.F]
   rw[show nth iY ch.2.2.2.1 (Int.toNat 0)=te 5 from hch.t0,E1,Im,dj (by omega),ae]
   by_cases h:fC (im 0 s.2.2.1)≤1125899906842624
   ·rw[dj (by omega),aL h];rfl
   ·rw[ee (by omega),bN h];rfl
  by_cases h:fC (im 0 s.2.2.1)≤1125899906842624
  ·left
   refine⟨(ch,s,ch.2.2.2.1,1),⟨hch,hA,hl,rfl,.inr (.inl rfl)⟩,by show(2 - (1:Int)).toNat < (2 - (0:Int)).toNat;decide,?_,fun kn kx=> ?_⟩
   ·simp only[ak.L1.add,ak.L1.F]
    simp[h]
   ·rw[step,aL h,ah]
  ·right
   refine⟨ak.L1.bK (),?_,fun kn kx=> ?_⟩
   ·simp only[ak.L1.add,ak.L1.F]
    simp[h]
    rfl
   ·rw[step,bN h,ae]
 ·have step:∀ {R:Type} (kn:AS→Option R) (kx:Exit→AS→Option R),ak.L1.R (ch,s,ch.2.2.2.1,1) kn kx=aD (decide (fC (im 1 s.2.2.1)≤1125899906842624)) (kn (ak.L1.st (ch,s,ch.2.2.2.1,2))) (kx (ak.L1.bK ()).1 (ak.L1.bK ()).2):=by
   intro R kn kx
   rw[ak.L1.step,bB (by omega),bz (by omega) (by omega),bO.run (d:=(s,1)) ⟨.inr rfl,hA,by show s.2.2.1.length≤1000;omega⟩]
   simp only[ah,aa,bO.add,bO.F]
   rw[show nth iY ch.2.2.2.1 (Int.toNat 1)=te 6 from hch.t1,E1,Im,dj (by omega),ae]
   by_cases h:fC (im 1 s.2.2.1)≤1125899906842624
   ·rw[dj (by omega),aL h];rfl
   ·rw[ee (by omega),bN h];rfl
  by_cases h:fC (im 1 s.2.2.1)≤1125899906842624
  ·left
   refine⟨(ch,s,ch.2.2.2.1,2),⟨hch,hA,hl,rfl,.inr (.inr rfl)⟩,by show(2 - (2:Int)).toNat < (2 - (1:Int)).toNat;decide,?_,fun kn kx=> ?_⟩
   ·simp only[ak.L1.add,ak.L1.F]
    simp[h]
   ·rw[step,aL h,ah]
  ·right
   refine⟨ak.L1.bK (),?_,fun kn kx=> ?_⟩
   ·simp only[ak.L1.add,ak.L1.F]
    simp[h]
    rfl
   ·rw[step,bN h,ae]
 ·right
  refine⟨ak.L1.iW (ch,s),?_,fun kn kx=> ?_⟩
  ·simp only[ak.L1.add,ak.L1.F]
   simp
   rfl
  ·rw[ak.L1.step,bk (by omega),ae]
theorem ak.ok:ak.Ok:=by
 rintro⟨ch,s⟩ ⟨hch,hu⟩
 have hch:jn ch:=hch
 rw[ak.eq,bI.run (d:=ch) hch]
 simp only[aa,bI.add,bI.F,bH.c1,bH.c2]
 rw[gO rfl,ae]
 simp only[ak.add,ak.F,pv]
 cases h1:kQ s.1 0 1048576
 ·rfl
 cases h2:kQ (nth ti s.2.1 0) 0 1125899906842624
 ·rfl
 cases h3:kQ (nth ti s.2.1 1) 0 1125899906842624
 ·rfl
 cases h4:kQ s.2.2.2.1 0 1000
 ·rfl
 simp only[Bool.not_true,ae,Bool.true_and]
 by_cases h5:s.2.2.1.length≤16
 rotate_left
 ·rw[ee (by omega),ah,bN h5];rfl
 rw[dj (by omega),ae,aL h5,Bool.true_and,ak.L0.run (d:=(ch,s,s.2.2.1,(s.2.2.1.length:Int),0)) ⟨hch,hu,rfl,rfl,0,Nat.zero_le _,rfl⟩]
 simp only[aa,ak.L0.add,ak.L0.F,Int.toNat_zero,List.drop_zero]
 rw[show rA s.2.2.1 0=none from rfl]
 cases h6:nm none s.2.2.1
 ·simp only[Bool.false_eq_true,if_false,Sum.isLeft_inl,ah,Sum.getLeft?_inl,aa,Bool.false_and]
 have hA:∀c∈s.2.2.1,yu c:=fun c hc=>(nJ _ _ h6 c hc).a
 simp only[if_true,Sum.isLeft_inr,ae,Sum.getRight?_inr,aa,Bool.true_and]
 rw[ak.L1.run (d:=(ch,s,ch.2.2.2.1,0)) ⟨hch,hA,h5,rfl,.inl rfl⟩]
 simp only[aa,ak.L1.add,ak.L1.F]
 by_cases h7:fC (im 0 s.2.2.1)≤1125899906842624
 rotate_left
 ·rw[bN (fun x=>h7 (x (by omega))),bN h7];rfl
 by_cases h8:fC (im 1 s.2.2.1)≤1125899906842624
 rotate_left
 ·rw[bN (p:=(0:Int)≤1→_) (fun x=>h8 (x (by omega))),bN h8,Bool.and_false,Bool.false_and,Bool.and_false];rfl
 rw[aL (fun _=>h7),aL (p:=(0:Int)≤1→_) (fun _=>h8),aL h7,aL h8,Bool.true_and,Bool.true_and,Bool.true_and,if_pos rfl]
 simp only[Sum.isLeft_inr,ae,Sum.getRight?_inr,aa]
 rw[aV.run (d:=s) ⟨hA,by have:s.2.2.1.length≤16:=h5;show s.2.2.1.length≤1000;omega,lp.1 h2,lp.1 h3⟩]
 simp only[aa,aV.add,aV.F]
 cases jO (nth ti s.2.1 0+nth ti s.2.1 1+fC s.2.2.1) ch.2.1
 ·rfl
 have ho:=hch.op
 rw[ah,bz (by omega) (by omega),ah,dO.run (d:=(ch,s)) trivial]
 rfl
noncomputable def ak.E:=Entry.cD [some iu,some hZ] ak.st ak.aq ak.add ak.F ak.out
noncomputable def ak.call:ak.D→Option ak.X:=bC ak.E ak.st
theorem ak.run:bD ak.call ak.aq ak.add ak.F:=cw (cv [.d iu,.d hZ] fun _=>by kernel_rfl)
noncomputable def ak.sg:SG Tryz.prog:=⟨41,aK,ak.E,.fn 2 (by kernel_rfl) ak.ok (And.intro (.cD ak.L0.ok (by kernel_rfl)) (And.intro (.cD ak.L1.ok (by kernel_rfl)) trivial))⟩
set_option synthInstance.maxSize 5000
abbrev aM.L0.D:=Int×Int×fL×Int
def aM.L0.st:aM.L0.D→AS:=fun(fromv_2,id_2,sv_2,i)=>⟨([.undef,.d ti fromv_2,.d ti id_2,.fj hZ sv_2,.undef,.undef,.undef,.d ti i]++bw 26 []),[],(List.replicate 34 [])⟩
abbrev aM.L0.Y0:=Int
abbrev aM.L0.X0:=Int
def aM.L0.bK:aM.L0.X0→Exit×AS:=fun x=>(.ret,⟨(bw 6 ([.d ti x]++bw 27 [])),[],(List.replicate 34 [])⟩)
abbrev aM.L0.Y1:=Unit
abbrev aM.L0.X1:=Unit
def aM.L0.iW:aM.L0.X1→Exit×AS:=fun x=>(.exit 0,⟨(bw 34 []),[],(List.replicate 34 [])⟩)
abbrev aM.L0.X:=(aM.L0.X0)⊕(aM.L0.X1)
abbrev aM.L0.Y:=(aM.L0.Y0)⊕(aM.L0.Y1)
def aM.L0.out:aM.L0.X→Out (Exit×AS):=fun x=> .br x.isLeft (.get x.getLeft? fun a=> .ok (aM.L0.bK a)) (.get x.getRight? fun b=> .ok (aM.L0.iW b))
def aM.L0.add:aM.L0.D→aM.L0.Y→aM.L0.X:=fun(fromv_2,id_2,sv_2,i) y=>match y with | .inl y=> .inl y | .inr z=> .inr (z)
abbrev aM.D:=fL×Int×Int
def aM.st:aM.D→SA:=fun(sv,fromv,id)=>([.d hZ sv,.d ti fromv,.d ti id],[])
abbrev aM.Y:=Int
abbrev aM.X:=Int
def aM.out:aM.X→aT:=fun x=>⟨.d ti x,[],[]⟩
def aM.add:aM.D→aM.Y→aM.X:=fun(sv,fromv,id) y=>y
def BW(a i:Int):fG→Bool:=fun c=>jO c.1 a && jO c.2.1 i
def aM.L0.aq:aM.L0.D→Prop:=fun(_,_,s,i)=>s.2.2.1.length≤1000∧∃k:Nat,k≤s.2.2.1.length∧i=k
def aM.L0.F:aM.L0.D→aM.L0.Y:=fun(a,b,s,i)=>ns (BW a b) (s.2.2.1.drop i.toNat) i
def aM.aq:aM.D→Prop:=fun(s,_,_)=>s.2.2.1.length≤1000
def aM.F:aM.D→aM.Y:=fun(s,a,b)=>vV (BW a b) s.2.2.1
noncomputable def aM.G:dU:=eZ (P:=Tryz.prog) []
noncomputable def aM.L0.E:=cf.cD aM.L0.st aM.L0.aq aM.L0.add aM.L0.F aM.L0.out
noncomputable def aM.L0.call:aM.L0.D→Option aM.L0.X:=dL aM.L0.E aM.L0.st
noncomputable def aM.an:eu:= {loops:=ki [(2,{bu:=[1,2,3,7]})],outs:=kh [(2,{},{bu:=[6]})],gq:=lv [(2,aM.L0.E)]}
noncomputable def aM.A:= @cq Tryz.prog aM.G aM.an 0 Tryz.f71 _ aM.st
abbrev aM.Ok:=cr @aM.A aM.aq aM.add aM.F aM.out
noncomputable def aM.L0.R:= @cM Tryz.prog aM.G aM.an 0 Tryz.f71 0 _ aM.L0.st
abbrev aM.L0.Ok:=fk Tryz.prog aM.G aM.an 0 Tryz.f71 0 aM.L0.st aM.L0.aq aM.L0.add aM.L0.F aM.L0.out
theorem aM.L0.run:bD aM.L0.call aM.L0.aq aM.L0.add aM.L0.F:=fy (fx [.d ti,.d ti,.d hZ,.d ti] fun _=>by kernel_rfl)
theorem aM.L0.aE:pT @aM.L0.R aM.L0.st aM.L0.aq aM.L0.add aM.L0.F aM.L0.out aM.L0.Ok:=qo
theorem aM.L0.step{R:Type}(fromv_2:Int)(id_2:Int)(sv_2:fL)(i:Int)(kn:AS→Option R)(kx:Exit→AS→Option R):aM.L0.R (fromv_2,id_2,sv_2,i) kn kx=
  aD ((gM i (((List.length sv_2.2.2.1):Nat):Int))) (
   aD (dZ i (((List.length sv_2.2.2.1):Nat):Int)) (
   aD ((jO (nth gl sv_2.2.2.1 (Int.toNat i)).1 fromv_2)) (
    aD (dZ i (((List.length sv_2.2.2.1):Nat):Int)) (
    aD ((jO (nth gl sv_2.2.2.1 (Int.toNat i)).2.1 id_2)) (
     kx (aM.L0.bK i).1 (aM.L0.bK i).2) (
     kn (aM.L0.st (fromv_2,id_2,sv_2,(bo .i64 i (1:Int)))))) none) (
    kn (aM.L0.st (fromv_2,id_2,sv_2,(bo .i64 i (1:Int)))))) none) (
   kx (aM.L0.iW ()).1 (aM.L0.iW ()).2):=by kernel_rfl
theorem aM.eq{R:Type}(sv:fL)(fromv:Int)(id:Int)(k:aT→Option R):aM.A (sv,fromv,id) k=
  ab (aM.L0.call (fromv,id,sv,(0:Int))) fun x1=>
  aD (x1.isLeft) (
   ab (x1.getLeft?) fun a2=>
   k (aM.out a2)) (
   ab (x1.getRight?) fun b3=>
   k (aM.out (-1:Int))):=by kernel_rfl
theorem aM.L0.ok:aM.L0.Ok:=by
 refine aM.L0.aE (fun(_,_,s,i)=>s.2.2.1.length - i.toNat) ?_
 rintro⟨a,b,s,i⟩ ⟨hl,k,hk,rfl⟩
 have hl:s.2.2.1.length≤1000:=hl
 have hk:k≤s.2.2.1.length:=hk
 by_cases h:k < s.2.2.1.length
 ·have n1:nth gl s.2.2.1 k=s.2.2.1[k]:=dS (t:=gl) h
  have hd:ns (BW a b) (s.2.2.1.drop k) k=if BW a b s.2.2.1[k]=true then .inl (k:Int) else ns (BW a b) (s.2.2.1.drop (k+1)) ((k+1:Nat):Int):=by rw[List.drop_eq_getElem_cons h];rfl
  have step:∀ {R:Type} (kn:AS→Option R) (kx:Exit→AS→Option R),aM.L0.R (a,b,s,(k:Int)) kn kx=aD (BW a b s.2.2.1[k]) (kx (aM.L0.bK (k:Int)).1 (aM.L0.bK (k:Int)).2) (kn (aM.L0.st (a,b,s,((k+1:Nat):Int)))):=by
   intro R kn kx
   rw[aM.L0.step,bB (by omega),bz (by omega) (by omega),Int.toNat_natCast,n1,N.mq (by omega)]
   simp only[ah,BW]
   cases jO s.2.2.1[k].1 a <;> rfl
  cases hp:BW a b s.2.2.1[k]
  ·left
   refine⟨(a,b,s,((k+1:Nat):Int)),⟨hl,k+1,by omega,rfl⟩,by simp only[Int.toNat_natCast];omega,?_,fun kn kx=> ?_⟩
   ·simp only[aM.L0.add,aM.L0.F,Int.toNat_natCast,hd,hp,Bool.false_eq_true,if_false]
   ·rw[step,hp,ae]
  ·right
   refine⟨aM.L0.bK (k:Int),?_,fun kn kx=> ?_⟩
   ·simp only[aM.L0.add,aM.L0.F,Int.toNat_natCast,hd,hp,if_true]
    rfl
   ·rw[step,hp,ah]
 ·right
  obtain rfl:k=s.2.2.1.length:=by omega
  refine⟨aM.L0.iW (),?_,fun kn kx=> ?_⟩
  ·simp only[aM.L0.add,aM.L0.F,Int.toNat_natCast,List.drop_length]
   rfl
  ·rw[aM.L0.step,bk (by omega),ae]
theorem aM.ok:aM.Ok:=by
 rintro⟨s,a,b⟩ hl
 rw[aM.eq,aM.L0.run (d:=(a,b,s,0)) ⟨hl,0,Nat.zero_le _,rfl⟩]
 simp only[aa,aM.L0.add,aM.L0.F,Int.toNat_zero,List.drop_zero,aM.add,aM.F,vV]
 cases ns (BW a b) s.2.2.1 0 <;> rfl
noncomputable def aM.E:=Entry.cD [some hZ,some ti,some ti] aM.st aM.aq aM.add aM.F aM.out
noncomputable def aM.call:aM.D→Option aM.X:=bC aM.E aM.st
theorem aM.run:bD aM.call aM.aq aM.add aM.F:=cw (cv [.d hZ,.d ti,.d ti] fun _=>by kernel_rfl)
noncomputable def aM.sg:SG Tryz.prog:=⟨71,aK,aM.E,.fn 1 (by kernel_rfl) aM.ok (And.intro (.cD aM.L0.ok (by kernel_rfl)) trivial)⟩
abbrev bj.L0.D:=fL×fG×Bool×Int×Int×(List Int)×(Int×Unit)×Int×(List Int)×Nat×(Int×Unit)×(List fG)
def bj.L0.st:bj.L0.D→AS:=fun(sv_2,c_2,done,i,n4,n4_2,n4_3,n5,n5_2,n5L,n5_3,n32)=>⟨([.undef,.undef,.fj hZ sv_2,.fj gl c_2,.ptr (.new 4 0) 0 [] 0,.ptr (.new 5 0) 0 [] 0,.d .bool done,.d ti i]++bw 57 []),[],(cC 4 ([[.obj 0 false (.pr (.d ti n4) (.pr (.d (.arr 2 ti) n4_2) (.pr (.dQ) (.d (.pair ti .unit) n4_3))))],[.obj 0 false (.pr (.d ti n5) (.pr (.d (.arr 2 ti) n5_2) (.pr (.cT (.new 32 0) 0 [] 0 0 n5L) (.d (.pair ti .unit) n5_3))))]]++cC 26 ([[.obj 0 false (.vec 75 gl n32)]]++cC 32 [])))⟩
abbrev bj.L0.Y0:=Bool×Nat×(List fG)
abbrev bj.L0.X0:=(fG×Int×(List Int)×(Int×Unit)×Int×(List Int)×(Int×Unit))×(Bool×Nat×(List fG))
def bj.L0.bK:bj.L0.X0→Exit×AS:=fun x=>(.exit 0,⟨([.undef,.undef,.undef,.fj gl x.1.1,.ptr (.new 4 0) 0 [] 0,.ptr (.new 5 0) 0 [] 0,.d .bool x.2.1]++bw 58 []),[],(cC 4 ([[.obj 0 false (.pr (.d ti x.1.2.1) (.pr (.d (.arr 2 ti) x.1.2.2.1) (.pr (.dQ) (.d (.pair ti .unit) x.1.2.2.2.1))))],[.obj 0 false (.pr (.d ti x.1.2.2.2.2.1) (.pr (.d (.arr 2 ti) x.1.2.2.2.2.2.1) (.pr (.cT (.new 32 0) 0 [] 0 0 x.2.2.1) (.d (.pair ti .unit) x.1.2.2.2.2.2.2))))]]++cC 26 ([[.obj 0 false (.vec 75 gl x.2.2.2)]]++cC 32 [])))⟩)
abbrev bj.L0.X:=bj.L0.X0
abbrev bj.L0.Y:=bj.L0.Y0
def bj.L0.out:bj.L0.X→Out (Exit×AS):=fun x=> .ok (bj.L0.bK x)
def bj.L0.add:bj.L0.D→bj.L0.Y→bj.L0.X:=fun(sv_2,c_2,done,i,n4,n4_2,n4_3,n5,n5_2,n5L,n5_3,n32) y=>((c_2,n4,n4_2,n4_3,n5,n5_2,n5_3),y)
abbrev bj.D:=fL×fG
def bj.st:bj.D→SA:=fun(sv,c)=>([.d hZ sv,.d gl c],[])
abbrev bj.Y:=fL
abbrev bj.X:=fL
def bj.out:bj.X→aT:=fun x=>⟨.d hZ x,[],[]⟩
def bj.add:bj.D→bj.Y→bj.X:=fun(sv,c) y=>y
def qz:Bool→fG→List fG→List fG
 |_,_,[]=> []
 |d,c,x::l=>if(!d && r9 c x)=true then c::x::qz true c l else x::qz d c l
def tI:Bool→fG→List fG→Bool
 |d,_,[]=>d
 |d,c,x::l=>if(!d && r9 c x)=true then tI true c l else tI d c l
def qy(c:fG)(l:List fG):List fG:=qz false c l++(if tI false c l=true then [] else [c])
theorem sC:∀(c:fG) (l:List fG),qz true c l=l∧tI true c l=true
 |c,[]=>⟨rfl,rfl⟩
 |c,x::l=>by
  have:=sC c l
  simp only[qz,tI,Bool.not_true,Bool.false_and,Bool.false_eq_true,if_false,this.1,this.2,and_self]
theorem pK(c x:fG)(l:List fG):qy c (x::l)=if r9 c x=true then c::x::l else x::qy c l:=by
 unfold qy
 simp only[qz,tI,Bool.not_false,Bool.true_and]
 split
 ·rw[(sC c l).1,(sC c l).2]
  simp
 ·rfl
def hJ(s:fL)(c:fG):fL:=(s.1,(s.2.1.set c.1.toNat (nth ti s.2.1 c.1.toNat - c.2.2.1),(qy c s.2.2.1,s.2.2.2)))
def bj.L0.aq:bj.L0.D→Prop:=fun(s,c,done,i,z1,z2,z3,a1,a2,L,a3,row)=>s.2.2.1.length≤1000∧∃k:Nat,k≤s.2.2.1.length∧i=k∧L=row.length∧row.length≤2*k
def bj.L0.F:bj.L0.D→bj.L0.Y:=fun(s,c,done,i,z1,z2,z3,a1,a2,L,a3,row)=>(tI done c (s.2.2.1.drop i.toNat),(row++qz done c (s.2.2.1.drop i.toNat)).length,row++qz done c (s.2.2.1.drop i.toNat))
def bj.aq:bj.D→Prop:=fun(s,c)=>s.2.2.1.length≤1000∧s.2.1.length=2∧(0≤c.1∧c.1≤1)∧Bd (nth ti s.2.1 c.1.toNat) 0 1125899906842624∧0≤c.2.2.1∧c.2.2.1≤1125899906842624
def bj.F:bj.D→bj.Y:=fun(s,c)=>hJ s c
noncomputable def bj.G:dU:=eZ (P:=Tryz.prog) [cm.sg]
noncomputable def bj.L0.E:=cf.cD bj.L0.st bj.L0.aq bj.L0.add bj.L0.F bj.L0.out
noncomputable def bj.L0.call:bj.L0.D→Option bj.L0.X:=dL bj.L0.E bj.L0.st
noncomputable def bj.an:eu:= {loops:=ki [(5,{bu:=[2,3,4,5,6,7],sites:=[4,5,32],j6:=[⟨5,[.snd,.snd,.fst],32,51⟩]})],outs:=kh [(5,{bu:=[3,4,5,6],sites:=[4,5,32]},{bu:=[4]})],gq:=lv [(5,bj.L0.E)],res:=[some hZ]}
noncomputable def bj.A:= @cq Tryz.prog bj.G bj.an 0 Tryz.f72 _ bj.st
abbrev bj.Ok:=cr @bj.A bj.aq bj.add bj.F bj.out
noncomputable def bj.L0.R:= @cM Tryz.prog bj.G bj.an 0 Tryz.f72 0 _ bj.L0.st
abbrev bj.L0.Ok:=fk Tryz.prog bj.G bj.an 0 Tryz.f72 0 bj.L0.st bj.L0.aq bj.L0.add bj.L0.F bj.L0.out
theorem bj.L0.run:bD bj.L0.call bj.L0.aq bj.L0.add bj.L0.F:=fy (fx [.d hZ,.d gl,.d .bool,.d ti,.d ti,.d (.slice ti),.d (.pair ti .unit),.d ti,.d (.slice ti),.n,.d (.pair ti .unit),.d (.slice gl)] fun _=>by kernel_rfl)
theorem bj.L0.aE:fY @bj.L0.R bj.L0.st bj.L0.aq bj.L0.add bj.L0.F bj.L0.bK bj.L0.Ok:=gj
theorem bj.L0.step{R:Type}(sv_2:fL)(c_2:fG)(done:Bool)(i:Int)(n4:Int)(n4_2:(List Int))(n4_3:(Int×Unit))(n5:Int)(n5_2:(List Int))(n5L:Nat)(n5_3:(Int×Unit))(n32:(List fG))(kn:AS→Option R)(kx:Exit→AS→Option R):bj.L0.R (sv_2,c_2,done,i,n4,n4_2,n4_3,n5,n5_2,n5L,n5_3,n32) kn kx=
  aD ((gM i (((List.length sv_2.2.2.1):Nat):Int))) (
   aD ((!done)) (
    aD (dZ i (((List.length sv_2.2.2.1):Nat):Int)) (
    ab (cm.call (c_2,(nth gl sv_2.2.2.1 (Int.toNat i)))) fun x1=>
    aD (x1) (
     aD (decide (n5L≤(List.length n32))) (
     aD (dK (n5L+1) 40) (
     aD (dZ i (((List.length sv_2.2.2.1):Nat):Int)) (
     aD (decide ((n5L+1)≤(List.length ((List.take n5L n32)++ [c_2])))) (
     aD (dK ((n5L+1)+1) 40) (
     kn (bj.L0.st (sv_2,c_2,true,(bo .i64 i (1:Int)),n4,n4_2,n4_3,n5,n5_2,((n5L+1)+1),n5_3,((List.take (n5L+1) ((List.take n5L n32)++ [c_2]))++ [(nth gl sv_2.2.2.1 (Int.toNat i))])))) none) none) none) none) none) (
     aD (dZ i (((List.length sv_2.2.2.1):Nat):Int)) (
     aD (decide (n5L≤(List.length n32))) (
     aD (dK (n5L+1) 40) (
     kn (bj.L0.st (sv_2,c_2,done,(bo .i64 i (1:Int)),n4,n4_2,n4_3,n5,n5_2,(n5L+1),n5_3,((List.take n5L n32)++ [(nth gl sv_2.2.2.1 (Int.toNat i))])))) none) none) none)) none) (
    aD (dZ i (((List.length sv_2.2.2.1):Nat):Int)) (
    aD (decide (n5L≤(List.length n32))) (
    aD (dK (n5L+1) 40) (
    kn (bj.L0.st (sv_2,c_2,done,(bo .i64 i (1:Int)),n4,n4_2,n4_3,n5,n5_2,(n5L+1),n5_3,((List.take n5L n32)++ [(nth gl sv_2.2.2.1 (Int.toNat i))])))) none) none) none)) (
   kx (bj.L0.bK ((c_2,n4,n4_2,n4_3,n5,n5_2,n5_3),(done,n5L,n32))).1 (bj.L0.bK ((c_2,n4,n4_2,n4_3,n5,n5_2,n5_3),(done,n5L,n32))).2):=by kernel_rfl
theorem bj.eq{R:Type}(sv:fL)(c:fG)(k:aT→Option R):bj.A (sv,c) k=
  ab (bj.L0.call (sv,c,false,(0:Int),(0:Int),(List.replicate 2 (0:Int)),((0:Int),()),sv.1,sv.2.1,0,sv.2.2.2,([]:List fG))) fun x3=>
  aD ((!x3.2.1)) (
   aD (decide (x3.2.2.1≤(List.length x3.2.2.2))) (
   aD (dK (x3.2.2.1+1) 40) (
   aD (dZ x3.1.1.1 (2:Int)) (
   aD (decide ((Int.toNat x3.1.1.1) < (List.length x3.1.2.2.2.2.2.1))) (
   aD (decide ((1+(((Int.toNat x3.1.1.1)*1)+0))=(1+((Int.toNat x3.1.1.1)*1)))) (
   aD (dZ x3.1.1.1 (2:Int)) (
   aD (decide ((Int.toNat x3.1.1.1) < (List.length x3.1.2.2.2.2.2.1))) (
   aD (decide ((1+(((Int.toNat x3.1.1.1)*1)+0))=(1+((Int.toNat x3.1.1.1)*1)))) (
   aD (decide ((Int.toNat x3.1.1.1) < (List.length x3.1.2.2.2.2.2.1))) (
   aD (decide (0=0∧(0+(x3.2.2.1+1))≤(List.length ((List.take x3.2.2.1 x3.2.2.2)++ [x3.1.1])))) (
   k (bj.out (x3.1.2.2.2.2.1,((List.set x3.1.2.2.2.2.2.1 (Int.toNat x3.1.1.1) (bV .i64 (nth ti x3.1.2.2.2.2.2.1 (Int.toNat x3.1.1.1)) x3.1.1.2.2.1)),((cut ((List.take x3.2.2.1 x3.2.2.2)++ [x3.1.1]) 0 (x3.2.2.1+1)),x3.1.2.2.2.2.2.2))))) none) none) none) none) none) none) none) none) none) none) (
   aD (dZ x3.1.1.1 (2:Int)) (
   aD (decide ((Int.toNat x3.1.1.1) < (List.length x3.1.2.2.2.2.2.1))) (
   aD (decide ((1+(((Int.toNat x3.1.1.1)*1)+0))=(1+((Int.toNat x3.1.1.1)*1)))) (
   aD (dZ x3.1.1.1 (2:Int)) (
   aD (decide ((Int.toNat x3.1.1.1) < (List.length x3.1.2.2.2.2.2.1))) (
   aD (decide ((1+(((Int.toNat x3.1.1.1)*1)+0))=(1+((Int.toNat x3.1.1.1)*1)))) (
   aD (decide ((Int.toNat x3.1.1.1) < (List.length x3.1.2.2.2.2.2.1))) (
   aD (decide (0=0∧(0+x3.2.2.1)≤(List.length x3.2.2.2))) (
   k (bj.out (x3.1.2.2.2.2.1,((List.set x3.1.2.2.2.2.2.1 (Int.toNat x3.1.1.1) (bV .i64 (nth ti x3.1.2.2.2.2.2.1 (Int.toNat x3.1.1.1)) x3.1.1.2.2.1)),((cut x3.2.2.2 0 x3.2.2.1),x3.1.2.2.2.2.2.2))))) none) none) none) none) none) none) none) none):=by kernel_rfl
theorem bj.L0.ok:bj.L0.Ok:=by
 refine bj.L0.aE (fun(s,c,done,i,_)=>s.2.2.1.length - i.toNat) ?_
 rintro⟨s,c,done,i,z1,z2,z3,a1,a2,L,a3,row⟩ ⟨hl,k,hk,rfl,rfl,hr⟩
 have hl:s.2.2.1.length≤1000:=hl
 have hk:k≤s.2.2.1.length:=hk
 have hr:row.length≤2*k:=hr
 by_cases h:k < s.2.2.1.length
 ·left
  have n1:nth gl s.2.2.1 k=s.2.2.1[k]:=dS (t:=gl) h
  have hd:s.2.2.1.drop k=s.2.2.1[k]::s.2.2.1.drop (k+1):=List.drop_eq_getElem_cons h
  have e1:∀x:fG,(row++ [x]).length=row.length+1:=fun x=>by rw[List.length_append];rfl
  have e2:∀x y:fG,(row++ [x]++ [y]).length=row.length+1+1:=fun x y=>by rw[List.length_append,List.length_append];rfl
  by_cases hq:(!done && r9 c s.2.2.1[k])=true
  ·refine⟨(s,c,true,((k+1:Nat):Int),z1,z2,z3,a1,a2,row.length+1+1,a3,row++ [c]++ [s.2.2.1[k]]),⟨hl,k+1,by omega,rfl,(e2 _ _).symm,by show(row++ [c]++ [s.2.2.1[k]]).length≤_;rw[e2];omega⟩,by simp only[Int.toNat_natCast];omega,?_,fun kn kx=> ?_⟩
   ·simp only[bj.L0.add,bj.L0.F,Int.toNat_natCast,hd,qz,tI,hq,if_true,List.append_assoc,List.cons_append,List.nil_append]
   ·rw[bj.L0.step,bB (by omega),Int.toNat_natCast,n1,N.mq (by omega)]
    obtain⟨q1,q2⟩:=Bool.and_eq_true_iff.1 hq
    rw[q1,ah,ah,bz (by omega) (by omega),ah,cm.c,aa,q2,ah,aL (Nat.le_refl _),ah,eR (by omega) (by omega),ah,ah,List.take_length]
    rw[aL (by rw[e1];exact Nat.le_refl _),ah,eR (by omega) (by omega),ah,List.take_of_length_le (by rw[e1];exact Nat.le_refl _)]
  ·refine⟨(s,c,done,((k+1:Nat):Int),z1,z2,z3,a1,a2,row.length+1,a3,row++ [s.2.2.1[k]]),⟨hl,k+1,by omega,rfl,(e1 _).symm,by show(row++ [s.2.2.1[k]]).length≤_;rw[e1];omega⟩,by simp only[Int.toNat_natCast];omega,?_,fun kn kx=> ?_⟩
   ·simp only[bj.L0.add,bj.L0.F,Int.toNat_natCast,hd,qz,tI,hq,Bool.false_eq_true,if_false,List.append_assoc,List.singleton_append]
   ·rw[bj.L0.step,bB (by omega),Int.toNat_natCast,n1,N.mq (by omega)]
    rw[ah,bz (by omega) (by omega),cm.c,aL (Nat.le_refl _),eR (by omega) (by omega),List.take_length]
    simp only[ah,aa]
    cases done
    ·have q:r9 c s.2.2.1[k]=false:=by
      cases e:r9 c s.2.2.1[k]
      ·rfl
      ·rw[e]at hq;exact absurd rfl hq
     rw[q]
     rfl
    ·rfl
 ·right
  obtain rfl:k=s.2.2.1.length:=by omega
  intro R kn kx
  rw[bj.L0.step,bk (by omega),ae]
  simp only[bj.L0.add,bj.L0.F,Int.toNat_natCast,List.drop_length,qz,tI,List.append_nil]
theorem bj.ok:bj.Ok:=by
 rintro⟨s,c⟩ ⟨hl,h2,hc,ha,hb⟩
 have hl:s.2.2.1.length≤1000:=hl
 have h2:s.2.1.length=2:=h2
 have hc:0≤c.1∧c.1≤1:=hc
 have ha0:=ha.1
 have ha1:=ha.2
 have hb:0≤c.2.2.1∧c.2.2.1≤1125899906842624:=hb
 rw[bj.eq,bj.L0.run (d:=(s,c,false,0,0,List.replicate 2 0,(0,()),s.1,s.2.1,0,s.2.2.2,[])) ⟨hl,0,Nat.zero_le _,rfl,rfl,Nat.zero_le _⟩]
 simp only[aa,bj.L0.add,bj.L0.F,Int.toNat_zero,List.drop_zero,List.nil_append,bj.add,bj.F,hJ]
 have hT:(qz false c s.2.2.1).length≤2*s.2.2.1.length:=by
  have:∀(d:Bool) (l:List fG),(qz d c l).length≤2*l.length:=by
   intro d l
   induction l generalizing d with
   |nil=>exact Nat.le_refl _
   |cons x l ih=>
    rw[qz]
    split
    ·have:=ih true
     simp only[List.length_cons]
     omega
    ·have:=ih d
     simp only[List.length_cons]
     omega
  exact this false _
 have i1:dZ c.1 2=true:=bz hc.1 (by omega)
 have i2:c.1.toNat < s.2.1.length:=by omega
 have i3:1+(c.1.toNat*1+0)=1+c.1.toNat*1:=by omega
 rw[fi (by omega) (by omega)]
 simp only[i1,aL i2,aL i3,ah,List.take_length,Nat.zero_add,qy]
 cases tI false c s.2.2.1
 ·rw[Bool.not_false,ah,aL (Nat.le_refl _),ah,eR (by omega) (by omega),ah,aL ⟨trivial,by rw[List.length_append];exact Nat.le_refl _⟩,ah,gI (by rw[List.length_append];rfl)]
  rfl
 ·rw[Bool.not_true,ae,aL ⟨trivial,Nat.le_refl _⟩,ah,gI rfl]
  rw[if_pos rfl,List.append_nil]
noncomputable def bj.E:=Entry.cD [some hZ,some gl] bj.st bj.aq bj.add bj.F bj.out
noncomputable def bj.call:bj.D→Option bj.X:=bC bj.E bj.st
theorem bj.run:bD bj.call bj.aq bj.add bj.F:=cw (cv [.d hZ,.d gl] fun _=>by kernel_rfl)
noncomputable def bj.sg:SG Tryz.prog:=⟨72,aK,bj.E,.fn 1 (by kernel_rfl) bj.ok (And.intro (.cD bj.L0.ok (by kernel_rfl)) trivial)⟩
abbrev dV.D:=fF×fL×fG
def dV.st:dV.D→SA:=fun(ch,sv,c)=>([.d iu ch,.d hZ sv,.d gl c],[])
abbrev dV.Y:=fL×Int
abbrev dV.X:=fL×Int
def dV.out:dV.X→aT:=fun x=>⟨.cons (.d hZ x.1) (.cons (.d ti x.2) (.nil)),[],[]⟩
def dV.add:dV.D→dV.Y→dV.X:=fun(ch,sv,c) y=>y
def Fh:fL:=((0:Int),((List.replicate 2 (0:Int)),(([]:List fG),((0:Int),()))))
def Gg(ch:fF)(t:fL)(c:fG):Int:=nth ti t.2.1 c.1.toNat - (if c.1=ch.2.2.2.2.1 then tG t.2.2.2.1 t.2.2.1.length+660 else 0)
def tD(ch:fF)(s:fL)(c:fG):fL×Int:=
 if(pv ch s && yy c)=true then
  if s.2.2.1.any (BW c.1 c.2.1)=true then(Fh,4) else
  if s.2.2.1.length=16 then(Fh,3) else
  if fC (im (1 - c.1) s.2.2.1)+c.2.2.1 > 1125899906842624 then(Fh,6) else
  if nth ti (hJ s c).2.1 c.1.toNat < 0 then(Fh,8) else
  if nth ti (hJ s c).2.1 ch.2.2.2.2.1.toNat < tG (hJ s c).2.2.2.1 (hJ s c).2.2.1.length+660 then(Fh,8) else
  if Gg ch (hJ s c) c < 200 then(Fh,10) else(hJ s c,0)
 else(Fh,1)
def dV.aq:dV.D→Prop:=fun(ch,s,c)=>jn ch∧nG s∧fo c.2.2.2.1
def dV.F:dV.D→dV.Y:=fun(ch,s,c)=>tD ch s c
noncomputable def dV.G:dU:=eZ (P:=Tryz.prog) [aF.sg,df.sg,aM.sg,bJ.sg,bj.sg,dy.sg]
noncomputable def dV.an:eu:= {res:=[some hZ,none]}
noncomputable def dV.A:= @cq Tryz.prog dV.G dV.an 0 Tryz.f30 _ dV.st
abbrev dV.Ok:=cr @dV.A dV.aq dV.add dV.F dV.out
theorem dV.eq{R:Type}(ch:fF)(sv:fL)(c:fG)(k:aT→Option R):dV.A (ch,sv,c) k=
  ab (aF.call (ch,sv)) fun x1=>
  ab (df.call c) fun x2=>
  aD ((!x1)) (
   k (dV.out (((0:Int),((List.replicate 2 (0:Int)),(([]:List fG),((0:Int),())))),(1:Int)))) (
   aD ((!x2)) (
    k (dV.out (((0:Int),((List.replicate 2 (0:Int)),(([]:List fG),((0:Int),())))),(1:Int)))) (
    ab (aM.call (sv,c.1,c.2.1)) fun x3=>
    aD ((lk x3 (0:Int))) (
     k (dV.out (((0:Int),((List.replicate 2 (0:Int)),(([]:List fG),((0:Int),())))),(4:Int)))) (
     aD (dZ (bV .i64 (1:Int) c.1) (2:Int)) (
     ab (bJ.call (sv,(bV .i64 (1:Int) c.1))) fun x4=>
     aD ((gM c.2.2.1 (nth iY ch.2.2.2.1 (Int.toNat (bV .i64 (1:Int) c.1))).2.2.2.2.1)) (
      k (dV.out (((0:Int),((List.replicate 2 (0:Int)),(([]:List fG),((0:Int),())))),(9:Int)))) (
      aD ((jO (((List.length sv.2.2.1):Nat):Int) (16:Int))) (
       k (dV.out (((0:Int),((List.replicate 2 (0:Int)),(([]:List fG),((0:Int),())))),(3:Int)))) (
       aD ((lk x4.1 (nth iY ch.2.2.2.1 (Int.toNat (bV .i64 (1:Int) c.1))).2.2.2.1)) (
        k (dV.out (((0:Int),((List.replicate 2 (0:Int)),(([]:List fG),((0:Int),())))),(3:Int)))) (
        aD ((mX (bo .i64 x4.2 c.2.2.1) (nth iY ch.2.2.2.1 (Int.toNat (bV .i64 (1:Int) c.1))).2.2.2.2.2.1)) (
         k (dV.out (((0:Int),((List.replicate 2 (0:Int)),(([]:List fG),((0:Int),())))),(6:Int)))) (
         ab (bj.call (sv,c)) fun x5=>
         ab (dy.call (ch,x5)) fun x6=>
         aD (dZ c.1 (2:Int)) (
         aD (decide ((Int.toNat c.1) < (List.length x5.2.1))) (
         aD (decide ((1+(((Int.toNat c.1)*1)+0))=(1+((Int.toNat c.1)*1)))) (
         aD ((gM (nth ti x5.2.1 (Int.toNat c.1)) (0:Int))) (
          k (dV.out (((0:Int),((List.replicate 2 (0:Int)),(([]:List fG),((0:Int),())))),(8:Int)))) (
          aD (dZ ch.2.2.2.2.1 (2:Int)) (
          aD (decide ((Int.toNat ch.2.2.2.2.1) < (List.length x5.2.1))) (
          aD (decide ((1+(((Int.toNat ch.2.2.2.2.1)*1)+0))=(1+((Int.toNat ch.2.2.2.2.1)*1)))) (
          aD ((gM (nth ti x5.2.1 (Int.toNat ch.2.2.2.2.1)) x6)) (
           k (dV.out (((0:Int),((List.replicate 2 (0:Int)),(([]:List fG),((0:Int),())))),(8:Int)))) (
           aD (dZ c.1 (2:Int)) (
           aD (decide ((Int.toNat c.1) < (List.length x5.2.1))) (
           aD (decide ((1+(((Int.toNat c.1)*1)+0))=(1+((Int.toNat c.1)*1)))) (
           aD ((jO c.1 ch.2.2.2.2.1)) (
            aD ((gM (bV .i64 (nth ti x5.2.1 (Int.toNat c.1)) x6) (nth iY ch.2.2.2.1 (Int.toNat (bV .i64 (1:Int) c.1))).2.1)) (
             k (dV.out (((0:Int),((List.replicate 2 (0:Int)),(([]:List fG),((0:Int),())))),(10:Int)))) (
             k (dV.out (x5,(0:Int))))) (
            aD ((gM (nth ti x5.2.1 (Int.toNat c.1)) (nth iY ch.2.2.2.1 (Int.toNat (bV .i64 (1:Int) c.1))).2.1)) (
             k (dV.out (((0:Int),((List.replicate 2 (0:Int)),(([]:List fG),((0:Int),())))),(10:Int)))) (
             k (dV.out (x5,(0:Int)))))) none) none) none)) none) none) none)) none) none) none))))) none))):=by kernel_rfl
structure qO(ch:fF)(s:fL):Prop where
 no:0≤s.1∧s.1≤1048576
 h0:Bd (nth ti s.2.1 0) 0 1125899906842624
 h1:Bd (nth ti s.2.1 1) 0 1125899906842624
 bp:0≤s.2.2.2.1∧s.2.2.2.1≤1000
 len:s.2.2.1.length≤16
 kg:nm none s.2.2.1=true
 o0:fC (im 0 s.2.2.1)≤1125899906842624
 o1:fC (im 1 s.2.2.1)≤1125899906842624
 ID: @Eq Int (nth ti s.2.1 0+nth ti s.2.1 1+fC s.2.2.1) ch.2.1
 cost: @GE.ge Int _ (nth ti s.2.1 ch.2.2.2.2.1.toNat) (tG s.2.2.2.1 s.2.2.1.length+660)
theorem lR{ch:fF}{s:fL}:pv ch s=true↔qO ch s:=by
 unfold pv jO lk
 simp only[Bool.and_eq_true,lp,decide_eq_true_eq,beq_iff_eq]
 exact⟨fun⟨a,b,c,d,e,f,g,h,i,j⟩=>⟨a,b,c,d,e,f,g,h,i,j⟩,fun h=>⟨h.no,h.h0,h.h1,h.bp,h.len,h.kg,h.o0,h.o1,h.ID,h.cost⟩⟩
theorem qO.BP{ch:fF}{s:fL}(h:qO ch s){n:Int}(hn:n=0∨n=1):Bd (nth ti s.2.1 n.toNat) 0 1125899906842624:=by
 rcases hn with rfl | rfl
 ·exact h.h0
 ·exact h.h1
theorem qO.a{ch:fF}{s:fL}(h:qO ch s):∀c∈s.2.2.1,yu c:=fun c hc=>(nJ _ _ h.kg c hc).a
theorem qO.off{ch:fF}{s:fL}(h:qO ch s){n:Int}(hn:n=0∨n=1):0≤fC (im n s.2.2.1)∧fC (im n s.2.2.1)≤1125899906842624:=by
 refine⟨(xu _ fun c hc=>h.a c ((List.mem_filter.1 hc).1)).1,?_⟩
 rcases hn with rfl | rfl
 ·exact h.o0
 ·exact h.o1
theorem uK:∀(c:fG) (l:List fG),(qy c l).length=l.length+1
 |c,[]=>rfl
 |c,x::l=>by
  rw[pK]
  split
  ·rfl
  ·rw[List.length_cons,uK c l];rfl
theorem zC{l:List Int}(h:l.length=2)(a b v:Int)(ha:a=0∨a=1)(hb:b=0∨b=1):nth ti (l.set a.toNat v) b.toNat=if a=b then v else nth ti l b.toNat:=by
 match l,h with
 |[x,y],_=>
  rcases ha with rfl | rfl <;> rcases hb with rfl | rfl <;> rfl
theorem EU{n:Int}(h:0≤n∧n≤1):n=0∨n=1:=by omega
theorem dV.ok:dV.Ok:=by
 rintro⟨ch,s,c⟩ ⟨hch,hu,hc⟩
 have hch:jn ch:=hch
 have hu:nG s:=hu
 rw[dV.eq,aF.run (d:=(ch,s)) ⟨hch,hu⟩]
 simp only[aa,aF.add,aF.F]
 rw[df.run (d:=c) hc]
 simp only[aa,df.add,df.F,dV.add,dV.F,tD]
 cases e1:pv ch s
 ·rfl
 cases e2:yy c
 ·rfl
 have hs:=lR.1 e1
 have g:=mi.1 e2
 have gs:=EU g.side
 have hlen:=hs.len
 simp only[Bool.not_true,ae,Bool.and_self,if_true]
 rw[aM.run (d:=(s,c.1,c.2.1)) hu.2.1]
 simp only[aa,aM.add,aM.F,rb]
 cases e3:s.2.2.1.any (BW c.1 c.2.1)
 rotate_left
 ·rfl
 have gs':1 - c.1=0∨1 - c.1=1:=by omega
 obtain⟨d,hd,_⟩:=hch.t gs'
 simp only[ae,Bool.false_eq_true,if_false]
 rw[Ad g.side,bz (by omega) (by omega),ah,bJ.run (d:=(s,1 - c.1)) ⟨gs',hs.a,hu.2.1⟩]
 simp only[aa,bJ.add,bJ.F]
 rw[hd,Jb,E1,Im,JG,bk (by have:=g.yH;omega),ae]
 by_cases e4:s.2.2.1.length=16
 ·rw[fg (by omega),ah,if_pos e4];rfl
 have ho:=ru (1 - c.1) s.2.2.1
 have ho2:=hs.off gs'
 have ga:=g.yH
 rw[eo (by omega),ae,if_neg e4,fR (by omega),ae,cR (by omega) (by omega)]
 by_cases e5:fC (im (1 - c.1) s.2.2.1)+c.2.2.1 > 1125899906842624
 ·rw[ee e5,ah,if_pos e5];rfl
 have hv:=hs.BP gs
 have hv0:=hv.1
 have hv1:=hv.2
 rw[dj e5,ae,if_neg e5,bj.run (d:=(s,c)) ⟨hu.2.1,hu.2.2,g.side,hv,g.a.1,g.a.2⟩]
 simp only[aa,bj.add,bj.F]
 rw[dy.run (d:=(ch,hJ s c)) trivial]
 simp only[aa,dy.add,dy.F]
 have l2:(hJ s c).2.1.length=2:=by
  show(List.set _ _ _).length=2
  rw[List.length_set];exact hu.2.2
 have hop:=hch.op
 have i1:dZ c.1 2=true:=bz g.side.1 (by omega)
 have i2:c.1.toNat < (hJ s c).2.1.length:=by rw[l2];omega
 have i3:1+(c.1.toNat*1+0)=1+c.1.toNat*1:=by omega
 have j1:dZ ch.2.2.2.2.1 2=true:=bz (by omega) (by omega)
 have j2:ch.2.2.2.2.1.toNat < (hJ s c).2.1.length:=by rw[l2];omega
 have j3:1+(ch.2.2.2.2.1.toNat*1+0)=1+ch.2.2.2.2.1.toNat*1:=by omega
 simp only[i1,aL i2,aL i3,j1,aL j2,aL j3,ah]
 by_cases e6:nth ti (hJ s c).2.1 c.1.toNat < 0
 ·rw[bB e6,ah,if_pos e6];rfl
 rw[bk e6,ae,if_neg e6]
 by_cases e7:nth ti (hJ s c).2.1 ch.2.2.2.2.1.toNat < tG (hJ s c).2.2.2.1 (hJ s c).2.2.1.length+660
 ·rw[bB e7,ah,if_pos e7];rfl
 have hf:=o5 (hJ s c).2.2.2.1 (hJ s c).2.2.1.length
 have hw: @Eq Int (nth ti (hJ s c).2.1 c.1.toNat) (nth ti s.2.1 c.1.toNat - c.2.2.1):=by
  show nth ti (List.set _ _ _) _=_
  rw[zC hu.2.2 _ _ _ gs gs,if_pos rfl]
 rw[bk e7,ae,if_neg e7]
 unfold Gg
 by_cases e8:c.1=ch.2.2.2.2.1
 ·rw[fg e8,ah,fi (by omega) (by omega),if_pos e8]
  by_cases e9:nth ti (hJ s c).2.1 c.1.toNat - (tG (hJ s c).2.2.2.1 (hJ s c).2.2.1.length+660) < 200
  ·rw[bB e9,ah,if_pos e9];rfl
  ·rw[bk e9,ae,if_neg e9]
 ·rw[eo e8,ae,if_neg e8,Int.sub_zero]
  by_cases e9:nth ti (hJ s c).2.1 c.1.toNat < 200
  ·rw[bB e9,ah,if_pos e9];rfl
  ·rw[bk e9,ae,if_neg e9]
noncomputable def dV.E:=Entry.cD [some iu,some hZ,some gl] dV.st dV.aq dV.add dV.F dV.out
noncomputable def dV.call:dV.D→Option dV.X:=bC dV.E dV.st
theorem dV.run:bD dV.call dV.aq dV.add dV.F:=cw (cv [.d iu,.d hZ,.d gl] fun _=>by kernel_rfl)
noncomputable def dV.sg:SG Tryz.prog:=⟨30,aK,dV.E,.fn 0 (by kernel_rfl) dV.ok trivial⟩
end Go.Ab
