/-
  Made short by a program of mine (wip/tools/mini.py).
-/
import Derived.Test.YtlpebgkekjfhaaaGreatS16x4
import Derived.Shelf.SlSortCmp.NoneTotal
import Derived.Test.YtlpebgkekjfhaaaGreatProg
set_option linter.unusedVariables false
set_option linter.unusedSimpArgs false
namespace Go.Ab
open Go.Proofs
set_option maxRecDepth 100000
set_option linter.unusedVariables false
set_option linter.unusedSimpArgs false
set_option synthInstance.maxSize 5000
def iG(o:List Int)(ks:List Int):List Int:=ks.foldl (fun o p=>o++iQ p) o
def Ec(o:List Int)(b:ik):List Int:=dS (dS (iG (dS o b.1.length) b.1) b.2.1) b.2.2.1++iQ b.2.2.2.1
def BP(l:Lk):List Int:=if iT l then l.1.foldl Ec (dS [] l.1.length) else []
theorem pf:∀(ks:List Int) (o:List Int),(iG o ks).length=o.length+8*ks.length
 |[],o=>rfl
 |k::ks,o=>by
  show(iG (o++iQ k) ks).length=_
  rw[pf ks,List.length_append,cq,List.length_cons];omega
theorem wR(o:List Int)(b:ik)(h:b.1.length≤12):(Ec o b).length≤o.length+200:=by
 unfold Ec
 have h1:=fm o b.1.length
 have h2:=pf b.1 (dS o b.1.length)
 have h3:=fm (iG (dS o b.1.length) b.1) b.2.1
 have h4:=fm (dS (iG (dS o b.1.length) b.1) b.2.1) b.2.2.1
 rw[List.length_append,cq];omega
def D6(n:Int):Prop:=n≤9223372036854775807
def GM(b:ik):Prop:=b.1.length≤12∧D6 b.2.1∧D6 b.2.2.1
theorem FG{b:ik}(h:lj b=true):GM b:=by
 unfold lj rM at h
 simp only[Bool.and_eq_true,decide_eq_true_eq]at h
 obtain⟨h1,_,h2,h3,_⟩:=h
 exact⟨h1,by unfold D6;omega,by unfold D6;omega⟩
theorem tY(o:List Int)(ks:List Int)(k:Nat)(h:k < ks.length):iG o (ks.drop k)=iG (o++iQ ks[k]) (ks.drop (k+1)):=by rw[List.drop_eq_getElem_cons h];rfl
abbrev aJ.L0.D:=Bs×(List ik)×Int×Int
def aJ.L0.st:aJ.L0.D→AS:=fun(outv,t16,t17,t18)=>⟨([.undef,.undef,.undef,.d tB outv]++bl 12 ([.d (.slice fX) t16,.d ti t17,.d ti t18]++bl 31 [])),[],(List.replicate 50 [])⟩
abbrev aJ.L0.Y0:=Bs
abbrev aJ.L0.X0:=Bs
def aJ.L0.bp:aJ.L0.X0→Exit×AS:=fun x=>(.exit 0,⟨([.undef,.undef,.undef,.d tB x]++bl 46 []),[],(List.replicate 50 [])⟩)
abbrev aJ.L0.X:=aJ.L0.X0
abbrev aJ.L0.Y:=aJ.L0.Y0
def aJ.L0.out:aJ.L0.X→Out (Exit×AS):=fun x=> .ok (aJ.L0.bp x)
def aJ.L0.add:aJ.L0.D→aJ.L0.Y→aJ.L0.X:=fun(outv,t16,t17,t18) y=>y
abbrev aJ.L1.D:=Bs×(List ik)×Int×Int×Bs×Int×Int×ik
def aJ.L1.st:aJ.L1.D→AS:=fun(outv_2,t16_2,t17_2,t18_2,t28,t29,t30,n5)=>⟨([.undef,.undef,.undef,.d tB outv_2,.undef,.ptr (.new 5 0) 0 [] 0]++bl 10 ([.d (.slice fX) t16_2,.d ti t17_2,.d ti t18_2]++bl 9 ([.d tU t28,.d ti t29,.d ti t30]++bl 19 []))),[],(ch 5 ([[.obj 0 false (.d fX n5)]]++ch 44 []))⟩
abbrev aJ.L1.Y0:=Bs
abbrev aJ.L1.X0:=((List ik)×Int×Int×ik)×(Bs)
def aJ.L1.bp:aJ.L1.X0→Exit×AS:=fun x=>(.exit 2,⟨([.undef,.undef,.undef,.d tB x.2,.undef,.ptr (.new 5 0) 0 [] 0]++bl 10 ([.d (.slice fX) x.1.1,.d ti x.1.2.1,.d ti x.1.2.2.1]++bl 31 [])),[],(ch 5 ([[.obj 0 false (.d fX x.1.2.2.2)]]++ch 44 []))⟩)
abbrev aJ.L1.X:=aJ.L1.X0
abbrev aJ.L1.Y:=aJ.L1.Y0
def aJ.L1.out:aJ.L1.X→Out (Exit×AS):=fun x=> .ok (aJ.L1.bp x)
def aJ.L1.add:aJ.L1.D→aJ.L1.Y→aJ.L1.X:=fun(outv_2,t16_2,t17_2,t18_2,t28,t29,t30,n5) y=>((t16_2,t17_2,t18_2,n5),y)
abbrev aJ.D:=Lk
def aJ.st:aJ.D→SA:=fun l=>([.d ql l],[])
abbrev aJ.Y:=Bs
abbrev aJ.X:=Bs
def aJ.out:aJ.X→ba:=fun x=>⟨.d tB x,[],[]⟩
def aJ.add:aJ.D→aJ.Y→aJ.X:=fun l y=>y
def aJ.L1.av:aJ.L1.D→Prop:=fun(o,bs,n,i,ks,m,j,b)=>ks.length≤12∧o.length+8*ks.length≤80000000+8*j.toNat∧m=ks.length∧∃k:Nat,k≤ks.length∧j=k
def aJ.L1.F:aJ.L1.D→aJ.L1.Y:=fun(o,bs,n,i,ks,m,j,b)=>iG o (ks.drop j.toNat)
def aJ.L0.av:aJ.L0.D→Prop:=fun(o,bs,n,i)=>(∀b∈bs,GM b)∧bs.length≤4∧o.length≤1000+200*i.toNat∧n=bs.length∧∃k:Nat,k≤bs.length∧i=k
def aJ.L0.F:aJ.L0.D→aJ.L0.Y:=fun(o,bs,n,i)=>(bs.drop i.toNat).foldl Ec o
def aJ.av:aJ.D→Prop:=fun l=>u9 l∧l.1.length≤9223372036854775807
def aJ.F:aJ.D→aJ.Y:=fun l=>BP l
noncomputable def aJ.G:ed:=fk (P:=Tryz.prog) [aQ.sg,eF.sg,eK.sg]
noncomputable def aJ.L0.E:=bU.cD aJ.L0.st aJ.L0.av aJ.L0.add aJ.L0.F aJ.L0.out
noncomputable def aJ.L0.call:aJ.L0.D→Option aJ.L0.X:=dw aJ.L0.E aJ.L0.st
noncomputable def aJ.L1.E:=bU.cD aJ.L1.st aJ.L1.av aJ.L1.add aJ.L1.F aJ.L1.out
noncomputable def aJ.L1.call:aJ.L1.D→Option aJ.L1.X:=dw aJ.L1.E aJ.L1.st
noncomputable def aJ.an:eQ:= {loops:=jB [(5,{bn:=[3,16,17,18]}),(9,{bn:=[3,5,16,17,18,28,29,30],sites:=[5]})],outs:=jA [(5,{bn:=[3]},{bn:=[2]}),(9,{bn:=[3,5,16,17,18],sites:=[5]},{bn:=[2]})],fC:=kf [(5,aJ.L0.E),(9,aJ.L1.E)],res:=[some tB]}
noncomputable def aJ.A:= @cY Tryz.prog aJ.G aJ.an 0 Tryz.f146 _ aJ.st
abbrev aJ.Ok:=dd @aJ.A aJ.av aJ.add aJ.F aJ.out
noncomputable def aJ.L0.R:= @cj Tryz.prog aJ.G aJ.an 0 Tryz.f146 0 _ aJ.L0.st
abbrev aJ.L0.Ok:=ew Tryz.prog aJ.G aJ.an 0 Tryz.f146 0 aJ.L0.st aJ.L0.av aJ.L0.add aJ.L0.F aJ.L0.out
noncomputable def aJ.L1.R:= @cj Tryz.prog aJ.G aJ.an 0 Tryz.f146 1 _ aJ.L1.st
abbrev aJ.L1.Ok:=ew Tryz.prog aJ.G aJ.an 0 Tryz.f146 1 aJ.L1.st aJ.L1.av aJ.L1.add aJ.L1.F aJ.L1.out
theorem aJ.L0.run:bM aJ.L0.call aJ.L0.av aJ.L0.add aJ.L0.F:=eM (eL [.d tB,.d (.slice fX),.d ti,.d ti] fun _=>by kernel_rfl)
theorem aJ.L0.aB:fQ @aJ.L0.R aJ.L0.st aJ.L0.av aJ.L0.add aJ.L0.F aJ.L0.bp aJ.L0.Ok:=fU
theorem aJ.L0.step{R:Type}(outv:Bs)(t16:(List ik))(t17:Int)(t18:Int)(kn:AS→Option R)(kx:Exit→AS→Option R):aJ.L0.R (outv,t16,t17,t18) kn kx=
  aG ((fM t18 t17)) (
   aG (eI t18 (((List.length t16):Nat):Int)) (
   ah (eF.call (outv,(((List.length (nth fX t16 (Int.toNat t18)).1):Nat):Int))) fun x1=>
   ah (aJ.L1.call (x1,t16,t17,t18,(nth fX t16 (Int.toNat t18)).1,(((List.length (nth fX t16 (Int.toNat t18)).1):Nat):Int),(0:Int),(nth fX t16 (Int.toNat t18)))) fun x2=>
   ah (eF.call (x2.2,x2.1.2.2.2.2.1)) fun x3=>
   ah (eF.call (x3,x2.1.2.2.2.2.2.1)) fun x4=>
   ah (eK.call (x4,x2.1.2.2.2.2.2.2.1)) fun x5=>
   kn (aJ.L0.st (x5,x2.1.1,x2.1.2.1,(bN .i64 x2.1.2.2.1 (1:Int))))) none) (
   kx (aJ.L0.bp outv).1 (aJ.L0.bp outv).2):=by kernel_rfl
theorem aJ.L1.run:bM aJ.L1.call aJ.L1.av aJ.L1.add aJ.L1.F:=eM (eL [.d tB,.d (.slice fX),.d ti,.d ti,.d tU,.d ti,.d ti,.d fX] fun _=>by kernel_rfl)
theorem aJ.L1.aB:fQ @aJ.L1.R aJ.L1.st aJ.L1.av aJ.L1.add aJ.L1.F aJ.L1.bp aJ.L1.Ok:=fU
theorem aJ.L1.step{R:Type}(outv_2:Bs)(t16_2:(List ik))(t17_2:Int)(t18_2:Int)(t28:Bs)(t29:Int)(t30:Int)(n5:ik)(kn:AS→Option R)(kx:Exit→AS→Option R):aJ.L1.R (outv_2,t16_2,t17_2,t18_2,t28,t29,t30,n5) kn kx=
  aG ((fM t30 t29)) (
   aG (eI t30 (((List.length t28):Nat):Int)) (
   ah (eK.call (outv_2,(nth tu t28 (Int.toNat t30)))) fun x1=>
   kn (aJ.L1.st (x1,t16_2,t17_2,t18_2,t28,t29,(bN .i64 t30 (1:Int)),n5))) none) (
   kx (aJ.L1.bp ((t16_2,t17_2,t18_2,n5),outv_2)).1 (aJ.L1.bp ((t16_2,t17_2,t18_2,n5),outv_2)).2):=by kernel_rfl
theorem aJ.eq{R:Type}(l:Lk)(k:ba→Option R):aJ.A l k=
  ah (aQ.call l) fun x1=>
  aG ((!x1)) (
   k (aJ.out ([]:List Int))) (
   ah (eF.call (([]:List Int),(((List.length l.1):Nat):Int))) fun x2=>
   ah (aJ.L0.call (x2,l.1,(((List.length l.1):Nat):Int),(0:Int))) fun x9=>
   k (aJ.out x9)):=by kernel_rfl
theorem aJ.L1.ok:aJ.L1.Ok:=by
 refine aJ.L1.aB (fun(o,bs,n,i,ks,m,j,b)=>ks.length - j.toNat) ?_
 rintro⟨o,bs,n,i,ks,m,j,b⟩ ⟨hk12,hl,rfl,k,hk,rfl⟩
 have hk12:ks.length≤12:=hk12
 have hk:k≤ks.length:=hk
 have hl:o.length+8*ks.length≤80000000+8*(k:Int).toNat:=hl
 rw[Int.toNat_natCast]at hl
 by_cases h:k < ks.length
 ·left
  have n1:nth (.int .u64) ks k=ks[k]:=cn (t:= .int .u64) h
  refine⟨(o++iQ ks[k],bs,n,i,ks,ks.length,((k+1:Nat):Int),b),⟨hk12,by rw[List.length_append,cq,Int.toNat_natCast];omega,rfl,k+1,by omega,rfl⟩,by simp only[Int.toNat_natCast];omega,?_,fun kn kx=> ?_⟩
  ·simp only[aJ.L1.add,aJ.L1.F,Int.toNat_natCast]
   rw[tY _ _ _ h]
  ·rw[aJ.L1.step]
   simp(disch:=omega) only[↓S1,↓if_pos,↓if_neg,if_pos,if_neg,if_true,if_false,S2,n1]
   rw[eK.run (d:=(o,ks[k])) (by show o.length≤90000000;omega)]
   rfl
 ·right
  obtain rfl:k=ks.length:=by omega
  intro R kn kx
  rw[aJ.L1.step]
  simp(disch:=omega) only[↓S1,↓if_pos,↓if_neg,if_pos,if_neg,if_true,if_false,S2,aJ.L1.add,aJ.L1.F,List.drop_length]
  rfl
theorem aJ.L0.ok:aJ.L0.Ok:=by
 refine aJ.L0.aB (fun(o,bs,n,i)=>bs.length - i.toNat) ?_
 rintro⟨o,bs,n,i⟩ ⟨hb,h4,hl,rfl,k,hk,rfl⟩
 have h4:bs.length≤4:=h4
 have hk:k≤bs.length:=hk
 have hl:o.length≤1000+200*(k:Int).toNat:=hl
 rw[Int.toNat_natCast]at hl
 by_cases h:k < bs.length
 ·left
  have hx:=hb _ (List.getElem_mem h)
  have n1:nth (.pair (.slice (.int .u64)) (.pair (.int .i64) (.pair (.int .i64) (.pair (.int .u64) .unit)))) bs k=bs[k]:=cn (t:=(.pair (.slice (.int .u64)) (.pair (.int .i64) (.pair (.int .i64) (.pair (.int .u64) .unit))))) h
  have e0:=wR o bs[k] hx.1
  refine⟨(Ec o bs[k],bs,bs.length,((k+1:Nat):Int)),⟨hb,h4,by rw[Int.toNat_natCast];omega,rfl,k+1,by omega,rfl⟩,by simp only[Int.toNat_natCast];omega,?_,fun kn kx=> ?_⟩
  ·simp only[aJ.L0.add,aJ.L0.F,Int.toNat_natCast]
   rw[List.drop_eq_getElem_cons h]
   rfl
  ·rw[aJ.L0.step,aW (by omega),bm (by omega) (by omega),Int.toNat_natCast,n1]
   obtain⟨⟨ks,af,dl,sc,u⟩,hbk⟩:∃b,bs[k]=b:=⟨_,rfl⟩
   rw[hbk]at hx e0 ⊢
   obtain⟨h12,ha,hd⟩:=hx
   have h12:ks.length≤12:=h12
   have ha:af≤9223372036854775807:=ha
   have hd:dl≤9223372036854775807:=hd
   have l1:=fm o ks.length
   have l2:=pf ks (dS o ks.length)
   have l3:=fm (iG (dS o ks.length) ks) af
   have l4:=fm (dS (iG (dS o ks.length) ks) af) dl
   simp only[ae]
   rw[eF.run (d:=(o,(ks.length:Int))) ⟨by show o.length≤90000000;omega,by show(ks.length:Int)≤9223372036854775807;omega⟩]
   simp only[aa,eF.add,eF.F]
   rw[aJ.L1.run (d:=(dS o ks.length,bs,bs.length,k,ks,ks.length,0,(ks,af,dl,sc,u))) ⟨h12,by show(dS o ks.length).length+8*ks.length≤_;omega,rfl,0,by omega,rfl⟩]
   simp only[aa,aJ.L1.add,aJ.L1.F,Int.toNat_zero,List.drop_zero]
   rw[eF.run (d:=(iG (dS o ks.length) ks,af)) ⟨by show(iG (dS o ks.length) ks).length≤90000000;omega,ha⟩]
   simp only[aa,eF.add,eF.F]
   rw[eF.run (d:=(dS (iG (dS o ks.length) ks) af,dl)) ⟨by show(dS (iG (dS o ks.length) ks) af).length≤90000000;omega,hd⟩]
   simp only[aa,eF.add,eF.F]
   rw[eK.run (d:=(dS (dS (iG (dS o ks.length) ks) af) dl,sc)) (by show(dS (dS (iG (dS o ks.length) ks) af) dl).length≤90000000;omega)]
   simp only[aa,eK.add,eK.F]
   rw[N.j5 (by omega)]
   rfl
 ·right
  obtain rfl:k=bs.length:=by omega
  intro R kn kx
  rw[aJ.L0.step]
  simp(disch:=omega) only[↓S1,↓if_pos,↓if_neg,if_pos,if_neg,if_true,if_false,S2,aJ.L0.add,aJ.L0.F,List.drop_length]
  rfl
theorem Ae{l:Lk}(h:iT l=true):(∀b∈l.1,GM b)∧0 < l.1.length∧l.1.length≤4:=by
 unfold iT at h
 simp only[Bool.and_eq_true,List.all_eq_true,decide_eq_true_eq]at h
 exact⟨fun b hb=>FG (h.1 b hb),h.2⟩
theorem aJ.ok:aJ.Ok:=by
 rintro l ⟨hl,hb⟩
 have hl:u9 l:=hl
 rw[aJ.eq,aQ.run (d:=l) ⟨hl,hb⟩]
 simp only[aa,aQ.add,aQ.F,aJ.add,aJ.F,BP]
 cases hok:iT l
 ·rfl
 ·obtain⟨h1,h2,h3⟩:=Ae hok
  have l1:=fm [] l.1.length
  have l0:([]:List Int).length=0:=rfl
  simp only[Bool.not_true,ag,if_true]
  rw[eF.run (d:=([],(l.1.length:Int))) ⟨by show([]:List Int).length≤90000000;omega,by show(l.1.length:Int)≤9223372036854775807;omega⟩]
  simp only[aa,eF.add,eF.F]
  rw[aJ.L0.run (d:=(dS [] l.1.length,l.1,l.1.length,0)) ⟨h1,h3,by show(dS [] l.1.length).length≤_;omega,rfl,0,by omega,rfl⟩]
  rfl
theorem xe(l:Lk):(BP l).length≤1000:=by
 unfold BP
 split
 ·rename_i h
  obtain⟨h1,h2,h3⟩:=Ae h
  have key:∀(bs:List ik) (o:List Int),(∀b∈bs,GM b)→(bs.foldl Ec o).length≤o.length+200*bs.length:=by
   intro bs
   induction bs with
   |nil=>intro o _;exact Nat.le_refl _
   |cons b bs ih=>
    intro o hb
    have e1:=ih (Ec o b) fun x hx=>hb x (List.mem_cons_of_mem _ hx)
    have e2:=wR o b (hb b List.mem_cons_self).1
    rw[List.foldl_cons,List.length_cons];omega
  have e:=key l.1 (dS [] l.1.length) h1
  have e2:=fm [] l.1.length
  have l0:([]:List Int).length=0:=rfl
  omega
 ·exact Nat.zero_le _
noncomputable def aJ.E:=Entry.cD [some ql] aJ.st aJ.av aJ.add aJ.F aJ.out
noncomputable def aJ.call:aJ.D→Option aJ.X:=bS aJ.E aJ.st
theorem aJ.run:bM aJ.call aJ.av aJ.add aJ.F:=dq (df [.d ql] fun _=>by kernel_rfl)
noncomputable def aJ.sg:SG Tryz.prog:=⟨146,aR,aJ.E,.fn 2 (by kernel_rfl) aJ.ok (And.intro (.cD aJ.L0.ok (by kernel_rfl)) (And.intro (.cD aJ.L1.ok (by kernel_rfl)) trivial))⟩
set_option synthInstance.maxSize 5000
structure IC(b:ik):Prop where
 len:b.1.length≤12
 af:zs b.2.1
 dl:zs b.2.2.1
set_option synthInstance.maxSize 5000
set_option synthInstance.maxSize 5000
set_option synthInstance.maxSize 5000
set_option synthInstance.maxSize 5000
theorem qV(x:Int)(m:Int):∀k:Nat,(x%m)^k%m=x^k%m
 | 0=>by rw[Int.pow_zero,Int.pow_zero]
 |k+1=>by rw[Int.pow_succ,Int.pow_succ,Int.mul_emod,qV x m k,Int.emod_emod_of_dvd _ (Int.dvd_refl m),←Int.mul_emod]
theorem Gt(a:Int)(k:Nat):(a*a)^k=a^(2*k):=by
 rw[Int.pow_mul,Int.pow_succ,Int.pow_succ,Int.pow_zero,Int.one_mul]
theorem DC:∀(f:Nat) (a:Int) (n:Nat) (out:Int),n < 2^f→Pn out→xD f a n out=out*a^n%4611686018427377339
 | 0,a,n,out,h,ho=>by
  obtain rfl:n=0:=by omega
  rw[mu,Int.pow_zero,Int.mul_one,Int.emod_eq_of_lt ho.1 ho.2]
 |f+1,a,n,out,h,ho=>by
  have e:(2:Nat)^(f+1)=2^f*2:=Nat.pow_succ 2 f
  rw[xD]
  split
  ·rename_i h0
   subst h0
   rw[Int.pow_zero,Int.mul_one,Int.emod_eq_of_lt ho.1 ho.2]
  ·have hp:Pn (if n%2=1 then gQ out a else out):=by
    split
    ·exact jM _ _
    ·exact ho
   rw[DC f _ _ _ (by omega) hp,Int.mul_emod]
   have e1:(gQ a a)^(n / 2)%4611686018427377339=a^(2*(n / 2))%4611686018427377339:=by
    unfold gQ
    rw[qV,Gt]
   have e2:(if n%2=1 then gQ out a else out)%4611686018427377339=(out*a^(n%2))%4611686018427377339:=by
    split
    ·rename_i h1
     rw[h1,Int.pow_succ,Int.pow_zero,Int.one_mul]
     exact Int.emod_emod_of_dvd _ (Int.dvd_refl _)
    ·have h1:n%2=0:=by omega
     rw[h1,Int.pow_zero,Int.mul_one]
   rw[e1,e2,←Int.mul_emod,Int.mul_assoc,←Int.pow_add]
   have e3:n%2+2*(n / 2)=n:=by omega
   rw[e3]
theorem uw(a:Int)(n:Nat)(h:n < 18446744073709551616):pw a n=a^n%4611686018427377339:=by
 unfold pw
 rw[DC 64 a n 1 h ⟨by omega,by omega⟩,Int.one_mul]
theorem one_pow(k:Nat):(1:Int)^k=1:=Int.one_pow
theorem DE(a:Int)(k q:Nat)(hk:k < 18446744073709551616)(hq:q < 18446744073709551616)(h:pw a q=1):pw (pw a k) q=1:=by
 rw[uw _ _ hq]at h
 rw[uw _ _ hq,uw _ _ hk,qV,←Int.pow_mul,Nat.mul_comm,Int.pow_mul,←qV,h,one_pow]
 rfl
theorem vU:pw 4 2305843009213688669=1:=by decide+kernel
theorem B4:pw 1 2305843009213688669=1:=by decide+kernel
theorem ED:ju 4=true:=by rw[ju,vU];rfl
theorem nO:ju 1=true:=by rw[ju,B4];rfl
theorem A4:ui 1=1:=by
 have e:pw 1 2305843009213688668=1:=by decide+kernel
 rw[ui,tk,nO]
 exact e
theorem xq{a:Int}(h:Pn a)(q:Nat)(hq:0 < q)(hq2:q < 18446744073709551616)(hp:pw a q=1):0 < a:=by
 rcases Int.lt_or_eq_of_le h.1 with h0 | h0
 ·exact h0
 ·subst h0
  rw[uw _ _ hq2,Int.zero_pow (by omega)]at hp
  cases hp
theorem F2{a:Int}(h:Pn a)(hp:pw a 2305843009213688669=1):ju a=true:=by
 have h0:=xq h 2305843009213688669 (by decide) (by decide) hp
 rw[ju,hp,decide_eq_true ⟨h0,h.2⟩];rfl
theorem vZ{a:Int}(h:ju a=true):pw a 2305843009213688669=1∧Pn a:=by
 rw[ju,Bool.and_eq_true,decide_eq_true_eq,decide_eq_true_eq]at h
 exact⟨h.2,by omega,h.1.2⟩
theorem F3{a:Int}(h:ju a=true)(k:Nat)(hk:k < 18446744073709551616):ju (pw a k)=true:=
 F2 (uz _ _) (DE a k _ hk (by decide) (vZ h).1)
theorem F4(a:Int):ju (tk a)=true:=by
 unfold tk
 cases h:ju a
 ·exact nO
 ·exact h
theorem BL(p k:Int):ju (ku p k)=true:=F3 (F4 p) _ (by omega)
theorem pH{a:Int}(h:ju a=true):tk a=a:=by rw[tk,h];rfl
theorem oK(k:Int):ju (e7 k)=true:=BL 4 k
theorem qO{a:Int}(h:Pn a):gQ a 1=a:=by rw[gQ,Int.mul_one,Int.emod_eq_of_lt h.1 h.2]
theorem By(r sc s:Int):(e7 s=mB [r,sc,ui 1])=(mB [e7 s,1]=mB [r,sc]):=by
 have e1:mB [e7 s,1]=e7 s:=by
  show gQ (gQ 1 (tk (e7 s))) (tk 1)=_
  rw[pH (oK s),pH nO,qO (jM _ _),gQ,Int.one_mul]
  have h:=(vZ (oK s)).2
  exact Int.emod_eq_of_lt h.1 h.2
 have e2:mB [r,sc,ui 1]=mB [r,sc]:=by
  rw[A4]
  show gQ (gQ (gQ 1 (tk r)) (tk sc)) (tk 1)=gQ (gQ 1 (tk r)) (tk sc)
  rw[pH nO,qO (jM _ _)]
 rw[e1,e2]
set_option synthInstance.maxSize 5000
abbrev aS.L0.D:=Int×Int×Int
def aS.L0.st:aS.L0.D→AS:=fun(a_2,b_2,outv)=>⟨([.d tu a_2,.d tu b_2,.undef,.undef,.undef,.d tu outv]++bl 16 []),[],(List.replicate 22 [])⟩
abbrev aS.L0.Y0:=Int
abbrev aS.L0.X0:=Int
def aS.L0.bp:aS.L0.X0→Exit×AS:=fun x=>(.exit 0,⟨(bl 5 ([.d tu x]++bl 16 [])),[],(List.replicate 22 [])⟩)
abbrev aS.L0.X:=aS.L0.X0
abbrev aS.L0.Y:=aS.L0.Y0
def aS.L0.out:aS.L0.X→Out (Exit×AS):=fun x=> .ok (aS.L0.bp x)
def aS.L0.add:aS.L0.D→aS.L0.Y→aS.L0.X:=fun(a_2,b_2,outv) y=>y
abbrev aS.D:=Int×Int
def aS.st:aS.D→SA:=fun(a,b)=>([.d tu a,.d tu b],[])
abbrev aS.Y:=Int
abbrev aS.X:=Int
def aS.out:aS.X→ba:=fun x=>⟨.d tu x,[],[]⟩
def aS.add:aS.D→aS.Y→aS.X:=fun(a,b) y=>y
def aS.L0.av:aS.L0.D→Prop:=fun(a,b,o)=>Pn a∧gY b∧Pn o
def aS.L0.F:aS.L0.D→aS.L0.Y:=fun(a,b,o)=>(o+a*b)%4611686018427377339
def aS.av:aS.D→Prop:=fun(a,b)=>Pn a∧gY b
def aS.F:aS.D→aS.Y:=fun(a,b)=>gQ a b
noncomputable def aS.G:ed:=fk (P:=Tryz.prog) []
noncomputable def aS.L0.E:=bU.cD aS.L0.st aS.L0.av aS.L0.add aS.L0.F aS.L0.out
noncomputable def aS.L0.call:aS.L0.D→Option aS.L0.X:=dw aS.L0.E aS.L0.st
noncomputable def aS.an:eQ:= {loops:=jB [(2,{bn:=[0,1,5]})],outs:=jA [(2,{bn:=[5]},{bn:=[4]})],fC:=kf [(2,aS.L0.E)]}
noncomputable def aS.A:= @cY Tryz.prog aS.G aS.an 0 Tryz.f280 _ aS.st
abbrev aS.Ok:=dd @aS.A aS.av aS.add aS.F aS.out
noncomputable def aS.L0.R:= @cj Tryz.prog aS.G aS.an 0 Tryz.f280 0 _ aS.L0.st
abbrev aS.L0.Ok:=ew Tryz.prog aS.G aS.an 0 Tryz.f280 0 aS.L0.st aS.L0.av aS.L0.add aS.L0.F aS.L0.out
theorem aS.L0.run:bM aS.L0.call aS.L0.av aS.L0.add aS.L0.F:=eM (eL [.d tu,.d tu,.d tu] fun _=>by kernel_rfl)
theorem aS.L0.aB:fQ @aS.L0.R aS.L0.st aS.L0.av aS.L0.add aS.L0.F aS.L0.bp aS.L0.Ok:=fU
theorem aS.L0.step{R:Type}(a_2:Int)(b_2:Int)(outv:Int)(kn:AS→Option R)(kx:Exit→AS→Option R):aS.L0.R (a_2,b_2,outv) kn kx=
  aG ((nN b_2 (0:Int))) (
   aG ((jz (gT b_2 (2:Int)) (1:Int))) (
    kn (aS.L0.st ((gT (bN .u64 a_2 a_2) (4611686018427377339:Int)),(ke .u64 b_2 (2:Int)),(gT (bN .u64 outv a_2) (4611686018427377339:Int))))) (
    kn (aS.L0.st ((gT (bN .u64 a_2 a_2) (4611686018427377339:Int)),(ke .u64 b_2 (2:Int)),outv)))) (
   kx (aS.L0.bp outv).1 (aS.L0.bp outv).2):=by kernel_rfl
theorem aS.eq{R:Type}(a:Int)(b:Int)(k:ba→Option R):aS.A (a,b) k=
 ah (aS.L0.call (a,b,(0:Int))) fun x1=>
 k (aS.out x1):=by kernel_rfl
theorem BJ(o a b:Int)(m:Int):(o+a*b)%m=((if b%2=1 then(o+a)%m else o)+(a+a)%m*(b / 2))%m:=by
 have e:b=2*(b / 2)+b%2:=by omega
 have hb:b%2=0∨b%2=1:=by omega
 generalize b / 2=q at*
 have l1:∀x y:Int,(x%m+(a+a)%m*y)%m=(x+(a+a)*y)%m:=fun x y=>by
  rw[Int.add_emod,Int.emod_emod_of_dvd _ (Int.dvd_refl m),Int.mul_emod,Int.emod_emod_of_dvd _ (Int.dvd_refl m),←Int.mul_emod,←Int.add_emod]
 have l2:∀x y:Int,(x+(a+a)%m*y)%m=(x+(a+a)*y)%m:=fun x y=>by
  rw[Int.add_emod,Int.mul_emod,Int.emod_emod_of_dvd _ (Int.dvd_refl m),←Int.mul_emod,←Int.add_emod]
 rcases hb with h | h
 ·rw[if_neg (by omega),l2]
  rw[h]at e
  rw[e,Int.add_zero,Int.add_mul,←Int.mul_assoc,Int.mul_comm a 2,Int.two_mul,Int.add_mul]
 ·rw[if_pos h,l1]
  rw[h]at e
  rw[e,Int.mul_add,Int.mul_one,←Int.mul_assoc,Int.mul_comm a 2,Int.two_mul]
  congr 1
  omega
theorem Fk{n:Int}(h:gY n):ke .u64 n 2=n / 2:=xd h.1 (by omega) h.2
theorem aS.L0.ok:aS.L0.Ok:=by
 refine aS.L0.aB (fun(a,b,o)=>b.toNat) ?_
 rintro⟨a,b,o⟩ ⟨ha,hb,ho⟩
 have ha:Pn a:=ha
 have hb:gY b:=hb
 have ho:Pn o:=ho
 obtain⟨a0,a1⟩:=ha
 obtain⟨b0,b1⟩:=hb
 obtain⟨o0,o1⟩:=ho
 by_cases h:0 < b
 ·left
  have e1:gT (bN .u64 a a) 4611686018427377339=(a+a)%4611686018427377339:=by
   have:bN .u64 a a=a+a:=by rw[jm];omega
   rw[this,jL (by omega)]
  have e2:gT (bN .u64 o a) 4611686018427377339=(o+a)%4611686018427377339:=by
   have:bN .u64 o a=o+a:=by rw[jm];omega
   rw[this,jL (by omega)]
  refine⟨((a+a)%4611686018427377339,b / 2,if b%2=1 then(o+a)%4611686018427377339 else o),⟨⟨by omega,by omega⟩,⟨by omega,by omega⟩,?_⟩,by simp only[];omega,?_,fun kn kx=> ?_⟩
  ·show Pn (if b%2=1 then(o+a)%4611686018427377339 else o)
   split
   ·exact⟨by omega,by omega⟩
   ·exact⟨o0,o1⟩
  ·exact congrArg _ (BJ o a b 4611686018427377339).symm
  ·rw[aS.L0.step,dY h,e1,e2,Fk ⟨b0,b1⟩,jL b0]
   by_cases h1:b%2=1
   ·rw[hP h1,if_pos h1];rfl
   ·rw[gr h1,if_neg h1];rfl
 ·right
  intro R kn kx
  obtain rfl:b=0:=by omega
  rw[aS.L0.step,dI (by omega)]
  simp only[ag,aS.L0.add,aS.L0.F]
  rw[show(o+a*0)%4611686018427377339=o by omega]
theorem aS.ok:aS.Ok:=by
 rintro⟨a,b⟩ ⟨ha,hb⟩
 rw[aS.eq,aS.L0.run (d:=(a,b,0)) ⟨ha,hb,by omega,by omega⟩]
 simp only[aa,aS.L0.add,aS.L0.F,Int.zero_add]
 rfl
noncomputable def aS.E:=Entry.cD [some tu,some tu] aS.st aS.av aS.add aS.F aS.out
noncomputable def aS.call:aS.D→Option aS.X:=bS aS.E aS.st
theorem aS.run:bM aS.call aS.av aS.add aS.F:=dq (df [.d tu,.d tu] fun _=>by kernel_rfl)
noncomputable def aS.sg:SG Tryz.prog:=⟨280,aR,aS.E,.fn 1 (by kernel_rfl) aS.ok (And.intro (.cD aS.L0.ok (by kernel_rfl)) trivial)⟩
abbrev aY.L0.D:=Int×Int×Int
def aY.L0.st:aY.L0.D→AS:=fun(a_2,n_2,outv)=>⟨([.d tu a_2,.d tu n_2,.undef,.undef,.undef,.d tu outv]++bl 14 []),[],(List.replicate 20 [])⟩
abbrev aY.L0.Y0:=Int
abbrev aY.L0.X0:=Int
def aY.L0.bp:aY.L0.X0→Exit×AS:=fun x=>(.exit 0,⟨(bl 5 ([.d tu x]++bl 14 [])),[],(List.replicate 20 [])⟩)
abbrev aY.L0.X:=aY.L0.X0
abbrev aY.L0.Y:=aY.L0.Y0
def aY.L0.out:aY.L0.X→Out (Exit×AS):=fun x=> .ok (aY.L0.bp x)
def aY.L0.add:aY.L0.D→aY.L0.Y→aY.L0.X:=fun(a_2,n_2,outv) y=>y
abbrev aY.D:=Int×Int
def aY.st:aY.D→SA:=fun(a,n)=>([.d tu a,.d tu n],[])
abbrev aY.Y:=Int
abbrev aY.X:=Int
def aY.out:aY.X→ba:=fun x=>⟨.d tu x,[],[]⟩
def aY.add:aY.D→aY.Y→aY.X:=fun(a,n) y=>y
def aY.L0.av:aY.L0.D→Prop:=fun(a,n,o)=>Pn a∧gY n∧Pn o
def aY.L0.F:aY.L0.D→aY.L0.Y:=fun(a,n,o)=>xD 64 a n.toNat o
def aY.av:aY.D→Prop:=fun(a,n)=>Pn a∧gY n
def aY.F:aY.D→aY.Y:=fun(a,n)=>pw a n.toNat
noncomputable def aY.G:ed:=fk (P:=Tryz.prog) [aS.sg]
noncomputable def aY.L0.E:=bU.cD aY.L0.st aY.L0.av aY.L0.add aY.L0.F aY.L0.out
noncomputable def aY.L0.call:aY.L0.D→Option aY.L0.X:=dw aY.L0.E aY.L0.st
noncomputable def aY.an:eQ:= {loops:=jB [(2,{bn:=[0,1,5]})],outs:=jA [(2,{bn:=[5]},{bn:=[4]})],fC:=kf [(2,aY.L0.E)]}
noncomputable def aY.A:= @cY Tryz.prog aY.G aY.an 0 Tryz.f261 _ aY.st
abbrev aY.Ok:=dd @aY.A aY.av aY.add aY.F aY.out
noncomputable def aY.L0.R:= @cj Tryz.prog aY.G aY.an 0 Tryz.f261 0 _ aY.L0.st
abbrev aY.L0.Ok:=ew Tryz.prog aY.G aY.an 0 Tryz.f261 0 aY.L0.st aY.L0.av aY.L0.add aY.L0.F aY.L0.out
theorem aY.L0.run:bM aY.L0.call aY.L0.av aY.L0.add aY.L0.F:=eM (eL [.d tu,.d tu,.d tu] fun _=>by kernel_rfl)
theorem aY.L0.aB:fQ @aY.L0.R aY.L0.st aY.L0.av aY.L0.add aY.L0.F aY.L0.bp aY.L0.Ok:=fU
theorem aY.L0.step{R:Type}(a_2:Int)(n_2:Int)(outv:Int)(kn:AS→Option R)(kx:Exit→AS→Option R):aY.L0.R (a_2,n_2,outv) kn kx=
  aG ((nN n_2 (0:Int))) (
   aG ((jz (gT n_2 (2:Int)) (1:Int))) (
    ah (aS.call (outv,a_2)) fun x1=>
    ah (aS.call (a_2,a_2)) fun x2=>
    kn (aY.L0.st (x2,(ke .u64 n_2 (2:Int)),x1))) (
    ah (aS.call (a_2,a_2)) fun x3=>
    kn (aY.L0.st (x3,(ke .u64 n_2 (2:Int)),outv)))) (
   kx (aY.L0.bp outv).1 (aY.L0.bp outv).2):=by kernel_rfl
theorem aY.eq{R:Type}(a:Int)(n:Int)(k:ba→Option R):aY.A (a,n) k=
 ah (aY.L0.call (a,n,(1:Int))) fun x4=>
 k (aY.out x4):=by kernel_rfl
theorem aY.L0.ok:aY.L0.Ok:=by
 refine aY.L0.aB (fun(a,n,o)=>n.toNat) ?_
 rintro⟨a,n,o⟩ ⟨ha,hn,ho⟩
 have ha:Pn a:=ha
 have hn:gY n:=hn
 have ho:Pn o:=ho
 have n0:=hn.1
 have n1:=hn.2
 by_cases h:0 < n
 ·left
  have e:aY.L0.F (a,n,o)=aY.L0.F (gQ a a,n / 2,if n%2=1 then gQ o a else o):=by
   show xD 64 a n.toNat o=xD 64 (gQ a a) (n / 2).toNat _
   rw[uv 64 65 a n.toNat o (by omega) (by omega)]
   have t1:(n / 2).toNat=n.toNat / 2:=by omega
   have t2:(n%2=1)=(n.toNat%2=1):=by apply propext;omega
   rw[t1]
   simp only[t2]
   show(if n.toNat=0 then o else _)=_
   rw[if_neg (by omega)]
  refine⟨(gQ a a,n / 2,if n%2=1 then gQ o a else o),⟨jM a a,⟨by omega,by omega⟩,?_⟩,by show(n / 2).toNat < n.toNat;omega,?_,fun kn kx=> ?_⟩
  ·show Pn (if n%2=1 then gQ o a else o)
   split
   ·exact jM _ _
   ·exact ho
  ·exact congrArg _ e.symm
  ·rw[aY.L0.step,dY h,Fk hn,jL n0,aS.run (d:=(o,a)) ⟨ho,ha.u⟩,aS.run (d:=(a,a)) ⟨ha,ha.u⟩]
   by_cases h1:n%2=1
   ·rw[hP h1,if_pos h1];rfl
   ·rw[gr h1,if_neg h1];rfl
 ·right
  intro R kn kx
  obtain rfl:n=0:=by omega
  rw[aY.L0.step,dI (by omega)]
  simp only[ag,aY.L0.add,aY.L0.F]
  rw[show xD 64 a (Int.toNat 0) o=o from mu _ _ _]
theorem aY.ok:aY.Ok:=by
 rintro⟨a,n⟩ ⟨ha,hn⟩
 rw[aY.eq,aY.L0.run (d:=(a,n,1)) ⟨ha,hn,by omega,by omega⟩]
 rfl
noncomputable def aY.E:=Entry.cD [some tu,some tu] aY.st aY.av aY.add aY.F aY.out
noncomputable def aY.call:aY.D→Option aY.X:=bS aY.E aY.st
theorem aY.run:bM aY.call aY.av aY.add aY.F:=dq (df [.d tu,.d tu] fun _=>by kernel_rfl)
noncomputable def aY.sg:SG Tryz.prog:=⟨261,aR,aY.E,.fn 1 (by kernel_rfl) aY.ok (And.intro (.cD aY.L0.ok (by kernel_rfl)) trivial)⟩
abbrev cd.D:=Int
def cd.st:cd.D→SA:=fun p=>([.d tu p],[])
abbrev cd.Y:=Bool
abbrev cd.X:=Bool
def cd.out:cd.X→ba:=fun x=>⟨.d .bool x,[],[]⟩
def cd.add:cd.D→cd.Y→cd.X:=fun p y=>y
def cd.av:cd.D→Prop:=fun p=>gY p
def cd.F:cd.D→cd.Y:=fun p=>ju p
noncomputable def cd.G:ed:=fk (P:=Tryz.prog) [aY.sg]
noncomputable def cd.an:eQ:= {}
noncomputable def cd.A:= @cY Tryz.prog cd.G cd.an 0 Tryz.f217 _ cd.st
abbrev cd.Ok:=dd @cd.A cd.av cd.add cd.F cd.out
theorem cd.eq{R:Type}(p:Int)(k:ba→Option R):cd.A p k=
  aG ((nv p (1:Int))) (
   aG ((fM p (4611686018427377339:Int))) (
    ah (aY.call (p,(2305843009213688669:Int))) fun x1=>
    k (cd.out (jz x1 (1:Int)))) (
    k (cd.out false))) (
   k (cd.out false)):=by kernel_rfl
theorem cd.ok:cd.Ok:=by
 intro(p:Int) hp
 have hp:gY p:=hp
 rw[cd.eq]
 simp only[cd.add,cd.F,ju]
 by_cases h:0 < p
 ·rw[fF (by omega),ae]
  by_cases h2:p < 4611686018427377339
  ·rw[aW h2,ae,aZ ⟨h,h2⟩,Bool.true_and,aY.run (d:=(p,2305843009213688669)) ⟨⟨by omega,h2⟩,by constructor <;> decide⟩]
   rfl
  ·rw[aO h2,ag,bo (fun x=>h2 x.2),Bool.false_and]
 ·rw[eZ (by omega),ag,bo (fun x=>h x.1),Bool.false_and]
noncomputable def cd.E:=Entry.cD [some tu] cd.st cd.av cd.add cd.F cd.out
noncomputable def cd.call:cd.D→Option cd.X:=bS cd.E cd.st
theorem cd.run:bM cd.call cd.av cd.add cd.F:=dq (df [.d tu] fun _=>by kernel_rfl)
noncomputable def cd.sg:SG Tryz.prog:=⟨217,aR,cd.E,.fn 0 (by kernel_rfl) cd.ok trivial⟩
abbrev cv.D:=Int
def cv.st:cv.D→SA:=fun p=>([.d tu p],[])
abbrev cv.Y:=Int
abbrev cv.X:=Int
def cv.out:cv.X→ba:=fun x=>⟨.d tu x,[],[]⟩
def cv.add:cv.D→cv.Y→cv.X:=fun p y=>y
def cv.av:cv.D→Prop:=fun p=>gY p
def cv.F:cv.D→cv.Y:=fun p=>tk p
noncomputable def cv.G:ed:=fk (P:=Tryz.prog) [cd.sg]
noncomputable def cv.an:eQ:= {}
noncomputable def cv.A:= @cY Tryz.prog cv.G cv.an 0 Tryz.f267 _ cv.st
abbrev cv.Ok:=dd @cv.A cv.av cv.add cv.F cv.out
theorem cv.eq{R:Type}(p:Int)(k:ba→Option R):cv.A p k=
  ah (cd.call p) fun x1=>
  aG (x1) (
   k (cv.out p)) (
   k (cv.out (1:Int))):=by kernel_rfl
theorem cv.ok:cv.Ok:=by
 intro p hp
 rw[cv.eq,cd.run (d:=p) hp]
 simp only[aa,cd.add,cd.F,cv.add,cv.F,tk]
 cases ju p <;> rfl
noncomputable def cv.E:=Entry.cD [some tu] cv.st cv.av cv.add cv.F cv.out
noncomputable def cv.call:cv.D→Option cv.X:=bS cv.E cv.st
theorem cv.run:bM cv.call cv.av cv.add cv.F:=dq (df [.d tu] fun _=>by kernel_rfl)
noncomputable def cv.sg:SG Tryz.prog:=⟨267,aR,cv.E,.fn 0 (by kernel_rfl) cv.ok trivial⟩
abbrev cI.D:=Int×Int
def cI.st:cI.D→SA:=fun(p,kv)=>([.d tu p,.d tu kv],[])
abbrev cI.Y:=Int
abbrev cI.X:=Int
def cI.out:cI.X→ba:=fun x=>⟨.d tu x,[],[]⟩
def cI.add:cI.D→cI.Y→cI.X:=fun(p,kv) y=>y
def cI.av:cI.D→Prop:=fun(p,k)=>gY p∧gY k
def cI.F:cI.D→cI.Y:=fun(p,k)=>ku p k
noncomputable def cI.G:ed:=fk (P:=Tryz.prog) [cv.sg,aY.sg]
noncomputable def cI.an:eQ:= {}
noncomputable def cI.A:= @cY Tryz.prog cI.G cI.an 0 Tryz.f224 _ cI.st
abbrev cI.Ok:=dd @cI.A cI.av cI.add cI.F cI.out
theorem cI.eq{R:Type}(p:Int)(kv:Int)(k:ba→Option R):cI.A (p,kv) k=
 ah (cv.call p) fun x1=>
 ah (aY.call (x1,(gT kv (2305843009213688669:Int)))) fun x2=>
 k (cI.out x2):=by kernel_rfl
theorem cI.ok:cI.Ok:=by
 rintro⟨p,k⟩ ⟨hp,hk⟩
 have hk:gY k:=hk
 have e:=jL (y:=2305843009213688669) hk.1
 have b:gY (k%2305843009213688669):=⟨by omega,by omega⟩
 rw[cI.eq,cv.run (d:=p) hp,e]
 simp only[aa,cv.add,cv.F]
 rw[aY.run (d:=(tk p,k%2305843009213688669)) ⟨uO p,b⟩]
 rfl
noncomputable def cI.E:=Entry.cD [some tu,some tu] cI.st cI.av cI.add cI.F cI.out
noncomputable def cI.call:cI.D→Option cI.X:=bS cI.E cI.st
theorem cI.run:bM cI.call cI.av cI.add cI.F:=dq (df [.d tu,.d tu] fun _=>by kernel_rfl)
noncomputable def cI.sg:SG Tryz.prog:=⟨224,aR,cI.E,.fn 0 (by kernel_rfl) cI.ok trivial⟩
abbrev dC.D:=Int
def dC.st:dC.D→SA:=fun kv=>([.d tu kv],[])
abbrev dC.Y:=Int
abbrev dC.X:=Int
def dC.out:dC.X→ba:=fun x=>⟨.d tu x,[],[]⟩
def dC.add:dC.D→dC.Y→dC.X:=fun kv y=>y
def dC.av:dC.D→Prop:=fun k=>gY k
def dC.F:dC.D→dC.Y:=fun k=>e7 k
noncomputable def dC.G:ed:=fk (P:=Tryz.prog) [cI.sg]
noncomputable def dC.an:eQ:= {}
noncomputable def dC.A:= @cY Tryz.prog dC.G dC.an 0 Tryz.f163 _ dC.st
abbrev dC.Ok:=dd @dC.A dC.av dC.add dC.F dC.out
theorem dC.eq{R:Type}(kv:Int)(k:ba→Option R):dC.A kv k=
 ah (cI.call ((4:Int),kv)) fun x1=>
 k (dC.out x1):=by kernel_rfl
theorem dC.ok:dC.Ok:=by
 intro k hk
 rw[dC.eq,cI.run (d:=(4,k)) ⟨⟨by omega,by omega⟩,hk⟩]
 rfl
noncomputable def dC.E:=Entry.cD [some tu] dC.st dC.av dC.add dC.F dC.out
noncomputable def dC.call:dC.D→Option dC.X:=bS dC.E dC.st
theorem dC.run:bM dC.call dC.av dC.add dC.F:=dq (df [.d tu] fun _=>by kernel_rfl)
noncomputable def dC.sg:SG Tryz.prog:=⟨163,aR,dC.E,.fn 0 (by kernel_rfl) dC.ok trivial⟩
theorem E0(p q:Int):mB [p,q]=gQ (tk p) (tk q):=by
 show gQ (gQ 1 (tk p)) (tk q)=_
 have:gQ 1 (tk p)=tk p:=by
  have h:=uO p
  unfold gQ
  rw[Int.one_mul]
  exact Int.emod_eq_of_lt h.1 h.2
 rw[this]
abbrev eE.D:=Int×Int
def eE.st:eE.D→SA:=fun(p,q)=>([.d tu p,.d tu q],[])
abbrev eE.Y:=Int
abbrev eE.X:=Int
def eE.out:eE.X→ba:=fun x=>⟨.d tu x,[],[]⟩
def eE.add:eE.D→eE.Y→eE.X:=fun(p,q) y=>y
def eE.av:eE.D→Prop:=fun(p,q)=>gY p∧gY q
def eE.F:eE.D→eE.Y:=fun(p,q)=>mB [p,q]
noncomputable def eE.G:ed:=fk (P:=Tryz.prog) [cv.sg,aS.sg]
noncomputable def eE.an:eQ:= {}
noncomputable def eE.A:= @cY Tryz.prog eE.G eE.an 0 Tryz.f268 _ eE.st
abbrev eE.Ok:=dd @eE.A eE.av eE.add eE.F eE.out
theorem eE.eq{R:Type}(p:Int)(q:Int)(k:ba→Option R):eE.A (p,q) k=
 ah (cv.call p) fun x1=>
 ah (cv.call q) fun x2=>
 ah (aS.call (x1,x2)) fun x3=>
 k (eE.out x3):=by kernel_rfl
theorem eE.ok:eE.Ok:=by
 rintro⟨p,q⟩ ⟨hp,hq⟩
 rw[eE.eq,cv.run (d:=p) hp,cv.run (d:=q) hq]
 simp only[aa,cv.add,cv.F]
 rw[aS.run (d:=(tk p,tk q)) ⟨uO p,(uO q).u⟩]
 simp only[aa,aS.add,aS.F,eE.add,eE.F,E0]
noncomputable def eE.E:=Entry.cD [some tu,some tu] eE.st eE.av eE.add eE.F eE.out
noncomputable def eE.call:eE.D→Option eE.X:=bS eE.E eE.st
theorem eE.run:bM eE.call eE.av eE.add eE.F:=dq (df [.d tu,.d tu] fun _=>by kernel_rfl)
noncomputable def eE.sg:SG Tryz.prog:=⟨268,aR,eE.E,.fn 0 (by kernel_rfl) eE.ok trivial⟩
set_option synthInstance.maxSize 5000
abbrev cU.D:=Int
def cU.st:cU.D→SA:=fun a=>([.d tu a],[])
abbrev cU.Y:=Bool
abbrev cU.X:=Bool
def cU.out:cU.X→ba:=fun x=>⟨.d .bool x,[],[]⟩
def cU.add:cU.D→cU.Y→cU.X:=fun a y=>y
def cU.av:cU.D→Prop:=fun _=>True
def cU.F:cU.D→cU.Y:=fun a=>fM a 2305843009213688669
noncomputable def cU.G:ed:=fk (P:=Tryz.prog) []
noncomputable def cU.an:eQ:= {}
noncomputable def cU.A:= @cY Tryz.prog cU.G cU.an 0 Tryz.f173 _ cU.st
abbrev cU.Ok:=dd @cU.A cU.av cU.add cU.F cU.out
theorem cU.eq{R:Type}(a:Int)(k:ba→Option R):cU.A a k=
 k (cU.out (fM a (2305843009213688669:Int))):=by kernel_rfl
theorem cU.ok:cU.Ok:=by
 intro a _
 rw[cU.eq]
 rfl
noncomputable def cU.E:=Entry.cD [some tu] cU.st cU.av cU.add cU.F cU.out
noncomputable def cU.call:cU.D→Option cU.X:=bS cU.E cU.st
theorem cU.run:bM cU.call cU.av cU.add cU.F:=dq (df [.d tu] fun _=>by kernel_rfl)
noncomputable def cU.sg:SG Tryz.prog:=⟨173,aR,cU.E,.fn 0 (by kernel_rfl) cU.ok trivial⟩
abbrev bB.L0.D:=Bs×Int×Int
def bB.L0.st:bB.L0.D→AS:=fun(h_2,n,i)=>⟨([.undef,.ej tH h_2,.undef,.d tu n,.d ti i]++bl 25 []),[],(List.replicate 30 [])⟩
abbrev bB.L0.Y0:=Int
abbrev bB.L0.X0:=Int
def bB.L0.bp:bB.L0.X0→Exit×AS:=fun x=>(.exit 0,⟨([.undef,.undef,.undef,.d tu x]++bl 26 []),[],(List.replicate 30 [])⟩)
abbrev bB.L0.X:=bB.L0.X0
abbrev bB.L0.Y:=bB.L0.Y0
def bB.L0.out:bB.L0.X→Out (Exit×AS):=fun x=> .ok (bB.L0.bp x)
def bB.L0.add:bB.L0.D→bB.L0.Y→bB.L0.X:=fun(h_2,n,i) y=>y
abbrev bB.D:=Bs
def bB.st:bB.D→SA:=fun h=>([.d tH h],[])
abbrev bB.Y:=Int
abbrev bB.X:=Int
def bB.out:bB.X→ba:=fun x=>⟨.d tu x,[],[]⟩
def bB.add:bB.D→bB.Y→bB.X:=fun h y=>y
def bB.L0.av:bB.L0.D→Prop:=fun(h,n,i)=>wG.b n∧h.length=32∧Bytes h∧∃k:Nat,k≤32∧i=k
def bB.L0.F:bB.L0.D→bB.L0.Y:=fun(h,n,i)=>(h.drop i.toNat).foldl (fun n b=>(n*256+b)%2305843009213688668) n
def bB.av:bB.D→Prop:=fun h=>h.length=32∧Bytes h
def bB.F:bB.D→bB.Y:=fun h=>oI h
noncomputable def bB.G:ed:=fk (P:=Tryz.prog) []
noncomputable def bB.L0.E:=bU.cD bB.L0.st bB.L0.av bB.L0.add bB.L0.F bB.L0.out
noncomputable def bB.L0.call:bB.L0.D→Option bB.L0.X:=dw bB.L0.E bB.L0.st
noncomputable def bB.an:eQ:= {loops:=jB [(3,{bn:=[1,3,4]}),(6,{bn:=[1,3,4,5]})],outs:=jA [(3,{bn:=[3]},{bn:=[2]}),(6,{bn:=[1,3,4]},{bn:=[2]})],fC:=kf [(3,bB.L0.E)]}
noncomputable def bB.A:= @cY Tryz.prog bB.G bB.an 12 Tryz.f274 _ bB.st
abbrev bB.Ok:=dd @bB.A bB.av bB.add bB.F bB.out
noncomputable def bB.L0.R:= @cj Tryz.prog bB.G bB.an 12 Tryz.f274 0 _ bB.L0.st
abbrev bB.L0.Ok:=ew Tryz.prog bB.G bB.an 12 Tryz.f274 0 bB.L0.st bB.L0.av bB.L0.add bB.L0.F bB.L0.out
theorem bB.L0.run:bM bB.L0.call bB.L0.av bB.L0.add bB.L0.F:=eM (eL [.d tH,.d tu,.d ti] fun _=>by kernel_rfl)
theorem bB.L0.aB:fQ @bB.L0.R bB.L0.st bB.L0.av bB.L0.add bB.L0.F bB.L0.bp bB.L0.Ok:=fU
theorem bB.L0.step{R:Type}(h_2:Bs)(n:Int)(i:Int)(kn:AS→Option R)(kx:Exit→AS→Option R):bB.L0.R (h_2,n,i) kn kx=
  aG ((fM i (32:Int))) (
   aG (eI i (32:Int)) (
   aG (eI i (32:Int)) (
   aG (eI i (32:Int)) (
   aG (eI i (32:Int)) (
   aG (eI i (32:Int)) (
   aG (eI i (32:Int)) (
   aG (eI i (32:Int)) (
   aG (eI i (32:Int)) (
   kn (bB.L0.st (h_2,(gT (bN .u64 (fq .u64 (2:Int) (gT (bN .u64 (fq .u64 (2:Int) (gT (bN .u64 (fq .u64 (2:Int) (gT (bN .u64 (fq .u64 (2:Int) (gT (bN .u64 (fq .u64 (2:Int) (gT (bN .u64 (fq .u64 (2:Int) (gT (bN .u64 (fq .u64 (2:Int) (gT (bN .u64 (fq .u64 (2:Int) n) (cw .and .u64 (cg .u64 (dR .u64 (nth tb h_2 (Int.toNat i))) (7:Int)) (1:Int))) (2305843009213688668:Int))) (cw .and .u64 (cg .u64 (dR .u64 (nth tb h_2 (Int.toNat i))) (6:Int)) (1:Int))) (2305843009213688668:Int))) (cw .and .u64 (cg .u64 (dR .u64 (nth tb h_2 (Int.toNat i))) (5:Int)) (1:Int))) (2305843009213688668:Int))) (cw .and .u64 (cg .u64 (dR .u64 (nth tb h_2 (Int.toNat i))) (4:Int)) (1:Int))) (2305843009213688668:Int))) (cw .and .u64 (cg .u64 (dR .u64 (nth tb h_2 (Int.toNat i))) (3:Int)) (1:Int))) (2305843009213688668:Int))) (cw .and .u64 (cg .u64 (dR .u64 (nth tb h_2 (Int.toNat i))) (2:Int)) (1:Int))) (2305843009213688668:Int))) (cw .and .u64 (cg .u64 (dR .u64 (nth tb h_2 (Int.toNat i))) (1:Int)) (1:Int))) (2305843009213688668:Int))) (cw .and .u64 (cg .u64 (dR .u64 (nth tb h_2 (Int.toNat i))) (0:Int)) (1:Int))) (2305843009213688668:Int)),(bN .i64 i (1:Int))))) none) none) none) none) none) none) none) none) (
   kx (bB.L0.bp n).1 (bB.L0.bp n).2):=by kernel_rfl
theorem bB.eq{R:Type}(h:Bs)(k:ba→Option R):bB.A h k=
 ah (bB.L0.call (h,(0:Int),(0:Int))) fun x1=>
 k (bB.out (bN .u64 x1 (1:Int))):=by kernel_rfl
theorem ov{c:Int}(hc:u6 c)(k:Nat)(hk:k≤7):cw .and .u64 (cg .u64 (dR .u64 c) (k:Int)) 1=c / 2^k%2:=by
 obtain⟨h1,h2⟩:=hc
 have e:dR .u64 c=c:=by rw[zY];omega
 have p:(0:Int) < 2^k:=Int.pow_pos (by omega)
 have q0:0≤c / 2^k:=Int.ediv_nonneg h1 (by omega)
 have q1:c / 2^k≤c:=Int.ediv_le_self _ h1
 rw[e,lg k (by rfl) (by omega),GV q0 (by omega)]
theorem Cx:∀c:Fin 256,(c.val:Int) / 2^7%2*128+(c.val:Int) / 2^6%2*64+(c.val:Int) / 2^5%2*32+(c.val:Int) / 2^4%2*16+(c.val:Int) / 2^3%2*8+(c.val:Int) / 2^2%2*4+(c.val:Int) / 2^1%2*2+(c.val:Int) / 2^0%2=(c.val:Int):=by decide+kernel
theorem Cy{c:Int}(hc:u6 c):c / 2^7%2*128+c / 2^6%2*64+c / 2^5%2*32+c / 2^4%2*16+c / 2^3%2*8+c / 2^2%2*4+c / 2^1%2*2+c / 2^0%2=c:=by
 obtain⟨n,rfl⟩:∃n:Nat,c=n:=⟨c.toNat,by have:=hc.1;omega⟩
 exact Cx ⟨n,by have:=hc.2;omega⟩
theorem Br{c:Int}(hc:u6 c):∃d7 d6 d5 d4 d3 d2 d1 d0:Int,(0≤d7∧d7 < 2)∧(0≤d6∧d6 < 2)∧(0≤d5∧d5 < 2)∧(0≤d4∧d4 < 2)∧(0≤d3∧d3 < 2)∧(0≤d2∧d2 < 2)∧(0≤d1∧d1 < 2)∧(0≤d0∧d0 < 2)∧cw .and .u64 (cg .u64 (dR .u64 c) 7) 1=d7∧cw .and .u64 (cg .u64 (dR .u64 c) 6) 1=d6∧cw .and .u64 (cg .u64 (dR .u64 c) 5) 1=d5∧cw .and .u64 (cg .u64 (dR .u64 c) 4) 1=d4∧cw .and .u64 (cg .u64 (dR .u64 c) 3) 1=d3∧cw .and .u64 (cg .u64 (dR .u64 c) 2) 1=d2∧cw .and .u64 (cg .u64 (dR .u64 c) 1) 1=d1∧cw .and .u64 (cg .u64 (dR .u64 c) 0) 1=d0∧d7*128+d6*64+d5*32+d4*16+d3*8+d2*4+d1*2+d0=c:=by
 have z:∀x:Int,0≤x%2∧x%2 < 2:=fun x=>by omega
 exact⟨c / 2^7%2,c / 2^6%2,c / 2^5%2,c / 2^4%2,c / 2^3%2,c / 2^2%2,c / 2^1%2,c / 2^0%2,z _,z _,z _,z _,z _,z _,z _,z _,ov hc 7 (by omega),ov hc 6 (by omega),ov hc 5 (by omega),ov hc 4 (by omega),ov hc 3 (by omega),ov hc 2 (by omega),ov hc 1 (by omega),ov hc 0 (by omega),Cy hc⟩
theorem ow{n b:Int}(hn:wG.b n)(hb:0≤b∧b < 2):gT (bN .u64 (fq .u64 2 n) b) 2305843009213688668=(2*n+b)%2305843009213688668∧wG.b ((2*n+b)%2305843009213688668):=by
 obtain⟨h1,h2⟩:=hn
 have e:bN .u64 (fq .u64 2 n) b=2*n+b:=by rw[kZ,jm];omega
 rw[e,jL (by omega)]
 exact⟨rfl,by omega,by omega⟩
theorem zO(n c d7 d6 d5 d4 d3 d2 d1 d0:Int)(M:Int)(h:d7*128+d6*64+d5*32+d4*16+d3*8+d2*4+d1*2+d0=c):
  (2*((2*((2*((2*((2*((2*((2*((2*n+d7)%M)+d6)%M)+d5)%M)+d4)%M)+d3)%M)+d2)%M)+d1)%M)+d0)%M=(n*256+c)%M:=by
 have l:∀x b:Int,(2*(x%M)+b)%M=(2*x+b)%M:=fun x b=>by
  rw[Int.add_emod,Int.mul_emod,Int.emod_emod_of_dvd _ (Int.dvd_refl M),←Int.mul_emod,←Int.add_emod]
 simp only[l]
 have e:2*(2*(2*(2*(2*(2*(2*(2*n+d7)+d6)+d5)+d4)+d3)+d2)+d1)+d0=n*256+c:=by omega
 rw[e]
theorem bB.L0.ok:bB.L0.Ok:=by
 refine bB.L0.aB (fun(h,n,i)=>32 - i.toNat) ?_
 rintro⟨h,n,i⟩ ⟨hn,hl,hb,k,hk,rfl⟩
 have hn:wG.b n:=hn
 have hl:h.length=32:=hl
 have hb:Bytes h:=hb
 by_cases hlt:k < 32
 ·left
  have hx:u6 (h[k]'(by omega)):=hb _ (List.getElem_mem _)
  have n1:nth (.int .u8) h k=h[k]'(by omega):=cn (t:= .int .u8) (by omega)
  refine⟨(h,(n*256+h[k]'(by omega))%2305843009213688668,((k+1:Nat):Int)),⟨⟨by omega,by omega⟩,hl,hb,k+1,by omega,rfl⟩,by simp only[Int.toNat_natCast];omega,?_,fun kn kx=> ?_⟩
  ·simp only[bB.L0.add,bB.L0.F,Int.toNat_natCast]
   rw[List.drop_eq_getElem_cons (by omega:k < h.length)]
   rfl
  ·rw[bB.L0.step]
   generalize hc:h[k]'(by omega)=c at hx n1
   obtain⟨d7,d6,d5,d4,d3,d2,d1,d0,z7,z6,z5,z4,z3,z2,z1,z0,b7,b6,b5,b4,b3,b2,b1,b0,aN⟩:=Br hx
   obtain⟨f7,g7⟩:=ow hn z7
   obtain⟨f6,g6⟩:=ow g7 z6
   obtain⟨f5,g5⟩:=ow g6 z5
   obtain⟨f4,g4⟩:=ow g5 z4
   obtain⟨f3,g3⟩:=ow g4 z3
   obtain⟨f2,g2⟩:=ow g3 z2
   obtain⟨f1,g1⟩:=ow g2 z1
   obtain⟨f0,g0⟩:=ow g1 z0
   have e8:=zO n c _ _ _ _ _ _ _ _ 2305843009213688668 aN
   have hi:fM (k:Int) 32=true:=aW (by omega)
   have hib:eI (k:Int) 32=true:=bm (by omega) (by omega)
   have ha:bN .i64 (k:Int) 1=((k+1:Nat):Int):=by rw[gF (by omega) (by omega)];omega
   simp only[hi,hib,ha,ae,Int.toNat_natCast,n1,b7,b6,b5,b4,b3,b2,b1,b0,f7,f6,f5,f4,f3,f2,f1,f0,e8]
 ·right
  obtain rfl:k=32:=by omega
  intro R kn kx
  rw[bB.L0.step]
  simp(disch:=omega) only[↓S1,↓if_pos,↓if_neg,if_pos,if_neg,if_true,if_false,S2,bB.L0.add,bB.L0.F]
  rw[List.drop_of_length_le (by omega)]
  rfl
theorem bB.ok:bB.Ok:=by
 rintro h ⟨hl,hb⟩
 have e:=tJ h 0 ⟨by omega,by omega⟩
 have h1:=e.1
 have h2:=e.2
 rw[bB.eq,bB.L0.run (d:=(h,0,0)) ⟨⟨by omega,by omega⟩,hl,hb,0,by omega,rfl⟩]
 simp only[aa,bB.L0.add,bB.L0.F,bB.add,bB.F,oI,Int.toNat_zero,List.drop_zero]
 revert h1 h2
 generalize h.foldl (fun n b=>(n*256+b)%2305843009213688668) 0=m
 intro h1 h2
 have e:bN .u64 m 1=m+1:=by rw[jm];omega
 rw[e]
noncomputable def bB.E:=Entry.cD [some tH] bB.st bB.av bB.add bB.F bB.out
noncomputable def bB.call:bB.D→Option bB.X:=bS bB.E bB.st
theorem bB.run:bM bB.call bB.av bB.add bB.F:=dq (df [.d tB] fun _=>by kernel_rfl)
noncomputable def bB.sg:SG Tryz.prog:=⟨274,aR,bB.E,.fn 2 (by kernel_rfl) bB.ok (And.intro (.cD bB.L0.ok (by kernel_rfl)) (And.intro (.none (by kernel_rfl)) trivial))⟩
set_option synthInstance.maxSize 5000
abbrev cM.D:=Int
def cM.st:cM.D→SA:=fun p=>([.d tu p],[])
abbrev cM.Y:=Bs
abbrev cM.X:=Bs
def cM.out:cM.X→ba:=fun x=>⟨.d tB x,[],[]⟩
def cM.add:cM.D→cM.Y→cM.X:=fun p y=>y
def cM.av:cM.D→Prop:=fun n=>gY n
def cM.F:cM.D→cM.Y:=fun n=>iQ n
noncomputable def cM.G:ed:=fk (P:=Tryz.prog) [ei.sg]
noncomputable def cM.an:eQ:= {res:=[some tB]}
noncomputable def cM.A:= @cY Tryz.prog cM.G cM.an 0 Tryz.f284 _ cM.st
abbrev cM.Ok:=dd @cM.A cM.av cM.add cM.F cM.out
theorem cM.eq{R:Type}(p:Int)(k:ba→Option R):cM.A p k=
 ah (ei.call p) fun x1=>
 aG (decide (0=0∧(0+x1.1)≤(List.length x1.2))) (
 k (cM.out (cut x1.2 0 x1.1))) none:=by kernel_rfl
theorem cM.ok:cM.Ok:=by
 intro n hn
 rw[cM.eq,ei.run (d:=n) hn]
 simp only[aa,ei.add,ei.F,cq,Nat.zero_add,Nat.le_refl,and_self,decide_true,ae]
 rw[fb (cq _)]
 rfl
noncomputable def cM.E:=Entry.cD [some tu] cM.st cM.av cM.add cM.F cM.out
noncomputable def cM.call:cM.D→Option cM.X:=bS cM.E cM.st
theorem cM.run:bM cM.call cM.av cM.add cM.F:=dq (df [.d tu] fun _=>by kernel_rfl)
noncomputable def cM.sg:SG Tryz.prog:=⟨284,aR,cM.E,.fn 0 (by kernel_rfl) cM.ok trivial⟩
abbrev cV.D:=Int×Int×Bs
def cV.st:cV.D→SA:=fun(r,p,m)=>([.d tu r,.d tu p,.d tH m],[])
abbrev cV.Y:=Int
abbrev cV.X:=Int
def cV.out:cV.X→ba:=fun x=>⟨.d tu x,[],[]⟩
def cV.add:cV.D→cV.Y→cV.X:=fun(r,p,m) y=>y
def cV.av:cV.D→Prop:=fun(r,p,m)=>gY r∧gY p∧Sm m
def cV.F:cV.D→cV.Y:=fun(r,p,m)=>kG r p m
noncomputable def cV.G:ed:=fk (P:=Tryz.prog) [cM.sg,di.sg,bB.sg]
noncomputable def cV.an:eQ:= {}
noncomputable def cV.A:= @cY Tryz.prog cV.G cV.an 0 Tryz.f269 _ cV.st
abbrev cV.Ok:=dd @cV.A cV.av cV.add cV.F cV.out
theorem cV.eq{R:Type}(r:Int)(p:Int)(m:Bs)(k:ba→Option R):cV.A (r,p,m) k=
 ah (cM.call r) fun x1=>
 ah (cM.call p) fun x2=>
 ah (di.call ((⟨#[115,105,103]⟩:ByteArray),[x1,x2,(cut m 0 32)])) fun x3=>
 ah (bB.call x3) fun x4=>
 k (cV.out x4):=by kernel_rfl
theorem cV.ok:cV.Ok:=by
 rintro⟨r,p,m⟩ ⟨hr,hp,hm⟩
 have hm:Sm m:=hm
 have hp3:di.av ((⟨#[115,105,103]⟩:ByteArray),[iQ r,iQ p,m]):=zh (by decide) (by rw[cq];omega) (by rw[cq];omega) (by rw[hm.1];omega)
 rw[cV.eq,cM.run (d:=r) hr,cM.run (d:=p) hp]
 simp only[aa,cM.add,cM.F]
 rw[fb hm.1,di.run hp3]
 simp only[aa,di.add,di.F]
 rw[bB.run (d:=tag (bG (⟨#[115,105,103]⟩:ByteArray)) [iQ r,iQ p,m]) (xv _ _)]
 rfl
noncomputable def cV.E:=Entry.cD [some tu,some tu,some tH] cV.st cV.av cV.add cV.F cV.out
noncomputable def cV.call:cV.D→Option cV.X:=bS cV.E cV.st
theorem cV.run:bM cV.call cV.av cV.add cV.F:=dq (df [.d tu,.d tu,.d tB] fun _=>by kernel_rfl)
noncomputable def cV.sg:SG Tryz.prog:=⟨269,aR,cV.E,.fn 0 (by kernel_rfl) cV.ok trivial⟩
def w6(p:Int)(m:List Int)(t:Int)(s:Sg):Bool:=
 if ju p=false∨ju t=false∨ju s.1=false∨¬s.2.1 < 2305843009213688669∨p=1 then false
 else decide (mB [e7 s.2.1,t]=mB [s.1,ku p (kG s.1 p m)])
theorem w7(p:Int)(m:List Int)(s:Sg):w6 p m 1 s=iX p m 1 s:=by
 unfold w6 iX
 by_cases h:p=1∨ju p=false∨ju 1=false∨ju s.1=false∨¬s.2.1 < 2305843009213688669
 ·rw[if_pos h,if_pos (by rcases h with h | h | h | h | h <;> simp[h])]
 ·rw[if_neg h,if_neg (by
   intro h'
   apply h
   rcases h' with h' | h' | h' | h' | h' <;> simp[h'])]
  have e:=By s.1 (ku p (kG s.1 p m)) s.2.1
  by_cases h2:e7 s.2.1=mB [s.1,ku p (kG s.1 p m),ui 1]
  ·rw[decide_eq_true h2,decide_eq_true (e▸h2)]
  ·rw[decide_eq_false h2,decide_eq_false (e▸h2)]
abbrev cC.D:=Int×Bs×Int×Sg
def cC.st:cC.D→SA:=fun(p,m,t,sv)=>([.d tu p,.d tH m,.d tu t,.d sJ sv],[])
abbrev cC.Y:=Bool
abbrev cC.X:=Bool
def cC.out:cC.X→ba:=fun x=>⟨.d .bool x,[],[]⟩
def cC.add:cC.D→cC.Y→cC.X:=fun(p,m,t,sv) y=>y
def cC.av:cC.D→Prop:=fun(p,m,t,s)=>gY p∧Sm m∧gY t∧E9 s
def cC.F:cC.D→cC.Y:=fun(p,m,t,s)=>w6 p m t s
noncomputable def cC.G:ed:=fk (P:=Tryz.prog) [cd.sg,cU.sg,dC.sg,eE.sg,cV.sg,cI.sg]
noncomputable def cC.an:eQ:= {}
noncomputable def cC.A:= @cY Tryz.prog cC.G cC.an 0 Tryz.f225 _ cC.st
abbrev cC.Ok:=dd @cC.A cC.av cC.add cC.F cC.out
theorem cC.eq{R:Type}(p:Int)(m:Bs)(t:Int)(sv:Sg)(k:ba→Option R):cC.A (p,m,t,sv) k=
  ah (cd.call p) fun x1=>
  ah (cd.call t) fun x2=>
  ah (cd.call sv.1) fun x3=>
  ah (cU.call sv.2.1) fun x4=>
  aG ((!x1)) (
   k (cC.out false)) (
   aG ((!x2)) (
    k (cC.out false)) (
    aG ((!x3)) (
     k (cC.out false)) (
     aG ((!x4)) (
      k (cC.out false)) (
      aG ((jz p (1:Int))) (
       k (cC.out false)) (
       ah (dC.call sv.2.1) fun x5=>
       ah (eE.call (x5,t)) fun x6=>
       ah (cV.call (sv.1,p,m)) fun x7=>
       ah (cI.call (p,x7)) fun x8=>
       ah (eE.call (sv.1,x8)) fun x9=>
       k (cC.out (jz x6 x9))))))):=by kernel_rfl
theorem cC.ok:cC.Ok:=by
 rintro⟨p,m,t,s⟩ ⟨hp,hm,ht,hs⟩
 have hp:gY p:=hp
 have ht:gY t:=ht
 have hm:Sm m:=hm
 have hs:E9 s:=hs
 rw[cC.eq,cd.run (d:=p) hp,cd.run (d:=t) ht,cd.run (d:=s.1) hs.1,cU.run (d:=s.2.1) trivial]
 simp only[aa,cd.add,cd.F,cU.add,cU.F,cC.add,cC.F,w6]
 cases h2:ju p
 ·rw[if_pos (Or.inl rfl)];rfl
 cases h3:ju t
 ·rw[if_pos (Or.inr (Or.inl rfl))];rfl
 cases h4:ju s.1
 ·rw[if_pos (Or.inr (Or.inr (Or.inl rfl)))];rfl
 by_cases h5:s.2.1 < 2305843009213688669
 ·by_cases h1:p=1
  ·rw[aW h5,hP h1,if_pos (Or.inr (Or.inr (Or.inr (Or.inr h1))))];rfl
  rw[aW h5,gr h1,if_neg (by simp[h1,h5])]
  have hq:=qA s.1 p m
  rw[dC.run (d:=s.2.1) hs.2,cV.run (d:=(s.1,p,m)) ⟨hs.1,hp,hm⟩]
  simp only[Bool.not_true,ag,aa,cV.add,cV.F,dC.add,dC.F]
  rw[eE.run (d:=(e7 s.2.1,t)) ⟨(uz _ _).u,ht⟩,cI.run (d:=(p,kG s.1 p m)) ⟨hp,hq.u⟩]
  simp only[aa,cI.add,cI.F,eE.add,eE.F]
  rw[eE.run (d:=(s.1,ku p (kG s.1 p m))) ⟨hs.1,(uz _ _).u⟩]
  rfl
 ·rw[aO h5,if_pos (Or.inr (Or.inr (Or.inr (Or.inl h5))))];rfl
noncomputable def cC.E:=Entry.cD [some tu,some tH,some tu,some sJ] cC.st cC.av cC.add cC.F cC.out
noncomputable def cC.call:cC.D→Option cC.X:=bS cC.E cC.st
theorem cC.run:bM cC.call cC.av cC.add cC.F:=dq (df [.d tu,.d tB,.d tu,.d sJ] fun _=>by kernel_rfl)
noncomputable def cC.sg:SG Tryz.prog:=⟨225,aR,cC.E,.fn 0 (by kernel_rfl) cC.ok trivial⟩
abbrev cr.D:=Int×Bs×Sg
def cr.st:cr.D→SA:=fun(p,m,sv)=>([.d tu p,.d tH m,.d sJ sv],[])
abbrev cr.Y:=Bool
abbrev cr.X:=Bool
def cr.out:cr.X→ba:=fun x=>⟨.d .bool x,[],[]⟩
def cr.add:cr.D→cr.Y→cr.X:=fun(p,m,sv) y=>y
def cr.av:cr.D→Prop:=fun(p,m,s)=>gY p∧Sm m∧E9 s
def cr.F:cr.D→cr.Y:=fun(p,m,s)=>iX p m 1 s
noncomputable def cr.G:ed:=fk (P:=Tryz.prog) [cC.sg]
noncomputable def cr.an:eQ:= {}
noncomputable def cr.A:= @cY Tryz.prog cr.G cr.an 0 Tryz.f164 _ cr.st
abbrev cr.Ok:=dd @cr.A cr.av cr.add cr.F cr.out
theorem cr.eq{R:Type}(p:Int)(m:Bs)(sv:Sg)(k:ba→Option R):cr.A (p,m,sv) k=
 ah (cC.call (p,m,(1:Int),sv)) fun x1=>
 k (cr.out x1):=by kernel_rfl
theorem cr.ok:cr.Ok:=by
 rintro⟨p,m,s⟩ ⟨hp,hm,hs⟩
 rw[cr.eq,cC.run (d:=(p,m,1,s)) ⟨hp,hm,⟨by omega,by omega⟩,hs⟩]
 simp only[aa,cC.add,cC.F,w7]
 rfl
noncomputable def cr.E:=Entry.cD [some tu,some tH,some sJ] cr.st cr.av cr.add cr.F cr.out
noncomputable def cr.call:cr.D→Option cr.X:=bS cr.E cr.st
theorem cr.run:bM cr.call cr.av cr.add cr.F:=dq (df [.d tu,.d tB,.d sJ] fun _=>by kernel_rfl)
noncomputable def cr.sg:SG Tryz.prog:=⟨164,aR,cr.E,.fn 0 (by kernel_rfl) cr.ok trivial⟩
set_option synthInstance.maxSize 5000
abbrev ax.L0.D:=ik×Int
def ax.L0.st:ax.L0.D→AS:=fun(b_2,i)=>⟨([.undef,.ej fX b_2,.undef,.d ti i]++bl 50 []),[],(List.replicate 54 [])⟩
abbrev ax.L0.Y0:=Unit
abbrev ax.L0.X0:=Unit
def ax.L0.bp:ax.L0.X0→Exit×AS:=fun x=>(.ret,⟨([.undef,.undef,.d .bool false]++bl 51 []),[],(List.replicate 54 [])⟩)
abbrev ax.L0.Y1:=Unit
abbrev ax.L0.X1:=ik
def ax.L0.fA:ax.L0.X1→Exit×AS:=fun x=>(.exit 0,⟨([.undef,.ej fX x]++bl 52 []),[],(List.replicate 54 [])⟩)
abbrev ax.L0.X:=(ax.L0.X0)⊕(ax.L0.X1)
abbrev ax.L0.Y:=(ax.L0.Y0)⊕(ax.L0.Y1)
def ax.L0.out:ax.L0.X→Out (Exit×AS):=fun x=> .br x.isLeft (.get x.getLeft? fun a=> .ok (ax.L0.bp a)) (.get x.getRight? fun b=> .ok (ax.L0.fA b))
def ax.L0.add:ax.L0.D→ax.L0.Y→ax.L0.X:=fun(b_2,i) y=>match y with | .inl y=> .inl y | .inr z=> .inr (b_2)
abbrev ax.D:=ik
def ax.st:ax.D→SA:=fun b=>([.d fX b],[])
abbrev ax.Y:=Bool
abbrev ax.X:=Bool
def ax.out:ax.X→ba:=fun x=>⟨.d .bool x,[],[]⟩
def ax.add:ax.D→ax.Y→ax.X:=fun b y=>y
def ax.L0.av:ax.L0.D→Prop:=fun(b,i)=>E6 b∧b.1.length≤1000000000∧∃k:Nat,k≤b.1.length∧i=k
def ax.L0.F:ax.L0.D→ax.L0.Y:=fun(b,i)=>if(b.1.drop i.toNat).all ju then .inr () else .inl ()
def ax.av:ax.D→Prop:=fun b=>E6 b
def ax.F:ax.D→ax.Y:=fun b=>lj b
noncomputable def ax.G:ed:=fk (P:=Tryz.prog) [cd.sg]
noncomputable def ax.L0.E:=bU.cD ax.L0.st ax.L0.av ax.L0.add ax.L0.F ax.L0.out
noncomputable def ax.L0.call:ax.L0.D→Option ax.L0.X:=dw ax.L0.E ax.L0.st
noncomputable def ax.an:eQ:= {loops:=jB [(4,{bn:=[1,3]})],outs:=jA [(4,{bn:=[1]},{bn:=[2]})],fC:=kf [(4,ax.L0.E)]}
noncomputable def ax.A:= @cY Tryz.prog ax.G ax.an 0 Tryz.f159 _ ax.st
abbrev ax.Ok:=dd @ax.A ax.av ax.add ax.F ax.out
noncomputable def ax.L0.R:= @cj Tryz.prog ax.G ax.an 0 Tryz.f159 0 _ ax.L0.st
abbrev ax.L0.Ok:=ew Tryz.prog ax.G ax.an 0 Tryz.f159 0 ax.L0.st ax.L0.av ax.L0.add ax.L0.F ax.L0.out
theorem ax.L0.run:bM ax.L0.call ax.L0.av ax.L0.add ax.L0.F:=eM (eL [.d fX,.d ti] fun _=>by kernel_rfl)
theorem ax.L0.aB:kC @ax.L0.R ax.L0.st ax.L0.av ax.L0.add ax.L0.F ax.L0.out ax.L0.Ok:=kL
theorem ax.L0.step{R:Type}(b_2:ik)(i:Int)(kn:AS→Option R)(kx:Exit→AS→Option R):ax.L0.R (b_2,i) kn kx=
  aG ((fM i (((List.length b_2.1):Nat):Int))) (
   aG (eI i (((List.length b_2.1):Nat):Int)) (
   ah (cd.call (nth tu b_2.1 (Int.toNat i))) fun x1=>
   aG ((!x1)) (
    kx (ax.L0.bp ()).1 (ax.L0.bp ()).2) (
    kn (ax.L0.st (b_2,(bN .i64 i (1:Int)))))) none) (
   kx (ax.L0.fA b_2).1 (ax.L0.fA b_2).2):=by kernel_rfl
theorem ax.eq{R:Type}(b:ik)(k:ba→Option R):ax.A b k=
  aG ((nN (((List.length b.1):Nat):Int) (12:Int))) (
   k (ax.out false)) (
   aG ((fM b.2.1 (0:Int))) (
    k (ax.out false)) (
    aG ((nN b.2.1 (1048576:Int))) (
     k (ax.out false)) (
     aG ((fM b.2.2.1 (0:Int))) (
      k (ax.out false)) (
      aG ((nN b.2.2.1 (1048576:Int))) (
       k (ax.out false)) (
       ah (ax.L0.call (b,(0:Int))) fun x2=>
       aG (x2.isLeft) (
        ah (x2.getLeft?) fun a3=>
        k (ax.out false)) (
        ah (x2.getRight?) fun b4=>
        ah (cd.call b4.2.2.2.1) fun x5=>
        aG ((jz b4.2.2.2.1 (0:Int))) (
         k (ax.out true)) (
         k (ax.out x5)))))))):=by kernel_rfl
theorem ax.L0.ok:ax.L0.Ok:=by
 refine ax.L0.aB (fun(b,i)=>b.1.length - i.toNat) ?_
 rintro⟨b,i⟩ ⟨hb,hl,k,hk,rfl⟩
 have hl:b.1.length≤1000000000:=hl
 have hk:k≤b.1.length:=hk
 by_cases h:k < b.1.length
 ·have hx:=hb.1 _ (List.getElem_mem h)
  have n1:nth (.int .u64) b.1 k=b.1[k]:=cn (t:= .int .u64) h
  have hd:(b.1.drop k).all ju=(ju b.1[k] && (b.1.drop (k+1)).all ju):=by rw[List.drop_eq_getElem_cons h,List.all_cons]
  have step:∀ {R:Type} (kn:AS→Option R) (kx:Exit→AS→Option R),ax.L0.R (b,(k:Int)) kn kx=aG (ju b.1[k]) (kn (ax.L0.st (b,((k+1:Nat):Int)))) (kx (ax.L0.bp ()).1 (ax.L0.bp ()).2):=by
   intro R kn kx
   rw[ax.L0.step,aW (by omega),bm (by omega) (by omega),Int.toNat_natCast,n1,N.j5 (by omega),cd.run (d:=b.1[k]) hx]
   simp only[ae,aa,cd.add,cd.F]
   cases ju b.1[k] <;> rfl
  cases hp:ju b.1[k]
  ·right
   refine⟨ax.L0.bp (),?_,fun kn kx=> ?_⟩
   ·simp only[ax.L0.add,ax.L0.F,Int.toNat_natCast,hd,hp,Bool.false_and,Bool.false_eq_true,if_false]
    rfl
   ·rw[step,hp,ag]
  ·left
   refine⟨(b,((k+1:Nat):Int)),⟨hb,hl,k+1,by omega,rfl⟩,by simp only[Int.toNat_natCast];omega,?_,fun kn kx=> ?_⟩
   ·simp only[ax.L0.add,ax.L0.F,Int.toNat_natCast,hd,hp,Bool.true_and]
   ·rw[step,hp,ae]
 ·right
  obtain rfl:k=b.1.length:=by omega
  refine⟨ax.L0.fA b,?_,fun kn kx=> ?_⟩
  ·simp only[ax.L0.add,ax.L0.F,Int.toNat_natCast,List.drop_length]
   rfl
  ·rw[ax.L0.step]
   simp(disch:=omega) only[↓S1,↓if_pos,↓if_neg,if_pos,if_neg,if_true,if_false,S2]
theorem ax.ok:ax.Ok:=by
 rintro⟨ks,af,dl,sc,u⟩ hb
 have hb:E6 (ks,af,dl,sc,u):=hb
 have h2:gY sc:=hb.2
 rw[ax.eq]
 simp only[ax.add,ax.F,lj,rM]
 by_cases hk:ks.length≤12
 ·rw[dI (by omega),aZ hk,ax.L0.run (d:=((ks,af,dl,sc,u),0)) ⟨hb,by show ks.length≤1000000000;omega,0,by omega,rfl⟩]
  simp only[ag,Bool.true_and,aa,ax.L0.add,ax.L0.F,Int.toNat_zero,List.drop_zero]
  by_cases a1:af < 0
  ·rw[aW a1,bo (p:=0≤af∧af≤1048576) (by omega)]
   cases ks.all ju <;> rfl
  by_cases a2:af > 1048576
  ·rw[aO a1,dY a2,bo (p:=0≤af∧af≤1048576) (by omega)]
   cases ks.all ju <;> rfl
  by_cases a3:dl < 0
  ·rw[aO a1,dI a2,aW a3,bo (p:=0≤dl∧dl≤1048576) (by omega)]
   cases ks.all ju <;> cases(decide (0≤af∧af≤1048576)) <;> rfl
  by_cases a4:dl > 1048576
  ·rw[aO a1,dI a2,aO a3,dY a4,bo (p:=0≤dl∧dl≤1048576) (by omega)]
   cases ks.all ju <;> cases(decide (0≤af∧af≤1048576)) <;> rfl
  rw[aO a1,dI a2,aO a3,dI a4,aZ (p:=0≤dl∧dl≤1048576) (by omega),aZ (p:=0≤af∧af≤1048576) (by omega)]
  cases hks:ks.all ju
  ·simp only[hks,Bool.false_eq_true,if_false];rfl
  ·simp only[hks,if_true]
   show ah (cd.call sc) _=_
   rw[cd.run (d:=sc) h2]
   simp only[aa,cd.add,cd.F]
   by_cases hs:sc=0
   ·rw[aZ hs]
    show aG (jz sc 0) _ _=_
    rw[hP hs];rfl
   ·rw[bo hs]
    show aG (jz sc 0) _ _=_
    rw[gr hs];rfl
 ·rw[dY (by omega),bo hk];rfl
noncomputable def ax.E:=Entry.cD [some fX] ax.st ax.av ax.add ax.F ax.out
noncomputable def ax.call:ax.D→Option ax.X:=bS ax.E ax.st
theorem ax.run:bM ax.call ax.av ax.add ax.F:=dq (df [.d fX] fun _=>by kernel_rfl)
noncomputable def ax.sg:SG Tryz.prog:=⟨159,aR,ax.E,.fn 1 (by kernel_rfl) ax.ok (And.intro (.cD ax.L0.ok (by kernel_rfl)) trivial)⟩
abbrev aD.L0.D:=Lk×Int
def aD.L0.st:aD.L0.D→AS:=fun(l_2,i)=>⟨([.undef,.ej ql l_2,.undef,.d ti i]++bl 24 []),[],(List.replicate 28 [])⟩
abbrev aD.L0.Y0:=Unit
abbrev aD.L0.X0:=Unit
def aD.L0.bp:aD.L0.X0→Exit×AS:=fun x=>(.ret,⟨([.undef,.undef,.d .bool false]++bl 25 []),[],(List.replicate 28 [])⟩)
abbrev aD.L0.Y1:=Unit
abbrev aD.L0.X1:=Unit
def aD.L0.fA:aD.L0.X1→Exit×AS:=fun x=>(.exit 0,⟨(bl 28 []),[],(List.replicate 28 [])⟩)
abbrev aD.L0.X:=(aD.L0.X0)⊕(aD.L0.X1)
abbrev aD.L0.Y:=(aD.L0.Y0)⊕(aD.L0.Y1)
def aD.L0.out:aD.L0.X→Out (Exit×AS):=fun x=> .br x.isLeft (.get x.getLeft? fun a=> .ok (aD.L0.bp a)) (.get x.getRight? fun b=> .ok (aD.L0.fA b))
def aD.L0.add:aD.L0.D→aD.L0.Y→aD.L0.X:=fun(l_2,i) y=>match y with | .inl y=> .inl y | .inr z=> .inr (z)
abbrev aD.D:=Lk
def aD.st:aD.D→SA:=fun l=>([.d ql l],[])
abbrev aD.Y:=Bool
abbrev aD.X:=Bool
def aD.out:aD.X→ba:=fun x=>⟨.d .bool x,[],[]⟩
def aD.add:aD.D→aD.Y→aD.X:=fun l y=>y
def aD.L0.av:aD.L0.D→Prop:=fun(l,i)=>u9 l∧l.1.length≤1000000000∧∃k:Nat,k≤l.1.length∧i=k
def aD.L0.F:aD.L0.D→aD.L0.Y:=fun(l,i)=>if(l.1.drop i.toNat).all lj then .inr () else .inl ()
def aD.av:aD.D→Prop:=fun l=>u9 l
def aD.F:aD.D→aD.Y:=fun l=>iT l
noncomputable def aD.G:ed:=fk (P:=Tryz.prog) [ax.sg]
noncomputable def aD.L0.E:=bU.cD aD.L0.st aD.L0.av aD.L0.add aD.L0.F aD.L0.out
noncomputable def aD.L0.call:aD.L0.D→Option aD.L0.X:=dw aD.L0.E aD.L0.st
noncomputable def aD.an:eQ:= {loops:=jB [(4,{bn:=[1,3]})],outs:=jA [(4,{},{bn:=[2]})],fC:=kf [(4,aD.L0.E)]}
noncomputable def aD.A:= @cY Tryz.prog aD.G aD.an 0 Tryz.f85 _ aD.st
abbrev aD.Ok:=dd @aD.A aD.av aD.add aD.F aD.out
noncomputable def aD.L0.R:= @cj Tryz.prog aD.G aD.an 0 Tryz.f85 0 _ aD.L0.st
abbrev aD.L0.Ok:=ew Tryz.prog aD.G aD.an 0 Tryz.f85 0 aD.L0.st aD.L0.av aD.L0.add aD.L0.F aD.L0.out
theorem aD.L0.run:bM aD.L0.call aD.L0.av aD.L0.add aD.L0.F:=eM (eL [.d ql,.d ti] fun _=>by kernel_rfl)
theorem aD.L0.aB:kC @aD.L0.R aD.L0.st aD.L0.av aD.L0.add aD.L0.F aD.L0.out aD.L0.Ok:=kL
theorem aD.L0.step{R:Type}(l_2:Lk)(i:Int)(kn:AS→Option R)(kx:Exit→AS→Option R):aD.L0.R (l_2,i) kn kx=
  aG ((fM i (((List.length l_2.1):Nat):Int))) (
   aG (eI i (((List.length l_2.1):Nat):Int)) (
   ah (ax.call (nth fX l_2.1 (Int.toNat i))) fun x1=>
   aG ((!x1)) (
    kx (aD.L0.bp ()).1 (aD.L0.bp ()).2) (
    kn (aD.L0.st (l_2,(bN .i64 i (1:Int)))))) none) (
   kx (aD.L0.fA ()).1 (aD.L0.fA ()).2):=by kernel_rfl
theorem aD.eq{R:Type}(l:Lk)(k:ba→Option R):aD.A l k=
  aG ((fM (((List.length l.1):Nat):Int) (1:Int))) (
   k (aD.out false)) (
   aG ((nN (((List.length l.1):Nat):Int) (4:Int))) (
    k (aD.out false)) (
    ah (aD.L0.call (l,(0:Int))) fun x2=>
    aG (x2.isLeft) (
     ah (x2.getLeft?) fun a3=>
     k (aD.out false)) (
     ah (x2.getRight?) fun b4=>
     k (aD.out true)))):=by kernel_rfl
theorem aD.L0.ok:aD.L0.Ok:=by
 refine aD.L0.aB (fun(l,i)=>l.1.length - i.toNat) ?_
 rintro⟨l,i⟩ ⟨hb,hl,k,hk,rfl⟩
 have hl:l.1.length≤1000000000:=hl
 have hk:k≤l.1.length:=hk
 by_cases h:k < l.1.length
 ·have hx:=hb _ (List.getElem_mem h)
  have n1:nth (.pair (.slice (.int .u64)) (.pair (.int .i64) (.pair (.int .i64) (.pair (.int .u64) .unit)))) l.1 k=l.1[k]:=cn (t:=(.pair (.slice (.int .u64)) (.pair (.int .i64) (.pair (.int .i64) (.pair (.int .u64) .unit))))) h
  have hd:(l.1.drop k).all lj=(lj l.1[k] && (l.1.drop (k+1)).all lj):=by rw[List.drop_eq_getElem_cons h,List.all_cons]
  have step:∀ {R:Type} (kn:AS→Option R) (kx:Exit→AS→Option R),aD.L0.R (l,(k:Int)) kn kx=aG (lj l.1[k]) (kn (aD.L0.st (l,((k+1:Nat):Int)))) (kx (aD.L0.bp ()).1 (aD.L0.bp ()).2):=by
   intro R kn kx
   rw[aD.L0.step,aW (by omega),bm (by omega) (by omega),Int.toNat_natCast,n1,N.j5 (by omega),ax.run (d:=l.1[k]) hx]
   simp only[ae,aa,ax.add,ax.F]
   cases lj l.1[k] <;> rfl
  cases hp:lj l.1[k]
  ·right
   refine⟨aD.L0.bp (),?_,fun kn kx=> ?_⟩
   ·simp only[aD.L0.add,aD.L0.F,Int.toNat_natCast,hd,hp,Bool.false_and,Bool.false_eq_true,if_false]
    rfl
   ·rw[step,hp,ag]
  ·left
   refine⟨(l,((k+1:Nat):Int)),⟨hb,hl,k+1,by omega,rfl⟩,by simp only[Int.toNat_natCast];omega,?_,fun kn kx=> ?_⟩
   ·simp only[aD.L0.add,aD.L0.F,Int.toNat_natCast,hd,hp,Bool.true_and]
   ·rw[step,hp,ae]
 ·right
  obtain rfl:k=l.1.length:=by omega
  refine⟨aD.L0.fA (),?_,fun kn kx=> ?_⟩
  ·simp only[aD.L0.add,aD.L0.F,Int.toNat_natCast,List.drop_length]
   rfl
  ·rw[aD.L0.step]
   simp(disch:=omega) only[↓S1,↓if_pos,↓if_neg,if_pos,if_neg,if_true,if_false,S2]
theorem aD.ok:aD.Ok:=by
 intro l hl
 have hl:u9 l:=hl
 rw[aD.eq]
 simp only[aD.add,aD.F,iT]
 by_cases h0:l.1.length < 1
 ·rw[aW (by omega),bo (p:=0 < l.1.length∧l.1.length≤4) (by omega),Bool.and_false];rfl
 by_cases h4:l.1.length > 4
 ·rw[aO (by omega),dY (by omega),bo (p:=0 < l.1.length∧l.1.length≤4) (by omega),Bool.and_false];rfl
 rw[aO (by omega),dI (by omega),aZ (p:=0 < l.1.length∧l.1.length≤4) (by omega),Bool.and_true,aD.L0.run (d:=(l,0)) ⟨hl,by show l.1.length≤1000000000;omega,0,by omega,rfl⟩]
 simp only[ag,aa,aD.L0.add,aD.L0.F,Int.toNat_zero,List.drop_zero]
 cases l.1.all lj <;> rfl
noncomputable def aD.E:=Entry.cD [some ql] aD.st aD.av aD.add aD.F aD.out
noncomputable def aD.call:aD.D→Option aD.X:=bS aD.E aD.st
theorem aD.run:bM aD.call aD.av aD.add aD.F:=dq (df [.d ql] fun _=>by kernel_rfl)
noncomputable def aD.sg:SG Tryz.prog:=⟨85,aR,aD.E,.fn 1 (by kernel_rfl) aD.ok (And.intro (.cD aD.L0.ok (by kernel_rfl)) trivial)⟩
abbrev aK.L0.D:=so×Bs×Int×ik
def aK.L0.st:aK.L0.D→AS:=fun(wv_2,m_2,i,n11)=>⟨(bl 6 ([.ej xE wv_2,.ej tH m_2,.undef,.undef,.undef,.ptr (.new 11 0) 0 [] 0,.d ti i]++bl 72 [])),[],(ch 11 ([[.obj 0 false (.d fX n11)]]++ch 73 []))⟩
abbrev aK.L0.Y0:=Unit
abbrev aK.L0.X0:=Unit
def aK.L0.bp:aK.L0.X0→Exit×AS:=fun x=>(.ret,⟨(bl 10 ([.d ti (7:Int)]++bl 74 [])),[],(List.replicate 85 [])⟩)
abbrev aK.L0.Y1:=Unit
abbrev aK.L0.X1:=Unit
def aK.L0.fA:aK.L0.X1→Exit×AS:=fun x=>(.exit 0,⟨(bl 85 []),[],(List.replicate 85 [])⟩)
abbrev aK.L0.X:=(aK.L0.X0)⊕(aK.L0.X1)
abbrev aK.L0.Y:=(aK.L0.Y0)⊕(aK.L0.Y1)
def aK.L0.out:aK.L0.X→Out (Exit×AS):=fun x=> .br x.isLeft (.get x.getLeft? fun a=> .ok (aK.L0.bp a)) (.get x.getRight? fun b=> .ok (aK.L0.fA b))
def aK.L0.add:aK.L0.D→aK.L0.Y→aK.L0.X:=fun(wv_2,m_2,i,n11) y=>match y with | .inl y=> .inl y | .inr z=> .inr (z)
abbrev aK.D:=Lk×so×Bs×Int×Int
def aK.st:aK.D→SA:=fun(l,wv,m,height,age)=>([.d ql l,.d xE wv,.d tH m,.d ti height,.d ti age],[])
abbrev aK.Y:=Int
abbrev aK.X:=Int
def aK.out:aK.X→ba:=fun x=>⟨.d ti x,[],[]⟩
def aK.add:aK.D→aK.Y→aK.X:=fun(l,wv,m,height,age) y=>y
def aK.L0.av:aK.L0.D→Prop:=fun(w,m,i,b)=>vb w∧Sm m∧nj b.1∧b.1.length≤1000000000∧w.2.1.length=b.1.length∧∃k:Nat,k≤b.1.length∧i=k
def aK.L0.F:aK.L0.D→aK.L0.Y:=fun(w,m,i,b)=>if j4 m (b.1.drop i.toNat) (w.2.1.drop i.toNat) then .inr () else .inl ()
def aK.av:aK.D→Prop:=fun(l,w,m,h,a)=>u9 l∧vb w∧Sm m
def aK.F:aK.D→aK.Y:=fun(l,w,m,h,a)=>kb l w m h a
noncomputable def aK.G:ed:=fk (P:=Tryz.prog) [aD.sg,dC.sg,cr.sg]
noncomputable def aK.L0.E:=bU.cD aK.L0.st aK.L0.av aK.L0.add aK.L0.F aK.L0.out
noncomputable def aK.L0.call:aK.L0.D→Option aK.L0.X:=dw aK.L0.E aK.L0.st
noncomputable def aK.an:eQ:= {loops:=jB [(11,{bn:=[6,7,11,12],sites:=[11]})],outs:=jA [(11,{},{bn:=[10]})],fC:=kf [(11,aK.L0.E)]}
noncomputable def aK.A:= @cY Tryz.prog aK.G aK.an 0 Tryz.f89 _ aK.st
abbrev aK.Ok:=dd @aK.A aK.av aK.add aK.F aK.out
noncomputable def aK.L0.R:= @cj Tryz.prog aK.G aK.an 0 Tryz.f89 0 _ aK.L0.st
abbrev aK.L0.Ok:=ew Tryz.prog aK.G aK.an 0 Tryz.f89 0 aK.L0.st aK.L0.av aK.L0.add aK.L0.F aK.L0.out
theorem aK.L0.run:bM aK.L0.call aK.L0.av aK.L0.add aK.L0.F:=eM (eL [.d xE,.d tH,.d ti,.d fX] fun _=>by kernel_rfl)
theorem aK.L0.aB:kC @aK.L0.R aK.L0.st aK.L0.av aK.L0.add aK.L0.F aK.L0.out aK.L0.Ok:=kL
theorem aK.L0.step{R:Type}(wv_2:so)(m_2:Bs)(i:Int)(n11:ik)(kn:AS→Option R)(kx:Exit→AS→Option R):aK.L0.R (wv_2,m_2,i,n11) kn kx=
  aG ((fM i (((List.length n11.1):Nat):Int))) (
   aG (eI i (((List.length n11.1):Nat):Int)) (
   aG (eI i (((List.length wv_2.2.1):Nat):Int)) (
   ah (cr.call ((nth tu n11.1 (Int.toNat i)),m_2,(nth sJ wv_2.2.1 (Int.toNat i)))) fun x1=>
   aG ((!x1)) (
    kx (aK.L0.bp ()).1 (aK.L0.bp ()).2) (
    kn (aK.L0.st (wv_2,m_2,(bN .i64 i (1:Int)),n11)))) none) none) (
   kx (aK.L0.fA ()).1 (aK.L0.fA ()).2):=by kernel_rfl
theorem aK.eq{R:Type}(l:Lk)(wv:so)(m:Bs)(height:Int)(age:Int)(k:ba→Option R):aK.A (l,wv,m,height,age) k=
  ah (aD.call l) fun x1=>
  aG ((!x1)) (
   k (aK.out (1:Int))) (
   aG ((fM wv.1 (0:Int))) (
    k (aK.out (1:Int))) (
    aG ((nv wv.1 (((List.length l.1):Nat):Int))) (
     k (aK.out (1:Int))) (
     aG (eI wv.1 (((List.length l.1):Nat):Int)) (
     aG ((fM height (nth fX l.1 (Int.toNat wv.1)).2.1)) (
      k (aK.out (11:Int))) (
      aG ((fM age (nth fX l.1 (Int.toNat wv.1)).2.2.1)) (
       k (aK.out (11:Int))) (
       aG ((mM (nth fX l.1 (Int.toNat wv.1)).2.2.2.1 (0:Int))) (
        ah (dC.call wv.2.2.1) fun x2=>
        aG ((mM x2 (nth fX l.1 (Int.toNat wv.1)).2.2.2.1)) (
         k (aK.out (23:Int))) (
         aG ((mM (((List.length wv.2.1):Nat):Int) (((List.length (nth fX l.1 (Int.toNat wv.1)).1):Nat):Int))) (
          k (aK.out (7:Int))) (
          ah (aK.L0.call (wv,m,(0:Int),(nth fX l.1 (Int.toNat wv.1)))) fun x4=>
          aG (x4.isLeft) (
           ah (x4.getLeft?) fun a5=>
           k (aK.out (7:Int))) (
           ah (x4.getRight?) fun b6=>
           k (aK.out (0:Int)))))) (
        aG ((mM (((List.length wv.2.1):Nat):Int) (((List.length (nth fX l.1 (Int.toNat wv.1)).1):Nat):Int))) (
         k (aK.out (7:Int))) (
         ah (aK.L0.call (wv,m,(0:Int),(nth fX l.1 (Int.toNat wv.1)))) fun x7=>
         aG (x7.isLeft) (
          ah (x7.getLeft?) fun a8=>
          k (aK.out (7:Int))) (
          ah (x7.getRight?) fun b9=>
          k (aK.out (0:Int)))))))) none))):=by kernel_rfl
theorem aK.L0.ok:aK.L0.Ok:=by
 refine aK.L0.aB (fun(w,m,i,b)=>b.1.length - i.toNat) ?_
 rintro⟨w,m,i,b⟩ ⟨hw,hm,hl,hb,hs,k,hk,rfl⟩
 have hb:b.1.length≤1000000000:=hb
 have hk:k≤b.1.length:=hk
 have hs:w.2.1.length=b.1.length:=hs
 by_cases h:k < b.1.length
 ·have hx:=hl _ (List.getElem_mem h)
  have hy:=hw.1 _ (List.getElem_mem (by omega:k < w.2.1.length))
  have n1:nth (.int .u64) b.1 k=b.1[k]:=cn (t:= .int .u64) h
  have n2:nth (.pair (.int .u64) (.pair (.int .u64) .unit)) w.2.1 k=w.2.1[k]'(by omega):=cn (t:=(.pair (.int .u64) (.pair (.int .u64) .unit))) (by omega)
  have hd:=wD m b.1 w.2.1 hs k h
  have step:∀ {R:Type} (kn:AS→Option R) (kx:Exit→AS→Option R),aK.L0.R (w,m,(k:Int),b) kn kx=aG (iX b.1[k] m 1 (w.2.1[k]'(by omega))) (kn (aK.L0.st (w,m,((k+1:Nat):Int),b))) (kx (aK.L0.bp ()).1 (aK.L0.bp ()).2):=by
   intro R kn kx
   rw[aK.L0.step,aW (by omega),bm (by omega) (by omega),bm (by omega) (by omega),Int.toNat_natCast,n1,n2,N.j5 (by omega),cr.run (d:=(b.1[k],m,w.2.1[k]'(by omega))) ⟨hx,hm,hy⟩]
   simp only[ae,aa,cr.add,cr.F]
   cases iX b.1[k] m 1 (w.2.1[k]'(by omega)) <;> rfl
  cases hp:iX b.1[k] m 1 (w.2.1[k]'(by omega))
  ·right
   refine⟨aK.L0.bp (),?_,fun kn kx=> ?_⟩
   ·simp only[aK.L0.add,aK.L0.F,Int.toNat_natCast,hd,hp,Bool.false_and,Bool.false_eq_true,if_false]
    rfl
   ·rw[step,hp,ag]
  ·left
   refine⟨(w,m,((k+1:Nat):Int),b),⟨hw,hm,hl,hb,hs,k+1,by omega,rfl⟩,by simp only[Int.toNat_natCast];omega,?_,fun kn kx=> ?_⟩
   ·simp only[aK.L0.add,aK.L0.F,Int.toNat_natCast,hd,hp,Bool.true_and]
   ·rw[step,hp,ae]
 ·right
  obtain rfl:k=b.1.length:=by omega
  refine⟨aK.L0.fA (),?_,fun kn kx=> ?_⟩
  ·simp only[aK.L0.add,aK.L0.F,Int.toNat_natCast,List.drop_length]
   rfl
  ·rw[aK.L0.step]
   simp(disch:=omega) only[↓S1,↓if_pos,↓if_neg,if_pos,if_neg,if_true,if_false,S2]
theorem aK.ok:aK.Ok:=by
  rintro⟨l,w,m,h,a⟩ ⟨hl,hw,hm⟩
  have hl:u9 l:=hl
  have hw:vb w:=hw
  have hm:Sm m:=hm
  rw[aK.eq,aD.run (d:=l) hl]
  simp only[aa,aD.add,aD.F,aK.add,aK.F,kb]
  cases hok:iT l
  · rw[if_pos (Or.inl rfl)];rfl
  by_cases h0:w.1 < 0
  · rw[aW h0,if_pos (Or.inr (Or.inl h0))];rfl
  by_cases h1:w.1≥l.1.length
  · rw[aO h0,fF h1,if_pos (Or.inr (Or.inr h1))];rfl
  rw[aO h0,eZ h1,bm (by omega) (by omega),if_neg (by simp[h0];omega)]
  have hn:w.1.toNat < l.1.length:=by omega
  have n1:nth (.pair (.slice (.int .u64)) (.pair (.int .i64) (.pair (.int .i64) (.pair (.int .u64) .unit)))) l.1 w.1.toNat=l.1[w.1.toNat]:=cn (t:=(.pair (.slice (.int .u64)) (.pair (.int .i64) (.pair (.int .i64) (.pair (.int .u64) .unit))))) hn
  rw[n1]
  have hx:E6 l.1[w.1.toNat]:=hl _ (List.getElem_mem hn)
  have hkl:=v7 hok (List.getElem_mem hn)
  obtain⟨⟨ks,af,dl,sc,u⟩,hbk⟩:∃b,l.1[w.1.toNat]=b:=⟨_,rfl⟩
  rw[hbk]at hx hkl ⊢
  have hks:nj ks:=hx.1
  have hkl:ks.length≤12:=hkl
  simp only[Bool.not_true,ag,ae]
  by_cases e1:h < af
  · rw[aW e1,if_pos (Or.inl e1)];rfl
  by_cases e2:a < dl
  · rw[aO e1,aW e2,if_pos (Or.inr e2)];rfl
  rw[aO e1,aO e2,if_neg (by simp[e1,e2]),dC.run (d:=w.2.2.1) hw.2]
  simp only[ag,aa,dC.add,dC.F]
  have last:aG (mM ((w.2.1.length:Nat):Int) ((ks.length:Nat):Int)) (some (aK.out (7:Int))) (
          ah (aK.L0.call (w,m,(0:Int),(ks,af,dl,sc,u))) fun x4=>
          aG (x4.isLeft) (ah (x4.getLeft?) fun a5=>some (aK.out (7:Int))) (ah (x4.getRight?) fun b6=>some (aK.out (0:Int))))=some (aK.out (if w.2.1.length≠ks.length then 7 else if j4 m ks w.2.1 then 0 else 7)):=by
    by_cases e3:w.2.1.length=ks.length
    · rw[ct (by omega),if_neg (by simp[e3]),ag,aK.L0.run (d:=(w,m,0,(ks,af,dl,sc,u))) ⟨hw,hm,hks,by show ks.length≤1000000000;omega,e3,0,by omega,rfl⟩]
      simp only[aa,aK.L0.add,aK.L0.F,Int.toNat_zero,List.drop_zero]
      cases j4 m ks w.2.1 <;> rfl
    · rw[fg (by omega),if_pos e3];rfl
  by_cases e4:sc=0
  · rw[ct e4,if_neg (by simp[e4]),ag]
    exact last
  · rw[fg e4,ae]
    by_cases e5:e7 w.2.2.1=sc
    · rw[ct e5,if_neg (by simp[e5]),ag]
      exact last
    · rw[fg e5,if_pos ⟨e4,e5⟩];rfl
noncomputable def aK.E:=Entry.cD [some ql,some xE,some tH,some ti,some ti] aK.st aK.av aK.add aK.F aK.out
noncomputable def aK.call:aK.D→Option aK.X:=bS aK.E aK.st
theorem aK.run:bM aK.call aK.av aK.add aK.F:=dq (df [.d ql,.d xE,.d tB,.d ti,.d ti] fun _=>by kernel_rfl)
noncomputable def aK.sg:SG Tryz.prog:=⟨89,aR,aK.E,.fn 1 (by kernel_rfl) aK.ok (And.intro (.cD aK.L0.ok (by kernel_rfl)) trivial)⟩
set_option synthInstance.maxSize 5000
abbrev ao.L0.D:=Lk×Bs×Int
def ao.L0.st:ao.L0.D→AS:=fun(l_2,outv,i)=>⟨([.undef,.ej ql l_2,.undef,.d tB outv,.d ti i]++bl 53 []),[],(List.replicate 58 [])⟩
abbrev ao.L0.Y0:=Bs
abbrev ao.L0.X0:=Bs
def ao.L0.bp:ao.L0.X0→Exit×AS:=fun x=>(.exit 0,⟨([.undef,.undef,.undef,.d tB x]++bl 54 []),[],(List.replicate 58 [])⟩)
abbrev ao.L0.X:=ao.L0.X0
abbrev ao.L0.Y:=ao.L0.Y0
def ao.L0.out:ao.L0.X→Out (Exit×AS):=fun x=> .ok (ao.L0.bp x)
def ao.L0.add:ao.L0.D→ao.L0.Y→ao.L0.X:=fun(l_2,outv,i) y=>y
abbrev ao.L1.D:=Lk×Bs×Int×Int×ik
def ao.L1.st:ao.L1.D→AS:=fun(l_3,outv_2,i_2,kv,n5)=>⟨([.undef,.ej ql l_3,.undef,.d tB outv_2,.d ti i_2,.ptr (.new 5 0) 0 [] 0,.d ti kv]++bl 51 []),[],(ch 5 ([[.obj 0 false (.d fX n5)]]++ch 52 []))⟩
abbrev ao.L1.Y0:=Bs
abbrev ao.L1.X0:=(Lk×Int×ik)×(Bs)
def ao.L1.bp:ao.L1.X0→Exit×AS:=fun x=>(.exit 2,⟨([.undef,.ej ql x.1.1,.undef,.d tB x.2,.d ti x.1.2.1,.ptr (.new 5 0) 0 [] 0]++bl 52 []),[],(ch 5 ([[.obj 0 false (.d fX x.1.2.2)]]++ch 52 []))⟩)
abbrev ao.L1.X:=ao.L1.X0
abbrev ao.L1.Y:=ao.L1.Y0
def ao.L1.out:ao.L1.X→Out (Exit×AS):=fun x=> .ok (ao.L1.bp x)
def ao.L1.add:ao.L1.D→ao.L1.Y→ao.L1.X:=fun(l_3,outv_2,i_2,kv,n5) y=>((l_3,i_2,n5),y)
abbrev ao.D:=Lk
def ao.st:ao.D→SA:=fun l=>([.d ql l],[])
abbrev ao.Y:=Bs
abbrev ao.X:=Bs
def ao.out:ao.X→ba:=fun x=>⟨.d tB x,[],[]⟩
def ao.add:ao.D→ao.Y→ao.X:=fun l y=>y
def ao.L1.av:ao.L1.D→Prop:=fun(l,o,i,j,b)=>b.1.length≤12∧∃k:Nat,k≤b.1.length∧j=k∧o.length+8*b.1.length≤80000000+8*k
def ao.L1.F:ao.L1.D→ao.L1.Y:=fun(l,o,i,j,b)=>iG o (b.1.drop j.toNat)
def ao.L0.av:ao.L0.D→Prop:=fun(l,o,i)=>(∀b∈l.1,GM b)∧l.1.length≤4∧∃k:Nat,k≤l.1.length∧i=k∧o.length≤1000+200*k
def ao.L0.F:ao.L0.D→ao.L0.Y:=fun(l,o,i)=>(l.1.drop i.toNat).foldl Ec o
def ao.av:ao.D→Prop:=fun l=>u9 l
def ao.F:ao.D→ao.Y:=fun l=>BP l
noncomputable def ao.G:ed:=fk (P:=Tryz.prog) [aD.sg,du.sg,bu.sg]
noncomputable def ao.L0.E:=bU.cD ao.L0.st ao.L0.av ao.L0.add ao.L0.F ao.L0.out
noncomputable def ao.L0.call:ao.L0.D→Option ao.L0.X:=dw ao.L0.E ao.L0.st
noncomputable def ao.L1.E:=bU.cD ao.L1.st ao.L1.av ao.L1.add ao.L1.F ao.L1.out
noncomputable def ao.L1.call:ao.L1.D→Option ao.L1.X:=dw ao.L1.E ao.L1.st
noncomputable def ao.an:eQ:= {loops:=jB [(5,{bn:=[1,3,4]}),(10,{bn:=[1,3,4,5,6],sites:=[5]})],outs:=jA [(5,{bn:=[3]},{bn:=[2]}),(10,{bn:=[1,3,4,5],sites:=[5]},{bn:=[2]})],fC:=kf [(5,ao.L0.E),(10,ao.L1.E)],res:=[some tB]}
noncomputable def ao.A:= @cY Tryz.prog ao.G ao.an 0 Tryz.f223 _ ao.st
abbrev ao.Ok:=dd @ao.A ao.av ao.add ao.F ao.out
noncomputable def ao.L0.R:= @cj Tryz.prog ao.G ao.an 0 Tryz.f223 0 _ ao.L0.st
abbrev ao.L0.Ok:=ew Tryz.prog ao.G ao.an 0 Tryz.f223 0 ao.L0.st ao.L0.av ao.L0.add ao.L0.F ao.L0.out
noncomputable def ao.L1.R:= @cj Tryz.prog ao.G ao.an 0 Tryz.f223 1 _ ao.L1.st
abbrev ao.L1.Ok:=ew Tryz.prog ao.G ao.an 0 Tryz.f223 1 ao.L1.st ao.L1.av ao.L1.add ao.L1.F ao.L1.out
theorem ao.L0.run:bM ao.L0.call ao.L0.av ao.L0.add ao.L0.F:=eM (eL [.d ql,.d tB,.d ti] fun _=>by kernel_rfl)
theorem ao.L0.aB:fQ @ao.L0.R ao.L0.st ao.L0.av ao.L0.add ao.L0.F ao.L0.bp ao.L0.Ok:=fU
theorem ao.L0.step{R:Type}(l_2:Lk)(outv:Bs)(i:Int)(kn:AS→Option R)(kx:Exit→AS→Option R):ao.L0.R (l_2,outv,i) kn kx=
  aG ((fM i (((List.length l_2.1):Nat):Int))) (
   aG (eI i (((List.length l_2.1):Nat):Int)) (
   ah (du.call (outv,(((List.length (nth fX l_2.1 (Int.toNat i)).1):Nat):Int))) fun x1=>
   ah (ao.L1.call (l_2,x1,i,(0:Int),(nth fX l_2.1 (Int.toNat i)))) fun x2=>
   ah (du.call (x2.2,x2.1.2.2.2.1)) fun x3=>
   ah (du.call (x3,x2.1.2.2.2.2.1)) fun x4=>
   ah (bu.call (x4,x2.1.2.2.2.2.2.1)) fun x5=>
   kn (ao.L0.st (x2.1.1,x5,(bN .i64 x2.1.2.1 (1:Int))))) none) (
   kx (ao.L0.bp outv).1 (ao.L0.bp outv).2):=by kernel_rfl
theorem ao.L1.run:bM ao.L1.call ao.L1.av ao.L1.add ao.L1.F:=eM (eL [.d ql,.d tB,.d ti,.d ti,.d fX] fun _=>by kernel_rfl)
theorem ao.L1.aB:fQ @ao.L1.R ao.L1.st ao.L1.av ao.L1.add ao.L1.F ao.L1.bp ao.L1.Ok:=fU
theorem ao.L1.step{R:Type}(l_3:Lk)(outv_2:Bs)(i_2:Int)(kv:Int)(n5:ik)(kn:AS→Option R)(kx:Exit→AS→Option R):ao.L1.R (l_3,outv_2,i_2,kv,n5) kn kx=
  aG ((fM kv (((List.length n5.1):Nat):Int))) (
   aG (eI kv (((List.length n5.1):Nat):Int)) (
   ah (bu.call (outv_2,(nth tu n5.1 (Int.toNat kv)))) fun x1=>
   kn (ao.L1.st (l_3,x1,i_2,(bN .i64 kv (1:Int)),n5))) none) (
   kx (ao.L1.bp ((l_3,i_2,n5),outv_2)).1 (ao.L1.bp ((l_3,i_2,n5),outv_2)).2):=by kernel_rfl
theorem ao.eq{R:Type}(l:Lk)(k:ba→Option R):ao.A l k=
  ah (aD.call l) fun x1=>
  aG ((!x1)) (
   k (ao.out ([]:List Int))) (
   ah (du.call (([]:List Int),(((List.length l.1):Nat):Int))) fun x2=>
   ah (ao.L0.call (l,x2,(0:Int))) fun x9=>
   k (ao.out x9)):=by kernel_rfl
theorem ao.L1.ok:ao.L1.Ok:=by
 refine ao.L1.aB (fun(l,o,i,j,b)=>b.1.length - j.toNat) ?_
 rintro⟨l,o,i,j,b⟩ ⟨h12,k,hk,rfl,hl⟩
 have h12:b.1.length≤12:=h12
 have hk:k≤b.1.length:=hk
 have hl:o.length+8*b.1.length≤80000000+8*k:=hl
 by_cases h:k < b.1.length
 ·left
  have n1:nth (.int .u64) b.1 k=b.1[k]:=cn (t:= .int .u64) h
  refine⟨(l,o++iQ b.1[k],i,((k+1:Nat):Int),b),⟨h12,k+1,by omega,rfl,by rw[List.length_append,cq];omega⟩,by simp only[Int.toNat_natCast];omega,?_,fun kn kx=> ?_⟩
  ·simp only[ao.L1.add,ao.L1.F,Int.toNat_natCast]
   rw[tY _ _ _ h]
  ·rw[ao.L1.step,aW (by omega),bm (by omega) (by omega),Int.toNat_natCast,n1,bu.run (d:=(o,b.1[k])) (by show o.length≤90000000;omega)]
   simp only[ae,aa,bu.add,bu.F]
   rw[N.j5 (by omega)]
 ·right
  obtain rfl:k=b.1.length:=by omega
  intro R kn kx
  rw[ao.L1.step,aO (by omega),ag]
  simp only[ao.L1.add,ao.L1.F,Int.toNat_natCast,List.drop_length]
  rfl
theorem ao.L0.ok:ao.L0.Ok:=by
 refine ao.L0.aB (fun(l,o,i)=>l.1.length - i.toNat) ?_
 rintro⟨l,o,i⟩ ⟨hb,h4,k,hk,rfl,hl⟩
 have h4:l.1.length≤4:=h4
 have hk:k≤l.1.length:=hk
 have hl:o.length≤1000+200*k:=hl
 by_cases h:k < l.1.length
 ·left
  have hx:=hb _ (List.getElem_mem h)
  have n1:nth (.pair (.slice (.int .u64)) (.pair (.int .i64) (.pair (.int .i64) (.pair (.int .u64) .unit)))) l.1 k=l.1[k]:=cn (t:=(.pair (.slice (.int .u64)) (.pair (.int .i64) (.pair (.int .i64) (.pair (.int .u64) .unit))))) h
  have e0:=wR o l.1[k] hx.1
  refine⟨(l,Ec o l.1[k],((k+1:Nat):Int)),⟨hb,h4,k+1,by omega,rfl,by omega⟩,by simp only[Int.toNat_natCast];omega,?_,fun kn kx=> ?_⟩
  ·simp only[ao.L0.add,ao.L0.F,Int.toNat_natCast]
   rw[List.drop_eq_getElem_cons h]
   rfl
  ·rw[ao.L0.step,aW (by omega),bm (by omega) (by omega),Int.toNat_natCast,n1]
   obtain⟨⟨ks,af,dl,sc,u⟩,hbk⟩:∃b,l.1[k]=b:=⟨_,rfl⟩
   rw[hbk]at hx e0 ⊢
   obtain⟨h12,ha,hd⟩:=hx
   have h12:ks.length≤12:=h12
   have ha:af≤9223372036854775807:=ha
   have hd:dl≤9223372036854775807:=hd
   have l1:=fm o ks.length
   have l2:=pf ks (dS o ks.length)
   have l3:=fm (iG (dS o ks.length) ks) af
   have l4:=fm (dS (iG (dS o ks.length) ks) af) dl
   simp only[ae]
   rw[du.run (d:=(o,(ks.length:Int))) ⟨by show o.length≤90000000;omega,by show(ks.length:Int)≤9223372036854775807;omega⟩]
   simp only[aa,du.add,du.F]
   rw[ao.L1.run (d:=(l,dS o ks.length,(k:Int),0,(ks,af,dl,sc,u))) ⟨h12,0,Nat.zero_le _,rfl,by show(dS o ks.length).length+8*ks.length≤_;omega⟩]
   simp only[aa,ao.L1.add,ao.L1.F,Int.toNat_zero,List.drop_zero]
   rw[du.run (d:=(iG (dS o ks.length) ks,af)) ⟨by show(iG (dS o ks.length) ks).length≤90000000;omega,ha⟩]
   simp only[aa,du.add,du.F]
   rw[du.run (d:=(dS (iG (dS o ks.length) ks) af,dl)) ⟨by show(dS (iG (dS o ks.length) ks) af).length≤90000000;omega,hd⟩]
   simp only[aa,du.add,du.F]
   rw[bu.run (d:=(dS (dS (iG (dS o ks.length) ks) af) dl,sc)) (by show(dS (dS (iG (dS o ks.length) ks) af) dl).length≤90000000;omega)]
   simp only[aa,bu.add,bu.F]
   rw[N.j5 (by omega)]
   rfl
 ·right
  obtain rfl:k=l.1.length:=by omega
  intro R kn kx
  rw[ao.L0.step,aO (by omega),ag]
  simp only[ao.L0.add,ao.L0.F,Int.toNat_natCast,List.drop_length]
  rfl
theorem ao.ok:ao.Ok:=by
 intro l hl
 have hl:u9 l:=hl
 rw[ao.eq,aD.run (d:=l) hl]
 simp only[aa,aD.add,aD.F,ao.add,ao.F,BP]
 cases hok:iT l
 ·rfl
 ·obtain⟨h1,h2,h3⟩:=Ae hok
  have l1:=fm [] l.1.length
  have l0:([]:List Int).length=0:=rfl
  simp only[Bool.not_true,ag,if_true]
  rw[du.run (d:=([],(l.1.length:Int))) ⟨by show([]:List Int).length≤90000000;omega,by show(l.1.length:Int)≤9223372036854775807;omega⟩]
  simp only[aa,du.add,du.F]
  rw[ao.L0.run (d:=(l,dS [] l.1.length,0)) ⟨h1,h3,0,Nat.zero_le _,rfl,by show(dS [] l.1.length).length≤_;omega⟩]
  rfl
noncomputable def ao.E:=Entry.cD [some ql] ao.st ao.av ao.add ao.F ao.out
noncomputable def ao.call:ao.D→Option ao.X:=bS ao.E ao.st
theorem ao.run:bM ao.call ao.av ao.add ao.F:=dq (df [.d ql] fun _=>by kernel_rfl)
noncomputable def ao.sg:SG Tryz.prog:=⟨223,aR,ao.E,.fn 2 (by kernel_rfl) ao.ok (And.intro (.cD ao.L0.ok (by kernel_rfl)) (And.intro (.cD ao.L1.ok (by kernel_rfl)) trivial))⟩
set_option synthInstance.maxSize 5000
def lT(w:so):Bool:=decide (0≤w.1∧w.1 < 4) && decide (w.2.1.length≤12)
def oo(x:ia):Bool:=decide (0≤x.1.2.1∧x.1.2.1 < 64) && lT x.2.1
def qF(m:List (cK×Bool))(x:ia):Bool:=(cz ck x.1 m).getD false
def pv:List (cK×Bool)→List ia→Bool
 |_,[]=>true
 |m,x::l=>(!(qF m x) && oo x) && pv (fH ck x.1 true m) l
def kN(a:Int):Bool:=decide (0≤a∧a≤1125899906842624)
def pz(a b:Int):Bool:=kN a && (kN b && decide (a+b≤1125899906842624))
def mq:Int→List gm→Bool
 |_,[]=>true
 |s,o::l=>(pz s o.1 && iT o.2.1) && mq (s+o.1) l
def uT(t:fv):Bool:=decide (1≤t.1.length∧t.1.length≤64∧t.2.1.length≤64∧0≤t.2.2.1)
def gU(t:fv):Bool:=uT t && (pv [] t.1 && mq 0 t.2.1)
def GD(l:Lk):Prop:=u9 l∧l.1.length≤9223372036854775807
def GG(t:fv):Prop:=(∀o∈t.2.1,GD o.2.1)∧t.1.length≤9223372036854775807∧t.2.1.length≤9223372036854775807
abbrev fD.D:=so
def fD.st:fD.D→SA:=fun wv=>([.d xE wv],[])
abbrev fD.Y:=Bool
abbrev fD.X:=Bool
def fD.out:fD.X→ba:=fun x=>⟨.d .bool x,[],[]⟩
def fD.add:fD.D→fD.Y→fD.X:=fun wv y=>y
def fD.av:fD.D→Prop:=fun _=>True
def fD.F:fD.D→fD.Y:=fun w=>lT w
noncomputable def fD.G:ed:=fk (P:=Tryz.prog) []
noncomputable def fD.an:eQ:= {}
noncomputable def fD.A:= @cY Tryz.prog fD.G fD.an 0 Tryz.f67 _ fD.st
abbrev fD.Ok:=dd @fD.A fD.av fD.add fD.F fD.out
theorem fD.eq{R:Type}(wv:so)(k:ba→Option R):fD.A wv k=
  aG ((nv wv.1 (0:Int))) (
   aG ((fM wv.1 (4:Int))) (
    k (fD.out (zr (((List.length wv.2.1):Nat):Int) (12:Int)))) (
    k (fD.out false))) (
   k (fD.out false)):=by kernel_rfl
theorem fD.ok:fD.Ok:=by
 rintro⟨b,ss,sc,u⟩ _
 rw[fD.eq]
 simp only[fD.add,fD.F,lT]
 by_cases h:0≤b
 ·rw[fF h,ae]
  by_cases h2:b < 4
  ·rw[aW h2,ae,aZ ⟨h,h2⟩]
   by_cases h3:ss.length≤12
   ·rw[kh (by omega),aZ h3];rfl
   ·rw[iM (by omega),bo h3];rfl
  ·rw[aO h2,ag,bo (fun x=>h2 x.2)];rfl
 ·rw[eZ h,ag,bo (fun x=>h x.1)];rfl
noncomputable def fD.E:=Entry.cD [some xE] fD.st fD.av fD.add fD.F fD.out
noncomputable def fD.call:fD.D→Option fD.X:=bS fD.E fD.st
theorem fD.run:bM fD.call fD.av fD.add fD.F:=dq (df [.d xE] fun _=>by kernel_rfl)
noncomputable def fD.sg:SG Tryz.prog:=⟨67,aR,fD.E,.fn 0 (by kernel_rfl) fD.ok trivial⟩
abbrev dB.D:=Int
def dB.st:dB.D→SA:=fun a=>([.d ti a],[])
abbrev dB.Y:=Bool
abbrev dB.X:=Bool
def dB.out:dB.X→ba:=fun x=>⟨.d .bool x,[],[]⟩
def dB.add:dB.D→dB.Y→dB.X:=fun a y=>y
def dB.av:dB.D→Prop:=fun _=>True
def dB.F:dB.D→dB.Y:=fun a=>kN a
noncomputable def dB.G:ed:=fk (P:=Tryz.prog) []
noncomputable def dB.an:eQ:= {}
noncomputable def dB.A:= @cY Tryz.prog dB.G dB.an 0 Tryz.f194 _ dB.st
abbrev dB.Ok:=dd @dB.A dB.av dB.add dB.F dB.out
theorem dB.eq{R:Type}(a:Int)(k:ba→Option R):dB.A a k=
  aG ((nv a (0:Int))) (
   k (dB.out (zr a (1125899906842624:Int)))) (
   k (dB.out false)):=by kernel_rfl
theorem dB.ok:dB.Ok:=by
 intro(a:Int) _
 rw[dB.eq]
 simp only[dB.add,dB.F,kN]
 by_cases h:0≤a
 ·rw[fF h,ae]
  by_cases h2:a≤1125899906842624
  ·rw[kh h2,aZ ⟨h,h2⟩]
  ·rw[iM h2,bo (fun x=>h2 x.2)]
 ·rw[eZ h,ag,bo (fun x=>h x.1)]
noncomputable def dB.E:=Entry.cD [some ti] dB.st dB.av dB.add dB.F dB.out
noncomputable def dB.call:dB.D→Option dB.X:=bS dB.E dB.st
theorem dB.run:bM dB.call dB.av dB.add dB.F:=dq (df [.d ti] fun _=>by kernel_rfl)
noncomputable def dB.sg:SG Tryz.prog:=⟨194,aR,dB.E,.fn 0 (by kernel_rfl) dB.ok trivial⟩
abbrev fN.D:=Int×Int
def fN.st:fN.D→SA:=fun(a,b)=>([.d ti a,.d ti b],[])
abbrev fN.Y:=Int×Bool
abbrev fN.X:=Int×Bool
def fN.out:fN.X→ba:=fun x=>⟨.cons (.d ti x.1) (.cons (.d .bool x.2) (.nil)),[],[]⟩
def fN.add:fN.D→fN.Y→fN.X:=fun(a,b) y=>y
def fN.av:fN.D→Prop:=fun _=>True
def fN.F:fN.D→fN.Y:=fun(a,b)=>(bif pz a b then a+b else 0,pz a b)
noncomputable def fN.G:ed:=fk (P:=Tryz.prog) [dB.sg]
noncomputable def fN.an:eQ:= {}
noncomputable def fN.A:= @cY Tryz.prog fN.G fN.an 0 Tryz.f132 _ fN.st
abbrev fN.Ok:=dd @fN.A fN.av fN.add fN.F fN.out
theorem fN.eq{R:Type}(a:Int)(b:Int)(k:ba→Option R):fN.A (a,b) k=
  ah (dB.call a) fun x1=>
  aG ((!x1)) (
   k (fN.out ((0:Int),false))) (
   ah (dB.call b) fun x2=>
   aG ((!x2)) (
    k (fN.out ((0:Int),false))) (
    aG ((nN a (da .i64 (1125899906842624:Int) b))) (
     k (fN.out ((0:Int),false))) (
     k (fN.out ((bN .i64 a b),true))))):=by kernel_rfl
theorem fN.ok:fN.Ok:=by
 rintro⟨a,b⟩ _
 rw[fN.eq,dB.run (d:=a) trivial,dB.run (d:=b) trivial]
 simp only[aa,dB.add,dB.F,fN.add,fN.F,pz]
 cases ha:kN a
 ·rfl
 ·cases hb:kN b
  ·rfl
  ·simp only[kN,decide_eq_true_eq]at ha hb
   simp only[Bool.not_true,ag,Bool.true_and]
   rw[eS (by omega) (by omega)]
   by_cases h:a+b≤1125899906842624
   ·rw[dI (by omega),ag,aZ h,gF (by omega) (by omega)];rfl
   ·rw[dY (by omega),ae,bo h];rfl
noncomputable def fN.E:=Entry.cD [some ti,some ti] fN.st fN.av fN.add fN.F fN.out
noncomputable def fN.call:fN.D→Option fN.X:=bS fN.E fN.st
theorem fN.run:bM fN.call fN.av fN.add fN.F:=dq (df [.d ti,.d ti] fun _=>by kernel_rfl)
noncomputable def fN.sg:SG Tryz.prog:=⟨132,aR,fN.E,.fn 0 (by kernel_rfl) fN.ok trivial⟩
abbrev aw.L0.D:=fv×(List ia)×Int×Int×(List (cK×Bool))
def aw.L0.st:aw.L0.D→AS:=fun(t_2,t33,t34,t35,n31)=>⟨([.undef,.ej gI t_2,.undef,.ff (.new 31 0) 0]++bl 29 ([.d (.slice gz) t33,.d ti t34,.d ti t35]++bl 52 [])),[],(ch 31 ([[.obj 0 false (.mp ck .bool n31)]]++ch 56 []))⟩
abbrev aw.L0.Y0:=Unit
abbrev aw.L0.X0:=Unit
def aw.L0.bp:aw.L0.X0→Exit×AS:=fun x=>(.ret,⟨([.undef,.undef,.d .bool false]++bl 85 []),[],(List.replicate 88 [])⟩)
abbrev aw.L0.Y1:=Unit
abbrev aw.L0.X1:=fv
def aw.L0.fA:aw.L0.X1→Exit×AS:=fun x=>(.exit 0,⟨([.undef,.ej gI x]++bl 86 []),[],(List.replicate 88 [])⟩)
abbrev aw.L0.X:=(aw.L0.X0)⊕(aw.L0.X1)
abbrev aw.L0.Y:=(aw.L0.Y0)⊕(aw.L0.Y1)
def aw.L0.out:aw.L0.X→Out (Exit×AS):=fun x=> .br x.isLeft (.get x.getLeft? fun a=> .ok (aw.L0.bp a)) (.get x.getRight? fun b=> .ok (aw.L0.fA b))
def aw.L0.add:aw.L0.D→aw.L0.Y→aw.L0.X:=fun(t_2,t33,t34,t35,n31) y=>match y with | .inl y=> .inl y | .inr z=> .inr (t_2)
abbrev aw.L1.D:=Int×(List gm)×Int×Int
def aw.L1.st:aw.L1.D→AS:=fun(sum,t66,t67,t68)=>⟨(bl 6 ([.d ti sum]++bl 59 ([.d (.slice fe) t66,.d ti t67,.d ti t68]++bl 19 []))),[],(List.replicate 88 [])⟩
abbrev aw.L1.Y0:=Unit
abbrev aw.L1.X0:=Unit
def aw.L1.bp:aw.L1.X0→Exit×AS:=fun x=>(.ret,⟨([.undef,.undef,.d .bool false]++bl 85 []),[],(List.replicate 88 [])⟩)
abbrev aw.L1.Y1:=Unit
abbrev aw.L1.X1:=Unit
def aw.L1.fA:aw.L1.X1→Exit×AS:=fun x=>(.exit 2,⟨(bl 88 []),[],(List.replicate 88 [])⟩)
abbrev aw.L1.X:=(aw.L1.X0)⊕(aw.L1.X1)
abbrev aw.L1.Y:=(aw.L1.Y0)⊕(aw.L1.Y1)
def aw.L1.out:aw.L1.X→Out (Exit×AS):=fun x=> .br x.isLeft (.get x.getLeft? fun a=> .ok (aw.L1.bp a)) (.get x.getRight? fun b=> .ok (aw.L1.fA b))
def aw.L1.add:aw.L1.D→aw.L1.Y→aw.L1.X:=fun(sum,t66,t67,t68) y=>match y with | .inl y=> .inl y | .inr z=> .inr (z)
abbrev aw.D:=fv
def aw.st:aw.D→SA:=fun t=>([.d gI t],[])
abbrev aw.Y:=Bool
abbrev aw.X:=Bool
def aw.out:aw.X→ba:=fun x=>⟨.d .bool x,[],[]⟩
def aw.add:aw.D→aw.Y→aw.X:=fun t y=>y
def aw.L0.av:aw.L0.D→Prop:=fun(t,l,n,i,m)=>l.length≤9223372036854775807∧n=l.length∧∃k:Nat,k≤l.length∧i=k
def aw.L0.F:aw.L0.D→aw.L0.Y:=fun(t,l,n,i,m)=>if pv m (l.drop i.toNat) then .inr () else .inl ()
def aw.L1.av:aw.L1.D→Prop:=fun(s,l,n,i)=>(∀o∈l,GD o.2.1)∧l.length≤9223372036854775807∧n=l.length∧∃k:Nat,k≤l.length∧i=k
def aw.L1.F:aw.L1.D→aw.L1.Y:=fun(s,l,n,i)=>if mq s (l.drop i.toNat) then .inr () else .inl ()
def aw.av:aw.D→Prop:=fun t=>GG t
def aw.F:aw.D→aw.Y:=fun t=>gU t
noncomputable def aw.G:ed:=fk (P:=Tryz.prog) [fD.sg,fN.sg,aQ.sg]
noncomputable def aw.L0.E:=bU.cD aw.L0.st aw.L0.av aw.L0.add aw.L0.F aw.L0.out
noncomputable def aw.L0.call:aw.L0.D→Option aw.L0.X:=dw aw.L0.E aw.L0.st
noncomputable def aw.L1.E:=bU.cD aw.L1.st aw.L1.av aw.L1.add aw.L1.F aw.L1.out
noncomputable def aw.L1.call:aw.L1.D→Option aw.L1.X:=dw aw.L1.E aw.L1.st
noncomputable def aw.an:eQ:= {loops:=jB [(5,{bn:=[1,3,33,34,35],sites:=[31]}),(13,{bn:=[6,66,67,68]})],outs:=jA [(5,{bn:=[1]},{bn:=[2]}),(13,{},{bn:=[2]})],fC:=kf [(5,aw.L0.E),(13,aw.L1.E)]}
noncomputable def aw.A:= @cY Tryz.prog aw.G aw.an 0 Tryz.f66 _ aw.st
abbrev aw.Ok:=dd @aw.A aw.av aw.add aw.F aw.out
noncomputable def aw.L0.R:= @cj Tryz.prog aw.G aw.an 0 Tryz.f66 0 _ aw.L0.st
abbrev aw.L0.Ok:=ew Tryz.prog aw.G aw.an 0 Tryz.f66 0 aw.L0.st aw.L0.av aw.L0.add aw.L0.F aw.L0.out
noncomputable def aw.L1.R:= @cj Tryz.prog aw.G aw.an 0 Tryz.f66 1 _ aw.L1.st
abbrev aw.L1.Ok:=ew Tryz.prog aw.G aw.an 0 Tryz.f66 1 aw.L1.st aw.L1.av aw.L1.add aw.L1.F aw.L1.out
theorem aw.L0.run:bM aw.L0.call aw.L0.av aw.L0.add aw.L0.F:=eM (eL [.d gI,.d (.slice gz),.d ti,.d ti,.d (.slice (.pair ck .bool))] fun _=>by kernel_rfl)
theorem aw.L0.aB:kC @aw.L0.R aw.L0.st aw.L0.av aw.L0.add aw.L0.F aw.L0.out aw.L0.Ok:=kL
theorem aw.L0.step{R:Type}(t_2:fv)(t33:(List ia))(t34:Int)(t35:Int)(n31:(List (cK×Bool)))(kn:AS→Option R)(kx:Exit→AS→Option R):aw.L0.R (t_2,t33,t34,t35,n31) kn kx=
  aG ((fM t35 t34)) (
   aG (eI t35 (((List.length t33):Nat):Int)) (
   aG (((cz ck (nth gz t33 (Int.toNat t35)).1 n31).getD false)) (
    kx (aw.L0.bp ()).1 (aw.L0.bp ()).2) (
    aG ((fM (nth gz t33 (Int.toNat t35)).1.2.1 (0:Int))) (
     kx (aw.L0.bp ()).1 (aw.L0.bp ()).2) (
     aG ((nv (nth gz t33 (Int.toNat t35)).1.2.1 (64:Int))) (
      kx (aw.L0.bp ()).1 (aw.L0.bp ()).2) (
      ah (fD.call (nth gz t33 (Int.toNat t35)).2.1) fun x8=>
      aG ((!x8)) (
       kx (aw.L0.bp ()).1 (aw.L0.bp ()).2) (
       kn (aw.L0.st (t_2,t33,t34,(bN .i64 t35 (1:Int)),(fH ck (nth gz t33 (Int.toNat t35)).1 true n31)))))))) none) (
   kx (aw.L0.fA t_2).1 (aw.L0.fA t_2).2):=by kernel_rfl
theorem aw.L1.run:bM aw.L1.call aw.L1.av aw.L1.add aw.L1.F:=eM (eL [.d ti,.d (.slice fe),.d ti,.d ti] fun _=>by kernel_rfl)
theorem aw.L1.aB:kC @aw.L1.R aw.L1.st aw.L1.av aw.L1.add aw.L1.F aw.L1.out aw.L1.Ok:=kL
theorem aw.L1.step{R:Type}(sum:Int)(t66:(List gm))(t67:Int)(t68:Int)(kn:AS→Option R)(kx:Exit→AS→Option R):aw.L1.R (sum,t66,t67,t68) kn kx=
  aG ((fM t68 t67)) (
   aG (eI t68 (((List.length t66):Nat):Int)) (
   ah (fN.call (sum,(nth fe t66 (Int.toNat t68)).1)) fun x10=>
   aG ((!x10.2)) (
    kx (aw.L1.bp ()).1 (aw.L1.bp ()).2) (
    ah (aQ.call (nth fe t66 (Int.toNat t68)).2.1) fun x12=>
    aG ((!x12)) (
     kx (aw.L1.bp ()).1 (aw.L1.bp ()).2) (
     kn (aw.L1.st (x10.1,t66,t67,(bN .i64 t68 (1:Int))))))) none) (
   kx (aw.L1.fA ()).1 (aw.L1.fA ()).2):=by kernel_rfl
theorem aw.eq{R:Type}(t:fv)(k:ba→Option R):aw.A t k=
  aG ((fM (((List.length t.1):Nat):Int) (1:Int))) (
   k (aw.out false)) (
   aG ((nN (((List.length t.1):Nat):Int) (64:Int))) (
    k (aw.out false)) (
    aG ((nN (((List.length t.2.1):Nat):Int) (64:Int))) (
     k (aw.out false)) (
     aG ((fM t.2.2.1 (0:Int))) (
      k (aw.out false)) (
      ah (aw.L0.call (t,t.1,(((List.length t.1):Nat):Int),(0:Int),([]:List (cK×Bool)))) fun x12=>
      aG (x12.isLeft) (
       ah (x12.getLeft?) fun a13=>
       k (aw.out false)) (
       ah (x12.getRight?) fun b14=>
       ah (aw.L1.call ((0:Int),b14.2.1,(((List.length b14.2.1):Nat):Int),(0:Int))) fun x30=>
       aG (x30.isLeft) (
        ah (x30.getLeft?) fun a31=>
        k (aw.out false)) (
        ah (x30.getRight?) fun b32=>
        k (aw.out true))))))):=by kernel_rfl
theorem aw.L0.ok:aw.L0.Ok:=by
 refine aw.L0.aB (fun(t,l,n,i,m)=>l.length - i.toNat) ?_
 rintro⟨t,l,n,i,m⟩ ⟨hb,rfl,k,hk,rfl⟩
 have hb:l.length≤9223372036854775807:=hb
 have hk:k≤l.length:=hk
 by_cases h:k < l.length
 ·have n1:nth gz l k=l[k]:=cn (t:=gz) h
  have hd:pv m (l.drop k)=((!(qF m l[k]) && oo l[k]) && pv (fH ck l[k].1 true m) (l.drop (k+1))):=by rw[List.drop_eq_getElem_cons h];rfl
  have step:∀ {R:Type} (kn:AS→Option R) (kx:Exit→AS→Option R),aw.L0.R (t,l,(l.length:Int),(k:Int),m) kn kx=aG (!(qF m l[k]) && oo l[k]) (kn (aw.L0.st (t,l,(l.length:Int),((k+1:Nat):Int),fH ck l[k].1 true m))) (kx (aw.L0.bp ()).1 (aw.L0.bp ()).2):=by
   intro R kn kx
   rw[aw.L0.step,aW (by omega),bm (by omega) (by omega),Int.toNat_natCast,n1,N.j5 (by omega),fD.run (d:=l[k].2.1) trivial]
   simp only[ae,aa,fD.add,fD.F]
   have e:(cz ck l[k].1 m).getD false=qF m l[k]:=rfl
   rw[e]
   cases qF m l[k]
   ·simp only[Bool.not_false,Bool.true_and,ag,oo]
    by_cases h1:l[k].1.2.1 < 0
    ·rw[aW h1,ae,bo (fun x=>by omega)];rfl
    ·rw[aO h1,ag]
     by_cases h2:64≤l[k].1.2.1
     ·rw[fF h2,ae,bo (fun x=>by omega)];rfl
     ·rw[eZ h2,ag,aZ ⟨by omega,by omega⟩]
      cases lT l[k].2.1 <;> rfl
   ·rfl
  cases hp:(!(qF m l[k]) && oo l[k])
  ·right
   refine⟨aw.L0.bp (),?_,fun kn kx=> ?_⟩
   ·simp only[aw.L0.add,aw.L0.F,Int.toNat_natCast,hd,hp,Bool.false_and,Bool.false_eq_true,if_false]
    rfl
   ·rw[step,hp,ag]
  ·left
   refine⟨(t,l,l.length,((k+1:Nat):Int),fH ck l[k].1 true m),⟨hb,rfl,k+1,by omega,rfl⟩,by simp only[Int.toNat_natCast];omega,?_,fun kn kx=> ?_⟩
   ·simp only[aw.L0.add,aw.L0.F,Int.toNat_natCast,hd,hp,Bool.true_and]
   ·rw[step,hp,ae]
 ·right
  obtain rfl:k=l.length:=by omega
  refine⟨aw.L0.fA t,?_,fun kn kx=> ?_⟩
  ·simp only[aw.L0.add,aw.L0.F,Int.toNat_natCast,List.drop_length]
   rfl
  ·rw[aw.L0.step]
   simp(disch:=omega) only[↓S1,↓if_pos,↓if_neg,if_pos,if_neg,if_true,if_false,S2]
theorem aw.L1.ok:aw.L1.Ok:=by
 refine aw.L1.aB (fun(s,l,n,i)=>l.length - i.toNat) ?_
 rintro⟨s,l,n,i⟩ ⟨hl,hb,rfl,k,hk,rfl⟩
 have hb:l.length≤9223372036854775807:=hb
 have hk:k≤l.length:=hk
 by_cases h:k < l.length
 ·have hx:GD l[k].2.1:=hl _ (List.getElem_mem h)
  have n1:nth fe l k=l[k]:=cn (t:=fe) h
  have hd:mq s (l.drop k)=((pz s l[k].1 && iT l[k].2.1) && mq (s+l[k].1) (l.drop (k+1))):=by rw[List.drop_eq_getElem_cons h];rfl
  have step:∀ {R:Type} (kn:AS→Option R) (kx:Exit→AS→Option R),aw.L1.R (s,l,(l.length:Int),(k:Int)) kn kx=aG (pz s l[k].1 && iT l[k].2.1) (kn (aw.L1.st (s+l[k].1,l,(l.length:Int),((k+1:Nat):Int)))) (kx (aw.L1.bp ()).1 (aw.L1.bp ()).2):=by
   intro R kn kx
   rw[aw.L1.step,aW (by omega),bm (by omega) (by omega),Int.toNat_natCast,n1,N.j5 (by omega),fN.run (d:=(s,l[k].1)) trivial,aQ.run (d:=l[k].2.1) hx]
   simp only[ae,aa,fN.add,fN.F,aQ.add,aQ.F]
   cases pz s l[k].1
   ·rfl
   ·cases iT l[k].2.1 <;> rfl
  cases hp:(pz s l[k].1 && iT l[k].2.1)
  ·right
   refine⟨aw.L1.bp (),?_,fun kn kx=> ?_⟩
   ·simp only[aw.L1.add,aw.L1.F,Int.toNat_natCast,hd,hp,Bool.false_and,Bool.false_eq_true,if_false]
    rfl
   ·rw[step,hp,ag]
  ·left
   refine⟨(s+l[k].1,l,l.length,((k+1:Nat):Int)),⟨hl,hb,rfl,k+1,by omega,rfl⟩,by simp only[Int.toNat_natCast];omega,?_,fun kn kx=> ?_⟩
   ·simp only[aw.L1.add,aw.L1.F,Int.toNat_natCast,hd,hp,Bool.true_and]
   ·rw[step,hp,ae]
 ·right
  obtain rfl:k=l.length:=by omega
  refine⟨aw.L1.fA (),?_,fun kn kx=> ?_⟩
  ·simp only[aw.L1.add,aw.L1.F,Int.toNat_natCast,List.drop_length]
   rfl
  ·rw[aw.L1.step]
   simp(disch:=omega) only[↓S1,↓if_pos,↓if_neg,if_pos,if_neg,if_true,if_false,S2]
theorem aw.ok:aw.Ok:=by
 rintro⟨is,os,nt,u⟩ ⟨hl,h1,h2⟩
 have h1:is.length≤9223372036854775807:=h1
 have h2:os.length≤9223372036854775807:=h2
 rw[aw.eq,aw.L0.run (d:=((is,os,nt,u),is,is.length,0,[])) ⟨h1,rfl,0,by omega,rfl⟩]
 simp only[aa,aw.L0.add,aw.L0.F,Int.toNat_zero,List.drop_zero,aw.add,aw.F,gU,uT]
 by_cases a1:is.length < 1
 ·rw[aW (by omega),ae,bo (fun x=>by omega)];rfl
 rw[aO (by omega),ag]
 by_cases a2:64 < is.length
 ·rw[dY (by omega),ae,bo (fun x=>by omega)];rfl
 rw[dI (by omega),ag]
 by_cases a3:64 < os.length
 ·rw[dY (by omega),ae,bo (fun x=>by omega)];rfl
 rw[dI (by omega),ag]
 by_cases a4:nt < 0
 ·rw[aW (by omega),ae,bo (fun x=>by omega)];rfl
 rw[aO (by omega),ag,aZ ⟨by omega,by omega,by omega,by omega⟩]
 cases pv [] is
 ·rfl
 ·simp only[if_true,Bool.true_and]
  show ah (aw.L1.call (0,os,(os.length:Int),0)) _=_
  rw[aw.L1.run (d:=(0,os,os.length,0)) ⟨hl,h2,rfl,0,by omega,rfl⟩]
  simp only[aa,aw.L1.add,aw.L1.F,Int.toNat_zero,List.drop_zero]
  cases mq 0 os <;> rfl
noncomputable def aw.E:=Entry.cD [some gI] aw.st aw.av aw.add aw.F aw.out
noncomputable def aw.call:aw.D→Option aw.X:=bS aw.E aw.st
theorem aw.run:bM aw.call aw.av aw.add aw.F:=dq (df [.d gI] fun _=>by kernel_rfl)
noncomputable def aw.sg:SG Tryz.prog:=⟨66,aR,aw.E,.fn 2 (by kernel_rfl) aw.ok (And.intro (.cD aw.L0.ok (by kernel_rfl)) (And.intro (.cD aw.L1.ok (by kernel_rfl)) trivial))⟩
set_option synthInstance.maxSize 5000
abbrev eR.D:=Bs×Bs
def eR.st:eR.D→SA:=fun(b,h)=>([.d tB b,.d tH h],[])
abbrev eR.Y:=Bs
abbrev eR.X:=Bs
def eR.out:eR.X→ba:=fun x=>⟨.d tB x,[],[]⟩
def eR.add:eR.D→eR.Y→eR.X:=fun(b,h) y=>y
def eR.av:eR.D→Prop:=fun(b,h)=>b.length+h.length≤100000000∧h.length=32
def eR.F:eR.D→eR.Y:=fun(b,h)=>b++h
noncomputable def eR.G:ed:=fk (P:=Tryz.prog) [dU.sg]
noncomputable def eR.an:eQ:= {}
noncomputable def eR.A:= @cY Tryz.prog eR.G eR.an 0 Tryz.f124 _ eR.st
abbrev eR.Ok:=dd @eR.A eR.av eR.add eR.F eR.out
theorem eR.eq{R:Type}(b:Bs)(h:Bs)(k:ba→Option R):eR.A (b,h) k=
 ah (dU.call (b,(cut h 0 32))) fun x1=>
 k (eR.out x1):=by kernel_rfl
theorem eR.ok:eR.Ok:=by
 rintro⟨b,h⟩ ⟨h1,h2⟩
 have h1:b.length+h.length≤100000000:=h1
 have h2:h.length=32:=h2
 rw[eR.eq,fb h2,dU.run (d:=(b,h)) h1]
 rfl
noncomputable def eR.E:=Entry.cD [some tB,some tH] eR.st eR.av eR.add eR.F eR.out
noncomputable def eR.call:eR.D→Option eR.X:=bS eR.E eR.st
theorem eR.run:bM eR.call eR.av eR.add eR.F:=dq (df [.d tB,.d tB] fun _=>by kernel_rfl)
noncomputable def eR.sg:SG Tryz.prog:=⟨124,aR,eR.E,.fn 0 (by kernel_rfl) eR.ok trivial⟩
abbrev eJ.D:=Bs×Bs
def eJ.st:eJ.D→SA:=fun(b,c)=>([.d tB b,.d tB c],[])
abbrev eJ.Y:=Bs
abbrev eJ.X:=Bs
def eJ.out:eJ.X→ba:=fun x=>⟨.d tB x,[],[]⟩
def eJ.add:eJ.D→eJ.Y→eJ.X:=fun(b,c) y=>y
def eJ.av:eJ.D→Prop:=fun(b,c)=>b.length+c.length≤90000000
def eJ.F:eJ.D→eJ.Y:=fun(b,c)=>b++(mw c.length++c)
noncomputable def eJ.G:ed:=fk (P:=Tryz.prog) [de.sg,ay.sg]
noncomputable def eJ.an:eQ:= {res:=[some tB]}
noncomputable def eJ.A:= @cY Tryz.prog eJ.G eJ.an 0 Tryz.f145 _ eJ.st
abbrev eJ.Ok:=dd @eJ.A eJ.av eJ.add eJ.F eJ.out
theorem eJ.eq{R:Type}(b:Bs)(c:Bs)(k:ba→Option R):eJ.A (b,c) k=
 ah (de.call (((List.length c):Nat):Int)) fun x1=>
 ah (ay.call [b,x1,c]) fun x2=>
 k (eJ.out x2):=by kernel_rfl
theorem eJ.ok:eJ.Ok:=by
 rintro⟨b,c⟩ h
 have h:b.length+c.length≤90000000:=h
 have hl:=my c.length
 rw[eJ.eq,de.run (d:=(c.length:Int)) ⟨by omega,by omega⟩]
 simp only[aa,de.add,de.F]
 rw[ay.run (d:=[b,mw c.length,c]) ⟨by show [b,mw c.length,c].length≤_;simp,by show ki [b,mw c.length,c]≤_;simp only[ki,List.flatten_cons,List.flatten_nil,List.append_nil,List.length_append];omega⟩]
 simp only[aa,ay.add,ay.F,eJ.add,eJ.F,List.flatten_cons,List.flatten_nil,List.append_nil]
noncomputable def eJ.E:=Entry.cD [some tB,some tB] eJ.st eJ.av eJ.add eJ.F eJ.out
noncomputable def eJ.call:eJ.D→Option eJ.X:=bS eJ.E eJ.st
theorem eJ.run:bM eJ.call eJ.av eJ.add eJ.F:=dq (df [.d tB,.d tB] fun _=>by kernel_rfl)
noncomputable def eJ.sg:SG Tryz.prog:=⟨145,aR,eJ.E,.fn 0 (by kernel_rfl) eJ.ok trivial⟩
def pE(b:List Int)(x:ia):List Int:=dS (b++x.1.1) x.1.2.1
def qR(b:List Int)(o:gm):List Int:=dS b o.1++(mw (BP o.2.1).length++BP o.2.1)
def nb(t:fv):List Int:=dS (t.2.1.foldl qR (dS (t.1.foldl pE (dS [] t.1.length)) t.2.1.length)) t.2.2.1
def lS(t:fv):List Int:=if gU t then tag (bG (⟨#[116,120]⟩:ByteArray)) [nb t] else List.replicate 32 0
def HG(x:ia):Prop:=Sm x.1.1∧vb x.2.1∧x.2.1.2.1.length≤9223372036854775807
def nE(t:fv):Prop:=GG t∧(∀x∈t.1,HG x)∧t.2.2.1≤9223372036854775807
theorem nw:∀(l:List ia) (m:List (cK×Bool)),pv m l=true→∀x∈l,oo x=true
 |[],_,_,x,hx=>by cases hx
 |y::l,m,h,x,hx=>by
  rw[pv,Bool.and_eq_true,Bool.and_eq_true]at h
  rcases List.mem_cons.1 hx with rfl | hx
  ·exact h.1.2
  ·exact nw l _ h.2 x hx
theorem iD:∀(l:List gm) (s:Int),mq s l=true→∀o∈l,(0≤o.1∧o.1≤1125899906842624)∧iT o.2.1=true
 |[],_,_,o,ho=>by cases ho
 |y::l,s,h,o,ho=>by
  rw[mq,Bool.and_eq_true,Bool.and_eq_true]at h
  rcases List.mem_cons.1 ho with rfl | ho
  ·have h1:=h.1.1
   unfold pz kN at h1
   simp only[Bool.and_eq_true,decide_eq_true_eq]at h1
   exact⟨h1.2.1,h.1.2⟩
  ·exact iD l _ h.2 o ho
theorem zZ{x:ia}(h:oo x=true):0≤x.1.2.1∧x.1.2.1 < 64∧0≤x.2.1.1∧x.2.1.1 < 4∧x.2.1.2.1.length≤12:=by
 unfold oo lT at h
 simp only[Bool.and_eq_true,decide_eq_true_eq]at h
 exact⟨h.1.1,h.1.2,h.2.1.1,h.2.1.2,h.2.2⟩
theorem iF{t:fv}(h:gU t=true):(1≤t.1.length∧t.1.length≤64∧t.2.1.length≤64∧0≤t.2.2.1)∧pv [] t.1=true∧mq 0 t.2.1=true:=by
 unfold gU uT at h
 simp only[Bool.and_eq_true,decide_eq_true_eq]at h
 exact h
theorem w9(b:List Int)(x:ia):(pE b x).length≤b.length+x.1.1.length+11:=by
 have:=fm (b++x.1.1) x.1.2.1
 rw[List.length_append]at this
 exact this
theorem um(b:List Int)(o:gm):(qR b o).length≤b.length+1022:=by
 have h1:=fm b o.1
 have h2:=my (BP o.2.1).length
 have h3:=xe o.2.1
 unfold qR
 rw[List.length_append,List.length_append]
 omega
abbrev aL.L0.D:=fv×Bs×(List ia)×Int×Int
def aL.L0.st:aL.L0.D→AS:=fun(t_2,b,t13,t14,t15)=>⟨([.undef,.ej gI t_2,.undef,.d tB b]++bl 9 ([.d (.slice gz) t13,.d ti t14,.d ti t15]++bl 38 [])),[],(List.replicate 54 [])⟩
abbrev aL.L0.Y0:=Bs
abbrev aL.L0.X0:=(fv)×(Bs)
def aL.L0.bp:aL.L0.X0→Exit×AS:=fun x=>(.exit 0,⟨([.undef,.ej gI x.1,.undef,.d tB x.2]++bl 50 []),[],(List.replicate 54 [])⟩)
abbrev aL.L0.X:=aL.L0.X0
abbrev aL.L0.Y:=aL.L0.Y0
def aL.L0.out:aL.L0.X→Out (Exit×AS):=fun x=> .ok (aL.L0.bp x)
def aL.L0.add:aL.L0.D→aL.L0.Y→aL.L0.X:=fun(t_2,b,t13,t14,t15) y=>(t_2,y)
abbrev aL.L1.D:=fv×Bs×(List gm)×Int×Int
def aL.L1.st:aL.L1.D→AS:=fun(t_3,b_2,t35,t36,t37)=>⟨([.undef,.ej gI t_3,.undef,.d tB b_2]++bl 31 ([.d (.slice fe) t35,.d ti t36,.d ti t37]++bl 16 [])),[],(List.replicate 54 [])⟩
abbrev aL.L1.Y0:=Bs
abbrev aL.L1.X0:=(fv)×(Bs)
def aL.L1.bp:aL.L1.X0→Exit×AS:=fun x=>(.exit 2,⟨([.undef,.ej gI x.1,.undef,.d tB x.2]++bl 50 []),[],(List.replicate 54 [])⟩)
abbrev aL.L1.X:=aL.L1.X0
abbrev aL.L1.Y:=aL.L1.Y0
def aL.L1.out:aL.L1.X→Out (Exit×AS):=fun x=> .ok (aL.L1.bp x)
def aL.L1.add:aL.L1.D→aL.L1.Y→aL.L1.X:=fun(t_3,b_2,t35,t36,t37) y=>(t_3,y)
abbrev aL.D:=fv
def aL.st:aL.D→SA:=fun t=>([.d gI t],[])
abbrev aL.Y:=Bs
abbrev aL.X:=Bs
def aL.out:aL.X→ba:=fun x=>⟨.d tB x,[],[]⟩
def aL.add:aL.D→aL.Y→aL.X:=fun t y=>y
def aL.L0.av:aL.L0.D→Prop:=fun(t,b,l,n,i)=>(l).length≤1000000000∧∃k:Nat,k≤(l).length∧i=k∧n=(l).length∧(l.length≤64)∧(∀x∈l,x.1.1.length=32∧x.1.2.1≤9223372036854775807)∧(b.length≤100+50*k)
def aL.L0.F:aL.L0.D→aL.L0.Y:=fun(t,b,l,n,i)=>(List.drop (Int.toNat i) l).foldl pE b
def aL.L1.av:aL.L1.D→Prop:=fun(t,b,l,n,i)=>(l).length≤1000000000∧∃k:Nat,k≤(l).length∧i=k∧n=(l).length∧(l.length≤64)∧(∀o∈l,o.1≤9223372036854775807∧GD o.2.1)∧(b.length≤4000+1100*k)
def aL.L1.F:aL.L1.D→aL.L1.Y:=fun(t,b,l,n,i)=>(List.drop (Int.toNat i) l).foldl qR b
def aL.av:aL.D→Prop:=fun t=>gU t=true∧nE t
def aL.F:aL.D→aL.Y:=fun t=>nb t
noncomputable def aL.G:ed:=fk (P:=Tryz.prog) [eF.sg,eR.sg,aJ.sg,eJ.sg]
noncomputable def aL.L0.E:=bU.cD aL.L0.st aL.L0.av aL.L0.add aL.L0.F aL.L0.out
noncomputable def aL.L0.call:aL.L0.D→Option aL.L0.X:=dw aL.L0.E aL.L0.st
noncomputable def aL.L1.E:=bU.cD aL.L1.st aL.L1.av aL.L1.add aL.L1.F aL.L1.out
noncomputable def aL.L1.call:aL.L1.D→Option aL.L1.X:=dw aL.L1.E aL.L1.st
noncomputable def aL.an:eQ:= {loops:=jB [(3,{bn:=[1,3,13,14,15]}),(9,{bn:=[1,3,35,36,37]})],outs:=jA [(3,{bn:=[1,3]},{bn:=[2]}),(9,{bn:=[1,3]},{bn:=[2]})],fC:=kf [(3,aL.L0.E),(9,aL.L1.E)],res:=[some tB]}
noncomputable def aL.A:= @cY Tryz.prog aL.G aL.an 0 Tryz.f73 _ aL.st
abbrev aL.Ok:=dd @aL.A aL.av aL.add aL.F aL.out
noncomputable def aL.L0.R:= @cj Tryz.prog aL.G aL.an 0 Tryz.f73 0 _ aL.L0.st
abbrev aL.L0.Ok:=ew Tryz.prog aL.G aL.an 0 Tryz.f73 0 aL.L0.st aL.L0.av aL.L0.add aL.L0.F aL.L0.out
noncomputable def aL.L1.R:= @cj Tryz.prog aL.G aL.an 0 Tryz.f73 1 _ aL.L1.st
abbrev aL.L1.Ok:=ew Tryz.prog aL.G aL.an 0 Tryz.f73 1 aL.L1.st aL.L1.av aL.L1.add aL.L1.F aL.L1.out
theorem aL.L0.run:bM aL.L0.call aL.L0.av aL.L0.add aL.L0.F:=eM (eL [.d gI,.d tB,.d (.slice gz),.d ti,.d ti] fun _=>by kernel_rfl)
theorem aL.L0.aB:fQ @aL.L0.R aL.L0.st aL.L0.av aL.L0.add aL.L0.F aL.L0.bp aL.L0.Ok:=fU
theorem aL.L0.step{R:Type}(t_2:fv)(b:Bs)(t13:(List ia))(t14:Int)(t15:Int)(kn:AS→Option R)(kx:Exit→AS→Option R):aL.L0.R (t_2,b,t13,t14,t15) kn kx=
  aG ((fM t15 t14)) (
   aG (eI t15 (((List.length t13):Nat):Int)) (
   ah (eR.call (b,(nth gz t13 (Int.toNat t15)).1.1)) fun x1=>
   ah (eF.call (x1,(nth gz t13 (Int.toNat t15)).1.2.1)) fun x2=>
   kn (aL.L0.st (t_2,x2,t13,t14,(bN .i64 t15 (1:Int))))) none) (
   kx (aL.L0.bp (t_2,b)).1 (aL.L0.bp (t_2,b)).2):=by kernel_rfl
theorem aL.L1.run:bM aL.L1.call aL.L1.av aL.L1.add aL.L1.F:=eM (eL [.d gI,.d tB,.d (.slice fe),.d ti,.d ti] fun _=>by kernel_rfl)
theorem aL.L1.aB:fQ @aL.L1.R aL.L1.st aL.L1.av aL.L1.add aL.L1.F aL.L1.bp aL.L1.Ok:=fU
theorem aL.L1.step{R:Type}(t_3:fv)(b_2:Bs)(t35:(List gm))(t36:Int)(t37:Int)(kn:AS→Option R)(kx:Exit→AS→Option R):aL.L1.R (t_3,b_2,t35,t36,t37) kn kx=
  aG ((fM t37 t36)) (
   aG (eI t37 (((List.length t35):Nat):Int)) (
   ah (eF.call (b_2,(nth fe t35 (Int.toNat t37)).1)) fun x1=>
   ah (aJ.call (nth fe t35 (Int.toNat t37)).2.1) fun x2=>
   ah (eJ.call (x1,x2)) fun x3=>
   kn (aL.L1.st (t_3,x3,t35,t36,(bN .i64 t37 (1:Int))))) none) (
   kx (aL.L1.bp (t_3,b_2)).1 (aL.L1.bp (t_3,b_2)).2):=by kernel_rfl
theorem aL.eq{R:Type}(t:fv)(k:ba→Option R):aL.A t k=
 ah (eF.call (([]:List Int),(((List.length t.1):Nat):Int))) fun x1=>
 ah (aL.L0.call (t,x1,t.1,(((List.length t.1):Nat):Int),(0:Int))) fun x4=>
 ah (eF.call (x4.2,(((List.length x4.1.2.1):Nat):Int))) fun x5=>
 ah (aL.L1.call (x4.1,x5,x4.1.2.1,(((List.length x4.1.2.1):Nat):Int),(0:Int))) fun x9=>
 ah (eF.call (x9.2,x9.1.2.2.1)) fun x10=>
 k (aL.out x10):=by kernel_rfl
theorem aL.L0.ok:aL.L0.Ok:=by
 refine aL.L0.aB (fun(t,b,l,n,i)=>(l).length - Int.toNat i) ?_
 rintro⟨t,b,l,n,i⟩ ⟨hlen,k,hk,rfl,rfl,h64,hx,hb⟩
 have hlen:(l).length≤1000000000:=hlen
 have hk:k≤(l).length:=hk
 have h64:l.length≤64:=h64
 have hx:∀x∈l,x.1.1.length=32∧x.1.2.1≤9223372036854775807:=hx
 have hb:b.length≤100+50*k:=hb
 by_cases h:k < (l).length
 ·left
  have n1:nth gz l k=l[k]:=cn (t:=gz) h
  have hd:List.drop k l=l[k]::List.drop (k+1) l:=List.drop_eq_getElem_cons h
  refine⟨(t,(pE b l[k]),l,((l).length:Int),((k+1:Nat):Int)),⟨hlen,k+1,by omega,rfl,rfl,h64,hx,by have:=w9 b l[k];have:=(hx _ (List.getElem_mem h)).1;omega⟩,by simp only[Int.toNat_natCast];omega,?_,fun kn kx=> ?_⟩
  ·simp only[aL.L0.add,aL.L0.F,Int.toNat_natCast,hd,List.foldl_cons]
  ·rw[aL.L0.step,aW (by omega),bm (by omega) (by omega),Int.toNat_natCast,n1]
   simp only[ae]
   have e:=hx _ (List.getElem_mem h)
   have e2:(b++l[k].1.1).length=b.length+l[k].1.1.length:=List.length_append
   rw[eR.run (d:=(b,l[k].1.1)) ⟨by show b.length+l[k].1.1.length≤_;omega,e.1⟩]
   simp only[aa,eR.add,eR.F]
   rw[eF.run (d:=(b++l[k].1.1,l[k].1.2.1)) ⟨by show(b++l[k].1.1).length≤_;omega,e.2⟩]
   simp only[aa,eF.add,eF.F]
   rw[N.j5 (by omega)]
   rfl
 ·right
  obtain rfl:k=(l).length:=by omega
  intro R kn kx
  rw[aL.L0.step,aO (by omega),ag]
  simp only[aL.L0.add,aL.L0.F,Int.toNat_natCast,List.drop_length,List.foldl_nil]
theorem aL.L1.ok:aL.L1.Ok:=by
 refine aL.L1.aB (fun(t,b,l,n,i)=>(l).length - Int.toNat i) ?_
 rintro⟨t,b,l,n,i⟩ ⟨hlen,k,hk,rfl,rfl,h64,hx,hb⟩
 have hlen:(l).length≤1000000000:=hlen
 have hk:k≤(l).length:=hk
 have h64:l.length≤64:=h64
 have hx:∀o∈l,o.1≤9223372036854775807∧GD o.2.1:=hx
 have hb:b.length≤4000+1100*k:=hb
 by_cases h:k < (l).length
 ·left
  have n1:nth fe l k=l[k]:=cn (t:=fe) h
  have hd:List.drop k l=l[k]::List.drop (k+1) l:=List.drop_eq_getElem_cons h
  refine⟨(t,(qR b l[k]),l,((l).length:Int),((k+1:Nat):Int)),⟨hlen,k+1,by omega,rfl,rfl,h64,hx,by have:=um b l[k];omega⟩,by simp only[Int.toNat_natCast];omega,?_,fun kn kx=> ?_⟩
  ·simp only[aL.L1.add,aL.L1.F,Int.toNat_natCast,hd,List.foldl_cons]
  ·rw[aL.L1.step,aW (by omega),bm (by omega) (by omega),Int.toNat_natCast,n1]
   simp only[ae]
   have e:=hx _ (List.getElem_mem h)
   have e1:=fm b l[k].1
   have e2:=xe l[k].2.1
   rw[eF.run (d:=(b,l[k].1)) ⟨by show b.length≤_;omega,e.1⟩]
   simp only[aa,eF.add,eF.F]
   rw[aJ.run (d:=l[k].2.1) e.2]
   simp only[aa,aJ.add,aJ.F]
   rw[eJ.run (d:=(dS b l[k].1,BP l[k].2.1)) (by show(dS b l[k].1).length+(BP l[k].2.1).length≤_;omega)]
   simp only[aa,eJ.add,eJ.F]
   rw[N.j5 (by omega)]
   rfl
 ·right
  obtain rfl:k=(l).length:=by omega
  intro R kn kx
  rw[aL.L1.step,aO (by omega),ag]
  simp only[aL.L1.add,aL.L1.F,Int.toNat_natCast,List.drop_length,List.foldl_nil]
theorem s8:∀(l:List ia) (b:List Int),(∀x∈l,x.1.1.length=32)→(l.foldl pE b).length≤b.length+43*l.length
 |[],b,_=>Nat.le_refl _
 |x::l,b,h=>by
  have h1:=w9 b x
  have h2:=h x List.mem_cons_self
  have h3:=s8 l (pE b x) fun y hy=>h y (List.mem_cons_of_mem _ hy)
  rw[List.foldl_cons,List.length_cons]
  omega
theorem qS:∀(l:List gm) (b:List Int),(l.foldl qR b).length≤b.length+1022*l.length
 |[],b=>Nat.le_refl _
 |x::l,b=>by
  have h1:=um b x
  have h3:=qS l (qR b x)
  rw[List.foldl_cons,List.length_cons]
  omega
theorem uq{t:fv}(hok:gU t=true)(hv:nE t):(nb t).length≤70000:=by
 obtain⟨⟨_,a2,a3,_⟩,_,_⟩:=iF hok
 have h1:=s8 t.1 (dS [] t.1.length) fun x hx=>(hv.2.1 x hx).1.1
 have h2:=fm [] t.1.length
 have h3:=fm (t.1.foldl pE (dS [] t.1.length)) t.2.1.length
 have h4:=qS t.2.1 (dS (t.1.foldl pE (dS [] t.1.length)) t.2.1.length)
 have h5:=fm (t.2.1.foldl qR (dS (t.1.foldl pE (dS [] t.1.length)) t.2.1.length)) t.2.2.1
 have h0:([]:List Int).length=0:=rfl
 unfold nb
 omega
theorem aL.ok:aL.Ok:=by
 rintro t ⟨hok,hv⟩
 have hv:nE t:=hv
 obtain⟨⟨_,a2,a3,_⟩,b1,b2⟩:=iF hok
 have h0:([]:List Int).length=0:=rfl
 have l0:=fm [] t.1.length
 have l1:=s8 t.1 (dS [] t.1.length) fun x hx=>(hv.2.1 x hx).1.1
 have l2:=fm (t.1.foldl pE (dS [] t.1.length)) t.2.1.length
 have l3:=qS t.2.1 (dS (t.1.foldl pE (dS [] t.1.length)) t.2.1.length)
 rw[aL.eq,eF.run (d:=([],(t.1.length:Int))) ⟨by show([]:List Int).length≤_;omega,by show(t.1.length:Int)≤_;omega⟩]
 simp only[aa,eF.add,eF.F]
 rw[aL.L0.run (d:=(t,dS [] t.1.length,t.1,t.1.length,0)) ⟨by show t.1.length≤_;omega,0,Nat.zero_le _,rfl,rfl,a2,fun x hx=>⟨(hv.2.1 x hx).1.1,by have:=zZ (nw _ _ b1 x hx);omega⟩,by show(dS [] t.1.length).length≤_;omega⟩]
 simp only[aa,aL.L0.add,aL.L0.F,Int.toNat_zero,List.drop_zero]
 rw[eF.run (d:=(t.1.foldl pE (dS [] t.1.length),(t.2.1.length:Int))) ⟨by show(t.1.foldl pE (dS [] t.1.length)).length≤_;omega,by show(t.2.1.length:Int)≤_;omega⟩]
 simp only[aa,eF.add,eF.F]
 rw[aL.L1.run (d:=(t,dS (t.1.foldl pE (dS [] t.1.length)) t.2.1.length,t.2.1,t.2.1.length,0)) ⟨by show t.2.1.length≤_;omega,0,Nat.zero_le _,rfl,rfl,a3,fun o ho=>⟨by have:=(iD _ _ b2 o ho).1;omega,hv.1.1 o ho⟩,by show(dS (t.1.foldl pE (dS [] t.1.length)) t.2.1.length).length≤_;omega⟩]
 simp only[aa,aL.L1.add,aL.L1.F,Int.toNat_zero,List.drop_zero]
 rw[eF.run (d:=(t.2.1.foldl qR (dS (t.1.foldl pE (dS [] t.1.length)) t.2.1.length),t.2.2.1)) ⟨by show(t.2.1.foldl qR (dS (t.1.foldl pE (dS [] t.1.length)) t.2.1.length)).length≤_;omega,hv.2.2⟩]
 rfl
noncomputable def aL.E:=Entry.cD [some gI] aL.st aL.av aL.add aL.F aL.out
noncomputable def aL.call:aL.D→Option aL.X:=bS aL.E aL.st
theorem aL.run:bM aL.call aL.av aL.add aL.F:=dq (df [.d gI] fun _=>by kernel_rfl)
noncomputable def aL.sg:SG Tryz.prog:=⟨73,aR,aL.E,.fn 2 (by kernel_rfl) aL.ok (And.intro (.cD aL.L0.ok (by kernel_rfl)) (And.intro (.cD aL.L1.ok (by kernel_rfl)) trivial))⟩
set_option synthInstance.maxSize 5000
def dN(t:fv):List cK:=if gU t then t.1.map (·.1) else []
def kj(id:List Int)(k n:Nat):List cK:=(List.range' k n).map fun i:Nat=>(id,((i:Int),()))
def fo(t:fv):List cK:=if gU t then kj (lS t) 0 t.2.1.length else []
abbrev tid.D:=fv
def tid.st:tid.D→SA:=fun t=>([.d gI t],[])
abbrev tid.Y:=Bs
abbrev tid.X:=Bs
def tid.out:tid.X→ba:=fun x=>⟨.d tH x,[],[]⟩
def tid.add:tid.D→tid.Y→tid.X:=fun t y=>y
def tid.av:tid.D→Prop:=fun t=>nE t
def tid.F:tid.D→tid.Y:=fun t=>lS t
noncomputable def tid.G:ed:=fk (P:=Tryz.prog) [aw.sg,aL.sg,cJ.sg]
noncomputable def tid.an:eQ:= {}
noncomputable def tid.A:= @cY Tryz.prog tid.G tid.an 0 Tryz.f18 _ tid.st
abbrev tid.Ok:=dd @tid.A tid.av tid.add tid.F tid.out
theorem tid.eq{R:Type}(t:fv)(k:ba→Option R):tid.A t k=
  ah (aw.call t) fun x1=>
  aG ((!x1)) (
   k (tid.out (List.replicate 32 (0:Int)))) (
   ah (aL.call t) fun x2=>
   ah (cJ.call ((⟨#[116,120]⟩:ByteArray),[x2])) fun x3=>
   k (tid.out x3)):=by kernel_rfl
theorem tid.ok:tid.Ok:=by
 intro t hv
 have hv:nE t:=hv
 rw[tid.eq,aw.run (d:=t) hv.1]
 simp only[aa,aw.add,aw.F,tid.add,tid.F,lS]
 cases hok:gU t
 ·rfl
 ·have hl:=uq hok hv
  rw[aL.run (d:=t) ⟨hok,hv⟩]
  simp only[Bool.not_true,ag,if_true,aa,aL.add,aL.F]
  rw[cJ.run (d:=((⟨#[116,120]⟩:ByteArray),[nb t])) (zg (by decide) (by omega))]
  rfl
noncomputable def tid.E:=Entry.cD [some gI] tid.st tid.av tid.add tid.F tid.out
noncomputable def tid.call:tid.D→Option tid.X:=bS tid.E tid.st
theorem tid.run:bM tid.call tid.av tid.add tid.F:=dq (df [.d gI] fun _=>by kernel_rfl)
noncomputable def tid.sg:SG Tryz.prog:=⟨18,aR,tid.E,.fn 0 (by kernel_rfl) tid.ok trivial⟩
abbrev aV.L0.D:=Nat×(List ia)×Int×Int×(List cK)
def aV.L0.st:aV.L0.D→AS:=fun(lL,t9,t10,t11,n19)=>⟨([.undef,.undef,.bH (.new 19 0) 0 [] 0 0 lL]++bl 6 ([.d (.slice gz) t9,.d ti t10,.d ti t11]++bl 10 [])),[],(ch 19 [[.obj 0 false (.vec 47 ck n19)],[],[]])⟩
abbrev aV.L0.Y0:=Nat×(List cK)
abbrev aV.L0.X0:=Nat×(List cK)
def aV.L0.bp:aV.L0.X0→Exit×AS:=fun x=>(.exit 0,⟨([.undef,.undef,.bH (.new 19 0) 0 [] 0 0 x.1]++bl 19 []),[],(ch 19 [[.obj 0 false (.vec 47 ck x.2)],[],[]])⟩)
abbrev aV.L0.X:=aV.L0.X0
abbrev aV.L0.Y:=aV.L0.Y0
def aV.L0.out:aV.L0.X→Out (Exit×AS):=fun x=> .ok (aV.L0.bp x)
def aV.L0.add:aV.L0.D→aV.L0.Y→aV.L0.X:=fun(lL,t9,t10,t11,n19) y=>y
abbrev aV.D:=fv
def aV.st:aV.D→SA:=fun t=>([.d gI t],[])
abbrev aV.Y:=(List cK)
abbrev aV.X:=(List cK)
def aV.out:aV.X→ba:=fun x=>⟨.d (.slice ck) x,[],[]⟩
def aV.add:aV.D→aV.Y→aV.X:=fun t y=>y
def aV.L0.av:aV.L0.D→Prop:=fun(L,l,n,i,r)=>(l).length≤1000000∧∃k:Nat,k≤(l).length∧i=k∧n=(l).length∧L=(r).length∧(r).length≤1000000+k
def aV.L0.F:aV.L0.D→aV.L0.Y:=fun(L,l,n,i,r)=>(L+(List.drop (Int.toNat i) l).length,r++(List.drop (Int.toNat i) l).map (fun x:ia=>x.1))
def aV.av:aV.D→Prop:=fun t=>GG t
def aV.F:aV.D→aV.Y:=fun t=>dN t
noncomputable def aV.G:ed:=fk (P:=Tryz.prog) [aw.sg]
noncomputable def aV.L0.E:=bU.cD aV.L0.st aV.L0.av aV.L0.add aV.L0.F aV.L0.out
noncomputable def aV.L0.call:aV.L0.D→Option aV.L0.X:=dw aV.L0.E aV.L0.st
noncomputable def aV.an:eQ:= {loops:=jB [(4,{bn:=[2,9,10,11],sites:=[19],iE:=[⟨2,[],19,58⟩]})],outs:=jA [(4,{bn:=[2],sites:=[19]},{bn:=[2]})],fC:=kf [(4,aV.L0.E)],res:=[some (.slice ck)]}
noncomputable def aV.A:= @cY Tryz.prog aV.G aV.an 0 Tryz.f32 _ aV.st
abbrev aV.Ok:=dd @aV.A aV.av aV.add aV.F aV.out
noncomputable def aV.L0.R:= @cj Tryz.prog aV.G aV.an 0 Tryz.f32 0 _ aV.L0.st
abbrev aV.L0.Ok:=ew Tryz.prog aV.G aV.an 0 Tryz.f32 0 aV.L0.st aV.L0.av aV.L0.add aV.L0.F aV.L0.out
theorem aV.L0.run:bM aV.L0.call aV.L0.av aV.L0.add aV.L0.F:=eM (eL [.n,.d (.slice gz),.d ti,.d ti,.d (.slice ck)] fun _=>by kernel_rfl)
theorem aV.L0.aB:fQ @aV.L0.R aV.L0.st aV.L0.av aV.L0.add aV.L0.F aV.L0.bp aV.L0.Ok:=fU
theorem aV.L0.step{R:Type}(lL:Nat)(t9:(List ia))(t10:Int)(t11:Int)(n19:(List cK))(kn:AS→Option R)(kx:Exit→AS→Option R):aV.L0.R (lL,t9,t10,t11,n19) kn kx=
  aG ((fM t11 t10)) (
   aG (eI t11 (((List.length t9):Nat):Int)) (
   aG (decide (lL≤(List.length n19))) (
   aG (db (lL+1) 40) (
   kn (aV.L0.st ((lL+1),t9,t10,(bN .i64 t11 (1:Int)),((List.take lL n19)++ [(nth gz t9 (Int.toNat t11)).1])))) none) none) none) (
   kx (aV.L0.bp (lL,n19)).1 (aV.L0.bp (lL,n19)).2):=by kernel_rfl
theorem aV.eq{R:Type}(t:fv)(k:ba→Option R):aV.A t k=
  ah (aw.call t) fun x1=>
  aG ((!x1)) (
   k (aV.out ([]:List cK))) (
   ah (aV.L0.call (0,t.1,(((List.length t.1):Nat):Int),(0:Int),([]:List cK))) fun x2=>
   aG (decide (0=0∧(0+x2.1)≤(List.length x2.2))) (
   k (aV.out (cut x2.2 0 x2.1))) none):=by kernel_rfl
theorem aV.L0.ok:aV.L0.Ok:=by
 refine aV.L0.aB (fun(L,l,n,i,r)=>(l).length - Int.toNat i) ?_
 rintro⟨L,l,n,i,r⟩ ⟨hlen,k,hk,rfl,rfl,rfl,hrow⟩
 have hlen:(l).length≤1000000:=hlen
 have hk:k≤(l).length:=hk
 have hrow:(r).length≤1000000+k:=hrow
 by_cases h:k < (l).length
 ·left
  have n1:nth gz l k=l[k]:=cn (t:=gz) h
  have hd:List.drop k l=l[k]::List.drop (k+1) l:=List.drop_eq_getElem_cons h
  refine⟨((r).length+1,l,((l).length:Int),((k+1:Nat):Int),r++ [(fun x:ia=>x.1) l[k]]),⟨hlen,k+1,by omega,rfl,rfl,by rw[List.length_append];rfl,by rw[List.length_append];show(r).length+1≤_;omega⟩,by simp only[Int.toNat_natCast];omega,?_,fun kn kx=> ?_⟩
  ·simp only[aV.L0.add,aV.L0.F,Int.toNat_natCast,hd,List.map_cons,List.length_cons,List.append_assoc,List.singleton_append]
   rw[show ∀a c:Nat,a+1+c=a+(c+1) from fun a c=>by omega]
  ·rw[aV.L0.step,aW (by omega),bm (show(0:Int)≤(k:Int) by omega) (by omega),Int.toNat_natCast,n1]
   simp only[ae]
   rw[aZ (Nat.le_refl _),cS (by omega) (by omega),N.j5 (by omega),List.take_length]
   rfl
 ·right
  obtain rfl:k=(l).length:=by omega
  intro R kn kx
  rw[aV.L0.step,aO (by omega),ag]
  simp only[aV.L0.add,aV.L0.F,Int.toNat_natCast,List.drop_length,List.map_nil,List.append_nil,List.length_nil,Nat.add_zero]
theorem aV.ok:aV.Ok:=by
 intro t hv
 have hv:GG t:=hv
 rw[aV.eq,aw.run (d:=t) hv]
 simp only[aa,aw.add,aw.F,aV.add,aV.F,dN]
 cases hok:gU t
 ·rfl
 ·obtain⟨⟨_,a2,a3,_⟩,b1,b2⟩:=iF hok
  rw[aV.L0.run (d:=(0,t.1,t.1.length,0,[])) ⟨by show t.1.length≤_;omega,0,Nat.zero_le _,rfl,rfl,rfl,Nat.zero_le _⟩]
  simp only[Bool.not_true,ag,if_true,aa,aV.L0.add,aV.L0.F,Int.toNat_zero,List.drop_zero,List.nil_append,Nat.zero_add]
  rw[aZ ⟨by trivial,by rw[List.length_map];exact Nat.le_refl _⟩,ae,fb (by rw[List.length_map])]
noncomputable def aV.E:=Entry.cD [some gI] aV.st aV.av aV.add aV.F aV.out
noncomputable def aV.call:aV.D→Option aV.X:=bS aV.E aV.st
theorem aV.run:bM aV.call aV.av aV.add aV.F:=dq (df [.d gI] fun _=>by kernel_rfl)
noncomputable def aV.sg:SG Tryz.prog:=⟨32,aR,aV.E,.fn 1 (by kernel_rfl) aV.ok (And.intro (.cD aV.L0.ok (by kernel_rfl)) trivial)⟩
abbrev bQ.L0.D:=Nat×Int×Int×Bs×(List cK)
def bQ.L0.st:bQ.L0.D→AS:=fun(lL,t12,t13,n3,n21)=>⟨([.undef,.undef,.bH (.new 21 0) 0 [] 0 0 lL,.ptr (.new 3 0) 0 [] 0]++bl 8 ([.d ti t12,.d ti t13]++bl 10 [])),[],([[],[],[],[.obj 0 false (.d tH n3)]]++ch 17 [[.obj 0 false (.vec 47 ck n21)],[],[]])⟩
abbrev bQ.L0.Y0:=Nat×(List cK)
abbrev bQ.L0.X0:=Nat×(List cK)
def bQ.L0.bp:bQ.L0.X0→Exit×AS:=fun x=>(.exit 0,⟨([.undef,.undef,.bH (.new 21 0) 0 [] 0 0 x.1]++bl 21 []),[],(ch 21 [[.obj 0 false (.vec 47 ck x.2)],[],[]])⟩)
abbrev bQ.L0.X:=bQ.L0.X0
abbrev bQ.L0.Y:=bQ.L0.Y0
def bQ.L0.out:bQ.L0.X→Out (Exit×AS):=fun x=> .ok (bQ.L0.bp x)
def bQ.L0.add:bQ.L0.D→bQ.L0.Y→bQ.L0.X:=fun(lL,t12,t13,n3,n21) y=>y
abbrev bQ.D:=fv
def bQ.st:bQ.D→SA:=fun t=>([.d gI t],[])
abbrev bQ.Y:=(List cK)
abbrev bQ.X:=(List cK)
def bQ.out:bQ.X→ba:=fun x=>⟨.d (.slice ck) x,[],[]⟩
def bQ.add:bQ.D→bQ.Y→bQ.X:=fun t y=>y
def bQ.L0.av:bQ.L0.D→Prop:=fun(L,n,i,id,r)=>∃k m:Nat,k≤m∧i=k∧n=m∧m≤1000∧L=r.length∧L=k
def bQ.L0.F:bQ.L0.D→bQ.L0.Y:=fun(L,n,i,id,r)=>(L+(n - i).toNat,r++kj id i.toNat (n - i).toNat)
def bQ.av:bQ.D→Prop:=fun t=>nE t
def bQ.F:bQ.D→bQ.Y:=fun t=>fo t
noncomputable def bQ.G:ed:=fk (P:=Tryz.prog) [tid.sg,aw.sg]
noncomputable def bQ.L0.E:=bU.cD bQ.L0.st bQ.L0.av bQ.L0.add bQ.L0.F bQ.L0.out
noncomputable def bQ.L0.call:bQ.L0.D→Option bQ.L0.X:=dw bQ.L0.E bQ.L0.st
noncomputable def bQ.an:eQ:= {loops:=jB [(5,{bn:=[2,3,12,13],sites:=[3,21],iE:=[⟨2,[],21,58⟩]})],outs:=jA [(5,{bn:=[2],sites:=[21]},{bn:=[2]})],fC:=kf [(5,bQ.L0.E)],res:=[some (.slice ck)]}
noncomputable def bQ.A:= @cY Tryz.prog bQ.G bQ.an 0 Tryz.f33 _ bQ.st
abbrev bQ.Ok:=dd @bQ.A bQ.av bQ.add bQ.F bQ.out
noncomputable def bQ.L0.R:= @cj Tryz.prog bQ.G bQ.an 0 Tryz.f33 0 _ bQ.L0.st
abbrev bQ.L0.Ok:=ew Tryz.prog bQ.G bQ.an 0 Tryz.f33 0 bQ.L0.st bQ.L0.av bQ.L0.add bQ.L0.F bQ.L0.out
theorem bQ.L0.run:bM bQ.L0.call bQ.L0.av bQ.L0.add bQ.L0.F:=eM (eL [.n,.d ti,.d ti,.d tB,.d (.slice ck)] fun _=>by kernel_rfl)
theorem bQ.L0.aB:fQ @bQ.L0.R bQ.L0.st bQ.L0.av bQ.L0.add bQ.L0.F bQ.L0.bp bQ.L0.Ok:=fU
theorem bQ.L0.step{R:Type}(lL:Nat)(t12:Int)(t13:Int)(n3:Bs)(n21:(List cK))(kn:AS→Option R)(kx:Exit→AS→Option R):bQ.L0.R (lL,t12,t13,n3,n21) kn kx=
  aG ((fM t13 t12)) (
   aG (decide (lL≤(List.length n21))) (
   aG (db (lL+1) 40) (
   kn (bQ.L0.st ((lL+1),t12,(bN .i64 t13 (1:Int)),n3,((List.take lL n21)++ [(n3,(t13,()))])))) none) none) (
   kx (bQ.L0.bp (lL,n21)).1 (bQ.L0.bp (lL,n21)).2):=by kernel_rfl
theorem bQ.eq{R:Type}(t:fv)(k:ba→Option R):bQ.A t k=
  ah (tid.call t) fun x1=>
  ah (aw.call t) fun x2=>
  aG ((!x2)) (
   k (bQ.out ([]:List cK))) (
   ah (bQ.L0.call (0,(((List.length t.2.1):Nat):Int),(0:Int),x1,([]:List cK))) fun x3=>
   aG (decide (0=0∧(0+x3.1)≤(List.length x3.2))) (
   k (bQ.out (cut x3.2 0 x3.1))) none):=by kernel_rfl
theorem BR(id:List Int)(k n:Nat):(kj id k n).length=n:=by simp[kj]
theorem qb(id:List Int)(k n:Nat):kj id k (n+1)=(id,((k:Int),()))::kj id (k+1) n:=by
 unfold kj
 rw[List.range'_succ,List.map_cons]
theorem bQ.L0.ok:bQ.L0.Ok:=by
 refine bQ.L0.aB (fun(L,n,i,id,r)=>(n - i).toNat) ?_
 rintro⟨L,n,i,id,r⟩ ⟨k,m,hk,rfl,rfl,hm,rfl,hrk⟩
 have hrk:r.length=k:=hrk
 by_cases h:k < m
 ·left
  have e1:((m:Int) - (k:Int)).toNat=(m - (k+1))+1:=by omega
  have e2:((m:Int) - ((k+1:Nat):Int)).toNat=m - (k+1):=by omega
  refine⟨(r.length+1,(m:Int),((k+1:Nat):Int),id,r++ [(id,((k:Int),()))]),⟨k+1,m,by omega,rfl,rfl,hm,by rw[List.length_append];rfl,by show r.length+1=_;omega⟩,by show((m:Int) - ((k+1:Nat):Int)).toNat < ((m:Int) - (k:Int)).toNat;omega,?_,fun kn kx=> ?_⟩
  ·simp only[bQ.L0.add,bQ.L0.F,e1,e2,Int.toNat_natCast,qb,List.append_assoc,List.singleton_append]
   rw[show r.length+1+(m - (k+1))=r.length+(m - (k+1)+1) by omega]
  ·rw[bQ.L0.step,aW (by omega),aZ (Nat.le_refl _),cS (by omega) (by omega),N.j5 (by omega),List.take_length]
   rfl
 ·right
  obtain rfl:k=m:=by omega
  intro R kn kx
  rw[bQ.L0.step,aO (by omega),ag]
  simp only[bQ.L0.add,bQ.L0.F,Int.sub_self,Int.toNat_zero,Nat.add_zero]
  rw[show kj id (k:Int).toNat 0=[] from rfl,List.append_nil]
theorem bQ.ok:bQ.Ok:=by
 intro t hv
 have hv:nE t:=hv
 rw[bQ.eq,tid.run (d:=t) hv,aw.run (d:=t) hv.1]
 simp only[aa,tid.add,tid.F,aw.add,aw.F,bQ.add,bQ.F,fo]
 cases hok:gU t
 ·rfl
 ·obtain⟨⟨_,a2,a3,_⟩,b1,b2⟩:=iF hok
  have hl:=BR (lS t) 0 t.2.1.length
  rw[bQ.L0.run (d:=(0,t.2.1.length,0,lS t,[])) ⟨0,t.2.1.length,Nat.zero_le _,rfl,rfl,by omega,rfl,rfl⟩]
  simp only[Bool.not_true,ag,if_true,aa,bQ.L0.add,bQ.L0.F,Int.sub_zero,Int.toNat_natCast,Int.toNat_zero,List.nil_append,Nat.zero_add]
  rw[aZ ⟨by trivial,by rw[hl];exact Nat.le_refl _⟩,ae,fb hl]
noncomputable def bQ.E:=Entry.cD [some gI] bQ.st bQ.av bQ.add bQ.F bQ.out
noncomputable def bQ.call:bQ.D→Option bQ.X:=bS bQ.E bQ.st
theorem bQ.run:bM bQ.call bQ.av bQ.add bQ.F:=dq (df [.d gI] fun _=>by kernel_rfl)
noncomputable def bQ.sg:SG Tryz.prog:=⟨33,aR,bQ.E,.fn 1 (by kernel_rfl) bQ.ok (And.intro (.cD bQ.L0.ok (by kernel_rfl)) trivial)⟩
set_option synthInstance.maxSize 5000
abbrev fP.D:=(List ia)
def fP.st:fP.D→SA:=fun sv=>([.d (.slice gz) sv],[])
abbrev fP.Y:=Nat×(List ia)
abbrev fP.X:=Nat×(List ia)
def fP.out:fP.X→ba:=fun x=>⟨.bH (.new 0 0) 0 [] 0 0 x.1,[],[.obj 0 false (.vec 52 gz x.2)]⟩
def fP.add:fP.D→fP.Y→fP.X:=fun sv y=>y
def fP.av:fP.D→Prop:=fun l=>l.length≤1000000
def fP.F:fP.D→fP.Y:=fun l=>(l.length,l)
noncomputable def fP.G:ed:=fk (P:=Tryz.prog) []
noncomputable def fP.an:eQ:= {bX:=[5],iE:=[⟨2,[],5,38⟩]}
noncomputable def fP.A:= @cY Tryz.prog fP.G fP.an 0 Tryz.f138 _ fP.st
abbrev fP.Ok:=dd @fP.A fP.av fP.add fP.F fP.out
theorem fP.eq{R:Type}(sv:(List ia))(k:ba→Option R):fP.A sv k=
  aG (decide (0 < (List.length sv))) (
   aG (db (0+(List.length sv)) 80) (
   k (fP.out ((0+(List.length sv)),((List.take 0 (List.replicate 0 (((List.replicate 32 (0:Int)),((0:Int),())),(((0:Int),(([]:List Sg),((0:Int),()))),()))))++sv)))) none) (
   nd (
    k (fP.out (0,([]:List ia)))) (
    aG (db (0+(List.length sv)) 80) (
    k (fP.out ((0+(List.length sv)),((List.take 0 (List.replicate 0 (((List.replicate 32 (0:Int)),((0:Int),())),(((0:Int),(([]:List Sg),((0:Int),()))),()))))++sv)))) none)):=by kernel_rfl
theorem fP.ok:fP.Ok:=by
 intro l hl
 have hl:l.length≤1000000:=hl
 have hr:db l.length 80=true:=cS (by omega) (by omega)
 rw[fP.eq]
 simp only[Nat.zero_add,hr,ae,List.take_zero,List.nil_append,fP.add,fP.F]
 by_cases h:0 < l.length
 ·simp only[aZ h,ae]
 ·have:l=[]:=List.eq_nil_of_length_eq_zero (by omega)
  subst this
  simp only[List.length_nil,nU,bo (Nat.lt_irrefl 0),ag]
noncomputable def fP.E:=Entry.cD [some (.slice gz)] fP.st fP.av fP.add fP.F fP.out
noncomputable def fP.call:fP.D→Option fP.X:=bS fP.E fP.st
theorem fP.run:bM fP.call fP.av fP.add fP.F:=dq (df [.d (.slice gz)] fun _=>by kernel_rfl)
noncomputable def fP.sg:SG Tryz.prog:=⟨138,aR,fP.E,.fn 0 (by kernel_rfl) fP.ok trivial⟩
abbrev ez.D:=(List gm)
def ez.st:ez.D→SA:=fun sv=>([.d (.slice fe) sv],[])
abbrev ez.Y:=Nat×(List gm)
abbrev ez.X:=Nat×(List gm)
def ez.out:ez.X→ba:=fun x=>⟨.bH (.new 0 0) 0 [] 0 0 x.1,[],[.obj 0 false (.vec 36 fe x.2)]⟩
def ez.add:ez.D→ez.Y→ez.X:=fun sv y=>y
def ez.av:ez.D→Prop:=fun l=>l.length≤1000000
def ez.F:ez.D→ez.Y:=fun l=>(l.length,l)
noncomputable def ez.G:ed:=fk (P:=Tryz.prog) []
noncomputable def ez.an:eQ:= {bX:=[5],iE:=[⟨2,[],5,37⟩]}
noncomputable def ez.A:= @cY Tryz.prog ez.G ez.an 0 Tryz.f139 _ ez.st
abbrev ez.Ok:=dd @ez.A ez.av ez.add ez.F ez.out
theorem ez.eq{R:Type}(sv:(List gm))(k:ba→Option R):ez.A sv k=
  aG (decide (0 < (List.length sv))) (
   aG (db (0+(List.length sv)) 32) (
   k (ez.out ((0+(List.length sv)),((List.take 0 (List.replicate 0 ((0:Int),((([]:List ik),()),()))))++sv)))) none) (
   nd (
    k (ez.out (0,([]:List gm)))) (
    aG (db (0+(List.length sv)) 32) (
    k (ez.out ((0+(List.length sv)),((List.take 0 (List.replicate 0 ((0:Int),((([]:List ik),()),()))))++sv)))) none)):=by kernel_rfl
theorem ez.ok:ez.Ok:=by
 intro l hl
 have hl:l.length≤1000000:=hl
 have hr:db l.length 32=true:=cS (by omega) (by omega)
 rw[ez.eq]
 simp only[Nat.zero_add,hr,ae,List.take_zero,List.nil_append,ez.add,ez.F]
 by_cases h:0 < l.length
 ·simp only[aZ h,ae]
 ·have:l=[]:=List.eq_nil_of_length_eq_zero (by omega)
  subst this
  simp only[List.length_nil,nU,bo (Nat.lt_irrefl 0),ag]
noncomputable def ez.E:=Entry.cD [some (.slice fe)] ez.st ez.av ez.add ez.F ez.out
noncomputable def ez.call:ez.D→Option ez.X:=bS ez.E ez.st
theorem ez.run:bM ez.call ez.av ez.add ez.F:=dq (df [.d (.slice fe)] fun _=>by kernel_rfl)
noncomputable def ez.sg:SG Tryz.prog:=⟨139,aR,ez.E,.fn 0 (by kernel_rfl) ez.ok trivial⟩
abbrev fB.D:=(List ik)
def fB.st:fB.D→SA:=fun sv=>([.d (.slice fX) sv],[])
abbrev fB.Y:=Nat×(List ik)
abbrev fB.X:=Nat×(List ik)
def fB.out:fB.X→ba:=fun x=>⟨.bH (.new 0 0) 0 [] 0 0 x.1,[],[.obj 0 false (.vec 29 fX x.2)]⟩
def fB.add:fB.D→fB.Y→fB.X:=fun sv y=>y
def fB.av:fB.D→Prop:=fun l=>l.length≤1000000
def fB.F:fB.D→fB.Y:=fun l=>(l.length,l)
noncomputable def fB.G:ed:=fk (P:=Tryz.prog) []
noncomputable def fB.an:eQ:= {bX:=[5],iE:=[⟨2,[],5,32⟩]}
noncomputable def fB.A:= @cY Tryz.prog fB.G fB.an 0 Tryz.f141 _ fB.st
abbrev fB.Ok:=dd @fB.A fB.av fB.add fB.F fB.out
theorem fB.eq{R:Type}(sv:(List ik))(k:ba→Option R):fB.A sv k=
  aG (decide (0 < (List.length sv))) (
   aG (db (0+(List.length sv)) 48) (
   k (fB.out ((0+(List.length sv)),((List.take 0 (List.replicate 0 (([]:List Int),((0:Int),((0:Int),((0:Int),()))))))++sv)))) none) (
   nd (
    k (fB.out (0,([]:List ik)))) (
    aG (db (0+(List.length sv)) 48) (
    k (fB.out ((0+(List.length sv)),((List.take 0 (List.replicate 0 (([]:List Int),((0:Int),((0:Int),((0:Int),()))))))++sv)))) none)):=by kernel_rfl
theorem fB.ok:fB.Ok:=by
 intro l hl
 have hl:l.length≤1000000:=hl
 have hr:db l.length 48=true:=cS (by omega) (by omega)
 rw[fB.eq]
 simp only[Nat.zero_add,hr,ae,List.take_zero,List.nil_append,fB.add,fB.F]
 by_cases h:0 < l.length
 ·simp only[aZ h,ae]
 ·have:l=[]:=List.eq_nil_of_length_eq_zero (by omega)
  subst this
  simp only[List.length_nil,nU,bo (Nat.lt_irrefl 0),ag]
noncomputable def fB.E:=Entry.cD [some (.slice fX)] fB.st fB.av fB.add fB.F fB.out
noncomputable def fB.call:fB.D→Option fB.X:=bS fB.E fB.st
theorem fB.run:bM fB.call fB.av fB.add fB.F:=dq (df [.d (.slice fX)] fun _=>by kernel_rfl)
noncomputable def fB.sg:SG Tryz.prog:=⟨141,aR,fB.E,.fn 0 (by kernel_rfl) fB.ok trivial⟩
abbrev eA.D:=(List Sg)
def eA.st:eA.D→SA:=fun sv=>([.d (.slice sJ) sv],[])
abbrev eA.Y:=(List Sg)
abbrev eA.X:=(List Sg)
def eA.out:eA.X→ba:=fun x=>⟨.d (.slice sJ) x,[],[]⟩
def eA.add:eA.D→eA.Y→eA.X:=fun sv y=>y
def eA.av:eA.D→Prop:=fun l=>l.length≤1000000
def eA.F:eA.D→eA.Y:=fun l=>l
noncomputable def eA.G:ed:=fk (P:=Tryz.prog) []
noncomputable def eA.an:eQ:= {bX:=[5],res:=[some (.slice sJ)]}
noncomputable def eA.A:= @cY Tryz.prog eA.G eA.an 0 Tryz.f140 _ eA.st
abbrev eA.Ok:=dd @eA.A eA.av eA.add eA.F eA.out
theorem eA.eq{R:Type}(sv:(List Sg))(k:ba→Option R):eA.A sv k=
  aG (decide (0 < (List.length sv))) (
   aG (db (0+(List.length sv)) 16) (
   aG (decide (0=0∧(0+(0+(List.length sv)))≤(List.length ((List.take 0 (List.replicate 0 ((0:Int),((0:Int),()))))++sv)))) (
   k (eA.out (cut ((List.take 0 (List.replicate 0 ((0:Int),((0:Int),()))))++sv) 0 (0+(List.length sv))))) none) none) (
   nd (
    k (eA.out ([]:List Sg))) (
    aG (db (0+(List.length sv)) 16) (
    aG (decide (0=0∧(0+(0+(List.length sv)))≤(List.length ((List.take 0 (List.replicate 0 ((0:Int),((0:Int),()))))++sv)))) (
    k (eA.out (cut ((List.take 0 (List.replicate 0 ((0:Int),((0:Int),()))))++sv) 0 (0+(List.length sv))))) none) none)):=by kernel_rfl
theorem eA.ok:eA.Ok:=by
 intro l hl
 have hl:l.length≤1000000:=hl
 have hr:db l.length 16=true:=cS (by omega) (by omega)
 rw[eA.eq]
 simp only[Nat.zero_add,hr,ae,List.take_zero,List.nil_append,Nat.le_refl,and_self,decide_true,fb,eA.add,eA.F]
 by_cases h:0 < l.length
 ·simp only[aZ h,ae]
 ·have:l=[]:=List.eq_nil_of_length_eq_zero (by omega)
  subst this
  simp only[List.length_nil,nU,bo (Nat.lt_irrefl 0),ag]
noncomputable def eA.E:=Entry.cD [some (.slice sJ)] eA.st eA.av eA.add eA.F eA.out
noncomputable def eA.call:eA.D→Option eA.X:=bS eA.E eA.st
theorem eA.run:bM eA.call eA.av eA.add eA.F:=dq (df [.d (.slice sJ)] fun _=>by kernel_rfl)
noncomputable def eA.sg:SG Tryz.prog:=⟨140,aR,eA.E,.fn 0 (by kernel_rfl) eA.ok trivial⟩
abbrev ak.L0.D:=Int×Int×Nat×Nat×(Int×Unit)×(Int×Unit)×(List ia)×(List gm)
def ak.L0.st:ak.L0.D→AS:=fun(t17,t18,n1L,n1L_2,n1,n2,n9,n12)=>⟨([.undef,.ptr (.new 1 0) 0 [] 0,.ptr (.new 2 0) 0 [] 0]++bl 14 ([.d ti t17,.d ti t18]++bl 56 [])),[],([[],[.obj 0 false (.pr (.bH (.new 9 0) 0 [] 0 0 n1L) (.pr (.bH (.new 12 0) 0 [] 0 0 n1L_2) (.d (.pair ti .unit) n1)))],[.obj 0 false (.pr (.dV) (.pr (.dV) (.d (.pair ti .unit) n2)))]]++ch 6 ([[.obj 0 false (.vec 52 gz n9)],[],[],[.obj 0 false (.vec 36 fe n12)]]++ch 62 []))⟩
abbrev ak.L0.Y0:=(List ia)
abbrev ak.L0.X0:=(Nat×Nat×(Int×Unit)×(Int×Unit)×(List gm))×((List ia))
def ak.L0.bp:ak.L0.X0→Exit×AS:=fun x=>(.exit 0,⟨([.undef,.ptr (.new 1 0) 0 [] 0,.ptr (.new 2 0) 0 [] 0]++bl 72 []),[],([[],[.obj 0 false (.pr (.bH (.new 9 0) 0 [] 0 0 x.1.1) (.pr (.bH (.new 12 0) 0 [] 0 0 x.1.2.1) (.d (.pair ti .unit) x.1.2.2.1)))],[.obj 0 false (.pr (.dV) (.pr (.dV) (.d (.pair ti .unit) x.1.2.2.2.1)))]]++ch 6 ([[.obj 0 false (.vec 52 gz x.2)],[],[],[.obj 0 false (.vec 36 fe x.1.2.2.2.2)]]++ch 62 []))⟩)
abbrev ak.L0.X:=ak.L0.X0
abbrev ak.L0.Y:=ak.L0.Y0
def ak.L0.out:ak.L0.X→Out (Exit×AS):=fun x=> .ok (ak.L0.bp x)
def ak.L0.add:ak.L0.D→ak.L0.Y→ak.L0.X:=fun(t17,t18,n1L,n1L_2,n1,n2,n9,n12) y=>((n1L,n1L_2,n1,n2,n12),y)
abbrev ak.L1.D:=Int×Int×Nat×Nat×(Int×Unit)×(Int×Unit)×(List ia)×(List gm)
def ak.L1.st:ak.L1.D→AS:=fun(t38,t39,n1L_3,n1L_4,n1_2,n2_2,n9_2,n12_2)=>⟨([.undef,.ptr (.new 1 0) 0 [] 0,.ptr (.new 2 0) 0 [] 0]++bl 35 ([.d ti t38,.d ti t39]++bl 35 [])),[],([[],[.obj 0 false (.pr (.bH (.new 9 0) 0 [] 0 0 n1L_3) (.pr (.bH (.new 12 0) 0 [] 0 0 n1L_4) (.d (.pair ti .unit) n1_2)))],[.obj 0 false (.pr (.dV) (.pr (.dV) (.d (.pair ti .unit) n2_2)))]]++ch 6 ([[.obj 0 false (.vec 52 gz n9_2)],[],[],[.obj 0 false (.vec 36 fe n12_2)]]++ch 62 []))⟩
abbrev ak.L1.Y0:=Nat×Nat×(Int×Unit)×(Int×Unit)×(List ia)×(List gm)
abbrev ak.L1.X0:=Nat×Nat×(Int×Unit)×(Int×Unit)×(List ia)×(List gm)
def ak.L1.bp:ak.L1.X0→Exit×AS:=fun x=>(.exit 2,⟨([.undef,.ptr (.new 1 0) 0 [] 0,.ptr (.new 2 0) 0 [] 0]++bl 72 []),[],([[],[.obj 0 false (.pr (.bH (.new 9 0) 0 [] 0 0 x.1) (.pr (.bH (.new 12 0) 0 [] 0 0 x.2.1) (.d (.pair ti .unit) x.2.2.1)))],[.obj 0 false (.pr (.dV) (.pr (.dV) (.d (.pair ti .unit) x.2.2.2.1)))]]++ch 6 ([[.obj 0 false (.vec 52 gz x.2.2.2.2.1)],[],[],[.obj 0 false (.vec 36 fe x.2.2.2.2.2)]]++ch 62 []))⟩)
abbrev ak.L1.X:=ak.L1.X0
abbrev ak.L1.Y:=ak.L1.Y0
def ak.L1.out:ak.L1.X→Out (Exit×AS):=fun x=> .ok (ak.L1.bp x)
def ak.L1.add:ak.L1.D→ak.L1.Y→ak.L1.X:=fun(t38,t39,n1L_3,n1L_4,n1_2,n2_2,n9_2,n12_2) y=>y
abbrev ak.L2.D:=Int×Nat×Int×Int×Int×Int×Nat×Nat×(Int×Unit)×(Int×Unit)×(List ia)×(List gm)×(List ik)
def ak.L2.st:ak.L2.D→AS:=fun(kv,lL,t38_2,t39_2,t51,t52,n1L_5,n1L_6,n1_3,n2_3,n9_3,n12_3,n49)=>⟨([.undef,.ptr (.new 1 0) 0 [] 0,.ptr (.new 2 0) 0 [] 0,.undef,.d ti kv,.bH (.new 49 0) 0 [] 0 0 lL]++bl 32 ([.d ti t38_2,.d ti t39_2]++bl 11 ([.d ti t51,.d ti t52]++bl 22 []))),[],([[],[.obj 0 false (.pr (.bH (.new 9 0) 0 [] 0 0 n1L_5) (.pr (.bH (.new 12 0) 0 [] 0 0 n1L_6) (.d (.pair ti .unit) n1_3)))],[.obj 0 false (.pr (.dV) (.pr (.dV) (.d (.pair ti .unit) n2_3)))]]++ch 6 ([[.obj 0 false (.vec 52 gz n9_3)],[],[],[.obj 0 false (.vec 36 fe n12_3)]]++ch 36 ([[.obj 0 false (.vec 29 fX n49)]]++ch 25 [])))⟩
abbrev ak.L2.Y0:=(List ik)×(List ik)
abbrev ak.L2.X0:=(Int×Int×Int×Nat×Nat×(Int×Unit)×(Int×Unit)×(List ia)×(List gm))×((List ik)×(List ik))
def ak.L2.bp:ak.L2.X0→Exit×AS:=fun x=>(.exit 4,⟨([.undef,.ptr (.new 1 0) 0 [] 0,.ptr (.new 2 0) 0 [] 0,.undef,.d ti x.1.1,.d (.slice fX) x.2.1]++bl 32 ([.d ti x.1.2.1,.d ti x.1.2.2.1]++bl 35 [])),[],([[],[.obj 0 false (.pr (.bH (.new 9 0) 0 [] 0 0 x.1.2.2.2.1) (.pr (.bH (.new 12 0) 0 [] 0 0 x.1.2.2.2.2.1) (.d (.pair ti .unit) x.1.2.2.2.2.2.1)))],[.obj 0 false (.pr (.dV) (.pr (.dV) (.d (.pair ti .unit) x.1.2.2.2.2.2.2.1)))]]++ch 6 ([[.obj 0 false (.vec 52 gz x.1.2.2.2.2.2.2.2.1)],[],[],[.obj 0 false (.vec 36 fe x.1.2.2.2.2.2.2.2.2)]]++ch 36 ([[.obj 0 true (.vec 29 fX x.2.2)]]++ch 25 [])))⟩)
abbrev ak.L2.X:=ak.L2.X0
abbrev ak.L2.Y:=ak.L2.Y0
def ak.L2.out:ak.L2.X→Out (Exit×AS):=fun x=> .ok (ak.L2.bp x)
def ak.L2.add:ak.L2.D→ak.L2.Y→ak.L2.X:=fun(kv,lL,t38_2,t39_2,t51,t52,n1L_5,n1L_6,n1_3,n2_3,n9_3,n12_3,n49) y=>((kv,t38_2,t39_2,n1L_5,n1L_6,n1_3,n2_3,n9_3,n12_3),y)
abbrev ak.D:=fv
def ak.st:ak.D→SA:=fun t=>([.d gI t],[])
abbrev ak.Y:=Nat×((List gm)×(Int×Unit))×(List ia)
abbrev ak.X:=Nat×((List gm)×(Int×Unit))×(List ia)
def ak.out:ak.X→ba:=fun x=>⟨.pr (.bH (.new 0 0) 0 [] 0 0 x.1) (.d (.pair (.slice fe) (.pair ti .unit)) x.2.1),[],[.obj 0 false (.vec 52 gz x.2.2)]⟩
def ak.add:ak.D→ak.Y→ak.X:=fun t y=>y
def ak.L0.av:ak.L0.D→Prop:=fun(m,i,L,L2,u,v,l,os)=>(l.length≤1000∧∀x∈l,x.2.1.2.1.length≤1000000)∧∃k:Nat,k≤l.length∧i=k∧m=l.length∧L=l.length
def ak.L0.F:ak.L0.D→ak.L0.Y:=fun(m,i,L,L2,u,v,l,os)=>l
def ak.L2.av:ak.L2.D→Prop:=fun(kv,L,m1,i1,m,i,L5,L6,u,v,ls,os,bs)=>(bs.length≤1000∧∀x∈bs,x.1.length≤1000000)∧∃k:Nat,k≤bs.length∧i=k∧m=bs.length∧L=bs.length
def ak.L2.F:ak.L2.D→ak.L2.Y:=fun(kv,L,m1,i1,m,i,L5,L6,u,v,ls,os,bs)=>(bs,bs)
def ak.L1.av:ak.L1.D→Prop:=fun(m,i,L3,L,u,v,ls,os)=>(os.length≤1000∧∀x∈os,x.2.1.1.length≤1000∧∀b∈x.2.1.1,b.1.length≤1000000)∧∃k:Nat,k≤os.length∧i=k∧m=os.length∧L=os.length
def ak.L1.F:ak.L1.D→ak.L1.Y:=fun(m,i,L3,L,u,v,ls,os)=>(L3,L,u,v,ls,os)
def ak.av:ak.D→Prop:=fun t=>gU t=true
def ak.F:ak.D→ak.Y:=fun t=>(t.1.length,(t.2.1,t.2.2),t.1)
noncomputable def ak.G:ed:=fk (P:=Tryz.prog) [fP.sg,ez.sg,eA.sg,fB.sg,dj.sg]
noncomputable def ak.L0.E:=bU.cD ak.L0.st ak.L0.av ak.L0.add ak.L0.F ak.L0.out
noncomputable def ak.L0.call:ak.L0.D→Option ak.L0.X:=dw ak.L0.E ak.L0.st
noncomputable def ak.L1.E:=bU.cD ak.L1.st ak.L1.av ak.L1.add ak.L1.F ak.L1.out
noncomputable def ak.L1.call:ak.L1.D→Option ak.L1.X:=dw ak.L1.E ak.L1.st
noncomputable def ak.L2.E:=bU.cD ak.L2.st ak.L2.av ak.L2.add ak.L2.F ak.L2.out
noncomputable def ak.L2.call:ak.L2.D→Option ak.L2.X:=dw ak.L2.E ak.L2.st
noncomputable def ak.an:eQ:= {bX:=[1],loops:=jB [(3,{bn:=[1,2,17,18],sites:=[1,2,9,12]}),(8,{bn:=[1,2,38,39],sites:=[1,2,9,12]}),(12,{bn:=[1,2,4,5,38,39,51,52],sites:=[1,2,9,12,49]})],outs:=jA [(3,{bn:=[1,2],sites:=[1,2,9,12]},{bn:=[2]}),(8,{bn:=[1,2],sites:=[1,2,9,12]},{bn:=[2]}),(12,{bn:=[1,2,4,5,38,39],sites:=[1,2,9,12,49],data:=[(5,(.slice fX))]},{bn:=[2]})],fC:=kf [(3,ak.L0.E),(8,ak.L1.E),(12,ak.L2.E)],BB:=[⟨2,[.snd,.fst],(.slice fe)⟩]}
noncomputable def ak.A:= @cY Tryz.prog ak.G ak.an 0 Tryz.f70 _ ak.st
abbrev ak.Ok:=dd @ak.A ak.av ak.add ak.F ak.out
noncomputable def ak.L0.R:= @cj Tryz.prog ak.G ak.an 0 Tryz.f70 0 _ ak.L0.st
abbrev ak.L0.Ok:=ew Tryz.prog ak.G ak.an 0 Tryz.f70 0 ak.L0.st ak.L0.av ak.L0.add ak.L0.F ak.L0.out
noncomputable def ak.L1.R:= @cj Tryz.prog ak.G ak.an 0 Tryz.f70 1 _ ak.L1.st
abbrev ak.L1.Ok:=ew Tryz.prog ak.G ak.an 0 Tryz.f70 1 ak.L1.st ak.L1.av ak.L1.add ak.L1.F ak.L1.out
noncomputable def ak.L2.R:= @cj Tryz.prog ak.G ak.an 0 Tryz.f70 2 _ ak.L2.st
abbrev ak.L2.Ok:=ew Tryz.prog ak.G ak.an 0 Tryz.f70 2 ak.L2.st ak.L2.av ak.L2.add ak.L2.F ak.L2.out
theorem ak.L0.run:bM ak.L0.call ak.L0.av ak.L0.add ak.L0.F:=eM (eL [.d ti,.d ti,.n,.n,.d (.pair ti .unit),.d (.pair ti .unit),.d (.slice gz),.d (.slice fe)] fun _=>by kernel_rfl)
theorem ak.L0.aB:fQ @ak.L0.R ak.L0.st ak.L0.av ak.L0.add ak.L0.F ak.L0.bp ak.L0.Ok:=fU
theorem ak.L0.step{R:Type}(t17:Int)(t18:Int)(n1L:Nat)(n1L_2:Nat)(n1:(Int×Unit))(n2:(Int×Unit))(n9:(List ia))(n12:(List gm))(kn:AS→Option R)(kx:Exit→AS→Option R):ak.L0.R (t17,t18,n1L,n1L_2,n1,n2,n9,n12) kn kx=
  aG ((fM t18 t17)) (
   aG (eI t18 ((n1L:Nat):Int)) (
   aG (decide ((0+(Int.toNat t18)) < (List.length n9))) (
   aG (decide ((((0+(Int.toNat t18))*36)+34)=(((0+((Int.toNat t18)*36))+33)+1))) (
   ah (eA.call (nth gz n9 (0+(Int.toNat t18))).2.1.2.1) fun x1=>
   aG (eI t18 ((n1L:Nat):Int)) (
   aG (decide ((0+(Int.toNat t18)) < (List.length n9))) (
   aG (decide ((((0+(Int.toNat t18))*36)+34)=(((0+((Int.toNat t18)*36))+33)+1))) (
   aG (decide ((0+(Int.toNat t18)) < (List.length n9))) (
   kn (ak.L0.st (t17,(bN .i64 t18 (1:Int)),n1L,n1L_2,n1,n2,(List.set n9 (0+(Int.toNat t18)) ((nth gz n9 (0+(Int.toNat t18))).1,(((nth gz n9 (0+(Int.toNat t18))).2.1.1,(x1,(nth gz n9 (0+(Int.toNat t18))).2.1.2.2)),(nth gz n9 (0+(Int.toNat t18))).2.2))),n12))) none) none) none) none) none) none) none) (
   kx (ak.L0.bp ((n1L,n1L_2,n1,n2,n12),n9)).1 (ak.L0.bp ((n1L,n1L_2,n1,n2,n12),n9)).2):=by kernel_rfl
theorem ak.L1.run:bM ak.L1.call ak.L1.av ak.L1.add ak.L1.F:=eM (eL [.d ti,.d ti,.n,.n,.d (.pair ti .unit),.d (.pair ti .unit),.d (.slice gz),.d (.slice fe)] fun _=>by kernel_rfl)
theorem ak.L1.aB:fQ @ak.L1.R ak.L1.st ak.L1.av ak.L1.add ak.L1.F ak.L1.bp ak.L1.Ok:=fU
theorem ak.L1.step{R:Type}(t38:Int)(t39:Int)(n1L_3:Nat)(n1L_4:Nat)(n1_2:(Int×Unit))(n2_2:(Int×Unit))(n9_2:(List ia))(n12_2:(List gm))(kn:AS→Option R)(kx:Exit→AS→Option R):ak.L1.R (t38,t39,n1L_3,n1L_4,n1_2,n2_2,n9_2,n12_2) kn kx=
  aG ((fM t39 t38)) (
   aG (eI t39 ((n1L_4:Nat):Int)) (
   aG (decide ((0+(Int.toNat t39)) < (List.length n12_2))) (
   aG (decide ((((0+(Int.toNat t39))*2)+1)=(((0+((Int.toNat t39)*2))+1)+0))) (
   ah (fB.call (nth fe n12_2 (0+(Int.toNat t39))).2.1.1) fun x1=>
   ah (ak.L2.call (t39,x1.1,t38,t39,((x1.1:Nat):Int),(0:Int),n1L_3,n1L_4,n1_2,n2_2,n9_2,n12_2,x1.2)) fun x2=>
   aG (eI x2.1.1 ((x2.1.2.2.2.2.1:Nat):Int)) (
   aG (decide ((0+(Int.toNat x2.1.1)) < (List.length x2.1.2.2.2.2.2.2.2.2))) (
   aG (decide ((((0+(Int.toNat x2.1.1))*2)+1)=(((0+((Int.toNat x2.1.1)*2))+1)+0))) (
   aG (decide ((0+(Int.toNat x2.1.1)) < (List.length x2.1.2.2.2.2.2.2.2.2))) (
   kn (ak.L1.st (x2.1.2.1,(bN .i64 x2.1.2.2.1 (1:Int)),x2.1.2.2.2.1,x2.1.2.2.2.2.1,x2.1.2.2.2.2.2.1,x2.1.2.2.2.2.2.2.1,x2.1.2.2.2.2.2.2.2.1,(List.set x2.1.2.2.2.2.2.2.2.2 (0+(Int.toNat x2.1.1)) ((nth fe x2.1.2.2.2.2.2.2.2.2 (0+(Int.toNat x2.1.1))).1,((x2.2.1,(nth fe x2.1.2.2.2.2.2.2.2.2 (0+(Int.toNat x2.1.1))).2.1.2),(nth fe x2.1.2.2.2.2.2.2.2.2 (0+(Int.toNat x2.1.1))).2.2)))))) none) none) none) none) none) none) none) (
   kx (ak.L1.bp (n1L_3,n1L_4,n1_2,n2_2,n9_2,n12_2)).1 (ak.L1.bp (n1L_3,n1L_4,n1_2,n2_2,n9_2,n12_2)).2):=by kernel_rfl
theorem ak.L2.run:bM ak.L2.call ak.L2.av ak.L2.add ak.L2.F:=eM (eL [.d ti,.n,.d ti,.d ti,.d ti,.d ti,.n,.n,.d (.pair ti .unit),.d (.pair ti .unit),.d (.slice gz),.d (.slice fe),.d (.slice fX)] fun _=>by kernel_rfl)
theorem ak.L2.aB:fQ @ak.L2.R ak.L2.st ak.L2.av ak.L2.add ak.L2.F ak.L2.bp ak.L2.Ok:=fU
theorem ak.L2.step{R:Type}(kv:Int)(lL:Nat)(t38_2:Int)(t39_2:Int)(t51:Int)(t52:Int)(n1L_5:Nat)(n1L_6:Nat)(n1_3:(Int×Unit))(n2_3:(Int×Unit))(n9_3:(List ia))(n12_3:(List gm))(n49:(List ik))(kn:AS→Option R)(kx:Exit→AS→Option R):ak.L2.R (kv,lL,t38_2,t39_2,t51,t52,n1L_5,n1L_6,n1_3,n2_3,n9_3,n12_3,n49) kn kx=
  aG ((fM t52 t51)) (
   aG (eI t52 ((lL:Nat):Int)) (
   aG (decide ((0+(Int.toNat t52)) < (List.length n49))) (
   aG (decide ((((0+(Int.toNat t52))*4)+0)=((0+((Int.toNat t52)*4))+0))) (
   ah (dj.call (nth fX n49 (0+(Int.toNat t52))).1) fun x1=>
   aG (eI t52 ((lL:Nat):Int)) (
   aG (decide ((0+(Int.toNat t52)) < (List.length n49))) (
   aG (decide ((((0+(Int.toNat t52))*4)+0)=((0+((Int.toNat t52)*4))+0))) (
   aG (decide ((0+(Int.toNat t52)) < (List.length n49))) (
   kn (ak.L2.st (kv,lL,t38_2,t39_2,t51,(bN .i64 t52 (1:Int)),n1L_5,n1L_6,n1_3,n2_3,n9_3,n12_3,(List.set n49 (0+(Int.toNat t52)) (x1,(nth fX n49 (0+(Int.toNat t52))).2))))) none) none) none) none) none) none) none) (
   aG (decide (0=0∧(0+lL)≤(List.length n49))) (
   kx (ak.L2.bp ((kv,t38_2,t39_2,n1L_5,n1L_6,n1_3,n2_3,n9_3,n12_3),((cut n49 0 lL),n49))).1 (ak.L2.bp ((kv,t38_2,t39_2,n1L_5,n1L_6,n1_3,n2_3,n9_3,n12_3),((cut n49 0 lL),n49))).2) none):=by kernel_rfl
theorem ak.eq{R:Type}(t:fv)(k:ba→Option R):ak.A t k=
 ah (fP.call t.1) fun x1=>
 ah (ez.call t.2.1) fun x2=>
 ah (ak.L0.call (((x1.1:Nat):Int),(0:Int),x1.1,x2.1,t.2.2,((0:Int),()),x1.2,x2.2)) fun x4=>
 ah (ak.L1.call (((x4.1.2.1:Nat):Int),(0:Int),x4.1.1,x4.1.2.1,x4.1.2.2.1,x4.1.2.2.2.1,x4.2,x4.1.2.2.2.2)) fun x8=>
 aG (decide (0=0∧(0+x8.2.1)≤(List.length x8.2.2.2.2.2))) (
 k (ak.out (x8.1,((cut x8.2.2.2.2.2 0 x8.2.1),x8.2.2.1),x8.2.2.2.2.1))) none:=by kernel_rfl
theorem ak.L0.ok:ak.L0.Ok:=by
 refine ak.L0.aB (fun(m,i,L,L2,u,v,l,os)=>l.length - Int.toNat i) ?_
 rintro⟨m,i,L,L2,u,v,l,os⟩ ⟨⟨hlen,hx⟩,k,hk,rfl,rfl,rfl⟩
 have hlen:l.length≤1000:=hlen
 have hk:k≤l.length:=hk
 by_cases h:k < l.length
 ·left
  have n1:nth gz l k=l[k]:=cn (t:=gz) h
  have hs:l.set k l[k]=l:=List.set_getElem_self h
  have e:=hx _ (List.getElem_mem h)
  refine⟨((l.length:Int),((k+1:Nat):Int),l.length,L2,u,v,l,os),⟨⟨hlen,hx⟩,k+1,by omega,rfl,rfl,rfl⟩,by simp only[Int.toNat_natCast];omega,rfl,fun kn kx=> ?_⟩
  rw[ak.L0.step,aW (by omega),bm (by omega) (by omega)]
  simp only[Int.toNat_natCast,Nat.zero_add,Nat.add_zero,Nat.add_assoc,Nat.reduceAdd,ae,aZ h,decide_true,n1]
  rw[eA.run (d:=l[k].2.1.2.1) e]
  simp only[aa,eA.add,eA.F]
  rw[N.j5 (by omega)]
  exact congrArg (fun z=>kn (ak.L0.st (_,_,_,_,_,_,z,_))) hs
 ·right
  obtain rfl:k=l.length:=by omega
  intro R kn kx
  rw[ak.L0.step,aO (by omega),ag]
  rfl
theorem ak.L2.ok:ak.L2.Ok:=by
 refine ak.L2.aB (fun(kv,L,m1,i1,m,i,L5,L6,u,v,ls,os,bs)=>bs.length - Int.toNat i) ?_
 rintro⟨kv,L,m1,i1,m,i,L5,L6,u,v,ls,os,bs⟩ ⟨⟨hlen,hx⟩,k,hk,rfl,rfl,rfl⟩
 have hlen:bs.length≤1000:=hlen
 have hk:k≤bs.length:=hk
 by_cases h:k < bs.length
 ·left
  have n1:nth fX bs k=bs[k]:=cn (t:=fX) h
  have hs:bs.set k bs[k]=bs:=List.set_getElem_self h
  have e:=hx _ (List.getElem_mem h)
  refine⟨(kv,bs.length,m1,i1,(bs.length:Int),((k+1:Nat):Int),L5,L6,u,v,ls,os,bs),⟨⟨hlen,hx⟩,k+1,by omega,rfl,rfl,rfl⟩,by simp only[Int.toNat_natCast];omega,rfl,fun kn kx=> ?_⟩
  rw[ak.L2.step,aW (by omega),bm (by omega) (by omega)]
  simp only[Int.toNat_natCast,Nat.zero_add,Nat.add_zero,Nat.add_assoc,Nat.reduceAdd,ae,aZ h,decide_true,n1]
  rw[dj.run (d:=bs[k].1) e]
  simp only[aa,dj.add,dj.F]
  rw[N.j5 (by omega)]
  exact congrArg (fun z=>kn (ak.L2.st (_,_,_,_,_,_,_,_,_,_,_,_,z))) hs
 ·right
  obtain rfl:k=bs.length:=by omega
  intro R kn kx
  rw[ak.L2.step,aO (by omega),ag]
  simp only[Nat.zero_add,Nat.le_refl,and_self,decide_true,ae,fb]
  rfl
theorem ak.L1.ok:ak.L1.Ok:=by
 refine ak.L1.aB (fun(m,i,L3,L,u,v,ls,os)=>os.length - Int.toNat i) ?_
 rintro⟨m,i,L3,L,u,v,ls,os⟩ ⟨⟨hlen,hx⟩,k,hk,rfl,rfl,rfl⟩
 have hlen:os.length≤1000:=hlen
 have hk:k≤os.length:=hk
 by_cases h:k < os.length
 ·left
  have n1:nth fe os k=os[k]:=cn (t:=fe) h
  have hs:os.set k os[k]=os:=List.set_getElem_self h
  have e:=hx _ (List.getElem_mem h)
  refine⟨((os.length:Int),((k+1:Nat):Int),L3,os.length,u,v,ls,os),⟨⟨hlen,hx⟩,k+1,by omega,rfl,rfl,rfl⟩,by simp only[Int.toNat_natCast];omega,rfl,fun kn kx=> ?_⟩
  rw[ak.L1.step,aW (by omega),bm (by omega) (by omega)]
  simp only[Int.toNat_natCast,Nat.zero_add,Nat.add_zero,Nat.add_assoc,Nat.reduceAdd,ae,aZ h,decide_true,n1]
  rw[fB.run (d:=os[k].2.1.1) (by show os[k].2.1.1.length≤_;have:=e.1;omega)]
  simp only[aa,fB.add,fB.F]
  rw[ak.L2.run (d:=((k:Int),os[k].2.1.1.length,(os.length:Int),(k:Int),(os[k].2.1.1.length:Int),0,L3,os.length,u,v,ls,os,os[k].2.1.1)) ⟨e,0,Nat.zero_le _,rfl,rfl,rfl⟩]
  simp only[aa,ak.L2.add,ak.L2.F,Int.toNat_natCast,n1,ae,aZ h,bm (show(0:Int)≤(k:Int) by omega) (show(k:Int) < (os.length:Int) by omega)]
  rw[N.j5 (by omega)]
  exact congrArg (fun z=>kn (ak.L1.st (_,_,_,_,_,_,_,z))) hs
 ·right
  obtain rfl:k=os.length:=by omega
  intro R kn kx
  rw[ak.L1.step,aO (by omega),ag]
  rfl
theorem oM{l:Lk}(h:iT l=true):l.1.length≤4∧∀b∈l.1,b.1.length≤12:=by
 unfold iT at h
 simp only[Bool.and_eq_true,List.all_eq_true,decide_eq_true_eq]at h
 refine⟨h.2.2,fun b hb=> ?_⟩
 have:=h.1 b hb
 unfold lj at this
 simp only[Bool.and_eq_true,decide_eq_true_eq]at this
 exact this.1
theorem ak.ok:ak.Ok:=by
 rintro⟨is,os,nt,u⟩ hok
 obtain⟨⟨_,a2,a3,_⟩,b1,b2⟩:=iF hok
 have a2:is.length≤64:=a2
 have a3:os.length≤64:=a3
 rw[ak.eq,fP.run (d:=is) (by show is.length≤_;omega),ez.run (d:=os) (by show os.length≤_;omega)]
 simp only[aa,fP.add,fP.F,ez.add,ez.F]
 rw[ak.L0.run (d:=(is.length,0,is.length,os.length,(nt,u),(0,()),is,os)) ⟨⟨by show is.length≤_;omega,fun x hx=>by have:=(zZ (nw _ _ b1 x hx)).2.2.2.2;omega⟩,0,Nat.zero_le _,rfl,rfl,rfl⟩]
 simp only[aa,ak.L0.add,ak.L0.F]
 rw[ak.L1.run (d:=(os.length,0,is.length,os.length,(nt,u),(0,()),is,os)) ⟨⟨by show os.length≤_;omega,fun x hx=>by
  have:=oM (iD _ _ b2 x hx).2
  exact⟨by omega,fun b hb=>by have:=this.2 b hb;omega⟩⟩,0,Nat.zero_le _,rfl,rfl,rfl⟩]
 simp only[aa,ak.L1.add,ak.L1.F,Nat.zero_add,Nat.le_refl,and_self,decide_true,ae,fb]
 rfl
noncomputable def ak.E:=Entry.cD [some gI] ak.st ak.av ak.add ak.F ak.out
noncomputable def ak.call:ak.D→Option ak.X:=bS ak.E ak.st
theorem ak.run:bM ak.call ak.av ak.add ak.F:=dq (df [.d gI] fun _=>by kernel_rfl)
noncomputable def ak.sg:SG Tryz.prog:=⟨70,aR,ak.E,.fn 3 (by kernel_rfl) ak.ok (And.intro (.cD ak.L0.ok (by kernel_rfl)) (And.intro (.cD ak.L1.ok (by kernel_rfl)) (And.intro (.cD ak.L2.ok (by kernel_rfl)) trivial)))⟩
set_option synthInstance.maxSize 5000
def pm(m:Nat):Nat→Nat→Nat→Nat→Nat
 | 0,_,_,out=>out%m
 |f+1,a,n,out=>if n=0 then out%m else pm m f (a*a%m) (n / 2) (if n%2=1 then out*a%m else out)
theorem Fv(m:Nat):∀(f a n out:Nat),n < 2^f→pm m f a n out=out*a^n%m
 | 0,a,n,out,h=>by
  obtain rfl:n=0:=by omega
  rw[pm,Nat.pow_zero,Nat.mul_one]
 |f+1,a,n,out,h=>by
  have e:(2:Nat)^(f+1)=2^f*2:=Nat.pow_succ (n:=2) (m:=f)
  rw[pm]
  split
  ·rename_i h0
   subst h0
   rw[Nat.pow_zero,Nat.mul_one]
  ·rw[Fv m f _ _ _ (by omega),Nat.mul_mod]
   have e1:(a*a%m)^(n / 2)%m=a^(2*(n / 2))%m:=by
    rw[←Nat.pow_mod,Nat.pow_mul,Nat.pow_two]
   have e2:(if n%2=1 then out*a%m else out)%m=(out*a^(n%2))%m:=by
    split
    ·rename_i h1
     rw[h1,Nat.pow_one,Nat.mod_mod]
    ·have h1:n%2=0:=by omega
     rw[h1,Nat.pow_zero,Nat.mul_one]
   rw[e1,e2,←Nat.mul_mod,Nat.mul_assoc,←Nat.pow_add]
   have e3:n%2+2*(n / 2)=n:=by omega
   rw[e3]
theorem CZ:∀(r q:Nat) (f:Nat→Nat),(∀i,i < q→f i < r)→(∀i j,i < j→j < q→f i≠f j)→q≤r
 | 0,q,f,h,_=>by
  rcases Nat.eq_zero_or_pos q with h0 | h0
  ·omega
  ·exact absurd (h 0 h0) (Nat.not_lt_zero _)
 |r+1,q,f,h,g=>by
  by_cases hx:∃i,i < q∧f i=r
  ·obtain⟨i,hi,hr⟩:=hx
   have e:=CZ r (q - 1) (fun j=>if j < i then f j else f (j+1)) (fun j hj=>by
    by_cases h1:j < i
    ·have a:=h j (by omega)
     have b:=g j i h1 hi
     simp only[h1,if_true]
     omega
    ·have a:=h (j+1) (by omega)
     have b:=g i (j+1) (by omega) (by omega)
     simp only[h1,if_false]
     omega) (fun j k hjk hk=>by
    by_cases h1:j < i
    ·by_cases h2:k < i
     ·simp only[h1,h2,if_true]
      exact g j k hjk (by omega)
     ·simp only[h1,h2,if_true,if_false]
      exact g j (k+1) (by omega) (by omega)
    ·have h2:¬k < i:=by omega
     simp only[h1,h2,if_false]
     exact g (j+1) (k+1) (by omega) (by omega))
   omega
  ·have e:=CZ r q f (fun i hi=>by
    have a:=h i hi
    have b:f i≠r:=fun x=>hx ⟨i,hi,x⟩
    omega) g
   omega
theorem A8(a m:Nat)(h1:1%m=1):∀i j:Nat,a^i%m=1→a^j%m=1→a^(Nat.gcd i j)%m=1:=by
 intro i
 induction i using Nat.strongRecOn with
 |ind i ih=>
  intro j hi hj
  rcases Nat.eq_zero_or_pos i with h0 | h0
  ·subst h0;rw[Nat.gcd_zero_left];exact hj
  ·rw[Nat.gcd_rec]
   refine ih (j%i) (Nat.mod_lt _ h0) i ?_ hi
   have e:a^j=(a^i)^(j / i)*a^(j%i):=by rw[←Nat.pow_mul,←Nat.pow_add,Nat.div_add_mod]
   rw[e,Nat.mul_mod,Nat.pow_mod,hi,Nat.one_pow,h1,Nat.one_mul,Nat.mod_mod]at hj
   exact hj
def Cm(n:Nat):Prop:=∀d,d∣n→d=1∨d=n
theorem A9{n k:Nat}(h:Cm n)(h0:0 < k)(hk:k < n):Nat.gcd k n=1:=by
 rcases h _ (Nat.gcd_dvd_right k n) with h1 | h1
 ·exact h1
 ·have:=Nat.le_of_dvd h0 (Nat.gcd_dvd_left k n);omega
theorem yP{n:Nat}(hn:1 < n)(h:∀r,1 < r→r*r≤n→¬r∣n):Cm n:=by
 intro d hd
 obtain⟨e,he⟩:=hd
 have hd0:0 < d:=Nat.pos_of_ne_zero (by intro x;rw[x,Nat.zero_mul]at he;omega)
 have he0:0 < e:=Nat.pos_of_ne_zero (by intro x;rw[x,Nat.mul_zero]at he;omega)
 by_cases h1:d=1
 ·exact .inl h1
 by_cases h2:e=1
 ·right;rw[he,h2,Nat.mul_one]
 exfalso
 rcases Nat.le_total d e with hle | hle
 ·exact h d (by omega) (by rw[he];exact Nat.mul_le_mul_left d hle) ⟨e,he⟩
 ·exact h e (by omega) (by rw[he];exact Nat.mul_le_mul_right e hle) ⟨d,by rw[he,Nat.mul_comm]⟩
theorem Gd{n q b:Nat}(hn:1 < n)(hq:Cm q)(hq1:1 < q)(hqq:n < q*q)(hb:b^q%n=1)(hg:Nat.gcd (b - 1) n=1)(hb0:0 < b):Cm n:=by
 refine yP hn fun r hr hrr hrn=> ?_
 have h1r:1%r=1:=Nat.mod_eq_of_lt hr
 have hbr:b^q%r=1:=by
  have:=Nat.mod_mod_of_dvd (b^q) hrn
  rw[←this,hb,h1r]
 have hne:b%r≠1:=by
  intro hx
  have hd:r∣b - 1:=by have e:=Nat.dvd_sub_mod (n:=r) b;rw[hx]at e;exact e
  have:=Nat.dvd_gcd hd hrn
  rw[hg]at this
  have:=Nat.le_of_dvd (by omega) this
  omega
 have key:q≤r:=by
  refine CZ r q (fun i=>b^i%r) (fun i _=>Nat.mod_lt _ (by omega)) fun i j hij hj he=> ?_
  have e1:b^(j - i)%r=1:=by
   have x1:b^(q - i)*b^i%r=b^(q - i)*b^j%r:=by rw[Nat.mul_mod,he,←Nat.mul_mod]
   rw[←Nat.pow_add,←Nat.pow_add,show q - i+i=q by omega,show q - i+j=q+(j - i) by omega,Nat.pow_add,Nat.mul_mod,hbr,Nat.one_mul,Nat.mod_mod]at x1
   exact x1.symm
  have e2:=A8 b r h1r (j - i) q e1 hbr
  rw[A9 hq (by omega) (by omega),Nat.pow_one]at e2
  exact hne e2
 have:q*q≤r*r:=Nat.mul_le_mul key key
 omega
def Dm(n:Nat):Nat→Bool
 | 0=>true
 |k+1=>n%(k+2) !=0 && Dm n k
theorem yO(n:Nat):∀k,Dm n k=true→∀d,1 < d→d≤k+1→¬d∣n
 | 0,_,d,h1,h2=>by omega
 |k+1,h,d,h1,h2=>by
  rw[Dm,Bool.and_eq_true]at h
  by_cases hd:d=k+2
  ·intro hx
   have:=Nat.mod_eq_zero_of_dvd hx
   rw[hd]at this
   rw[this]at h
   exact absurd h.1 (by decide)
  ·exact yO n k h.2 d h1 (by omega)
theorem HZ:Cm 7930907:=by
 refine yP (by decide) fun r hr hrr=>yO 7930907 2820 (by decide+kernel) r hr ?_
 apply Nat.le_of_not_lt
 intro h
 have:2822*2822≤r*r:=Nat.mul_le_mul (by omega) (by omega)
 omega
theorem qW{n q:Nat}(a e:Nat)(hq:Cm q)(hq1:1 < q)(hn:1 < n)(hqq:n < q*q)(he:e < 2^64)(hq2:q < 2^64)(h1:pm n 64 (pm n 64 a e 1) q 1=1)(h2:Nat.gcd (pm n 64 a e 1 - 1) n=1)(h3:0 < pm n 64 a e 1):Cm n:=by
 generalize pm n 64 a e 1=b at*
 rw[Fv _ _ _ _ _ hq2,Nat.one_mul]at h1
 exact Gd hn hq hq1 hqq h1 h2 h3
theorem HY:Cm 11864636873:=qW (q:=7930907) 2 1496 HZ (by decide) (by decide) (by decide) (by decide) (by decide) (by decide+kernel) (by decide+kernel) (by decide+kernel)
theorem HX:Cm 1732236983459:=qW (q:=11864636873) 2 146 HY (by decide) (by decide) (by decide) (by decide) (by decide) (by decide+kernel) (by decide+kernel) (by decide+kernel)
theorem HW:Cm 249442125618097:=qW (q:=1732236983459) 2 144 HX (by decide) (by decide) (by decide) (by decide) (by decide) (by decide+kernel) (by decide+kernel) (by decide+kernel)
theorem H0:Cm 2305843009213688669:=qW (q:=249442125618097) 2 9244 HW (by decide) (by decide) (by decide) (by decide) (by decide) (by decide+kernel) (by decide+kernel) (by decide+kernel)
def gP(n:Nat):Int:=((4^n%4611686018427377339:Nat):Int)
theorem vp(a m q:Nat)(h1:1%m=1)(h:a^q%m=1)(n:Nat):a^(n%q)%m=a^n%m:=by
 have e:a^n=(a^q)^(n / q)*a^(n%q):=by rw[←Nat.pow_mul,←Nat.pow_add,Nat.div_add_mod]
 rw[e,Nat.mul_mod,Nat.pow_mod (a^q),h,Nat.one_pow,h1,Nat.one_mul,Nat.mod_mod]
theorem Fe:∀q:Nat,q=2305843009213688669→4^q%4611686018427377339=1:=by
 intro q hq
 have h:=vU
 rw[uw _ _ (by decide)]at h
 rw[←hq]at h
 have e:(((4^q%4611686018427377339:Nat)):Int)=1:=by
  rw[Int.natCast_emod,Int.natCast_pow]
  exact h
 omega
theorem w5(n:Nat):gP (n%2305843009213688669)=gP n:=by
 unfold gP
 obtain⟨q,hq⟩:∃q:Nat,q=2305843009213688669:=⟨_,rfl⟩
 rw[←hq,vp 4 4611686018427377339 q (by decide) (Fe q hq)]
theorem G9(n:Nat)(h:n < 18446744073709551616):pw 4 n=gP n:=by
 rw[uw _ _ h]
 unfold gP
 rw[Int.natCast_emod,Int.natCast_pow]
 rfl
theorem CX(k:Int)(h:0≤k):(k%2305843009213688669).toNat=k.toNat%2305843009213688669:=by omega
theorem sX(k:Int)(h:0≤k):e7 k=gP k.toNat:=by
 show pw (tk 4) _=_
 rw[pH ED,G9 _ (by omega),CX k h,w5]
theorem Er(n:Nat):gP n=e7 n:=by rw[sX _ (by omega),Int.toNat_natCast]
theorem tN(n:Nat):ju (gP n)=true:=by rw[Er];exact oK _
theorem zV(a b:Nat):gQ (gP a) (gP b)=gP (a+b):=by
 unfold gQ gP
 rw[←Int.natCast_mul,Nat.pow_add]
 have e:(4611686018427377339:Int)=((4611686018427377339:Nat):Int):=rfl
 rw[e,←Int.natCast_emod,←Nat.mul_mod]
theorem CY(a:Nat)(c:Int)(h:0≤c):ku (gP a) c=gP (a*c.toNat):=by
 show pw (tk (gP a)) _=_
 rw[pH (tN a),uw _ _ (by omega),CX c h]
 obtain⟨b,hb⟩:∃b:Nat,b=c.toNat:=⟨_,rfl⟩
 rw[←hb]
 obtain⟨d,hd⟩:∃d:Nat,d=b%2305843009213688669:=⟨_,rfl⟩
 have hx:gP (a*b)=gP (a*d):=by rw[←w5 (a*b),←w5 (a*d),Nat.mul_mod a b,Nat.mul_mod a d,hd,Nat.mod_mod]
 rw[hx,←hd]
 unfold gP
 have e:(4611686018427377339:Int)=((4611686018427377339:Nat):Int):=rfl
 rw[e,←Int.natCast_pow,←Int.natCast_emod,←Nat.pow_mod,←Nat.pow_mul]
theorem AT:gP 0=1:=by decide
theorem G8{n:Nat}(h:0 < n)(hn:n < 2305843009213688669):gP n≠1:=by
 intro he
 unfold gP at he
 have he:4^n%4611686018427377339=1:=by omega
 obtain⟨q,hq⟩:∃q:Nat,q=2305843009213688669:=⟨_,rfl⟩
 have e:=A8 4 4611686018427377339 (by decide) n q he (Fe q hq)
 rw[A9 (by rw[hq];exact H0) h (by omega)]at e
 exact absurd e (by decide)
theorem EV(k:Int)(m:List Int)(h0:0 < k)(hq:k < 2305843009213688669):iX (e7 k) m 1 (iH k m)=true:=by
 obtain⟨kn,hk⟩:∃kn:Nat,kn=k.toNat:=⟨_,rfl⟩
 have hb:e7 k=gP kn:=by rw[hk];exact sX k (by omega)
 have hn:=tK (DT Ag [iQ k,m])
 unfold iH Dn
 rw[if_pos ⟨hq,by omega⟩]
 obtain⟨n,hne⟩:∃n,oI (DT Ag [iQ k,m])=n:=⟨_,rfl⟩
 rw[hne]at hn ⊢
 unfold wN
 have hr:mB [e7 n,1]=gP n.toNat:=by
  show gQ (gQ 1 (tk (e7 n))) (tk 1)=_
  rw[pH (oK n),pH nO,qO (jM _ _),sX n (by omega),←AT,zV,Nat.zero_add]
 rw[hr,hb]
 have hc:=qA (gP n.toNat) (gP kn) m
 obtain⟨c,hce⟩:∃c,kG (gP n.toNat) (gP kn) m=c:=⟨_,rfl⟩
 rw[hce]at hc ⊢
 have ha:=AJ n (xk c k)
 have h1:=hc.1
 have h2:=ha.1
 have h3:=ha.2
 unfold iX
 rw[if_neg (by
  intro h
  rcases h with h | h | h | h | h
  ·exact G8 (by omega) (by omega) h
  ·rw[tN]at h;cases h
  ·rw[nO]at h;cases h
  ·have h:ju (gP n.toNat)=false:=h
   rw[tN]at h;cases h
  ·exact h h3)]
 have e:e7 (zw n (xk c k))=mB [gP n.toNat,ku (gP kn) c,ui 1]:=by
  show _=gQ (gQ (gQ 1 (tk (gP n.toNat))) (tk (ku (gP kn) c))) (tk (ui 1))
  rw[A4,pH nO,qO (jM _ _),pH (tN _),CY _ _ h1,pH (tN _)]
  rw[show(gQ 1 (gP n.toNat))=gP n.toNat by rw[←AT,zV,Nat.zero_add]]
  rw[zV,sX _ h2]
  have hx:(zw n (xk c k)).toNat=(n.toNat+kn*c.toNat)%2305843009213688669:=by
   unfold zw xk Dr
   have g1:c%2305843009213688669=c:=Int.emod_eq_of_lt h1 hc.2
   have g2:k%2305843009213688669=k:=Int.emod_eq_of_lt (by omega) hq
   have g3:n%2305843009213688669=n:=Int.emod_eq_of_lt (by omega) hn.2
   rw[g1,g2,g3,Int.emod_emod_of_dvd _ (Int.dvd_refl _)]
   have g4:((kn*c.toNat:Nat):Int)=c*k:=by
    rw[Int.natCast_mul,hk,Int.toNat_of_nonneg (by omega),Int.toNat_of_nonneg h1,Int.mul_comm]
   have g5:0≤c*k:=by rw[←g4];exact Int.natCast_nonneg _
   obtain⟨z,hz⟩:∃z,c*k=z:=⟨_,rfl⟩
   rw[hz]at g4 g5 ⊢
   obtain⟨zn,hzn⟩:∃zn,kn*c.toNat=zn:=⟨_,rfl⟩
   rw[hzn]at g4 ⊢
   omega
  rw[hx,w5]
 show decide (e7 (zw n (xk c k))=mB [gP n.toNat,ku (gP kn) (kG (gP n.toNat) (gP kn) m),ui 1])=true
 rw[hce]
 exact decide_eq_true e
set_option synthInstance.maxSize 5000
def w8{α:Type}(p:α→Bool):List α→Int→Int⊕Unit
 |[],_=> .inr ()
 |x::xs,i=>if p x then .inl i else w8 p xs (i+1)
def Ez{α:Type}(p:α→Bool)(l:List α):Int:=match w8 p l 0 with | .inl i=>i | .inr _=> -1
theorem yu{α:Type}(p:α→Bool):∀(l:List α) (i:Int),0≤i→(match w8 p l i with | .inl i=>decide (i≥0) | .inr _=>false)=l.any p
 |[],_,_=>rfl
 |x::l,i,h=>by
  rw[w8,List.any_cons]
  cases hp:p x
  ·simp only[Bool.false_eq_true,if_false,Bool.false_or]
   exact yu p l (i+1) (by omega)
  ·simp[h]
theorem C1{α:Type}(p:α→Bool)(l:List α):nv (Ez p l) 0=l.any p:=by
 have:=yu p l 0 (by omega)
 unfold Ez nv
 cases h:w8 p l 0
 ·rw[h]at this;exact this
 ·rw[h]at this;rw[←this];rfl
def qw(k:Int):Bool:=decide (¬(k < 2305843009213688669∧k≠0))
def oW(t:fv)(i br:Int)(ks:List Int):Bool:=gU t && (decide (0≤i∧i < t.1.length∧0≤br∧br < 4∧ks.length≤12) && !(ks.any qw))
def DK(t:fv)(i br:Int)(ks:List Int)(sc:Int):fv×Int:=
 if oW t i br ks then((t.1.set i.toNat ((nth gz t.1 i.toNat).1,(br,ks.map (fun k=>iH k (lS t)),sc,()),()),t.2),0) else(([],[],0,()),1)
theorem uS{t:fv}:Sm (lS t):=by
 unfold lS
 split
 ·exact xv _ _
 ·exact⟨by rw[List.length_replicate],fun x hx=>by obtain rfl:=(List.mem_replicate.1 hx).2;exact⟨by decide,by decide⟩⟩
abbrev eP.D:=Int
def eP.st:eP.D→SA:=fun kv=>([.d tu kv],[])
abbrev eP.Y:=Bool
abbrev eP.X:=Bool
def eP.out:eP.X→ba:=fun x=>⟨.d .bool x,[],[]⟩
def eP.add:eP.D→eP.Y→eP.X:=fun kv y=>y
def eP.av:eP.D→Prop:=fun _=>True
def eP.F:eP.D→eP.Y:=fun k=>qw k
noncomputable def eP.G:ed:=fk (P:=Tryz.prog) [dv.sg]
noncomputable def eP.an:eQ:= {}
noncomputable def eP.A:= @cY Tryz.prog eP.G eP.an 0 Tryz.f64 _ eP.st
abbrev eP.Ok:=dd @eP.A eP.av eP.add eP.F eP.out
theorem eP.eq{R:Type}(kv:Int)(k:ba→Option R):eP.A kv k=
  aG ((jz kv (0:Int))) (
   k (eP.out true)) (
   ah (dv.call kv) fun x1=>
   k (eP.out (!x1))):=by kernel_rfl
theorem eP.ok:eP.Ok:=by
 intro(k:Int) _
 rw[eP.eq,dv.run (d:=k) trivial]
 simp only[eP.add,eP.F,qw,aa,dv.add,dv.F]
 by_cases h:k=0
 ·rw[hP h,ae,aZ (by omega)]
 ·rw[gr h,ag]
  by_cases h2:k < 2305843009213688669
  ·rw[aW h2,bo (by omega)];rfl
  ·rw[aO h2,aZ (by omega)];rfl
noncomputable def eP.E:=Entry.cD [some tu] eP.st eP.av eP.add eP.F eP.out
noncomputable def eP.call:eP.D→Option eP.X:=bS eP.E eP.st
theorem eP.run:bM eP.call eP.av eP.add eP.F:=dq (df [.d tu] fun _=>by kernel_rfl)
noncomputable def eP.sg:SG Tryz.prog:=⟨64,aR,eP.E,.fn 0 (by kernel_rfl) eP.ok trivial⟩
abbrev bj.L0.D:=Bs×Int×Int
def bj.L0.st:bj.L0.D→AS:=fun(sv_2,t7,t8)=>⟨([.d tU sv_2,.fn 64 (.nil)]++bl 5 ([.d ti t7,.d ti t8]++bl 10 [])),[],(List.replicate 19 [])⟩
abbrev bj.L0.Y0:=Int
abbrev bj.L0.X0:=Int
def bj.L0.bp:bj.L0.X0→Exit×AS:=fun x=>(.ret,⟨(bl 4 ([.d ti x]++bl 14 [])),[],(List.replicate 19 [])⟩)
abbrev bj.L0.Y1:=Unit
abbrev bj.L0.X1:=Unit
def bj.L0.fA:bj.L0.X1→Exit×AS:=fun x=>(.exit 0,⟨(bl 19 []),[],(List.replicate 19 [])⟩)
abbrev bj.L0.X:=(bj.L0.X0)⊕(bj.L0.X1)
abbrev bj.L0.Y:=(bj.L0.Y0)⊕(bj.L0.Y1)
def bj.L0.out:bj.L0.X→Out (Exit×AS):=fun x=> .br x.isLeft (.get x.getLeft? fun a=> .ok (bj.L0.bp a)) (.get x.getRight? fun b=> .ok (bj.L0.fA b))
def bj.L0.add:bj.L0.D→bj.L0.Y→bj.L0.X:=fun(sv_2,t7,t8) y=>match y with | .inl y=> .inl y | .inr z=> .inr (z)
abbrev bj.D:=Bs
def bj.st:bj.D→SA:=fun sv=>([.d tU sv,.fn 64 (.nil)],[])
abbrev bj.Y:=Int
abbrev bj.X:=Int
def bj.out:bj.X→ba:=fun x=>⟨.d ti x,[],[]⟩
def bj.add:bj.D→bj.Y→bj.X:=fun sv y=>y
def bj.L0.av:bj.L0.D→Prop:=fun(l,n,i)=>(∀x∈l,True)∧l.length≤1000000000∧n=l.length∧∃k:Nat,k≤l.length∧i=k
def bj.L0.F:bj.L0.D→bj.L0.Y:=fun(l,n,i)=>w8 qw (l.drop i.toNat) i
def bj.av:bj.D→Prop:=fun l=>(∀x∈l,True)∧l.length≤1000000000
def bj.F:bj.D→bj.Y:=fun l=>Ez qw l
noncomputable def bj.G:ed:=fk (P:=Tryz.prog) [eP.sg]
noncomputable def bj.L0.E:=bU.cD bj.L0.st bj.L0.av bj.L0.add bj.L0.F bj.L0.out
noncomputable def bj.L0.call:bj.L0.D→Option bj.L0.X:=dw bj.L0.E bj.L0.st
noncomputable def bj.an:eQ:= {loops:=jB [(2,{bn:=[0,1,7,8]})],outs:=jA [(2,{},{bn:=[4]})],fC:=kf [(2,bj.L0.E)]}
noncomputable def bj.A:= @cY Tryz.prog bj.G bj.an 0 Tryz.f133 _ bj.st
abbrev bj.Ok:=dd @bj.A bj.av bj.add bj.F bj.out
noncomputable def bj.L0.R:= @cj Tryz.prog bj.G bj.an 0 Tryz.f133 0 _ bj.L0.st
abbrev bj.L0.Ok:=ew Tryz.prog bj.G bj.an 0 Tryz.f133 0 bj.L0.st bj.L0.av bj.L0.add bj.L0.F bj.L0.out
theorem bj.L0.run:bM bj.L0.call bj.L0.av bj.L0.add bj.L0.F:=eM (eL [.d tU,.d ti,.d ti] fun _=>by kernel_rfl)
theorem bj.L0.aB:kC @bj.L0.R bj.L0.st bj.L0.av bj.L0.add bj.L0.F bj.L0.out bj.L0.Ok:=kL
theorem bj.L0.step{R:Type}(sv_2:Bs)(t7:Int)(t8:Int)(kn:AS→Option R)(kx:Exit→AS→Option R):bj.L0.R (sv_2,t7,t8) kn kx=
  aG ((fM t8 t7)) (
   aG (eI t8 (((List.length sv_2):Nat):Int)) (
   ah (eP.call (nth tu sv_2 (Int.toNat t8))) fun x1=>
   aG (x1) (
    kx (bj.L0.bp t8).1 (bj.L0.bp t8).2) (
    kn (bj.L0.st (sv_2,t7,(bN .i64 t8 (1:Int)))))) none) (
   kx (bj.L0.fA ()).1 (bj.L0.fA ()).2):=by kernel_rfl
theorem bj.eq{R:Type}(sv:Bs)(k:ba→Option R):bj.A sv k=
  ah (bj.L0.call (sv,(((List.length sv):Nat):Int),(0:Int))) fun x2=>
  aG (x2.isLeft) (
   ah (x2.getLeft?) fun a3=>
   k (bj.out a3)) (
   ah (x2.getRight?) fun b4=>
   k (bj.out (-1:Int))):=by kernel_rfl
theorem bj.L0.ok:bj.L0.Ok:=by
 refine bj.L0.aB (fun(l,n,i)=>l.length - i.toNat) ?_
 rintro⟨l,n,i⟩ ⟨hl,hb,rfl,k,hk,rfl⟩
 have hb:l.length≤1000000000:=hb
 have hk:k≤l.length:=hk
 by_cases h:k < l.length
 ·have hx:=hl _ (List.getElem_mem h)
  have n1:nth tu l k=l[k]:=cn (t:=tu) h
  have hd:w8 qw (l.drop k) k=if qw l[k] then .inl (k:Int) else w8 qw (l.drop (k+1)) ((k+1:Nat):Int):=by rw[List.drop_eq_getElem_cons h];rfl
  have step:∀ {R:Type} (kn:AS→Option R) (kx:Exit→AS→Option R),bj.L0.R (l,(l.length:Int),(k:Int)) kn kx=aG (qw l[k]) (kx (bj.L0.bp (k:Int)).1 (bj.L0.bp (k:Int)).2) (kn (bj.L0.st (l,(l.length:Int),((k+1:Nat):Int)))):=by
   intro R kn kx
   rw[bj.L0.step,aW (by omega),bm (by omega) (by omega),Int.toNat_natCast,n1,eP.run (d:=l[k]) hx,N.j5 (by omega)]
   rfl
  cases hp:qw l[k]
  ·left
   refine⟨(l,l.length,((k+1:Nat):Int)),⟨hl,hb,rfl,k+1,by omega,rfl⟩,by simp only[Int.toNat_natCast];omega,?_,fun kn kx=> ?_⟩
   ·simp only[bj.L0.add,bj.L0.F,Int.toNat_natCast,hd,hp,Bool.false_eq_true,if_false]
   ·rw[step,hp,ag]
  ·right
   refine⟨bj.L0.bp (k:Int),?_,fun kn kx=> ?_⟩
   ·simp only[bj.L0.add,bj.L0.F,Int.toNat_natCast,hd,hp,if_true]
    rfl
   ·rw[step,hp,ae]
 ·right
  obtain rfl:k=l.length:=by omega
  refine⟨bj.L0.fA (),?_,fun kn kx=> ?_⟩
  ·simp only[bj.L0.add,bj.L0.F,Int.toNat_natCast,List.drop_length]
   rfl
  ·rw[bj.L0.step,aO (by omega),ag]
theorem bj.ok:bj.Ok:=by
 rintro l ⟨hl,hb⟩
 rw[bj.eq,bj.L0.run (d:=(l,l.length,0)) ⟨hl,hb,rfl,0,by omega,rfl⟩]
 simp only[aa,bj.L0.add,bj.L0.F,Int.toNat_zero,List.drop_zero,bj.add,bj.F,Ez]
 cases w8 qw l 0 <;> rfl
noncomputable def bj.E:=Entry.cD [some tU,none] bj.st bj.av bj.add bj.F bj.out
noncomputable def bj.call:bj.D→Option bj.X:=bS bj.E bj.st
theorem bj.run:bM bj.call bj.av bj.add bj.F:=dq (df [.d tU] fun _=>by kernel_rfl)
noncomputable def bj.sg:SG Tryz.prog:=⟨133,aR,bj.E,.fn 1 (by kernel_rfl) bj.ok (And.intro (.cD bj.L0.ok (by kernel_rfl)) trivial)⟩
abbrev b8.D:=Bs
def b8.st:b8.D→SA:=fun sv=>([.d tU sv,.fn 64 (.nil)],[])
abbrev b8.Y:=Bool
abbrev b8.X:=Bool
def b8.out:b8.X→ba:=fun x=>⟨.d .bool x,[],[]⟩
def b8.add:b8.D→b8.Y→b8.X:=fun sv y=>y
def b8.av:b8.D→Prop:=fun l=>(∀x∈l,True)∧l.length≤1000000000
def b8.F:b8.D→b8.Y:=fun l=>l.any qw
noncomputable def b8.G:ed:=fk (P:=Tryz.prog) [bj.sg]
noncomputable def b8.an:eQ:= {}
noncomputable def b8.A:= @cY Tryz.prog b8.G b8.an 0 Tryz.f68 _ b8.st
abbrev b8.Ok:=dd @b8.A b8.av b8.add b8.F b8.out
theorem b8.eq{R:Type}(sv:Bs)(k:ba→Option R):b8.A sv k=
 ah (bj.call sv) fun x1=>
 k (b8.out (nv x1 (0:Int))):=by kernel_rfl
theorem b8.ok:b8.Ok:=by
 rintro l ⟨hl,hb⟩
 rw[b8.eq,bj.run (d:=l) ⟨hl,hb⟩]
 simp only[aa,bj.add,bj.F,C1]
 rfl
noncomputable def b8.E:=Entry.cD [some tU,none] b8.st b8.av b8.add b8.F b8.out
noncomputable def b8.call:b8.D→Option b8.X:=bS b8.E b8.st
theorem b8.run:bM b8.call b8.av b8.add b8.F:=dq (df [.d tU] fun _=>by kernel_rfl)
noncomputable def b8.sg:SG Tryz.prog:=⟨68,aR,b8.E,.fn 0 (by kernel_rfl) b8.ok trivial⟩
abbrev bP.L0.D:=Int×Bs×Int×Int×fv×(Int×Unit)×Int×Nat×(Int×Unit)×Bs×(List Sg)
def bP.L0.st:bP.L0.D→AS:=fun(inv_2,t52,t53,t54,n5,n10,n13,n13L,n13_2,n14,n64)=>⟨([.undef,.d ti inv_2,.undef,.undef,.undef,.ptr (.new 5 0) 0 [] 0]++bl 4 ([.ptr (.new 10 0) 0 [] 0,.undef,.undef,.ptr (.new 13 0) 0 [] 0,.ptr (.new 14 0) 0 [] 0]++bl 37 ([.d tU t52,.d ti t53,.d ti t54]++bl 21 []))),[],(ch 5 ([[.obj 0 false (.d gI n5)]]++ch 4 ([[.obj 0 false (.pr (.dV) (.pr (.dV) (.d (.pair ti .unit) n10)))],[],[],[.obj 0 false (.pr (.d ti n13) (.pr (.bH (.new 64 0) 0 [] 0 0 n13L) (.d (.pair tu .unit) n13_2)))],[.obj 0 false (.d tH n14)]]++ch 49 ([[.obj 0 false (.vec 135 sJ n64)]]++ch 11 []))))⟩
abbrev bP.L0.Y0:=so×(List Sg)
abbrev bP.L0.X0:=(Int×fv×(Int×Unit))×(so×(List Sg))
def bP.L0.bp:bP.L0.X0→Exit×AS:=fun x=>(.exit 0,⟨([.undef,.d ti x.1.1,.undef,.undef,.undef,.ptr (.new 5 0) 0 [] 0]++bl 4 ([.ptr (.new 10 0) 0 [] 0,.undef,.undef,.ptr (.new 13 0) 0 [] 0]++bl 62 [])),[],(ch 5 ([[.obj 0 false (.d gI x.1.2.1)]]++ch 4 ([[.obj 0 false (.pr (.dV) (.pr (.dV) (.d (.pair ti .unit) x.1.2.2)))],[],[],[.obj 0 false (.d xE x.2.1)]]++ch 50 ([[.obj 0 true (.vec 135 sJ x.2.2)]]++ch 11 []))))⟩)
abbrev bP.L0.X:=bP.L0.X0
abbrev bP.L0.Y:=bP.L0.Y0
def bP.L0.out:bP.L0.X→Out (Exit×AS):=fun x=> .ok (bP.L0.bp x)
def bP.L0.add:bP.L0.D→bP.L0.Y→bP.L0.X:=fun(inv_2,t52,t53,t54,n5,n10,n13,n13L,n13_2,n14,n64) y=>((inv_2,n5,n10),y)
abbrev bP.D:=fv×Int×Int×Bs×Int
def bP.st:bP.D→SA:=fun(t,inv,branch,keys,secret)=>([.d gI t,.d ti inv,.d ti branch,.d tU keys,.d tu secret],[])
abbrev bP.Y:=fv×Int
abbrev bP.X:=fv×Int
def bP.out:bP.X→ba:=fun x=>⟨.cons (.d gI x.1) (.cons (.d ti x.2) (.nil)),[],[]⟩
def bP.add:bP.D→bP.Y→bP.X:=fun(t,inv,branch,keys,secret) y=>y
def bP.L0.av:bP.L0.D→Prop:=fun(i0,l,n,i,t,e,br,L,sc,id,r)=>l.length≤1000∧(∀x∈l,gY x)∧Sm id∧∃k:Nat,k≤l.length∧i=k∧n=l.length∧L=r.length∧r.length≤1000+k
def bP.L0.F:bP.L0.D→bP.L0.Y:=fun(i0,l,n,i,t,e,br,L,sc,id,r)=>((br,r++(l.drop i.toNat).map (fun k=>iH k id),sc),r++(l.drop i.toNat).map (fun k=>iH k id))
def bP.av:bP.D→Prop:=fun(t,i,br,ks,sc)=>nE t∧(∀x∈ks,gY x)∧ks.length≤1000000000
def bP.F:bP.D→bP.Y:=fun(t,i,br,ks,sc)=>DK t i br ks sc
noncomputable def bP.G:ed:=fk (P:=Tryz.prog) [aw.sg,fD.sg,b8.sg,tid.sg,eG.sg,ak.sg]
noncomputable def bP.L0.E:=bU.cD bP.L0.st bP.L0.av bP.L0.add bP.L0.F bP.L0.out
noncomputable def bP.L0.call:bP.L0.D→Option bP.L0.X:=dw bP.L0.E bP.L0.st
noncomputable def bP.an:eQ:= {bX:=[5],loops:=jB [(7,{bn:=[1,5,10,13,14,52,53,54],sites:=[5,10,13,14,64],iE:=[⟨13,[.snd,.fst],64,48⟩]})],outs:=jA [(7,{bn:=[1,5,10,13],sites:=[5,10,13,64],BB:=[⟨13,[.snd,.fst],(.slice sJ)⟩]},{bn:=[10,11]})],fC:=kf [(7,bP.L0.E)],res:=[some gI,none]}
noncomputable def bP.A:= @cY Tryz.prog bP.G bP.an 0 Tryz.f16 _ bP.st
abbrev bP.Ok:=dd @bP.A bP.av bP.add bP.F bP.out
noncomputable def bP.L0.R:= @cj Tryz.prog bP.G bP.an 0 Tryz.f16 0 _ bP.L0.st
abbrev bP.L0.Ok:=ew Tryz.prog bP.G bP.an 0 Tryz.f16 0 bP.L0.st bP.L0.av bP.L0.add bP.L0.F bP.L0.out
theorem bP.L0.run:bM bP.L0.call bP.L0.av bP.L0.add bP.L0.F:=eM (eL [.d ti,.d tU,.d ti,.d ti,.d gI,.d (.pair ti .unit),.d ti,.n,.d (.pair tu .unit),.d tB,.d (.slice sJ)] fun _=>by kernel_rfl)
theorem bP.L0.aB:fQ @bP.L0.R bP.L0.st bP.L0.av bP.L0.add bP.L0.F bP.L0.bp bP.L0.Ok:=fU
theorem bP.L0.step{R:Type}(inv_2:Int)(t52:Bs)(t53:Int)(t54:Int)(n5:fv)(n10:(Int×Unit))(n13:Int)(n13L:Nat)(n13_2:(Int×Unit))(n14:Bs)(n64:(List Sg))(kn:AS→Option R)(kx:Exit→AS→Option R):bP.L0.R (inv_2,t52,t53,t54,n5,n10,n13,n13L,n13_2,n14,n64) kn kx=
  aG ((fM t54 t53)) (
   aG (eI t54 (((List.length t52):Nat):Int)) (
   ah (eG.call ((nth tu t52 (Int.toNat t54)),n14)) fun x4=>
   aG (decide (n13L≤(List.length n64))) (
   aG (db (n13L+1) 16) (
   kn (bP.L0.st (inv_2,t52,t53,(bN .i64 t54 (1:Int)),n5,n10,n13,(n13L+1),n13_2,n14,((List.take n13L n64)++ [x4])))) none) none) none) (
   aG (decide (0=0∧(0+n13L)≤(List.length n64))) (
   kx (bP.L0.bp ((inv_2,n5,n10),((n13,((cut n64 0 n13L),n13_2)),n64))).1 (bP.L0.bp ((inv_2,n5,n10),((n13,((cut n64 0 n13L),n13_2)),n64))).2) none):=by kernel_rfl
theorem bP.eq{R:Type}(t:fv)(inv:Int)(branch:Int)(keys:Bs)(secret:Int)(k:ba→Option R):bP.A (t,inv,branch,keys,secret) k=
  ah (aw.call t) fun x10=>
  aG ((!x10)) (
   k (bP.out ((([]:List ia),(([]:List gm),((0:Int),()))),(1:Int)))) (
   aG ((fM inv (0:Int))) (
    k (bP.out ((([]:List ia),(([]:List gm),((0:Int),()))),(1:Int)))) (
    aG ((nv inv (((List.length t.1):Nat):Int))) (
     k (bP.out ((([]:List ia),(([]:List gm),((0:Int),()))),(1:Int)))) (
     ah (fD.call (branch,(([]:List Sg),(secret,())))) fun x11=>
     aG ((!x11)) (
      k (bP.out ((([]:List ia),(([]:List gm),((0:Int),()))),(1:Int)))) (
      aG ((nN (((List.length keys):Nat):Int) (12:Int))) (
       k (bP.out ((([]:List ia),(([]:List gm),((0:Int),()))),(1:Int)))) (
       ah (b8.call keys) fun x12=>
       aG (x12) (
        k (bP.out ((([]:List ia),(([]:List gm),((0:Int),()))),(1:Int)))) (
        ah (tid.call t) fun x16=>
        ah (bP.L0.call (inv,keys,(((List.length keys):Nat):Int),(0:Int),t,((0:Int),()),branch,0,(secret,()),x16,([]:List Sg))) fun x26=>
        ah (ak.call x26.1.2.1) fun x30=>
        aG (eI x26.1.1 ((x30.1:Nat):Int)) (
        aG (decide ((0+(Int.toNat x26.1.1)) < (List.length x30.2.2))) (
        aG (decide ((((0+(Int.toNat x26.1.1))*36)+33)=((0+((Int.toNat x26.1.1)*36))+33))) (
        aG (decide ((0+(Int.toNat x26.1.1)) < (List.length x30.2.2))) (
        aG (decide (0=0∧(0+x30.1)≤(List.length (List.set x30.2.2 (0+(Int.toNat x26.1.1)) ((nth gz x30.2.2 (0+(Int.toNat x26.1.1))).1,(x26.2.1,(nth gz x30.2.2 (0+(Int.toNat x26.1.1))).2.2)))))) (
        k (bP.out (((cut (List.set x30.2.2 (0+(Int.toNat x26.1.1)) ((nth gz x30.2.2 (0+(Int.toNat x26.1.1))).1,(x26.2.1,(nth gz x30.2.2 (0+(Int.toNat x26.1.1))).2.2))) 0 x30.1),x30.2.1),(0:Int)))) none) none) none) none) none)))))):=by kernel_rfl
theorem bP.L0.ok:bP.L0.Ok:=by
 refine bP.L0.aB (fun(i0,l,n,i,t,e,br,L,sc,id,r)=>l.length - i.toNat) ?_
 rintro⟨i0,l,n,i,t,e,br,L,sc,id,r⟩ ⟨hlen,hu,hm,k,hk,rfl,rfl,rfl,hr⟩
 have hlen:l.length≤1000:=hlen
 have hk:k≤l.length:=hk
 have hr:r.length≤1000+k:=hr
 by_cases h:k < l.length
 ·left
  have n1:nth tu l k=l[k]:=cn (t:=tu) h
  have hd:List.drop k l=l[k]::List.drop (k+1) l:=List.drop_eq_getElem_cons h
  refine⟨(i0,l,l.length,((k+1:Nat):Int),t,e,br,r.length+1,sc,id,r++ [iH l[k] id]),⟨hlen,hu,hm,k+1,by omega,rfl,rfl,by rw[List.length_append];rfl,by rw[List.length_append];show r.length+1≤_;omega⟩,by simp only[Int.toNat_natCast];omega,?_,fun kn kx=> ?_⟩
  ·simp only[bP.L0.add,bP.L0.F,Int.toNat_natCast,hd,List.map_cons,List.append_assoc,List.singleton_append]
  ·rw[bP.L0.step,aW (by omega),bm (by omega) (by omega),Int.toNat_natCast,n1,eG.run (d:=(l[k],id)) ⟨hu _ (List.getElem_mem h),hm⟩]
   simp only[ae,aa,eG.add,eG.F]
   rw[aZ (Nat.le_refl _),cS (by omega) (by omega),N.j5 (by omega),List.take_length]
   rfl
 ·right
  obtain rfl:k=l.length:=by omega
  intro R kn kx
  rw[bP.L0.step,aO (by omega),ag]
  simp only[bP.L0.add,bP.L0.F,Int.toNat_natCast,List.drop_length,List.map_nil,List.append_nil,Nat.zero_add,Nat.le_refl,and_self,decide_true,ae,fb]
theorem bP.ok:bP.Ok:=by
 rintro⟨⟨is,os,nt,u⟩,i,br,ks,sc⟩ ⟨hv,hu,hl⟩
 have hv:nE (is,os,nt,u):=hv
 have hl:ks.length≤1000000000:=hl
 rw[bP.eq,aw.run (d:=(is,os,nt,u)) hv.1]
 simp only[aa,aw.add,aw.F,bP.add,bP.F,DK,oW]
 rcases Bool.eq_false_or_eq_true (gU (is,os,nt,u)) with hok | hok
 rotate_left
 ·simp only[hok];rfl
 obtain⟨⟨_,a2,a3,_⟩,b1,b2⟩:=iF hok
 have a2:is.length≤64:=a2
 simp only[hok,Bool.not_true,ag,Bool.true_and]
 by_cases h1:i < 0
 ·rw[aW h1,ae,bo (by omega)];rfl
 rw[aO h1,ag]
 by_cases h2:i≥(is.length:Int)
 ·rw[fF h2,ae,bo (by omega)];rfl
 rw[eZ h2,ag,fD.run (d:=(br,([],(sc,())))) trivial]
 simp only[aa,fD.add,fD.F,lT]
 by_cases h3:0≤br∧br < 4
 ·rw[aZ h3]
  by_cases h4:ks.length > 12
  ·rw[dY (by omega),bo (p:=0≤i∧i < (is.length:Int)∧0≤br∧br < 4∧ks.length≤12) (by omega)];rfl
  ·rw[dI (by omega),aZ (p:=0≤i∧i < (is.length:Int)∧0≤br∧br < 4∧ks.length≤12) (by omega),b8.run (d:=ks) ⟨fun _ _=>trivial,hl⟩]
   simp only[aa,b8.add,b8.F]
   rcases Bool.eq_false_or_eq_true (ks.any qw) with hb | hb
   rotate_left
   ·simp only[hb]
    obtain⟨k,rfl⟩:∃k:Nat,i=k:=⟨i.toNat,by omega⟩
    have hk:k < is.length:=by omega
    simp only[show(([]:List Sg).length≤12)=True from eq_true (Nat.zero_le _),decide_true,Bool.and_self,Bool.not_true,Bool.not_false,ag,Bool.true_and,if_true]
    rw[tid.run (d:=(is,os,nt,u)) hv]
    simp only[aa,tid.add,tid.F]
    rw[bP.L0.run (d:=((k:Int),ks,ks.length,0,(is,os,nt,u),(0,()),br,0,(sc,()),lS (is,os,nt,u),[])) ⟨by show ks.length≤_;omega,hu,uS,0,Nat.zero_le _,rfl,rfl,rfl,Nat.zero_le _⟩]
    simp only[aa,bP.L0.add,bP.L0.F,Int.toNat_zero,List.drop_zero,List.nil_append]
    rw[ak.run (d:=(is,os,nt,u)) hok]
    simp only[aa,ak.add,ak.F,Int.toNat_natCast,Nat.zero_add,Nat.add_zero,bm (show(0:Int)≤(k:Int) by omega) (show(k:Int) < (is.length:Int) by omega),ae,aZ hk,decide_true,List.length_set,Nat.le_refl,and_self]
    rw[fb (by rw[List.length_set])]
   ·simp only[hb];rfl
 ·rw[bo h3,bo (p:=0≤i∧i < (is.length:Int)∧0≤br∧br < 4∧ks.length≤12) (by omega)];rfl
noncomputable def bP.E:=Entry.cD [some gI,some ti,some ti,some tU,some tu] bP.st bP.av bP.add bP.F bP.out
noncomputable def bP.call:bP.D→Option bP.X:=bS bP.E bP.st
theorem bP.run:bM bP.call bP.av bP.add bP.F:=dq (df [.d gI,.d ti,.d ti,.d tU,.d tu] fun _=>by kernel_rfl)
noncomputable def bP.sg:SG Tryz.prog:=⟨16,aR,bP.E,.fn 1 (by kernel_rfl) bP.ok (And.intro (.cD bP.L0.ok (by kernel_rfl)) trivial)⟩
set_option synthInstance.maxSize 5000
abbrev gl:Ty:=(.pair fe (.pair ti .unit))
abbrev fa:=(gm×(Int×Unit))
abbrev eN:Ty:=(.pair ck (.pair gl .unit))
abbrev dM:=(cK×(fa×Unit))
abbrev dZ:Ty:=(.pair (.slice eN) (.pair (.slice ck) .unit))
abbrev dQ:=((List dM)×((List cK)×Unit))
abbrev kA:Ty:=(.pair ti (.pair gI (.pair ti .unit)))
abbrev sN:=(Int×(fv×(Int×Unit)))
abbrev fZ.D:=Bs×Bs
def fZ.st:fZ.D→SA:=fun(a,b)=>([.d tB a,.d tB b],[])
abbrev fZ.Y:=Int
abbrev fZ.X:=Int
def fZ.out:fZ.X→ba:=fun x=>⟨.d ti x,[],[]⟩
def fZ.add:fZ.D→fZ.Y→fZ.X:=fun(a,b) y=>y
def fZ.av:fZ.D→Prop:=fun _=>True
def fZ.F:fZ.D→fZ.Y:=fun(a,b)=>vf a b
noncomputable def fZ.G:ed:=fk (P:=Tryz.prog) [⟨156,aR,AM.E,AM.of (fn:=Tryz.f156) (by kernel_rfl) (by kernel_rfl) (by kernel_rfl) (by kernel_rfl) (by kernel_rfl)⟩]
noncomputable def fZ.an:eQ:= {}
noncomputable def fZ.A:= @cY Tryz.prog fZ.G fZ.an 0 Tryz.f82 _ fZ.st
abbrev fZ.Ok:=dd @fZ.A fZ.av fZ.add fZ.F fZ.out
theorem fZ.eq{R:Type}(a:Bs)(b:Bs)(k:ba→Option R):fZ.A (a,b) k=
 ah (AM.call (a,b)) fun x1=>
 k (fZ.out x1):=by kernel_rfl
theorem fZ.ok:fZ.Ok:=by
 rintro⟨a,b⟩ _
 rw[fZ.eq,AM.run]
 rfl
noncomputable def fZ.E:=Entry.cD [some tB,some tB] fZ.st fZ.av fZ.add fZ.F fZ.out
noncomputable def fZ.call:fZ.D→Option fZ.X:=bS fZ.E fZ.st
theorem fZ.run:bM fZ.call fZ.av fZ.add fZ.F:=dq (df [.d tB,.d tB] fun _=>by kernel_rfl)
noncomputable def fZ.sg:SG Tryz.prog:=⟨82,aR,fZ.E,.fn 0 (by kernel_rfl) fZ.ok trivial⟩
abbrev fK.D:=Int
def fK.st:fK.D→SA:=fun x=>([.d ti x],[])
abbrev fK.Y:=Bool
abbrev fK.X:=Bool
def fK.out:fK.X→ba:=fun x=>⟨.d .bool x,[],[]⟩
def fK.add:fK.D→fK.Y→fK.X:=fun x y=>y
def fK.av:fK.D→Prop:=fun _=>True
def fK.F:fK.D→fK.Y:=fun _=>false
noncomputable def fK.G:ed:=fk (P:=Tryz.prog) []
noncomputable def fK.an:eQ:= {}
noncomputable def fK.A:= @cY Tryz.prog fK.G fK.an 0 Tryz.f157 _ fK.st
abbrev fK.Ok:=dd @fK.A fK.av fK.add fK.F fK.out
theorem fK.eq{R:Type}(x:Int)(k:ba→Option R):fK.A x k=
 k (fK.out (mM x x)):=by kernel_rfl
theorem fK.ok:fK.Ok:=by
 intro x _
 rw[fK.eq]
 simp only[fK.add,fK.F,ct rfl]
noncomputable def fK.E:=Entry.cD [some ti] fK.st fK.av fK.add fK.F fK.out
noncomputable def fK.call:fK.D→Option fK.X:=bS fK.E fK.st
theorem fK.run:bM fK.call fK.av fK.add fK.F:=dq (df [.d ti] fun _=>by kernel_rfl)
noncomputable def fK.sg:SG Tryz.prog:=⟨157,aR,fK.E,.fn 0 (by kernel_rfl) fK.ok trivial⟩
def wS(x y:Int):Int:=if x < y then -1 else if x > y then 1 else 0
abbrev fJ.D:=Int×Int
def fJ.st:fJ.D→SA:=fun(x,yv)=>([.d ti x,.d ti yv],[])
abbrev fJ.Y:=Int
abbrev fJ.X:=Int
def fJ.out:fJ.X→ba:=fun x=>⟨.d ti x,[],[]⟩
def fJ.add:fJ.D→fJ.Y→fJ.X:=fun(x,yv) y=>y
def fJ.av:fJ.D→Prop:=fun _=>True
def fJ.F:fJ.D→fJ.Y:=fun(x,y)=>wS x y
noncomputable def fJ.G:ed:=fk (P:=Tryz.prog) [fK.sg]
noncomputable def fJ.an:eQ:= {}
noncomputable def fJ.A:= @cY Tryz.prog fJ.G fJ.an 0 Tryz.f83 _ fJ.st
abbrev fJ.Ok:=dd @fJ.A fJ.av fJ.add fJ.F fJ.out
theorem fJ.eq{R:Type}(x:Int)(yv:Int)(k:ba→Option R):fJ.A (x,yv) k=
  ah (fK.call x) fun x1=>
  ah (fK.call yv) fun x2=>
  aG (x1) (
   aG (x2) (
    k (fJ.out (0:Int))) (
    k (fJ.out (-1:Int)))) (
   aG (x2) (
    k (fJ.out (1:Int))) (
    aG ((fM x yv)) (
     k (fJ.out (-1:Int))) (
     aG ((nN x yv)) (
      k (fJ.out (1:Int))) (
      k (fJ.out (0:Int)))))):=by kernel_rfl
theorem fJ.ok:fJ.Ok:=by
 rintro⟨x,y⟩ _
 rw[fJ.eq,fK.run (d:=x) trivial]
 simp only[aa,fK.add,fK.F]
 rw[fK.run (d:=y) trivial]
 simp only[aa,fK.add,fK.F,ag,fJ.add,fJ.F,wS]
 by_cases h:x < y
 ·rw[aW h,ae,if_pos h]
 ·rw[aO h,ag,if_neg h]
  by_cases h2:x > y
  ·rw[dY h2,ae,if_pos h2]
  ·rw[dI h2,ag,if_neg h2]
noncomputable def fJ.E:=Entry.cD [some ti,some ti] fJ.st fJ.av fJ.add fJ.F fJ.out
noncomputable def fJ.call:fJ.D→Option fJ.X:=bS fJ.E fJ.st
theorem fJ.run:bM fJ.call fJ.av fJ.add fJ.F:=dq (df [.d ti,.d ti] fun _=>by kernel_rfl)
noncomputable def fJ.sg:SG Tryz.prog:=⟨83,aR,fJ.E,.fn 0 (by kernel_rfl) fJ.ok trivial⟩
abbrev fi.L0.D:=Int×(List Int)×Int×Int
def fi.L0.st:fi.L0.D→AS:=fun(zero,t6,t7,t8)=>⟨([.undef,.undef,.undef,.d ti zero,.undef,.undef,.d (.slice ti) t6,.d ti t7,.d ti t8]++bl 9 []),[],(List.replicate 18 [])⟩
abbrev fi.L0.Y0:=Int
abbrev fi.L0.X0:=Int
def fi.L0.bp:fi.L0.X0→Exit×AS:=fun x=>(.ret,⟨([.undef,.undef,.d ti x]++bl 15 []),[],(List.replicate 18 [])⟩)
abbrev fi.L0.Y1:=Unit
abbrev fi.L0.X1:=Int
def fi.L0.fA:fi.L0.X1→Exit×AS:=fun x=>(.exit 0,⟨([.undef,.undef,.undef,.d ti x]++bl 14 []),[],(List.replicate 18 [])⟩)
abbrev fi.L0.X:=(fi.L0.X0)⊕(fi.L0.X1)
abbrev fi.L0.Y:=(fi.L0.Y0)⊕(fi.L0.Y1)
def fi.L0.out:fi.L0.X→Out (Exit×AS):=fun x=> .br x.isLeft (.get x.getLeft? fun a=> .ok (fi.L0.bp a)) (.get x.getRight? fun b=> .ok (fi.L0.fA b))
def fi.L0.add:fi.L0.D→fi.L0.Y→fi.L0.X:=fun(zero,t6,t7,t8) y=>match y with | .inl y=> .inl y | .inr z=> .inr (zero)
abbrev fi.D:=(List Int)
def fi.st:fi.D→SA:=fun iJ=>([.d (.slice ti) iJ],[])
abbrev fi.Y:=Int
abbrev fi.X:=Int
def fi.out:fi.X→ba:=fun x=>⟨.d ti x,[],[]⟩
def fi.add:fi.D→fi.Y→fi.X:=fun iJ y=>y
def GK:List Int→Int
 |[]=>0
 |x::l=>if x≠0 then x else GK l
def Ft:List Int→Int⊕Unit
 |[]=> .inr ()
 |x::l=>if x≠0 then .inl x else Ft l
theorem Fu:∀l:List Int,GK l=match Ft l with | .inl x=>x | .inr _=>0
 |[]=>rfl
 |x::l=>by
  simp only[GK,Ft]
  split
  ·rfl
  ·exact Fu l
def fi.L0.av:fi.L0.D→Prop:=fun(z,l,n,i)=>z=0∧l.length≤1000000000∧n=l.length∧∃k:Nat,k≤l.length∧i=k
def fi.L0.F:fi.L0.D→fi.L0.Y:=fun(z,l,n,i)=>Ft (l.drop i.toNat)
def fi.av:fi.D→Prop:=fun l=>l.length≤1000000000
def fi.F:fi.D→fi.Y:=fun l=>GK l
noncomputable def fi.G:ed:=fk (P:=Tryz.prog) []
noncomputable def fi.L0.E:=bU.cD fi.L0.st fi.L0.av fi.L0.add fi.L0.F fi.L0.out
noncomputable def fi.L0.call:fi.L0.D→Option fi.L0.X:=dw fi.L0.E fi.L0.st
noncomputable def fi.an:eQ:= {loops:=jB [(3,{bn:=[3,6,7,8]})],outs:=jA [(3,{bn:=[3]},{bn:=[2]})],fC:=kf [(3,fi.L0.E)]}
noncomputable def fi.A:= @cY Tryz.prog fi.G fi.an 0 Tryz.f81 _ fi.st
abbrev fi.Ok:=dd @fi.A fi.av fi.add fi.F fi.out
noncomputable def fi.L0.R:= @cj Tryz.prog fi.G fi.an 0 Tryz.f81 0 _ fi.L0.st
abbrev fi.L0.Ok:=ew Tryz.prog fi.G fi.an 0 Tryz.f81 0 fi.L0.st fi.L0.av fi.L0.add fi.L0.F fi.L0.out
theorem fi.L0.run:bM fi.L0.call fi.L0.av fi.L0.add fi.L0.F:=eM (eL [.d ti,.d (.slice ti),.d ti,.d ti] fun _=>by kernel_rfl)
theorem fi.L0.aB:kC @fi.L0.R fi.L0.st fi.L0.av fi.L0.add fi.L0.F fi.L0.out fi.L0.Ok:=kL
theorem fi.L0.step{R:Type}(zero:Int)(t6:(List Int))(t7:Int)(t8:Int)(kn:AS→Option R)(kx:Exit→AS→Option R):fi.L0.R (zero,t6,t7,t8) kn kx=
  aG ((fM t8 t7)) (
   aG (eI t8 (((List.length t6):Nat):Int)) (
   aG ((mM (nth ti t6 (Int.toNat t8)) zero)) (
    kx (fi.L0.bp (nth ti t6 (Int.toNat t8))).1 (fi.L0.bp (nth ti t6 (Int.toNat t8))).2) (
    kn (fi.L0.st (zero,t6,t7,(bN .i64 t8 (1:Int)))))) none) (
   kx (fi.L0.fA zero).1 (fi.L0.fA zero).2):=by kernel_rfl
theorem fi.eq{R:Type}(iJ:(List Int))(k:ba→Option R):fi.A iJ k=
  ah (fi.L0.call ((0:Int),iJ,(((List.length iJ):Nat):Int),(0:Int))) fun x1=>
  aG (x1.isLeft) (
   ah (x1.getLeft?) fun a2=>
   k (fi.out a2)) (
   ah (x1.getRight?) fun b3=>
   k (fi.out b3)):=by kernel_rfl
theorem fi.L0.ok:fi.L0.Ok:=by
 refine fi.L0.aB (fun(z,l,n,i)=>l.length - i.toNat) ?_
 rintro⟨z,l,n,i⟩ ⟨rfl,hl,rfl,k,hk,rfl⟩
 by_cases h:k < l.length
 ·have hd:l.drop k=l[k]::l.drop (k+1):=List.drop_eq_getElem_cons h
  have n1:nth ti l k=l[k]:=cn (t:=ti) h
  by_cases h2:l[k]≠0
  ·right
   refine⟨fi.L0.bp l[k],?_,fun kn kx=> ?_⟩
   rotate_left
   ·rw[fi.L0.step,aW (by omega),ae,bm (by omega) (by omega),ae,Int.toNat_natCast,n1,fg h2,ae]
   ·simp only[fi.L0.add,fi.L0.F,Int.toNat_natCast,hd,Ft,if_pos h2]
    rfl
  ·left
   refine⟨(0,l,(l.length:Int),((k+1:Nat):Int)),⟨rfl,hl,rfl,k+1,by omega,rfl⟩,by simp only[Int.toNat_natCast];omega,?_,fun kn kx=> ?_⟩
   ·simp only[fi.L0.add,fi.L0.F,Int.toNat_natCast,hd,Ft,if_neg h2]
   ·rw[fi.L0.step,aW (by omega),ae,bm (by omega) (by omega),ae,Int.toNat_natCast,n1,ct (by omega),ag,N.j5 (by omega)]
 ·right
  obtain rfl:k=l.length:=by omega
  refine⟨fi.L0.fA 0,?_,fun kn kx=> ?_⟩
  rotate_left
  ·rw[fi.L0.step,aO (by omega),ag]
  ·simp only[fi.L0.add,fi.L0.F,Int.toNat_natCast,List.drop_length,Ft]
   rfl
theorem fi.ok:fi.Ok:=by
 intro l hl
 rw[fi.eq,fi.L0.run (d:=(0,l,(l.length:Int),0)) ⟨rfl,hl,rfl,0,Nat.zero_le _,rfl⟩]
 simp only[aa,fi.L0.add,fi.L0.F,Int.toNat_zero,List.drop_zero,fi.add,fi.F]
 rw[Fu]
 cases Ft l <;> rfl
noncomputable def fi.E:=Entry.cD [some (.slice ti)] fi.st fi.av fi.add fi.F fi.out
noncomputable def fi.call:fi.D→Option fi.X:=bS fi.E fi.st
theorem fi.run:bM fi.call fi.av fi.add fi.F:=dq (df [.d (.slice ti)] fun _=>by kernel_rfl)
noncomputable def fi.sg:SG Tryz.prog:=⟨81,aR,fi.E,.fn 1 (by kernel_rfl) fi.ok (And.intro (.cD fi.L0.ok (by kernel_rfl)) trivial)⟩
end Go.Ab
namespace Go.Ab
open Go.Sort (grow)
structure Gz(P:Program)(t:Ty)(g:FuncId)(Q:t.den→Prop)(cf:t.den→t.den→Int):Prop where
 cm:∃en,kD P g en∧∀x y,Q x→Q y→∃X,en.run [.d t x,.d t y] []=some X∧en.out [.d t x,.d t y] [] X=⟨.d (.int .i64) (cf x y),[],[]⟩
 enters:∀args w,(callFunc g args).run P w= .ok (.enter g args) w
 irrefl:∀x,Q x→¬cf x x < 0
 trans:∀x y z,Q x→Q y→Q z→cf x y < 0→cf y z < 0→cf x z < 0
 ntrans:∀x y z,Q x→Q y→Q z→¬cf x y < 0→¬cf y z < 0→¬cf x z < 0
theorem Ev{w w':World}(hos:w'.os=w.os)(htp:w'.tape=w.tape)(hout:w'.output=w.output∧w.drawn≤w'.drawn)(hsz:w.heap.size≤w'.heap.size)(hb:∀b:Nat,b < w.heap.size→w'.heap[b]? =w.heap[b]?):
  ∃q os,w'=grow (w.drewN q) os:=by
 obtain⟨h1,t1,d1,o1,p1⟩:=w
 obtain⟨h2,t2,d2,o2,p2⟩:=w'
 simp only at*
 obtain⟨hout,hd⟩:=hout
 subst hos htp hout
 obtain⟨q,rfl⟩:∃q,d2=d1+q:=⟨d2 - d1,by omega⟩
 refine⟨q,h2.extract h1.size h2.size,?_⟩
 have hh:h2=h1++h2.extract h1.size h2.size:=by
  apply Array.ext_getElem?
  intro i
  rw[Array.getElem?_append]
  by_cases hi:i < h1.size
  ·rw[if_pos hi,hb i hi]
  ·rw[if_neg hi,Array.getElem?_extract]
   by_cases h3:i < h2.size
   ·rw[if_pos (by omega)]
    congr 1;omega
   ·rw[if_neg (by omega),Array.getElem?_eq_none (by omega)]
 show({heap:=h2,tape:=_,drawn:=_,os:=_,output:=_}:World)= {heap:=h1++h2.extract h1.size h2.size,tape:=_,drawn:=_,os:=_,output:=_}
 rw[←hh]
 rfl
section
variable {P:Program} {t:Ty} {g:FuncId} {Q:t.den→Prop} {cf:t.den→t.den→Int}
theorem Gz.Ha(h:Gz P t g Q cf)(ha:t.agg=true){W:World}{cx cy:List Value}{x y:t.den}(hx:dy ((gE []).env W (fun _=> .free) (fun _=>none)) t cx x)
  (hy:dy ((gE []).env W (fun _=> .free) (fun _=>none)) t cy y) (qx:Q x) (qy:Q y):
  Calls P g #[.agg cx.toArray,.agg cy.toArray] W fun e w'=>e= .returned (.int .i64 (cf x y))∧∃q os,w'=grow (W.drewN q) os:=by
 obtain⟨en,hd,hrun⟩:=h.cm
 obtain⟨X,hX1,hX2⟩:=hrun x y qx qy
 have one:∀ {c:List Value} {z:t.den},dy ((gE []).env W (fun _=> .free) (fun _=>none)) t c z→VS ((gE []).env W (fun _=> .free) (fun _=>none)) (.d t z) (.agg c.toArray):=fun hz=>
  ⟨_,by simpa only[V]using hz,by show fy t.agg _ _;rw[ha];rfl⟩
 have ho:gR ((gE []).env W (fun _=> .free) (fun _=>none)):=fun id ver fr c h=>by
  exfalso
  cases id with
  |dx k=>simp[AS.env,AS.cm,gE]at h
  |new i j=>simp[AS.env,AS.cm,gE]at h
 rcases hd W (fun _=> .free) (fun _=>none) [.d t x,.d t y] [] [.agg cx.toArray,.agg cy.toArray] X ⟨one hx,one hy,trivial⟩ ho hX1 with⟨_,hc⟩ | ⟨v,w',hc,_⟩
 ·refine hc.mono fun e w' he=> ?_
  obtain⟨v,rfl,g',β',hv,_,ht,_⟩:=he
  rw[hX2]at hv
  obtain⟨cs,k1,k2⟩:=hv
  have k1:cs=[.int .i64 (cf x y)]:=k1
  subst k1
  have k2: [Value.int .i64 (cf x y)]=[v]:=k2
  have hv:v= .int .i64 (cf x y):=by simpa using k2.symm
  exact⟨by rw[hv],Ev ht.os ht.tape ht.output ht.size fun b hb=>(ht.sP b hb).2⟩
 ·rw[h.enters]at hc;cases hc
def Cn(cf:t.den→t.den→Int)(l l':List t.den):Prop:=l'.Perm l∧l'.Pairwise fun x y=>¬cf y x < 0
open Classical in
noncomputable def qi(cf:t.den→t.den→Int)(l:List t.den):List t.den:=if h:∃l',Cn cf l l' then h.choose else l
theorem xx(h:Gz P t g Q cf){l:List t.den}(hQ:∀x∈l,Q x):Cn cf l (qi cf l):=by
 have hx:∃l',Cn cf l l':=by
  let le: {x // Q x}→ {x // Q x}→Bool:=fun x y=> !decide (cf y.1 x.1 < 0)
  refine⟨((l.attachWith Q hQ).mergeSort le).map (·.1),?_,?_⟩
  ·have h1:=(List.mergeSort_perm (l.attachWith Q hQ) le).map (·.1)
   rwa[List.attachWith_map_subtype_val]at h1
  ·have h2:=List.pairwise_mergeSort (le:=le) (fun a b c h1 h2=>by
    simp only[le,Bool.not_eq_true',decide_eq_false_iff_not]at*
    exact h.ntrans _ _ _ c.2 b.2 a.2 h2 h1) (fun a b=>by
    simp only[le,Bool.or_eq_true,Bool.not_eq_true',decide_eq_false_iff_not]
    by_cases h1:cf b.1 a.1 < 0
    ·exact .inr fun h2=>h.irrefl _ a.2 (h.trans _ _ _ a.2 b.2 a.2 h2 h1)
    ·exact .inl h1) (l.attachWith Q hQ)
   rw[List.pairwise_map]
   exact h2.imp fun {a b} h3=>by simpa[le]using h3
 unfold qi
 rw[dif_pos hx]
 exact hx.choose_spec
theorem qj(h:Gz P t g Q cf){l l':List t.den}(hQ:∀x∈l,Q x)(hT:∀x∈l,∀y∈l,¬cf x y < 0→¬cf y x < 0→x=y)(hs:Cn cf l l'):l'=qi cf l:=by
 have h2:=xx h hQ
 exact List.Perm.eq_of_pairwise (fun a b ha hb h3 h4=>hT a (hs.1.mem_iff.1 ha) b (h2.1.mem_iff.1 hb) h4 h3) hs.2 h2.2 (hs.1.trans h2.1.symm)
def rr(g:FuncId)(e:TypeId)(t:Ty):Nat×List t.den→List aA×List er:=fun d=>([.bH (.dx 0) 0 [] 0 0 d.1,.fn g .nil],[.obj 0 false (.vec e t d.2)])
def uL(Q:t.den→Prop)(cf:t.den→t.den→Int):Nat×List t.den→Prop:=fun d=>d.1=d.2.length∧d.2.length < 4611686018427387904∧(∀x∈d.2,Q x)∧∀x∈d.2,∀y∈d.2,¬cf x y < 0→¬cf y x < 0→x=y
def Gu(e:TypeId)(t:Ty):Nat×List t.den→ba:=fun x=>⟨.nil,[.obj 0 false (.vec e t x.2)],[]⟩
noncomputable def EW(g:FuncId)(e:TypeId)(t:Ty)(Q:t.den→Prop)(cf:t.den→t.den→Int):Entry:=
 Entry.of [none,none] (rr g e t) (uL Q cf) (fun d=>(d.1,qi cf d.2)) (Gu e t)
theorem EX{g:FuncId}{e:TypeId}{t:Ty}(d d':Nat×List t.den)(h:rr g e t d=rr g e t d'):d=d':=by
 obtain⟨n,l⟩:=d
 obtain⟨n',l'⟩:=d'
 simp only[rr,Prod.mk.injEq,List.cons.injEq,aA.bH.injEq,er.obj.injEq,true_and,and_true]at h
 obtain⟨rfl,h2⟩:=h
 rw[E3 h2]
noncomputable def xw(g:FuncId)(e:TypeId)(t:Ty)(Q:t.den→Prop)(cf:t.den→t.den→Int):Nat×List t.den→Option (Nat×List t.den):=fun d=>(EW g e t Q cf).run (rr g e t d).1 (rr g e t d).2
theorem Be{g:FuncId}{e:TypeId}{t:Ty}{Q:t.den→Prop}{cf:t.den→t.den→Int}{d:Nat×List t.den}(h:uL Q cf d):xw g e t Q cf d=some (d.1,qi cf d.2):=Entry.nV EX h
theorem qB{R:List Value→t.den→Prop}:∀ {cs:List Value} {l:List t.den},bw R cs l→(∀x∈l,Q x)→∃ps:List {p:List Value×t.den // R p.1 p.2∧Q p.2},ps.map (·.1.2)=l∧(ps.map (·.1.1)).flatten=cs
 |cs,[],h,_=>⟨[],rfl,by have h:cs=[]:=h;rw[h];rfl⟩
 |cs,x::l,⟨c,cs',h1,h2,h3⟩,hq=>by
  obtain⟨ps,h4,h5⟩:=qB h3 fun y hy=>hq y (List.mem_cons_of_mem _ hy)
  exact⟨⟨(c,x),h2,hq x (List.mem_cons_self ..)⟩::ps,by simp[h4],by simp[h5,h1]⟩
theorem qT{R R':List Value→t.den→Prop}(hR:∀c x,R c x→R' c x):∀ps:List {p:List Value×t.den // R p.1 p.2∧Q p.2},bw R' (ps.map (·.1.1)).flatten (ps.map (·.1.2))
 |[]=>rfl
 |p::ps=>⟨p.1.1,(ps.map (·.1.1)).flatten,by simp,hR _ _ p.2.1,qT hR ps⟩
theorem ym{α:Type} [Inhabited α] (enc:α→List Value) {k:Nat} (hk:∀x,(enc x).length=k):∀(ps:List α) (j:Nat),j < ps.length*k→((ps.map enc).flatten)[j]? =(enc (ps.toArray[j / k]!))[j%k]?
 |[],j,h=>by simp at h
 |p::ps,j,h=>by
  have k0:0 < k:=by
   rcases Nat.eq_zero_or_pos k with h0 | h0
   ·subst h0;simp at h
   ·exact h0
  simp only[List.map_cons,List.flatten_cons]
  by_cases hj:j < k
  ·rw[List.getElem?_append_left (by rw[hk];exact hj),Nat.div_eq_of_lt hj,Nat.mod_eq_of_lt hj]
   rfl
  ·have e1:j / k=(j - k) / k+1:=by
    rw[Nat.div_eq_sub_div k0 (by omega)]
   have e2:j%k=(j - k)%k:=by rw[Nat.mod_eq_sub_mod (by omega)]
   rw[List.getElem?_append_right (by rw[hk];omega),hk,ym enc hk ps (j - k) (by simp only[List.length_cons,Nat.add_mul,Nat.one_mul]at h;omega),e1,e2]
   congr 2
   simp
theorem pW{α:Type} [Inhabited α] (enc:α→List Value) {k:Nat} (hk:∀x,(enc x).length=k) (d:Array α):(Go.Sort.flatK enc k d).toList=(d.toList.map enc).flatten:=by
 have hl:((d.toList.map enc).flatten).length=d.size*k:=by
  rw[List.length_flatten,List.map_map]
  have:(d.toList.map (List.length∘enc))=List.replicate d.size k:=by
   rw[List.eq_replicate_iff]
   exact⟨by simp,fun x hx=>by obtain⟨y,_,rfl⟩:=List.mem_map.1 hx;exact hk y⟩
  rw[this,List.sum_replicate_nat]
 apply List.ext_getElem?
 intro j
 by_cases hj:j < d.size*k
 ·rw[ym enc hk d.toList j (by simpa using hj)]
  have h2:(Go.Sort.flatK enc k d).toList[j]? =some ((Go.Sort.flatK enc k d)[j]!):=by
   rw[Array.getElem?_toList,getElem!_pos _ j (by rw[Go.Sort.size_flatK];exact hj)]
   simp[hj]
  rw[h2,Go.Sort.get_flatK _ _ _ _ hj]
  have hk0:0 < k:=by
   rcases Nat.eq_zero_or_pos k with h0 | h0
   ·subst h0;simp at hj
   ·exact h0
  have hm:j%k < k:=Nat.mod_lt _ hk0
  simp only[Array.toArray_toList]
  rw[List.getElem?_eq_getElem (by rw[hk];exact hm),getElem!_pos _ _ (by rw[hk];exact hm)]
 ·rw[List.getElem?_eq_none (by simpa using hj),List.getElem?_eq_none (by rw[hl];omega)]
theorem DA{F cur:Array Value}(h:F.size≤cur.size):(Go.Sort.putCells id 0 F cur).toList=F.toList++cur.toList.drop F.size:=by
 apply List.ext_getElem?
 intro j
 simp only[Go.Sort.putCells,Array.getElem?_toList,Array.getElem?_mapIdx,Nat.zero_le,true_and,Nat.zero_add,Nat.sub_zero,id]
 by_cases hj:j < F.size
 ·rw[List.getElem?_append_left (by simpa using hj),Array.getElem?_toList,Array.getElem?_eq_getElem hj,Array.getElem?_eq_getElem (by omega),Option.map_some,if_pos hj,getElem!_pos F j hj]
 ·rw[List.getElem?_append_right (by simpa using hj),List.getElem?_drop,Array.getElem?_toList,Array.length_toList,show F.size+(j - F.size)=j by omega]
  cases cur[j]? with
  |none=>rfl
  |some y=>rw[Option.map_some,if_neg hj]
end
section
open Go.Proofs Go.Shelf Go.Lib Go.Sort
variable {P:Program} {ρ:Go.Shelf.Ren} {t:Ty} {g:FuncId} {Q:t.den→Prop} {cf:t.den→t.den→Int}
theorem uM{α:Type} [Inhabited α] (enc:α→List Value) (k:Nat) (w:World) (sP m:Nat) (dk:Array α) (os:Array Obj) {b:Nat} (hb:b < w.heap.size) (hne:b≠sP):(sortWorldK enc k w sP 0 m dk os).heap[b]? =w.heap[b]? :=by
 show((w.heap.modify sP _)++os)[b]? =_
 rw[Array.getElem?_append,if_pos (by simpa using hb),Array.getElem?_modify,if_neg (fun e=>hne e.symm)]
theorem E1{α:Type} [Inhabited α] (enc:α→List Value) (k:Nat) (w:World) (sP m:Nat) (dk:Array α) (os:Array Obj) {cur:Array Value} {e:TypeId} {fr:Nat×Nat} (hb:w.heap[sP]? =some (.cells cur e fr)):
  (sortWorldK enc k w sP 0 m dk os).heap[sP]? =some (.cells (putCells id 0 (flatK enc k dk) cur) e fr):=by
 have hlt:sP < w.heap.size:=(Array.getElem?_eq_some_iff.1 hb).1
 show((w.heap.modify sP _)++os)[sP]? =_
 rw[Array.getElem?_append,if_pos (by simpa using hlt),Array.getElem?_modify,if_pos rfl,hb]
 rfl
set_option maxHeartbeats 1000000 in
theorem DQ(L:SlLaysF0.n6 P ρ){e:TypeId}(ha:t.agg=true)(aE:∀w,(isAgg (ρ.t 24)).run P w= .ok true w)(zE:∀w,(Go.sizeOf (ρ.t 24)).run P w= .ok t.size w)(hc:Gz P t g Q cf):
  kD P (ρ.f 6) (EW g e t Q cf):=by
 intro w γ β args dD iJ x hv ho hx
 obtain⟨d0,hd0,hpre⟩:∃d,rr g e t d=(args,dD)∧uL Q cf d:=by
  by_cases hh:∃d,rr g e t d=(args,dD)∧uL Q cf d
  ·exact hh
  ·exfalso
   have hn:(EW g e t Q cf).run args dD=none:=dif_neg hh
   rw[hn]at hx
   cases hx
 have hr:=Be (g:=g) (e:=e) hpre
 unfold xw at hr
 rw[hd0]at hr
 obtain rfl:x=(d0.1,qi cf d0.2):=Option.some.inj (hx.symm.trans hr)
 obtain⟨n,l⟩:=d0
 simp only[rr,Prod.mk.injEq]at hd0
 obtain⟨rfl,rfl⟩:=hd0
 obtain⟨hn,hsz,hQ,hT⟩:=hpre
 have hn:n=l.length:=hn
 subst hn
 match iJ,hv with
 |[y1,y2],⟨hv1,hv2,_⟩=>
 obtain⟨vs,rfl,hvs⟩:=AQ hv2
 have hvs:vs=[]:=by simpa only[VC]using hvs
 subst hvs
 have h1:=hv1.single rfl rfl
 simp only[V]at h1
 obtain⟨a,cap,h1,hcap,hsome,_,hcur⟩:=h1
 have h1:y1= .slice a l.length cap:=by simpa using h1
 subst h1
 have hent:(gE [er.obj 0 false (.vec e t l)]).cm (.dx 0)=some (.obj 0 false (.vec e t l)):=rfl
 obtain⟨hz,hO⟩:GU ((gE [er.obj 0 false (.vec e t l)]).env w γ β) (.dx 0) false e t l:=ho (.dx 0) 0 false _ hent
 have hcur:=hcur ⟨false,_,hent⟩
 refine .inl ⟨L.f6.enters rfl _ _,?_⟩
 have hnil:∀v:Value,v= .tuple #[]→VS ((ba.st ⟨.nil,[.obj 0 false (.vec e t (qi cf l))],[]⟩).env w γ β) .nil v:=fun v hv=>by rw[hv];exact rfl
 have hS:=xx hc hQ
 by_cases hl:l=[]
 ·subst hl
  have hs:qi cf ([]:List t.den)=[]:=List.eq_nil_of_length_eq_zero hS.1.length_eq
  refine(AnyF.slices_SortFunc_none L a cap _ w).mono fun e' w' he=> ?_
  obtain⟨rfl,rfl⟩:=he
  refine⟨_,rfl,?_⟩
  show mH _ (⟨.nil,[.obj 0 false (.vec e t (qi cf []))],[]⟩:ba) _ _
  rw[hs]
  exact mH.same rfl ho
 ·have hpos:0 < l.length:=List.length_pos_iff.2 hl
  change (match β (.dx 0) with | none=>l=[] | some pl=>∃cur k,w.heap[pl.b]? =some (.cells cur e (0,0))∧cur.size=pl.cap*t.size∧l.length≤pl.cap∧pl.cap≤maxLen∧γ pl.b= .own (.id (.dx 0)) k∧
   k≤l.length*t.size∧(false=false→k=0)∧bw (dy ((gE [er.obj 0 false (.vec e t l)]).env w γ β) t) (cur.toList.take (l.length*t.size)) l) at hO
  change (match β (.dx 0) with | some pl=>(0 < l.length∨True→a=some ⟨pl.b,0,none⟩)∧(True→True→cap=pl.cap) | none=>a=none∧l.length=0∧cap=0) at hcur
  cases hβ:β (.dx 0) with
  |none=>rw[hβ]at hO;exact absurd hO hl
  |some pl=>
  rw[hβ]at hO hcur
  obtain⟨cur,k0,q1,q2,q3,q4,q5,_,q7,q8⟩:=hO
  obtain rfl:=q7 rfl
  obtain rfl:=hcur.1 (.inl hpos)
  have hblk:pl.b < w.heap.size:=(Array.getElem?_eq_some_iff.1 q1).1
  obtain⟨R,hR⟩:∃R:List Value→t.den→Prop,R=dy ((gE [er.obj 0 false (.vec e t l)]).env w γ β) t:=⟨_,rfl⟩
  have hRm:∀c x,R c x→dy ((gE [er.obj 0 false (.vec e t l)]).env w γ β) t c x:=by rw[hR];exact fun _ _ h=>h
  rw[←hR]at q8
  obtain⟨ps,p1,p2⟩:=qB (Q:=Q) q8 hQ
  have hps:ps.length=l.length:=by rw[←p1,List.length_map]
  let α:= {p:List Value×t.den // R p.1 p.2∧Q p.2}
  have:0 < ps.length:=by omega
  letI:Inhabited α:=⟨ps[0]⟩
  let enc:α→List Value:=fun p=>p.1.1
  let cf':α→α→Int:=fun p q=>cf p.1.2 q.1.2
  have hk:∀x,(enc x).length=t.size:=fun x=>(hRm _ _ x.2.1).size
  have hO:SWO (ltOf cf'):=⟨fun x=>by simpa[ltOf,cf']using hc.irrefl _ x.2.2,fun x y z h1 h2=>by
   simp only[ltOf,decide_eq_true_eq,cf']at*
   exact hc.trans _ _ _ x.2.2 y.2.2 z.2.2 h1 h2,fun x y z h1 h2=>by
   simp only[ltOf,decide_eq_false_iff_not,cf']at*
   exact hc.ntrans _ _ _ x.2.2 y.2.2 z.2.2 h1 h2⟩
  have hcell:∀j,j < l.length*t.size→cur[j]? =((ps.map enc).flatten)[j]? :=fun j hj=>by
   have:(ps.map enc).flatten=cur.toList.take (l.length*t.size):=p2
   rw[this,List.getElem?_take,if_pos hj,Array.getElem?_toList]
  have hH:HoldsK enc t.size w pl.b 0 ps.toArray:=fun j hj=>by
   rw[size_flatK]at hj
   have hj:j < ps.length*t.size:=by simpa using hj
   have h2:=hcell j (by rw[←hps];exact hj)
   have h3:((flatK enc t.size ps.toArray).toList)[j]? =((ps.map enc).flatten)[j]? :=by rw[pW enc hk]
   rw[Array.getElem?_toList,Array.getElem?_eq_getElem (by rw[size_flatK];simpa using hj)]at h3
   refine⟨?_,?_⟩
   ·show(match w.heap[pl.b]? with | some (.cells c _ _)=>if(none:Option _).isSome then none else c[0+j]? | _=>none)=_
    rw[q1]
    simp only[Option.isSome_none,Bool.false_eq_true,if_false,Nat.zero_add]
    rw[h2,←h3,getElem!_pos _ j (by rw[size_flatK];simpa using hj)]
    rfl
   ·show(match w.heap[pl.b]? with | some (.cells _ _ (lo,hi))=>decide (lo≤0+j) && decide (0+j < hi) | _=>false)=false
    rw[q1]
    simp
  have hmem:∀(m:Nat) (dk:Array α) (os:Array Obj),kF ((gE [er.obj 0 false (.vec e t l)]).env w γ β) ((gE []).env (sortWorldK enc t.size w pl.b 0 m dk os) (fun _=> .free) (fun _=>none)):=fun m dk os=>by
   refine⟨fun b off v hh=>⟨?_,trivial⟩,fun b ob hf hob=>⟨rfl,?_⟩⟩
   ·obtain⟨h1,h2⟩:=hh
    have hb:b < w.heap.size:=World.block_lt_of_cell? _ _ h1
    have hne:b≠pl.b:=fun e=>by
     have h2:kE γ b off:=h2
     unfold kE at h2
     rw[e,q5]at h2
     exact Nat.not_lt_zero _ h2
    have h1:w.cell? ⟨b,off,none⟩=some v:=h1
    show(sortWorldK enc t.size w pl.b 0 m dk os).cell? ⟨b,off,none⟩=some v
    simpa only[World.cell?,uM enc t.size w pl.b m dk os hb hne]using h1
   ·have hob:w.heap[b]? =some ob:=hob
    have hb:b < w.heap.size:=(Array.getElem?_eq_some_iff.1 hob).1
    have hne:b≠pl.b:=fun e=>by
     have hf:γ b= .free:=hf
     rw[e,q5]at hf;cases hf
    exact(uM enc t.size w pl.b m dk os hb hne).trans hob
  have hcmp:CmpLays P g #[] enc t.size cf' pl.b 0 ps.toArray.size w:=fun m os dk _ p q=>
   hc.Ha ha ((hRm _ _ p.2.1).mono (hmem m dk os)) ((hRm _ _ q.2.1).mono (hmem m dk os)) p.2.2 q.2.2
  have hcon:=AnyQ.slices_SortFunc L t.size aE zE enc hk (fun p=>(hRm _ _ p.2.1).one) cf' hO g #[] pl.b 0 cap ps.toArray w hc.enters hcmp hH hblk (by simpa[hps]using hsz)
  rw[show ps.toArray.size=l.length by simpa using hps]at hcon
  refine hcon.mono fun e' w' he=> ?_
  obtain⟨rfl,d',m,os,hp,hs,rfl⟩:=he
  refine⟨_,rfl,?_⟩
  obtain⟨s1,_,s2⟩:=hp
  have hd:d'.size=l.length:=by rw[s1];simpa using hps
  have hperm:d'.toList.Perm ps:=by
   have e1:(d'.extract 0 l.length)=d':=by rw[←hd];simp
   have e2:(ps.toArray.extract 0 l.length)=ps.toArray:=by rw[←hps];simp
   rw[e1,e2]at s2
   exact s2
  have hl':Cn cf l (d'.toList.map (·.1.2)):=by
   refine⟨by rw[←p1];exact hperm.map _,?_⟩
   rw[List.pairwise_map,List.pairwise_iff_getElem]
   intro i j hi hj hij
   have:=hs i j (Nat.zero_le _) hij (by rw[←hd];simpa using hj)
   rw[getElem!_pos d' i (by simpa using hi),getElem!_pos d' j (by simpa using hj)]at this
   simpa[ltOf,cf']using this
  have heq:=qj hc hQ hT hl'
  show mH _ (⟨.nil,[.obj 0 false (.vec e t (qi cf l))],[]⟩:ba) _ _
  rw[←heq]
  have hself:=E1 enc t.size w pl.b m d' os q1
  have hFs:(flatK enc t.size d').size≤cur.size:=by
   rw[size_flatK,hd,q2]
   exact Nat.mul_le_mul_right _ q3
  have hoth:∀b,b < w.heap.size→b≠pl.b→(sortWorldK enc t.size w pl.b 0 m d' os).heap[b]? =w.heap[b]? :=fun b hb hne=>uM enc t.size w pl.b m d' os hb hne
  have hsize:w.heap.size≤(sortWorldK enc t.size w pl.b 0 m d' os).heap.size:=size_sortWorldK_c enc t.size w pl.b 0 m d' os
  have hw:(sortWorldK enc t.size w pl.b 0 m d' os).os=w.os∧(sortWorldK enc t.size w pl.b 0 m d' os).tape=w.tape∧((sortWorldK enc t.size w pl.b 0 m d' os).output=w.output∧w.drawn≤(sortWorldK enc t.size w pl.b 0 m d' os).drawn):=⟨rfl,rfl,rfl,Nat.le_add_right _ _⟩
  generalize sortWorldK enc t.size w pl.b 0 m d' os=w' at hself hoth hsize hw
  have ht:Trans w w' γ γ:=by
   refine⟨hw.1,hw.2.1,hw.2.2,hsize,fun b hb=> ?_⟩
   by_cases hbb:b=pl.b
   ·subst hbb
    rw[q5]
    exact⟨.inr ⟨_,0,rfl,Nat.le_refl _⟩,fun _ _ hh=>by omega⟩
   ·rw[hoth b hb hbb]
    cases hgb:γ b with
    |free=>exact⟨rfl,rfl⟩
    |own o' k=>cases o' with
     |fh=>exact⟨rfl,rfl⟩
     |id i'=>exact⟨.inr ⟨i',k,rfl,Nat.le_refl _⟩,fun off v _ hv=>by simpa only[World.cell?,hoth b hb hbb]using hv⟩
  have hle:cQ ((gE [er.obj 0 false (.vec e t l)]).env w γ β) ((ba.st ⟨.nil,[.obj 0 false (.vec e t (d'.toList.map (·.1.2)))],[]⟩).env w' γ β):=by
   have e0:∀id,(∃c,(gE [er.obj 0 false (.vec e t l)]).cm id=some (.obj 0 false c)∧id= .dx 0)∨((gE [er.obj 0 false (.vec e t l)]).cm id=none∧(ba.st ⟨.nil,[.obj 0 false (.vec e t (d'.toList.map (·.1.2)))],[]⟩).cm id=none):=fun id=>by
    cases id with
    |dx k=>cases k with
     |zero=>exact .inl ⟨_,rfl,rfl⟩
     |succ k=>exact .inr ⟨rfl,rfl⟩
    |new i j=>refine .inr ⟨?_,?_⟩ <;> cases i <;> rfl
   refine⟨Trans.mem (E:=(gE [er.obj 0 false (.vec e t l)]).env w γ β) (E':=(ba.st ⟨.nil,[.obj 0 false (.vec e t (d'.toList.map (·.1.2)))],[]⟩).env w' γ β) ht,fun id ver hb=> ?_,fun id ver hb hcu=> ?_⟩
   ·rcases e0 id with⟨c,_,rfl⟩ | ⟨h1,_⟩
    ·refine⟨by show(some _:Option er)≠none;simp,fun v fr c h=> ?_⟩
     have h:some (er.obj 0 false (.vec e t (d'.toList.map (·.1.2))))=some (.obj v fr c):=h
     simp only[Option.some.injEq,er.obj.injEq]at h
     have:=hb.2 0 false _ rfl
     omega
    ·exact absurd h1 hb.1
   ·rcases e0 id with⟨c,_,rfl⟩ | ⟨h1,_⟩
    ·obtain⟨fr,c,h⟩:=hcu
     have h:some (er.obj 0 false (.vec e t (d'.toList.map (·.1.2))))=some (.obj ver fr c):=h
     simp only[Option.some.injEq,er.obj.injEq]at h
     obtain⟨rfl,rfl,_⟩:=h
     exact⟨⟨false,_,rfl⟩,rfl⟩
    ·exact absurd h1 hb.1
  refine⟨γ,β,rfl,fun id ver fr c h=> ?_,ht,hle⟩
  have hid:id= .dx 0∧ver=0∧fr=false∧c= .vec e t (d'.toList.map (·.1.2)):=by
   cases id with
   |dx k=>cases k with
    |zero=>
     have h:some (er.obj 0 false (.vec e t (d'.toList.map (·.1.2))))=some (.obj ver fr c):=h
     simp only[Option.some.injEq,er.obj.injEq]at h
     obtain⟨rfl,rfl,rfl⟩:=h
     exact⟨rfl,rfl,rfl,rfl⟩
    |succ k=>cases h
   |new i j=>cases i <;> cases h
  obtain⟨rfl,rfl,rfl,rfl⟩:=hid
  refine⟨hz,?_⟩
  show(match β (.dx 0) with | none=>(d'.toList.map (·.1.2))=[] | some pl=>_)
  rw[hβ]
  have hlen:(d'.toList.map (fun p:α=>p.1.2)).length=l.length:=by simpa using hd
  refine⟨_,0,hself,?_,by rw[hlen];exact q3,q4,q5,Nat.zero_le _,fun _=>rfl,?_⟩
  ·rw[←q2];simp[putCells]
  ·have e3:(putCells id 0 (flatK enc t.size d') cur).toList.take ((d'.toList.map (fun p:α=>p.1.2)).length*t.size)=(d'.toList.map enc).flatten:=by
    rw[DA hFs,pW enc hk,hlen]
    have e4:((d'.toList.map enc).flatten).length=l.length*t.size:=by
     rw[←pW enc hk,Array.length_toList,size_flatK,hd]
    rw[←e4,List.take_left]
   rw[e3]
   exact qT (Q:=Q) (fun c x h=>(hRm c x h).mono hle.mem) d'.toList
end
end Go.Ab
namespace Go.Ab
open Go.Proofs
set_option maxRecDepth 100000
set_option linter.unusedVariables false
set_option linter.unusedSimpArgs false
set_option synthInstance.maxSize 5000
set_option synthInstance.maxSize 5000
set_option synthInstance.maxSize 5000
abbrev ai.L0.D:=fv×Int×(Int×Unit)×Nat×(Int×Unit)×(List ia)
def ai.L0.st:ai.L0.D→AS:=fun(t_2,i,n2,n3L,n3,n36)=>⟨([.undef,.ej gI t_2,.ptr (.new 2 0) 0 [] 0,.ptr (.new 3 0) 0 [] 0,.d ti i]++bl 89 []),[],([[],[],[.obj 0 false (.pr (.dV) (.pr (.dV) (.d (.pair ti .unit) n2)))],[.obj 0 false (.pr (.bH (.new 36 0) 0 [] 0 0 n3L) (.pr (.dV) (.d (.pair ti .unit) n3)))]]++ch 32 ([[.obj 0 false (.vec 52 gz n36)]]++ch 57 []))⟩
abbrev ai.L0.Y0:=Nat×(List ia)
abbrev ai.L0.X0:=(fv×(Int×Unit)×(Int×Unit))×(Nat×(List ia))
def ai.L0.bp:ai.L0.X0→Exit×AS:=fun x=>(.exit 0,⟨([.undef,.ej gI x.1.1,.ptr (.new 2 0) 0 [] 0,.ptr (.new 3 0) 0 [] 0]++bl 90 []),[],([[],[],[.obj 0 false (.pr (.dV) (.pr (.dV) (.d (.pair ti .unit) x.1.2.1)))],[.obj 0 false (.pr (.bH (.new 36 0) 0 [] 0 0 x.2.1) (.pr (.dV) (.d (.pair ti .unit) x.1.2.2)))]]++ch 32 ([[.obj 0 false (.vec 52 gz x.2.2)]]++ch 57 []))⟩)
abbrev ai.L0.X:=ai.L0.X0
abbrev ai.L0.Y:=ai.L0.Y0
def ai.L0.out:ai.L0.X→Out (Exit×AS):=fun x=> .ok (ai.L0.bp x)
def ai.L0.add:ai.L0.D→ai.L0.Y→ai.L0.X:=fun(t_2,i,n2,n3L,n3,n36) y=>((t_2,n2,n3),y)
abbrev ai.L1.D:=fv×Int×(Int×Unit)×Nat×Nat×(Int×Unit)×(List ia)×(List gm)
def ai.L1.st:ai.L1.D→AS:=fun(t_3,i_2,n2_2,n3L_2,n3L_3,n3_2,n36_2,n91)=>⟨([.undef,.ej gI t_3,.ptr (.new 2 0) 0 [] 0,.ptr (.new 3 0) 0 [] 0,.undef,.undef,.d ti i_2]++bl 87 []),[],([[],[],[.obj 0 false (.pr (.dV) (.pr (.dV) (.d (.pair ti .unit) n2_2)))],[.obj 0 false (.pr (.bH (.new 36 0) 0 [] 0 0 n3L_2) (.pr (.bH (.new 91 0) 0 [] 0 0 n3L_3) (.d (.pair ti .unit) n3_2)))]]++ch 32 ([[.obj 0 false (.vec 52 gz n36_2)]]++ch 54 [[.obj 0 false (.vec 36 fe n91)],[],[]]))⟩
abbrev ai.L1.Y0:=(Int×Unit)×Nat×Nat×(Int×Unit)×(List ia)×(List gm)
abbrev ai.L1.X0:=(Int×Unit)×Nat×Nat×(Int×Unit)×(List ia)×(List gm)
def ai.L1.bp:ai.L1.X0→Exit×AS:=fun x=>(.exit 2,⟨([.undef,.undef,.ptr (.new 2 0) 0 [] 0,.ptr (.new 3 0) 0 [] 0]++bl 90 []),[],([[],[],[.obj 0 false (.pr (.dV) (.pr (.dV) (.d (.pair ti .unit) x.1)))],[.obj 0 false (.pr (.bH (.new 36 0) 0 [] 0 0 x.2.1) (.pr (.bH (.new 91 0) 0 [] 0 0 x.2.2.1) (.d (.pair ti .unit) x.2.2.2.1)))]]++ch 32 ([[.obj 0 false (.vec 52 gz x.2.2.2.2.1)]]++ch 54 [[.obj 0 false (.vec 36 fe x.2.2.2.2.2)],[],[]]))⟩)
abbrev ai.L1.X:=ai.L1.X0
abbrev ai.L1.Y:=ai.L1.Y0
def ai.L1.out:ai.L1.X→Out (Exit×AS):=fun x=> .ok (ai.L1.bp x)
def ai.L1.add:ai.L1.D→ai.L1.Y→ai.L1.X:=fun(t_3,i_2,n2_2,n3L_2,n3L_3,n3_2,n36_2,n91) y=>y
abbrev ai.L2.D:=fv×Int×Int×(Int×Unit)×Nat×Nat×(Int×Unit)×Int×Nat×(List ia)×(List ik)×(List gm)
def ai.L2.st:ai.L2.D→AS:=fun(t_4,i_3,kv,n2_3,n3L_4,n3L_5,n3_3,n7,n7L,n36_3,n84,n91_2)=>⟨([.undef,.ej gI t_4,.ptr (.new 2 0) 0 [] 0,.ptr (.new 3 0) 0 [] 0,.undef,.undef,.d ti i_3,.ptr (.new 7 0) 0 [] 0,.d ti kv]++bl 85 []),[],([[],[],[.obj 0 false (.pr (.dV) (.pr (.dV) (.d (.pair ti .unit) n2_3)))],[.obj 0 false (.pr (.bH (.new 36 0) 0 [] 0 0 n3L_4) (.pr (.bH (.new 91 0) 0 [] 0 0 n3L_5) (.d (.pair ti .unit) n3_3)))],[],[],[],[.obj 0 false (.pr (.d ti n7) (.pr (.pr (.bH (.new 84 0) 0 [] 0 0 n7L) (.d .unit ())) (.d .unit ())))]]++ch 28 ([[.obj 0 false (.vec 52 gz n36_3)]]++ch 47 ([[.obj 0 false (.vec 29 fX n84)]]++ch 6 [[.obj 0 false (.vec 36 fe n91_2)],[],[]])))⟩
abbrev ai.L2.Y0:=Nat×(List ik)
abbrev ai.L2.X0:=(fv×Int×(Int×Unit)×Nat×Nat×(Int×Unit)×Int×(List ia)×(List gm))×(Nat×(List ik))
def ai.L2.bp:ai.L2.X0→Exit×AS:=fun x=>(.exit 4,⟨([.undef,.ej gI x.1.1,.ptr (.new 2 0) 0 [] 0,.ptr (.new 3 0) 0 [] 0,.undef,.undef,.d ti x.1.2.1,.ptr (.new 7 0) 0 [] 0]++bl 86 []),[],([[],[],[.obj 0 false (.pr (.dV) (.pr (.dV) (.d (.pair ti .unit) x.1.2.2.1)))],[.obj 0 false (.pr (.bH (.new 36 0) 0 [] 0 0 x.1.2.2.2.1) (.pr (.bH (.new 91 0) 0 [] 0 0 x.1.2.2.2.2.1) (.d (.pair ti .unit) x.1.2.2.2.2.2.1)))],[],[],[],[.obj 0 false (.pr (.d ti x.1.2.2.2.2.2.2.1) (.pr (.pr (.bH (.new 84 0) 0 [] 0 0 x.2.1) (.d .unit ())) (.d .unit ())))]]++ch 28 ([[.obj 0 false (.vec 52 gz x.1.2.2.2.2.2.2.2.1)]]++ch 47 ([[.obj 0 false (.vec 29 fX x.2.2)]]++ch 6 [[.obj 0 false (.vec 36 fe x.1.2.2.2.2.2.2.2.2)],[],[]])))⟩)
abbrev ai.L2.X:=ai.L2.X0
abbrev ai.L2.Y:=ai.L2.Y0
def ai.L2.out:ai.L2.X→Out (Exit×AS):=fun x=> .ok (ai.L2.bp x)
def ai.L2.add:ai.L2.D→ai.L2.Y→ai.L2.X:=fun(t_4,i_3,kv,n2_3,n3L_4,n3L_5,n3_3,n7,n7L,n36_3,n84,n91_2) y=>((t_4,i_3,n2_3,n3L_4,n3L_5,n3_3,n7,n36_3,n91_2),y)
abbrev ai.D:=fv
def ai.st:ai.D→SA:=fun t=>([.d gI t],[])
abbrev ai.Y:=Nat×Nat×(Int×Unit)×(List ia)×(List gm)
abbrev ai.X:=Nat×Nat×(Int×Unit)×(List ia)×(List gm)
def ai.out:ai.X→ba:=fun x=>⟨.pr (.bH (.new 0 0) 0 [] 0 0 x.1) (.pr (.bH (.new 0 1) 0 [] 0 0 x.2.1) (.d (.pair ti .unit) x.2.2.1)),[],[.obj 0 false (.vec 52 gz x.2.2.2.1),.obj 0 false (.vec 36 fe x.2.2.2.2)]⟩
def ai.add:ai.D→ai.Y→ai.X:=fun t y=>y
def ai.L0.av:ai.L0.D→Prop:=fun(t,i,u,L,v,r)=>(t.1).length≤1000000∧∃k:Nat,k≤(t.1).length∧i=k∧L=(r).length∧(r).length≤1000000+k∧(∀x∈t.1,x.2.1.2.1.length≤1000000)
def ai.L0.F:ai.L0.D→ai.L0.Y:=fun(t,i,u,L,v,r)=>(L+(List.drop (Int.toNat i) t.1).length,r++(List.drop (Int.toNat i) t.1).map (fun x:ia=>x))
def ai.L2.av:ai.L2.D→Prop:=fun(t,j,i,u,L4,L5,v,am,L,is,r,os)=>((nth fe t.2.1 (Int.toNat j)).2.1.1).length≤1000000∧∃k:Nat,k≤((nth fe t.2.1 (Int.toNat j)).2.1.1).length∧i=k∧L=(r).length∧(r).length≤1000000+k∧(0≤j∧j < (t.2.1.length:Int))∧(∀x∈(nth fe t.2.1 (Int.toNat j)).2.1.1,x.1.length≤1000000)
def ai.L2.F:ai.L2.D→ai.L2.Y:=fun(t,j,i,u,L4,L5,v,am,L,is,r,os)=>(L+(List.drop (Int.toNat i) (nth fe t.2.1 (Int.toNat j)).2.1.1).length,r++(List.drop (Int.toNat i) (nth fe t.2.1 (Int.toNat j)).2.1.1).map (fun x:ik=>x))
def ai.L1.av:ai.L1.D→Prop:=fun(t,i,u,L3,L,v,is,r)=>(t.2.1.length≤1000∧∀x∈t.2.1,x.2.1.1.length≤1000∧∀b∈x.2.1.1,b.1.length≤1000000)∧∃k:Nat,k≤t.2.1.length∧i=k∧L=r.length∧r.length=k
def ai.L1.F:ai.L1.D→ai.L1.Y:=fun(t,i,u,L3,L,v,is,r)=>(u,L3,L+(t.2.1.drop i.toNat).length,v,is,r++t.2.1.drop i.toNat)
def E8(t:fv):Prop:=(t.1.length≤1000∧∀x∈t.1,x.2.1.2.1.length≤1000000)∧t.2.1.length≤1000∧∀x∈t.2.1,x.2.1.1.length≤1000∧∀b∈x.2.1.1,b.1.length≤1000000
def ai.av:ai.D→Prop:=fun t=>E8 t
def ai.F:ai.D→ai.Y:=fun t=>(t.1.length,t.2.1.length,(t.2.2.1,()),t.1,t.2.1)
noncomputable def ai.G:ed:=fk (P:=Tryz.prog) []
noncomputable def ai.L0.E:=bU.cD ai.L0.st ai.L0.av ai.L0.add ai.L0.F ai.L0.out
noncomputable def ai.L0.call:ai.L0.D→Option ai.L0.X:=dw ai.L0.E ai.L0.st
noncomputable def ai.L1.E:=bU.cD ai.L1.st ai.L1.av ai.L1.add ai.L1.F ai.L1.out
noncomputable def ai.L1.call:ai.L1.D→Option ai.L1.X:=dw ai.L1.E ai.L1.st
noncomputable def ai.L2.E:=bU.cD ai.L2.st ai.L2.av ai.L2.add ai.L2.F ai.L2.out
noncomputable def ai.L2.call:ai.L2.D→Option ai.L2.X:=dw ai.L2.E ai.L2.st
noncomputable def ai.an:eQ:= {bX:=[25,74],loops:=jB [(3,{bn:=[1,2,3,4],sites:=[2,3,36],iE:=[⟨3,[.fst],36,38⟩]}),(9,{bn:=[1,2,3,6],sites:=[2,3,36,91],iE:=[⟨3,[.snd,.fst],91,37⟩]}),(13,{bn:=[1,2,3,6,7,8],sites:=[2,3,7,36,84,91],iE:=[⟨7,[.snd,.fst,.fst],84,32⟩]})],outs:=jA [(3,{bn:=[1,2,3],sites:=[2,3,36]},{bn:=[2]}),(9,{bn:=[2,3],sites:=[2,3,36,91]},{bn:=[2]}),(13,{bn:=[1,2,3,6,7],sites:=[2,3,7,36,84,91]},{bn:=[2]})],fC:=kf [(3,ai.L0.E),(9,ai.L1.E),(13,ai.L2.E)]}
noncomputable def ai.A:= @cY Tryz.prog ai.G ai.an 0 Tryz.f91 _ ai.st
abbrev ai.Ok:=dd @ai.A ai.av ai.add ai.F ai.out
noncomputable def ai.L0.R:= @cj Tryz.prog ai.G ai.an 0 Tryz.f91 0 _ ai.L0.st
abbrev ai.L0.Ok:=ew Tryz.prog ai.G ai.an 0 Tryz.f91 0 ai.L0.st ai.L0.av ai.L0.add ai.L0.F ai.L0.out
noncomputable def ai.L1.R:= @cj Tryz.prog ai.G ai.an 0 Tryz.f91 1 _ ai.L1.st
abbrev ai.L1.Ok:=ew Tryz.prog ai.G ai.an 0 Tryz.f91 1 ai.L1.st ai.L1.av ai.L1.add ai.L1.F ai.L1.out
noncomputable def ai.L2.R:= @cj Tryz.prog ai.G ai.an 0 Tryz.f91 2 _ ai.L2.st
abbrev ai.L2.Ok:=ew Tryz.prog ai.G ai.an 0 Tryz.f91 2 ai.L2.st ai.L2.av ai.L2.add ai.L2.F ai.L2.out
theorem ai.L0.run:bM ai.L0.call ai.L0.av ai.L0.add ai.L0.F:=eM (eL [.d gI,.d ti,.d (.pair ti .unit),.n,.d (.pair ti .unit),.d (.slice gz)] fun _=>by kernel_rfl)
theorem ai.L0.aB:fQ @ai.L0.R ai.L0.st ai.L0.av ai.L0.add ai.L0.F ai.L0.bp ai.L0.Ok:=fU
theorem ai.L0.step{R:Type}(t_2:fv)(i:Int)(n2:(Int×Unit))(n3L:Nat)(n3:(Int×Unit))(n36:(List ia))(kn:AS→Option R)(kx:Exit→AS→Option R):ai.L0.R (t_2,i,n2,n3L,n3,n36) kn kx=
  aG ((fM i (((List.length t_2.1):Nat):Int))) (
   aG (eI i (((List.length t_2.1):Nat):Int)) (
   aG (db (0+(List.length (nth gz t_2.1 (Int.toNat i)).2.1.2.1)) 16) (
   aG (decide (0=0∧(0+(0+(List.length (nth gz t_2.1 (Int.toNat i)).2.1.2.1)))≤(List.length ((List.take 0 (List.replicate 0 ((0:Int),((0:Int),()))))++(nth gz t_2.1 (Int.toNat i)).2.1.2.1)))) (
   aG (decide (n3L≤(List.length n36))) (
   aG (db (n3L+1) 80) (
   kn (ai.L0.st (t_2,(bN .i64 i (1:Int)),n2,(n3L+1),n3,((List.take n3L n36)++ [((nth gz t_2.1 (Int.toNat i)).1,(((nth gz t_2.1 (Int.toNat i)).2.1.1,((cut ((List.take 0 (List.replicate 0 ((0:Int),((0:Int),()))))++(nth gz t_2.1 (Int.toNat i)).2.1.2.1) 0 (0+(List.length (nth gz t_2.1 (Int.toNat i)).2.1.2.1))),(nth gz t_2.1 (Int.toNat i)).2.1.2.2)),(nth gz t_2.1 (Int.toNat i)).2.2))])))) none) none) none) none) none) (
   kx (ai.L0.bp ((t_2,n2,n3),(n3L,n36))).1 (ai.L0.bp ((t_2,n2,n3),(n3L,n36))).2):=by kernel_rfl
theorem ai.L1.run:bM ai.L1.call ai.L1.av ai.L1.add ai.L1.F:=eM (eL [.d gI,.d ti,.d (.pair ti .unit),.n,.n,.d (.pair ti .unit),.d (.slice gz),.d (.slice fe)] fun _=>by kernel_rfl)
theorem ai.L1.aB:fQ @ai.L1.R ai.L1.st ai.L1.av ai.L1.add ai.L1.F ai.L1.bp ai.L1.Ok:=fU
theorem ai.L1.step{R:Type}(t_3:fv)(i_2:Int)(n2_2:(Int×Unit))(n3L_2:Nat)(n3L_3:Nat)(n3_2:(Int×Unit))(n36_2:(List ia))(n91:(List gm))(kn:AS→Option R)(kx:Exit→AS→Option R):ai.L1.R (t_3,i_2,n2_2,n3L_2,n3L_3,n3_2,n36_2,n91) kn kx=
  aG ((fM i_2 (((List.length t_3.2.1):Nat):Int))) (
   aG (eI i_2 (((List.length t_3.2.1):Nat):Int)) (
   ah (ai.L2.call (t_3,i_2,(0:Int),n2_2,n3L_2,n3L_3,n3_2,(nth fe t_3.2.1 (Int.toNat i_2)).1,0,n36_2,([]:List ik),n91)) fun x1=>
   aG (decide (0=0∧(0+x1.2.1)≤(List.length x1.2.2))) (
   aG (decide (x1.1.2.2.2.2.1≤(List.length x1.1.2.2.2.2.2.2.2.2))) (
   aG (db (x1.1.2.2.2.2.1+1) 32) (
   kn (ai.L1.st (x1.1.1,(bN .i64 x1.1.2.1 (1:Int)),x1.1.2.2.1,x1.1.2.2.2.1,(x1.1.2.2.2.2.1+1),x1.1.2.2.2.2.2.1,x1.1.2.2.2.2.2.2.2.1,((List.take x1.1.2.2.2.2.1 x1.1.2.2.2.2.2.2.2.2)++ [(x1.1.2.2.2.2.2.2.1,(((cut x1.2.2 0 x1.2.1),()),()))])))) none) none) none) none) (
   kx (ai.L1.bp (n2_2,n3L_2,n3L_3,n3_2,n36_2,n91)).1 (ai.L1.bp (n2_2,n3L_2,n3L_3,n3_2,n36_2,n91)).2):=by kernel_rfl
theorem ai.L2.run:bM ai.L2.call ai.L2.av ai.L2.add ai.L2.F:=eM (eL [.d gI,.d ti,.d ti,.d (.pair ti .unit),.n,.n,.d (.pair ti .unit),.d ti,.n,.d (.slice gz),.d (.slice fX),.d (.slice fe)] fun _=>by kernel_rfl)
theorem ai.L2.aB:fQ @ai.L2.R ai.L2.st ai.L2.av ai.L2.add ai.L2.F ai.L2.bp ai.L2.Ok:=fU
theorem ai.L2.step{R:Type}(t_4:fv)(i_3:Int)(kv:Int)(n2_3:(Int×Unit))(n3L_4:Nat)(n3L_5:Nat)(n3_3:(Int×Unit))(n7:Int)(n7L:Nat)(n36_3:(List ia))(n84:(List ik))(n91_2:(List gm))(kn:AS→Option R)(kx:Exit→AS→Option R):ai.L2.R (t_4,i_3,kv,n2_3,n3L_4,n3L_5,n3_3,n7,n7L,n36_3,n84,n91_2) kn kx=
  aG (eI i_3 (((List.length t_4.2.1):Nat):Int)) (
  aG ((fM kv (((List.length (nth fe t_4.2.1 (Int.toNat i_3)).2.1.1):Nat):Int))) (
   aG (eI i_3 (((List.length t_4.2.1):Nat):Int)) (
   aG (eI kv (((List.length (nth fe t_4.2.1 (Int.toNat i_3)).2.1.1):Nat):Int)) (
   aG (db (0+(List.length (nth fX (nth fe t_4.2.1 (Int.toNat i_3)).2.1.1 (Int.toNat kv)).1)) 8) (
   aG (decide (0=0∧(0+(0+(List.length (nth fX (nth fe t_4.2.1 (Int.toNat i_3)).2.1.1 (Int.toNat kv)).1)))≤(List.length ((List.take 0 (List.replicate 0 (0:Int)))++(nth fX (nth fe t_4.2.1 (Int.toNat i_3)).2.1.1 (Int.toNat kv)).1)))) (
   aG (decide (n7L≤(List.length n84))) (
   aG (db (n7L+1) 48) (
   kn (ai.L2.st (t_4,i_3,(bN .i64 kv (1:Int)),n2_3,n3L_4,n3L_5,n3_3,n7,(n7L+1),n36_3,((List.take n7L n84)++ [((cut ((List.take 0 (List.replicate 0 (0:Int)))++(nth fX (nth fe t_4.2.1 (Int.toNat i_3)).2.1.1 (Int.toNat kv)).1) 0 (0+(List.length (nth fX (nth fe t_4.2.1 (Int.toNat i_3)).2.1.1 (Int.toNat kv)).1))),(nth fX (nth fe t_4.2.1 (Int.toNat i_3)).2.1.1 (Int.toNat kv)).2)]),n91_2))) none) none) none) none) none) none) (
   kx (ai.L2.bp ((t_4,i_3,n2_3,n3L_4,n3L_5,n3_3,n7,n36_3,n91_2),(n7L,n84))).1 (ai.L2.bp ((t_4,i_3,n2_3,n3L_4,n3L_5,n3_3,n7,n36_3,n91_2),(n7L,n84))).2)) none:=by kernel_rfl
theorem ai.eq{R:Type}(t:fv)(k:ba→Option R):ai.A t k=
 ah (ai.L0.call (t,(0:Int),((0:Int),()),0,(t.2.2.1,()),([]:List ia))) fun x1=>
 ah (ai.L1.call (x1.1.1,(0:Int),x1.1.2.1,x1.2.1,0,x1.1.2.2,x1.2.2,([]:List gm))) fun x4=>
 k (ai.out (x4.2.1,x4.2.2.1,x4.2.2.2.1,x4.2.2.2.2.1,x4.2.2.2.2.2)):=by kernel_rfl
theorem ai.L0.ok:ai.L0.Ok:=by
 refine ai.L0.aB (fun(t,i,u,L,v,r)=>(t.1).length - Int.toNat i) ?_
 rintro⟨t,i,u,L,v,r⟩ ⟨hlen,k,hk,rfl,rfl,hrow,hx⟩
 have hlen:(t.1).length≤1000000:=hlen
 have hk:k≤(t.1).length:=hk
 have hrow:(r).length≤1000000+k:=hrow
 have hx:∀x∈t.1,x.2.1.2.1.length≤1000000:=hx
 by_cases h:k < (t.1).length
 ·left
  have n1:nth gz t.1 k=t.1[k]:=cn (t:=gz) h
  have hd:List.drop k t.1=t.1[k]::List.drop (k+1) t.1:=List.drop_eq_getElem_cons h
  refine⟨(t,((k+1:Nat):Int),u,(r).length+1,v,r++ [(fun x:ia=>x) t.1[k]]),⟨hlen,k+1,by omega,rfl,by rw[List.length_append];rfl,by rw[List.length_append];show(r).length+1≤_;omega,hx⟩,by simp only[Int.toNat_natCast];omega,?_,fun kn kx=> ?_⟩
  ·simp only[ai.L0.add,ai.L0.F,Int.toNat_natCast,hd,List.map_cons,List.length_cons,List.append_assoc,List.singleton_append]
   rw[show ∀a c:Nat,a+1+c=a+(c+1) from fun a c=>by omega]
  ·rw[ai.L0.step,aW (by omega),bm (show(0:Int)≤(k:Int) by omega) (by omega),Int.toNat_natCast,n1]
   simp only[ae]
   have e:=hx _ (List.getElem_mem h)
   have hr:db t.1[k].2.1.2.1.length 16=true:=cS (by omega) (by omega)
   simp only[Nat.zero_add,List.take_zero,List.nil_append,hr,ae,Nat.le_refl,and_self,decide_true,fb]
   rw[cS (by omega) (by omega),N.j5 (by omega),List.take_length]
   rfl
 ·right
  obtain rfl:k=(t.1).length:=by omega
  intro R kn kx
  rw[ai.L0.step,aO (by omega),ag]
  simp only[ai.L0.add,ai.L0.F,Int.toNat_natCast,List.drop_length,List.map_nil,List.append_nil,List.length_nil,Nat.add_zero]
theorem ai.L2.ok:ai.L2.Ok:=by
 refine ai.L2.aB (fun(t,j,i,u,L4,L5,v,am,L,is,r,os)=>((nth fe t.2.1 (Int.toNat j)).2.1.1).length - Int.toNat i) ?_
 rintro⟨t,j,i,u,L4,L5,v,am,L,is,r,os⟩ ⟨hlen,k,hk,rfl,rfl,hrow,hj,hx⟩
 have hlen:((nth fe t.2.1 (Int.toNat j)).2.1.1).length≤1000000:=hlen
 have hk:k≤((nth fe t.2.1 (Int.toNat j)).2.1.1).length:=hk
 have hrow:(r).length≤1000000+k:=hrow
 have hj:0≤j∧j < (t.2.1.length:Int):=hj
 have hx:∀x∈(nth fe t.2.1 (Int.toNat j)).2.1.1,x.1.length≤1000000:=hx
 by_cases h:k < ((nth fe t.2.1 (Int.toNat j)).2.1.1).length
 ·left
  have n1:nth fX (nth fe t.2.1 (Int.toNat j)).2.1.1 k=(nth fe t.2.1 (Int.toNat j)).2.1.1[k]:=cn (t:=fX) h
  have hd:List.drop k (nth fe t.2.1 (Int.toNat j)).2.1.1=(nth fe t.2.1 (Int.toNat j)).2.1.1[k]::List.drop (k+1) (nth fe t.2.1 (Int.toNat j)).2.1.1:=List.drop_eq_getElem_cons h
  refine⟨(t,j,((k+1:Nat):Int),u,L4,L5,v,am,(r).length+1,is,r++ [(fun x:ik=>x) (nth fe t.2.1 (Int.toNat j)).2.1.1[k]],os),⟨hlen,k+1,by omega,rfl,by rw[List.length_append];rfl,by rw[List.length_append];show(r).length+1≤_;omega,hj,hx⟩,by simp only[Int.toNat_natCast];omega,?_,fun kn kx=> ?_⟩
  ·simp only[ai.L2.add,ai.L2.F,Int.toNat_natCast,hd,List.map_cons,List.length_cons,List.append_assoc,List.singleton_append]
   rw[show ∀a c:Nat,a+1+c=a+(c+1) from fun a c=>by omega]
  ·rw[ai.L2.step,bm hj.1 hj.2,ae,aW (by omega),bm (show(0:Int)≤(k:Int) by omega) (by omega),Int.toNat_natCast,n1]
   simp only[ae]
   have e:=hx _ (List.getElem_mem h)
   have hr:db (nth fe t.2.1 (Int.toNat j)).2.1.1[k].1.length 8=true:=cS (by omega) (by omega)
   simp only[Nat.zero_add,List.take_zero,List.nil_append,hr,ae,Nat.le_refl,and_self,decide_true,fb]
   rw[cS (by omega) (by omega),N.j5 (by omega),List.take_length]
   rfl
 ·right
  obtain rfl:k=((nth fe t.2.1 (Int.toNat j)).2.1.1).length:=by omega
  intro R kn kx
  rw[ai.L2.step,bm hj.1 hj.2,ae,aO (by omega),ag]
  simp only[ai.L2.add,ai.L2.F,Int.toNat_natCast,List.drop_length,List.map_nil,List.append_nil,List.length_nil,Nat.add_zero]
theorem ai.L1.ok:ai.L1.Ok:=by
 refine ai.L1.aB (fun(t,i,u,L3,L,v,is,r)=>t.2.1.length - i.toNat) ?_
 rintro⟨t,i,u,L3,L,v,is,r⟩ ⟨⟨hl,hx⟩,k,hk,rfl,rfl,hrk⟩
 have hl:t.2.1.length≤1000:=hl
 have hk:k≤t.2.1.length:=hk
 have hrk:r.length=k:=hrk
 by_cases h:k < t.2.1.length
 ·left
  have e:=hx _ (List.getElem_mem h)
  have n1:nth fe t.2.1 k=t.2.1[k]:=cn (t:=fe) h
  have hd:t.2.1.drop k=t.2.1[k]::t.2.1.drop (k+1):=List.drop_eq_getElem_cons h
  have e1:(nth fe t.2.1 (Int.toNat (k:Int))).2.1.1=t.2.1[k].2.1.1:=by rw[Int.toNat_natCast,n1]
  refine⟨(t,((k+1:Nat):Int),u,L3,r.length+1,v,is,r++ [t.2.1[k]]),⟨⟨hl,hx⟩,k+1,by omega,rfl,by rw[List.length_append];rfl,by rw[List.length_append];show r.length+1=_;omega⟩,by simp only[Int.toNat_natCast];omega,?_,fun kn kx=> ?_⟩
  ·simp only[ai.L1.add,ai.L1.F,Int.toNat_natCast,hd,List.length_cons,List.append_assoc,List.singleton_append]
   rw[show ∀a c:Nat,a+1+c=a+(c+1) from fun a c=>by omega]
  ·rw[ai.L1.step,aW (by omega),bm (by omega) (by omega),Int.toNat_natCast,n1]
   simp only[ae]
   rw[ai.L2.run (d:=(t,(k:Int),0,u,L3,r.length,v,t.2.1[k].1,0,is,[],r)) ⟨by rw[e1];omega,0,Nat.zero_le _,rfl,rfl,Nat.zero_le _,⟨by show(0:Int)≤(k:Int);omega,by show(k:Int) < (t.2.1.length:Int);omega⟩,by rw[e1];exact e.2⟩]
   simp only[aa,ai.L2.add,ai.L2.F,e1,Int.toNat_zero,List.drop_zero,List.nil_append,Nat.zero_add,List.map_id',Nat.le_refl,and_self,decide_true,ae,fb]
   rw[cS (by omega) (by omega),N.j5 (by omega),List.take_length]
   rfl
 ·right
  obtain rfl:k=t.2.1.length:=by omega
  intro R kn kx
  rw[ai.L1.step,aO (by omega),ag]
  simp only[ai.L1.add,ai.L1.F,Int.toNat_natCast,List.drop_length,List.append_nil,List.length_nil,Nat.add_zero]
theorem ai.ok:ai.Ok:=by
 rintro⟨is,os,nt,u⟩ ⟨⟨h1,h2⟩,h3,h4⟩
 have h1:is.length≤1000:=h1
 have h3:os.length≤1000:=h3
 rw[ai.eq,ai.L0.run (d:=((is,os,nt,u),0,(0,()),0,(nt,()),[])) ⟨by show is.length≤_;omega,0,Nat.zero_le _,rfl,rfl,Nat.zero_le _,h2⟩]
 simp only[aa,ai.L0.add,ai.L0.F,Int.toNat_zero,List.drop_zero,List.nil_append,Nat.zero_add,List.map_id']
 rw[ai.L1.run (d:=((is,os,nt,u),0,(0,()),is.length,0,(nt,()),is,[])) ⟨⟨h3,h4⟩,0,Nat.zero_le _,rfl,rfl,rfl⟩]
 simp only[aa,ai.L1.add,ai.L1.F,Int.toNat_zero,List.drop_zero,List.nil_append,Nat.zero_add]
 rfl
noncomputable def ai.E:=Entry.cD [some gI] ai.st ai.av ai.add ai.F ai.out
noncomputable def ai.call:ai.D→Option ai.X:=bS ai.E ai.st
theorem ai.run:bM ai.call ai.av ai.add ai.F:=dq (df [.d gI] fun _=>by kernel_rfl)
noncomputable def ai.sg:SG Tryz.prog:=⟨91,aR,ai.E,.fn 3 (by kernel_rfl) ai.ok (And.intro (.cD ai.L0.ok (by kernel_rfl)) (And.intro (.cD ai.L1.ok (by kernel_rfl)) (And.intro (.cD ai.L2.ok (by kernel_rfl)) trivial)))⟩
set_option synthInstance.maxSize 5000
abbrev ga.D:=cK×cK
def ga.st:ga.D→SA:=fun(a,b)=>([.d ck a,.d ck b],[])
abbrev ga.Y:=Int
abbrev ga.X:=Int
def ga.out:ga.X→ba:=fun x=>⟨.d ti x,[],[]⟩
def ga.add:ga.D→ga.Y→ga.X:=fun(a,b) y=>y
def mU(a b:cK):Int:=GK [vf a.1 b.1,wS a.2.1 b.2.1]
def ga.av:ga.D→Prop:=fun(a,b)=>a.1.length=32∧b.1.length=32
def ga.F:ga.D→ga.Y:=fun(a,b)=>mU a b
noncomputable def ga.G:ed:=fk (P:=Tryz.prog) [fZ.sg,fJ.sg,fi.sg]
noncomputable def ga.an:eQ:= {}
noncomputable def ga.A:= @cY Tryz.prog ga.G ga.an 0 Tryz.f80 _ ga.st
abbrev ga.Ok:=dd @ga.A ga.av ga.add ga.F ga.out
theorem ga.eq{R:Type}(a:cK)(b:cK)(k:ba→Option R):ga.A (a,b) k=
 ah (fZ.call ((cut a.1 0 32),(cut b.1 0 32))) fun x1=>
 ah (fJ.call (a.2.1,b.2.1)) fun x2=>
 ah (fi.call [x1,x2]) fun x3=>
 k (ga.out x3):=by kernel_rfl
theorem ga.ok:ga.Ok:=by
 rintro⟨a,b⟩ ⟨ha,hb⟩
 have ha:a.1.length=32:=ha
 have hb:b.1.length=32:=hb
 have c1:cut a.1 0 32=a.1:=fb ha
 have c2:cut b.1 0 32=b.1:=fb hb
 rw[ga.eq,c1,c2,fZ.run (d:=(a.1,b.1)) trivial]
 simp only[aa,fZ.add,fZ.F]
 rw[fJ.run (d:=(a.2.1,b.2.1)) trivial]
 simp only[aa,fJ.add,fJ.F]
 rw[fi.run (d:=[vf a.1 b.1,wS a.2.1 b.2.1]) (by show 2≤_;decide)]
 simp only[aa,fi.add,fi.F,ga.add,ga.F,mU]
noncomputable def ga.E:=Entry.cD [some ck,some ck] ga.st ga.av ga.add ga.F ga.out
noncomputable def ga.call:ga.D→Option ga.X:=bS ga.E ga.st
theorem ga.run:bM ga.call ga.av ga.add ga.F:=dq (df [.d ck,.d ck] fun _=>by kernel_rfl)
noncomputable def ga.sg:SG Tryz.prog:=⟨80,aR,ga.E,.fn 0 (by kernel_rfl) ga.ok trivial⟩
def lx:List Int→List Int→Int
 |x::xs,y::ys=>if x≠y then(if x < y then -1 else 1) else lx xs ys
 |_,_=>0
theorem A2:∀a,lx a a=0
 |[]=>rfl
 |x::a=>by simp[lx,A2 a]
theorem Fo:∀ {a b:List Int},a.length=b.length→lx a b=0→a=b
 |[],[],_,_=>rfl
 |[],_::_,h,_=>by simp at h
 |_::_,[],h,_=>by simp at h
 |x::a,y::b,h,h2=>by
  simp only[lx]at h2
  split at h2
  ·split at h2 <;> omega
  ·rename_i e
   have e:x=y:=by omega
   rw[e,Fo (by simpa using h) h2]
theorem rR:∀a b:List Int,lx b a= - lx a b
 |[],[]=>rfl
 |[],_::_=>rfl
 |_::_,[]=>rfl
 |x::a,y::b=>by
  simp only[lx]
  by_cases h:x=y
  ·rw[if_neg (by omega),if_neg (by omega),rR a b]
  ·rw[if_pos (by omega),if_pos h]
   by_cases h2:x < y
   ·rw[if_neg (by omega),if_pos h2];rfl
   ·rw[if_pos (by omega),if_neg h2]
theorem ue:∀ {a b c:List Int},a.length=b.length→b.length=c.length→lx a b≤0→lx b c≤0→lx a c≤0∧(lx a c=0→lx a b=0∧lx b c=0)
 |[],[],[],_,_,_,_=>by simp[lx]
 |x::a,y::b,z::c,h1,h2,h3,h4=>by
  have ih:=ue (a:=a) (b:=b) (c:=c) (by simpa using h1) (by simpa using h2)
  simp only[lx]at h3 h4 ⊢
  by_cases e1:x=y
  ·by_cases e2:y=z
   ·rw[if_neg (by omega)]at h3 h4
    rw[if_neg (by omega),if_neg (by omega),if_neg (by omega)]
    exact ih h3 h4
   ·rw[if_neg (by omega)]at h3
    rw[if_pos e2]at h4
    rw[if_pos (by omega)]
    by_cases e3:y < z
    ·rw[if_pos (by omega)]
     exact⟨by omega,fun h=>by omega⟩
    ·rw[if_neg e3]at h4;omega
  ·rw[if_pos e1]at h3
   by_cases e3:x < y
   ·by_cases e2:y=z
    ·rw[if_pos (by omega),if_pos (by omega)]
     exact⟨by omega,fun h=>by omega⟩
    ·rw[if_pos e2]at h4
     by_cases e4:y < z
     ·rw[if_pos (by omega),if_pos (by omega)]
      exact⟨by omega,fun h=>by omega⟩
     ·rw[if_neg e4]at h4;omega
   ·rw[if_neg e3]at h3;omega
 |[],_::_,_,h,_,_,_=>by simp at h
 |_::_,[],_,h,_,_,_=>by simp at h
 |_,[],_::_,_,h,_,_=>by simp at h
 |_,_::_,[],_,h,_,_=>by simp at h
def GL(a b:Int):Int:=if a=0 then b else a
theorem xh{p:Int}{a b:List Int}:lx (p::a) (p::b)=lx a b:=by simp[lx]
theorem rS{p q:Int}{a b:List Int}(h:¬p=q):lx (p::a) (q::b)=if p < q then -1 else 1:=by simp[lx,h]
theorem tf:∀ {a b:List Int} (x y:Int),a.length=b.length→lx (a++ [x]) (b++ [y])=GL (lx a b) (wS x y)
 |[],[],x,y,_=>by
  show lx [x] [y]=GL 0 (wS x y)
  simp only[GL,if_true]
  unfold wS
  by_cases h:x=y
  ·subst h
   rw[xh,if_neg (by omega),if_neg (by omega)]
   rfl
  ·rw[rS h]
   by_cases h2:x < y
   ·rw[if_pos h2,if_pos h2]
   ·rw[if_neg h2,if_neg h2,if_pos (by omega)]
 |[],_::_,_,_,h=>by simp at h
 |_::_,[],_,_,h=>by simp at h
 |p::a,q::b,x,y,h=>by
  show lx (p::(a++ [x])) (q::(b++ [y]))=_
  by_cases h2:p=q
  ·subst h2
   rw[xh,xh]
   exact tf x y (by simpa using h)
  ·rw[rS h2,rS h2]
   by_cases h3:p < q
   ·rw[if_pos h3];rfl
   ·rw[if_neg h3];rfl
def CG:List UInt8→List UInt8→Int
 |x::xs,y::ys=>if x !=y then(if x < y then -1 else 1) else CG xs ys
 |_,_=>0
theorem yc:∀(xs ys:List UInt8),xs.length=ys.length→(match(List.range xs.length).find? fun i=>xs[i]! !=ys[i]! with | some i=>if xs[i]! < ys[i]! then(-1:Int) else 1 | none=>0)=CG xs ys
 |[],[],_=>rfl
 |[],_::_,h=>by simp at h
 |_::_,[],h=>by simp at h
 |x::xs,y::ys,h=>by
  have ih:=yc xs ys (by simpa using h)
  rw[List.length_cons,List.range_succ_eq_map,List.find?_cons]
  simp only[List.getElem!_cons_zero,CG]
  cases hb:(x !=y) with
  |true=>simp
  |false=>
   simp only[Bool.false_eq_true,if_false]
   rw[List.find?_map,←ih]
   have e:((fun i=>(x::xs)[i]! !=(y::ys)[i]!)∘Nat.succ)=fun i=>xs[i]! !=ys[i]! :=by
    funext i;simp
   rw[e]
   cases(List.range xs.length).find? fun i=>xs[i]! !=ys[i]! <;> simp
theorem AO:∀ {a b:List Int},(∀x∈a,0≤x∧x < 256)→(∀x∈b,0≤x∧x < 256)→CG (a.map fun n=>UInt8.ofNat n.toNat) (b.map fun n=>UInt8.ofNat n.toNat)=lx a b
 |[],_,_,_=>by cases ‹List Int› <;> rfl
 |_::_,[],_,_=>rfl
 |x::a,y::b,ha,hb=>by
  have hx:=ha x (List.mem_cons_self ..)
  have hy:=hb y (List.mem_cons_self ..)
  have ih:=AO (a:=a) (b:=b) (fun z hz=>ha z (List.mem_cons_of_mem _ hz)) (fun z hz=>hb z (List.mem_cons_of_mem _ hz))
  simp only[List.map_cons,CG,lx,ih]
  have e1:(UInt8.ofNat x.toNat).toNat=x.toNat:=by simp[UInt8.toNat_ofNat];omega
  have e2:(UInt8.ofNat y.toNat).toNat=y.toNat:=by simp[UInt8.toNat_ofNat];omega
  by_cases h:x=y
  ·subst h;simp
  ·have hne:(UInt8.ofNat x.toNat !=UInt8.ofNat y.toNat)=true:=by
    rw[bne_iff_ne]
    intro e
    have:=congrArg UInt8.toNat e
    rw[e1,e2]at this
    omega
   rw[hne,if_pos rfl,if_pos h]
   have hlt:UInt8.ofNat x.toNat < UInt8.ofNat y.toNat↔x < y:=by
    rw[UInt8.lt_iff_toNat_lt,e1,e2];omega
   by_cases h2:x < y
   ·rw[if_pos (hlt.2 h2),if_pos h2]
   ·rw[if_neg (fun e=>h2 (hlt.1 e)),if_neg h2]
theorem Eh{a b:List Int}(hl:a.length=b.length)(ha:∀x∈a,0≤x∧x < 256)(hb:∀x∈b,0≤x∧x < 256):vf a b=lx a b:=by
 rw[←AO ha hb,←yc _ _ (by simpa using hl)]
 unfold vf Extern.BytealgCompare.cmp
 have s1:∀l:List Int,(fc l).size=l.length:=fun l=>by simp[fc,ByteArray.size]
 have g1:∀(l:List Int) (i:Nat),(fc l)[i]! =(l.map fun n=>UInt8.ofNat n.toNat)[i]! :=fun l i=>by
  by_cases h:i < (fc l).size
  ·rw[getElem!_pos _ i h]
   have h2:i < (l.map fun n=>UInt8.ofNat n.toNat).length:=by simpa[fc,ByteArray.size]using h
   rw[getElem!_pos _ i h2]
   rfl
  ·rw[getElem!_neg _ i h]
   have h2:¬i < (l.map fun n=>UInt8.ofNat n.toNat).length:=by simpa[fc,ByteArray.size]using h
   rw[getElem!_neg _ i h2]
 simp only[s1,g1,hl,Nat.min_self,List.length_map]
 cases(List.range b.length).find? fun i=>(a.map fun n=>UInt8.ofNat n.toNat)[i]! !=(b.map fun n=>UInt8.ofNat n.toNat)[i]! <;> simp
def rA(o:cK):Prop:=o.1.length=32∧∀x∈o.1,0≤x∧x < 256
def lM(o:cK):List Int:=o.1++ [o.2.1]
theorem jJ{o:cK}(h:rA o):(lM o).length=33:=by simp[lM,h.1]
theorem Du{a b:cK}(ha:rA a)(hb:rA b)(h:lM a=lM b):a=b:=by
 obtain⟨a1,a2,_⟩:=a
 obtain⟨b1,b2,_⟩:=b
 have h:a1++ [a2]=b1++ [b2]:=h
 have:=List.append_inj' h rfl
 rw[this.1,show a2=b2 by simpa using this.2]
theorem jl{a b:cK}(ha:rA a)(hb:rA b):mU a b=lx (lM a) (lM b):=by
 unfold lM mU
 rw[tf _ _ (ha.1.trans hb.1.symm),Eh (ha.1.trans hb.1.symm) ha.2 hb.2]
 simp only[GK,GL]
 by_cases h:lx a.1 b.1=0
 ·rw[if_pos h,if_neg (fun e=>e h)]
  split
  ·rfl
  ·omega
 ·rw[if_neg h,if_pos h]
theorem nq:Gz Tryz.prog ck 80 rA mU:= {
 cm:=⟨ga.E,ga.sg.h,fun x y hx hy=>⟨_,ga.run (d:=(x,y)) ⟨hx.1,hy.1⟩,rfl⟩⟩
 enters:=enters_of Tryz.func80 (by kernel_rfl) rfl
 irrefl:=fun x hx=>by rw[jl hx hx,A2];decide
 trans:=fun x y z hx hy hz h1 h2=>by
  rw[jl hx hy]at h1
  rw[jl hy hz]at h2
  rw[jl hx hz]
  have:=ue (by rw[jJ hx,jJ hy]) (by rw[jJ hy,jJ hz]) (by omega:lx (lM x) (lM y)≤0) (by omega:lx (lM y) (lM z)≤0)
  have h3:=this.1
  by_cases h4:lx (lM x) (lM z)=0
  ·have:=(this.2 h4).1;omega
  ·omega
 ntrans:=fun x y z hx hy hz h1 h2=>by
  rw[jl hx hy]at h1
  rw[jl hy hz]at h2
  rw[jl hx hz]
  have e1:=rR (lM x) (lM y)
  have e2:=rR (lM y) (lM z)
  have e3:=rR (lM x) (lM z)
  have:=(ue (by rw[jJ hz,jJ hy]) (by rw[jJ hy,jJ hx]) (by omega:lx (lM z) (lM y)≤0) (by omega:lx (lM y) (lM x)≤0)).1
  omega}
theorem pN{x y:cK}(hx:rA x)(hy:rA y)(h1:¬mU x y < 0)(h2:¬mU y x < 0):x=y:=by
 rw[jl hx hy]at h1
 rw[jl hy hx,rR]at h2
 exact Du hx hy (Fo (by rw[jJ hx,jJ hy]) (by omega))
end Go.Ab
namespace Go.Proofs
open Go.Shelf
def Tryz.Av:Go.Shelf.Ren:=⟨fun | 6=>79 | 15=>155 | 14=>154 | 28=>214 | 29=>215 | 20=>206 | 21=>207 | 22=>208 | 23=>209 | 24=>210 | 25=>211 | 26=>212 | 27=>213 | 46=>255 | 47=>256 | 48=>257 | 49=>258 | 50=>259 | 57=>279 | n=>n,fun | 22=>58 | 24=>47 | 25=>157 | 3=>3 | 39=>224 | 0=>0 | 53=>255 | 55=>22 | 4=>4 | 46=>265 | 45=>264 | 50=>66 | 5=>5 | 9=>9 | 66=>298 | 70=>301 | 76=>313 | 77=>314 | n=>n,fun | n=>n⟩
theorem Tryz.Gr:Go.Proofs.SlLaysF0.n6 Tryz.prog Tryz.Av:= {
 mixed:=by kernel_rfl
 f6:=⟨Tryz.f79.name,by decide,Tryz.func79.trans (congrArg some (by kernel_rfl))⟩
 f14:=⟨Tryz.f154.name,by decide,Tryz.func154.trans (congrArg some (by kernel_rfl))⟩
 f15:=Tryz.func155.trans (congrArg some (by kernel_rfl))
 f20:=⟨Tryz.f206.name,by decide,Tryz.func206.trans (congrArg some (by kernel_rfl))⟩
 f21:=⟨Tryz.f207.name,by decide,Tryz.func207.trans (congrArg some (by kernel_rfl))⟩
 f22:=⟨Tryz.f208.name,by decide,Tryz.func208.trans (congrArg some (by kernel_rfl))⟩
 f23:=⟨Tryz.f209.name,by decide,Tryz.func209.trans (congrArg some (by kernel_rfl))⟩
 f24:=⟨Tryz.f210.name,by decide,Tryz.func210.trans (congrArg some (by kernel_rfl))⟩
 f25:=⟨Tryz.f211.name,by decide,Tryz.func211.trans (congrArg some (by kernel_rfl))⟩
 f26:=⟨Tryz.f212.name,by decide,Tryz.func212.trans (congrArg some (by kernel_rfl))⟩
 f27:=⟨Tryz.f213.name,by decide,Tryz.func213.trans (congrArg some (by kernel_rfl))⟩
 f28:=Tryz.func214.trans (congrArg some (by kernel_rfl))
 f29:=Tryz.func215.trans (congrArg some (by kernel_rfl))
 f46:=⟨Tryz.f255.name,by decide,Tryz.func255.trans (congrArg some (by kernel_rfl))⟩
 f47:=Tryz.func256.trans (congrArg some (by kernel_rfl))
 f48:=Tryz.func257.trans (congrArg some (by kernel_rfl))
 f49:=⟨Tryz.f258.name,by decide,Tryz.func258.trans (congrArg some (by kernel_rfl))⟩
 f50:=⟨Tryz.f259.name,by decide,Tryz.func259.trans (congrArg some (by kernel_rfl))⟩
 f57:=⟨Tryz.f279.name,by decide,Tryz.func279.trans (congrArg some (by kernel_rfl))⟩
 t0:=Tryz.underlying0
 a0:=Tryz.isAgg0
 z0:=Tryz.sizeOf0
 v0:=Tryz.zeroValue0
 t3:=Tryz.underlying3
 a3:=Tryz.isAgg3
 z3:=Tryz.sizeOf3
 v3:=Tryz.zeroValue3
 t4:=Tryz.underlying4
 a4:=Tryz.isAgg4
 z4:=Tryz.sizeOf4
 v4:=Tryz.zeroValue4
 t5:=Tryz.underlying5
 a5:=Tryz.isAgg5
 z5:=Tryz.sizeOf5
 v5:=Tryz.zeroValue5
 t9:=Tryz.underlying9
 a9:=Tryz.isAgg9
 z9:=Tryz.sizeOf9
 v9:=Tryz.zeroValue9
 t22:=Tryz.underlying58
 a22:=Tryz.isAgg58
 z22:=Tryz.sizeOf58
 v22:=Tryz.zeroValue58
 t25:=Tryz.underlying157
 a25:=Tryz.isAgg157
 z25:=Tryz.sizeOf157
 v25:=Tryz.zeroValue157
 t39:=Tryz.underlying224
 a39:=Tryz.isAgg224
 z39:=Tryz.sizeOf224
 v39:=Tryz.zeroValue224
 t45:=Tryz.underlying264
 a45:=Tryz.isAgg264
 z45:=Tryz.sizeOf264
 v45:=Tryz.zeroValue264
 t46:=Tryz.underlying265
 a46:=Tryz.isAgg265
 z46:=Tryz.sizeOf265
 v46:=Tryz.zeroValue265
 t50:=Tryz.underlying66
 a50:=Tryz.isAgg66
 z50:=Tryz.sizeOf66
 v50:=Tryz.zeroValue66
 t53:=Tryz.underlying255
 a53:=Tryz.isAgg255
 z53:=Tryz.sizeOf255
 v53:=Tryz.zeroValue255
 t55:=Tryz.underlying22
 a55:=Tryz.isAgg22
 z55:=Tryz.sizeOf22
 v55:=Tryz.zeroValue22
 t66:=Tryz.underlying298
 a66:=Tryz.isAgg298
 z66:=Tryz.sizeOf298
 v66:=Tryz.zeroValue298
 t70:=Tryz.underlying301
 a70:=Tryz.isAgg301
 z70:=Tryz.sizeOf301
 v70:=Tryz.zeroValue301
 t76:=Tryz.underlying313
 a76:=Tryz.isAgg313
 z76:=Tryz.sizeOf313
 v76:=Tryz.zeroValue313
 t77:=Tryz.underlying314
 a77:=Tryz.isAgg314
 z77:=Tryz.sizeOf314
 v77:=Tryz.zeroValue314}
end Go.Proofs
namespace Go.Ab
open Go.Proofs
set_option maxRecDepth 100000
set_option linter.unusedVariables false
set_option linter.unusedSimpArgs false
set_option synthInstance.maxSize 5000
noncomputable def zd.E:Entry:=EW 80 47 ck rA mU
noncomputable def zd.call:Nat×List cK→Option (Nat×List cK):=xw 80 47 ck rA mU
theorem zd.run{d:Nat×List cK}(h:uL (t:=ck) rA mU d):zd.call d=some (d.1,qi (t:=ck) mU d.2):=Be h
noncomputable def zd.sg:SG Tryz.prog:=⟨79,aR,zd.E,DQ Tryz.Gr (by rfl) (fun w=>Tryz.isAgg47 w) (fun w=>Tryz.sizeOf47 w) nq⟩
abbrev bV.L0.D:=Nat×Nat×(List (cK×fa))×(List dQ)×(List (cK×fa))×(List cK)
def bV.L0.st:bV.L0.D→AS:=fun(outL,o0L,o1_2,o2_2,n9,n17)=>⟨([.undef,.undef,.undef,.bH (.new 17 0) 0 [] 0 0 outL]++bl 5 ([.ptr (.new 9 0) 0 [] 0]++bl 11 [])),[.obj 0 false (.pr (.ff (.dx 1) 0) (.pr (.bH (.dx 2) 0 [] 0 0 o0L) (.d .unit ()))),.obj 0 true (.mp ck gl o1_2),.obj 0 false (.vec 161 dZ o2_2)],(ch 9 ([[.obj 0 false (.j7 (.dx 1) 1 ck gl n9 none)]]++ch 7 [[.obj 0 false (.vec 47 ck n17)],[],[],[]]))⟩
abbrev bV.L0.Y0:=Nat×(List cK)
abbrev bV.L0.X0:=(Nat×(List (cK×fa))×(List dQ))×(Nat×(List cK))
def bV.L0.bp:bV.L0.X0→Exit×AS:=fun x=>(.exit 0,⟨([.undef,.undef,.undef,.bH (.new 17 0) 0 [] 0 0 x.2.1]++bl 17 []),[.obj 0 false (.pr (.ff (.dx 1) 0) (.pr (.bH (.dx 2) 0 [] 0 0 x.1.1) (.d .unit ()))),.obj 0 false (.mp ck gl x.1.2.1),.obj 0 false (.vec 161 dZ x.1.2.2)],(ch 17 [[.obj 0 false (.vec 47 ck x.2.2)],[],[],[]])⟩)
abbrev bV.L0.X:=bV.L0.X0
abbrev bV.L0.Y:=bV.L0.Y0
def bV.L0.out:bV.L0.X→Out (Exit×AS):=fun x=> .ok (bV.L0.bp x)
def bV.L0.add:bV.L0.D→bV.L0.Y→bV.L0.X:=fun(outL,o0L,o1_2,o2_2,n9,n17) y=>((o0L,o1_2,o2_2),y)
abbrev bV.D:=Nat×(List (cK×fa))×(List dQ)
def bV.st:bV.D→SA:=fun(o0baL,o1,o2)=>([.ptr (.dx 0) 0 [] 0],[.obj 0 false (.pr (.ff (.dx 1) 0) (.pr (.bH (.dx 2) 0 [] 0 0 o0baL) (.d .unit ()))),.obj 0 false (.mp ck gl o1),.obj 0 false (.vec 161 dZ o2)])
abbrev bV.Y:=Nat×Nat×(List (cK×fa))×(List dQ)×(List cK)
abbrev bV.X:=Nat×Nat×(List (cK×fa))×(List dQ)×(List cK)
def bV.out:bV.X→ba:=fun x=>⟨.bH (.new 0 0) 0 [] 0 0 x.1,[.obj 0 false (.pr (.ff (.dx 1) 0) (.pr (.bH (.dx 2) 0 [] 0 0 x.2.1) (.d .unit ()))),.obj 0 false (.mp ck gl x.2.2.1),.obj 0 false (.vec 161 dZ x.2.2.2.1)],[.obj 0 false (.vec 47 ck x.2.2.2.2)]⟩
def bV.add:bV.D→bV.Y→bV.X:=fun(o0baL,o1,o2) y=>y
def gw(l:List (cK×fa)):Int:=(l.map fun p=>p.2.1.1).sum
theorem gX(p:cK×fa)(l:List (cK×fa)):gw (p::l)=p.2.1.1+gw l:=by simp[gw]
theorem xM(l l':List (cK×fa)):gw (l++l')=gw l+gw l':=by simp[gw]
theorem l7{l l':List (cK×fa)}(h:l.Perm l'):gw l=gw l':=by
 induction h with
 |nil=>rfl
 |cons x _ ih=>rw[gX,gX,ih]
 |swap x y l=>rw[gX,gX,gX,gX];omega
 |trans _ _ h1 h2=>rw[h1,h2]
theorem pS{α:Type}{l:List α}{j:Nat}(h:j < l.length):l.Perm (l[j]::l.eraseIdx j):=by
 induction l generalizing j with
 |nil=>simp at h
 |cons x l ih=>
  cases j with
  |zero=>exact List.Perm.refl _
  |succ j=>
   have h:j < l.length:=by simpa using h
   simp only[List.getElem_cons_succ,List.eraseIdx_cons_succ]
   exact((ih h).cons x).trans (List.Perm.swap _ _ _)
theorem tj{kt vt:Ty}{l:List (kt.den×vt.den)}{j:Nat}(h:j < l.length):lv kt vt l j=l[j]:=by
 simp[lv,List.getD_eq_getElem?_getD,List.getElem?_eq_getElem h]
theorem xN{l:List (cK×fa)}(h:∀p∈l,0≤p.2.1.1):0≤gw l:=by
 induction l with
 |nil=>simp[gw]
 |cons p l ih=>
  rw[gX]
  have:=h p (List.mem_cons_self ..)
  have:=ih fun q hq=>h q (List.mem_cons_of_mem _ hq)
  omega
def bV.L0.av:bV.L0.D→Prop:=fun(n,_,_,_,rest,out)=>n=out.length∧out.length+rest.length≤1000000
def bV.L0.jj:bV.L0.D→bV.L0.Y→Prop:=fun(_,_,_,_,rest,out) (m,out')=>m=out'.length∧out'.Perm (out++rest.map (·.1))
def bV.av:bV.D→Prop:=fun(_,a,_)=>a.length≤1000000∧∀p∈a,rA p.1
noncomputable def bV.F:bV.D→bV.Y:=fun(n,a,s)=>(a.length,n,a,s,qi (t:=ck) mU (a.map (·.1)))
noncomputable def bV.G:ed:=fk (P:=Tryz.prog) [zd.sg]
noncomputable def bV.L0.E:=bU.EG bV.L0.st bV.L0.av bV.L0.add bV.L0.jj bV.L0.out
def bV.L0.set:bV.L0.D→bV.L0.X→Prop:=Hq bV.L0.st bV.L0.av bV.L0.add bV.L0.jj
noncomputable def bV.an:eQ:= {loops:=jB [(3,{bn:=[3,9],sites:=[9,17],iE:=[⟨3,[],17,58⟩],Hd:=[9]})],outs:=jA [(3,{bn:=[3],sites:=[17]},{bn:=[2]})],fC:=kf [(3,bV.L0.E)]}
noncomputable def bV.A:= @cY Tryz.prog bV.G bV.an 0 Tryz.f28 _ bV.st
abbrev bV.Ok:=dd @bV.A bV.av bV.add bV.F bV.out
noncomputable def bV.L0.R:= @cj Tryz.prog bV.G bV.an 0 Tryz.f28 0 _ bV.L0.st
abbrev bV.L0.Ok:=AG Tryz.prog bV.G bV.an 0 Tryz.f28 0 bV.L0.st bV.L0.av bV.L0.add bV.L0.jj bV.L0.out
theorem bV.L0.run:GS bV.L0.set bV.L0.av bV.L0.add bV.L0.jj:=Ie (eL [.n,.n,.d (.slice (.pair ck gl)),.d (.slice dZ),.d (.slice (.pair ck gl)),.d (.slice ck)] fun _=>by kernel_rfl)
theorem bV.L0.aB:E7 @bV.L0.R bV.L0.st bV.L0.av bV.L0.add bV.L0.jj bV.L0.bp bV.L0.Ok:=GZ
theorem bV.L0.step{R:Type}(outL:Nat)(o0L:Nat)(o1_2:(List (cK×fa)))(o2_2:(List dQ))(n9:(List (cK×fa)))(n17:(List cK))(kn:AS→Option R)(kx:Exit→AS→Option R):bV.L0.R (outL,o0L,o1_2,o2_2,n9,n17) kn kx=
  aG (decide (0 < (List.length n9))) (
   Cl (List.length n9) fun j1=>
   aG (decide (outL≤(List.length n17))) (
   aG (db (outL+1) 40) (
   kn (bV.L0.st ((outL+1),o0L,o1_2,o2_2,(List.eraseIdx n9 j1),((List.take outL n17)++ [(lv ck gl n9 j1).1])))) none) none) (
   kx (bV.L0.bp ((o0L,o1_2,o2_2),(outL,n17))).1 (bV.L0.bp ((o0L,o1_2,o2_2),(outL,n17))).2):=by kernel_rfl
theorem bV.eq{R:Type}(o0baL:Nat)(o1:(List (cK×fa)))(o2:(List dQ))(k:ba→Option R):bV.A (o0baL,o1,o2) k=
 zM (bV.L0.set (0,o0baL,o1,o2,o1,([]:List cK))) fun x3=>
 ah (zd.call (x3.2.1,x3.2.2)) fun x4=>
 k (bV.out (x3.2.1,x3.1.1,x3.1.2.1,x3.1.2.2,x4.2)):=by kernel_rfl
theorem bV.L0.ok:bV.L0.Ok:=by
 refine bV.L0.aB (fun(n,_,_,_,rest,out)=>rest.length) ?_
 rintro⟨n,o,a,s,rest,out⟩ ⟨rfl,hl⟩
 have hl:out.length+rest.length≤1000000:=hl
 by_cases h:0 < rest.length
 ·left
  refine⟨rest.length,fun j=>(out.length+1,o,a,s,rest.eraseIdx j,out++ [(lv ck gl rest j).1]),h,fun j hj=>⟨⟨by simp,?_⟩,?_,fun y hy=>⟨y,?_,rfl⟩⟩,fun kn kx=> ?_⟩
  ·show(out++ [_]).length+(rest.eraseIdx j).length≤1000000
   rw[List.length_append,List.length_eraseIdx,if_pos hj]
   simp only[List.length_cons,List.length_nil]
   omega
  ·show(rest.eraseIdx j).length < rest.length
   rw[List.length_eraseIdx,if_pos hj]
   omega
  ·obtain⟨m,out'⟩:=y
   obtain⟨h1,h2⟩:=hy
   refine⟨h1,h2.trans ?_⟩
   rw[tj hj,List.append_assoc]
   refine List.Perm.append_left _ ?_
   have:=((pS hj).map (·.1)).symm
   exact this
  ·rw[bV.L0.step,aZ h,ae]
   congr 1
   funext j
   rw[aZ (Nat.le_refl _),ae,cS (by omega) (by omega),ae,List.take_length]
 ·right
  obtain rfl:rest=[]:=List.eq_nil_of_length_eq_zero (by omega)
  refine⟨(out.length,out),⟨rfl,by simp⟩,fun kn kx=> ?_⟩
  rw[bV.L0.step,bo h,ag]
  rfl
theorem Cd{l l':List cK}(h:l.Perm l')(hq:∀x∈l',rA x):qi (t:=ck) mU l=qi (t:=ck) mU l':=by
 have hq':∀x∈l,rA x:=fun x hx=>hq x (h.mem_iff.1 hx)
 have h1:=xx nq hq'
 exact qj nq hq (fun x hx y hy a b=>pN (hq x hx) (hq y hy) a b) ⟨h1.1.trans h,h1.2⟩
theorem bV.ok:bV.Ok:=by
 rintro⟨n,a,s⟩ ⟨hl,hq⟩
 have hl:a.length≤1000000:=hl
 rw[bV.eq]
 refine bV.L0.run (d:=(0,n,a,s,a,[])) ⟨rfl,by show 0+a.length≤_;omega⟩ ⟨(a.length,a.map (·.1)),by show a.length=(a.map (·.1)).length;simp,by simp⟩ fun y hy=> ?_
 obtain⟨m,out⟩:=y
 obtain⟨h1,hp⟩:=hy
 have h1:m=out.length:=h1
 subst h1
 have hp:out.Perm (a.map (·.1)):=by simpa using hp
 have hq':∀x∈a.map (·.1),rA x:=fun x hx=>by obtain⟨p,hp,rfl⟩:=List.mem_map.1 hx;exact hq p hp
 have hlen:out.length=a.length:=by rw[hp.length_eq,List.length_map]
 simp only[bV.L0.add]
 rw[zd.run (d:=(out.length,out)) ⟨rfl,by show out.length < _;omega,fun x hx=>hq' x (hp.mem_iff.1 hx),fun x hx y hy h1 h2=>pN (hq' x (hp.mem_iff.1 hx)) (hq' y (hp.mem_iff.1 hy)) h1 h2⟩]
 simp only[aa,bV.add,bV.F]
 rw[Cd hp hq',hlen]
noncomputable def bV.E:=Entry.cD [none] bV.st bV.av bV.add bV.F bV.out
noncomputable def bV.call:bV.D→Option bV.X:=bS bV.E bV.st
theorem bV.run:bM bV.call bV.av bV.add bV.F:=dq (df [.n,.d (.slice (.pair ck gl)),.d (.slice dZ)] fun _=>by kernel_rfl)
noncomputable def bV.sg:SG Tryz.prog:=⟨28,aR,bV.E,.fn 1 (by kernel_rfl) bV.ok (And.intro (.EG bV.L0.ok (by kernel_rfl)) trivial)⟩
abbrev bK.L0.D:=Int×Nat×(List (cK×fa))×(List dQ)×(List (cK×fa))
def bK.L0.st:bK.L0.D→AS:=fun(sum,o0L,o1_2,o2_2,n10)=>⟨([.undef,.undef,.undef,.d ti sum]++bl 6 ([.ptr (.new 10 0) 0 [] 0]++bl 10 [])),[.obj 0 false (.pr (.ff (.dx 1) 0) (.pr (.bH (.dx 2) 0 [] 0 0 o0L) (.d .unit ()))),.obj 0 true (.mp ck gl o1_2),.obj 0 false (.vec 161 dZ o2_2)],(ch 10 ([[.obj 0 false (.j7 (.dx 1) 1 ck gl n10 none)]]++ch 10 []))⟩
abbrev bK.L0.Y0:=Int
abbrev bK.L0.X0:=(Nat×(List (cK×fa))×(List dQ))×(Int)
def bK.L0.bp:bK.L0.X0→Exit×AS:=fun x=>(.exit 0,⟨([.undef,.undef,.undef,.d ti x.2]++bl 17 []),[.obj 0 false (.pr (.ff (.dx 1) 0) (.pr (.bH (.dx 2) 0 [] 0 0 x.1.1) (.d .unit ()))),.obj 0 false (.mp ck gl x.1.2.1),.obj 0 false (.vec 161 dZ x.1.2.2)],(List.replicate 21 [])⟩)
abbrev bK.L0.X:=bK.L0.X0
abbrev bK.L0.Y:=bK.L0.Y0
def bK.L0.out:bK.L0.X→Out (Exit×AS):=fun x=> .ok (bK.L0.bp x)
def bK.L0.add:bK.L0.D→bK.L0.Y→bK.L0.X:=fun(sum,o0L,o1_2,o2_2,n10) y=>((o0L,o1_2,o2_2),y)
abbrev bK.D:=Nat×(List (cK×fa))×(List dQ)
def bK.st:bK.D→SA:=fun(o0baL,o1,o2)=>([.ptr (.dx 0) 0 [] 0],[.obj 0 false (.pr (.ff (.dx 1) 0) (.pr (.bH (.dx 2) 0 [] 0 0 o0baL) (.d .unit ()))),.obj 0 false (.mp ck gl o1),.obj 0 false (.vec 161 dZ o2)])
abbrev bK.Y:=Int×Nat×(List (cK×fa))×(List dQ)
abbrev bK.X:=Int×Nat×(List (cK×fa))×(List dQ)
def bK.out:bK.X→ba:=fun x=>⟨.d ti x.1,[.obj 0 false (.pr (.ff (.dx 1) 0) (.pr (.bH (.dx 2) 0 [] 0 0 x.2.1) (.d .unit ()))),.obj 0 false (.mp ck gl x.2.2.1),.obj 0 false (.vec 161 dZ x.2.2.2)],[]⟩
def bK.add:bK.D→bK.Y→bK.X:=fun(o0baL,o1,o2) y=>y
def bK.L0.av:bK.L0.D→Prop:=fun(sum,_,_,_,rest)=>0≤sum∧(∀p∈rest,0≤p.2.1.1)∧sum+gw rest≤1000000000000000000
def bK.L0.F:bK.L0.D→bK.L0.Y:=fun(sum,_,_,_,rest)=>sum+gw rest
def bK.av:bK.D→Prop:=fun(_,a,_)=>(∀p∈a,0≤p.2.1.1)∧gw a≤1000000000000000000
def bK.F:bK.D→bK.Y:=fun(n,a,s)=>(gw a,n,a,s)
noncomputable def bK.G:ed:=fk (P:=Tryz.prog) []
noncomputable def bK.L0.E:=bU.cD bK.L0.st bK.L0.av bK.L0.add bK.L0.F bK.L0.out
noncomputable def bK.L0.call:bK.L0.D→Option bK.L0.X:=dw bK.L0.E bK.L0.st
noncomputable def bK.an:eQ:= {loops:=jB [(3,{bn:=[3,10],sites:=[10],Hd:=[10]})],outs:=jA [(3,{bn:=[3]},{bn:=[2]})],fC:=kf [(3,bK.L0.E)]}
noncomputable def bK.A:= @cY Tryz.prog bK.G bK.an 0 Tryz.f24 _ bK.st
abbrev bK.Ok:=dd @bK.A bK.av bK.add bK.F bK.out
noncomputable def bK.L0.R:= @cj Tryz.prog bK.G bK.an 0 Tryz.f24 0 _ bK.L0.st
abbrev bK.L0.Ok:=ew Tryz.prog bK.G bK.an 0 Tryz.f24 0 bK.L0.st bK.L0.av bK.L0.add bK.L0.F bK.L0.out
theorem bK.L0.run:bM bK.L0.call bK.L0.av bK.L0.add bK.L0.F:=eM (eL [.d ti,.n,.d (.slice (.pair ck gl)),.d (.slice dZ),.d (.slice (.pair ck gl))] fun _=>by kernel_rfl)
theorem bK.L0.aB:Fz @bK.L0.R bK.L0.st bK.L0.av bK.L0.add bK.L0.F bK.L0.bp bK.L0.Ok:=GY
theorem bK.L0.step{R:Type}(sum:Int)(o0L:Nat)(o1_2:(List (cK×fa)))(o2_2:(List dQ))(n10:(List (cK×fa)))(kn:AS→Option R)(kx:Exit→AS→Option R):bK.L0.R (sum,o0L,o1_2,o2_2,n10) kn kx=
  aG (decide (0 < (List.length n10))) (
   Cl (List.length n10) fun j1=>
   kn (bK.L0.st ((bN .i64 sum (lv ck gl n10 j1).2.1.1),o0L,o1_2,o2_2,(List.eraseIdx n10 j1)))) (
   kx (bK.L0.bp ((o0L,o1_2,o2_2),sum)).1 (bK.L0.bp ((o0L,o1_2,o2_2),sum)).2):=by kernel_rfl
theorem bK.eq{R:Type}(o0baL:Nat)(o1:(List (cK×fa)))(o2:(List dQ))(k:ba→Option R):bK.A (o0baL,o1,o2) k=
 ah (bK.L0.call ((0:Int),o0baL,o1,o2,o1)) fun x2=>
 k (bK.out (x2.2,x2.1.1,x2.1.2.1,x2.1.2.2)):=by kernel_rfl
theorem bK.L0.ok:bK.L0.Ok:=by
 refine bK.L0.aB (fun(_,_,_,_,rest)=>rest.length) ?_
 rintro⟨sum,o,a,s,rest⟩ ⟨h0,hn,hm⟩
 have h0:0≤sum:=h0
 have hm:sum+gw rest≤1000000000000000000:=hm
 by_cases h:0 < rest.length
 ·left
  have key:∀j,(hj:j < rest.length)→rest[j].2.1.1+gw (rest.eraseIdx j)=gw rest:=fun j hj=>by rw[←gX];exact l7 (pS hj).symm
  refine⟨rest.length,fun j=>(bN .i64 sum (lv ck gl rest j).2.1.1,o,a,s,rest.eraseIdx j),h,fun j hj=> ?_,fun kn kx=> ?_⟩
  ·have hk:=key j hj
   have hx:=hn _ (List.getElem_mem hj)
   have hr:∀p∈rest.eraseIdx j,0≤p.2.1.1:=fun p hp=>hn p ((List.eraseIdx_sublist rest j).subset hp)
   have:=xN hr
   have e1:bN .i64 sum (lv ck gl rest j).2.1.1=sum+rest[j].2.1.1:=by rw[tj hj];exact gF (by omega) (by omega)
   refine⟨⟨?_,hr,?_⟩,?_,?_⟩
   ·show 0≤bN .i64 sum _;rw[e1];omega
   ·show bN .i64 sum _+gw (rest.eraseIdx j)≤_;rw[e1];omega
   ·show(rest.eraseIdx j).length < rest.length
    rw[List.length_eraseIdx,if_pos hj];omega
   ·simp only[bK.L0.add,bK.L0.F,e1]
    rw[←hk,Int.add_assoc]
  ·rw[bK.L0.step,aZ h,ae]
 ·right
  obtain rfl:rest=[]:=List.eq_nil_of_length_eq_zero (by omega)
  intro T kn kx
  rw[bK.L0.step,bo h,ag]
  simp only[bK.L0.add,bK.L0.F,gw,List.map_nil,List.sum_nil,Int.add_zero]
theorem bK.ok:bK.Ok:=by
 rintro⟨n,a,s⟩ ⟨hn,hm⟩
 have hm:gw a≤_:=hm
 rw[bK.eq,bK.L0.run (d:=(0,n,a,s,a)) ⟨Int.le_refl _,hn,by show 0+gw a≤_;omega⟩]
 simp only[aa,bK.L0.add,bK.L0.F,bK.add,bK.F,Int.zero_add]
noncomputable def bK.E:=Entry.cD [none] bK.st bK.av bK.add bK.F bK.out
noncomputable def bK.call:bK.D→Option bK.X:=bS bK.E bK.st
theorem bK.run:bM bK.call bK.av bK.add bK.F:=dq (df [.n,.d (.slice (.pair ck gl)),.d (.slice dZ)] fun _=>by kernel_rfl)
noncomputable def bK.sg:SG Tryz.prog:=⟨24,aR,bK.E,.fn 1 (by kernel_rfl) bK.ok (And.intro (.cD bK.L0.ok (by kernel_rfl)) trivial)⟩
abbrev eB.D:=Nat×(List dQ)
def eB.st:eB.D→SA:=fun(sL,o0)=>([.bH (.dx 0) 0 [] 0 0 sL],[.obj 0 false (.vec 161 dZ o0)])
abbrev eB.Y:=Nat×(List dQ)
abbrev eB.X:=((List dQ))×(Nat×(List dQ))
def eB.out:eB.X→ba:=fun x=>⟨.bH (.new 0 0) 0 [] 0 0 x.2.1,[.obj 0 false (.vec 161 dZ x.1)],[.obj 0 false (.vec 161 dZ x.2.2)]⟩
def eB.add:eB.D→eB.Y→eB.X:=fun(sL,o0) y=>(o0,y)
def eB.av:eB.D→Prop:=fun(n,l)=>n≤l.length∧l.length≤1000000
def eB.F:eB.D→eB.Y:=fun(n,l)=>((l.take n).length,l.take n)
noncomputable def eB.G:ed:=fk (P:=Tryz.prog) []
noncomputable def eB.an:eQ:= {bX:=[5],iE:=[⟨2,[],5,148⟩]}
noncomputable def eB.A:= @cY Tryz.prog eB.G eB.an 0 Tryz.f90 _ eB.st
abbrev eB.Ok:=dd @eB.A eB.av eB.add eB.F eB.out
theorem eB.eq{R:Type}(sL:Nat)(o0:(List dQ))(k:ba→Option R):eB.A (sL,o0) k=
  aG (decide (0 < sL)) (
   aG (decide (0=0∧(0+sL)≤(List.length o0))) (
   aG (db (0+(List.length (cut o0 0 sL))) 48) (
   k (eB.out (o0,((0+(List.length (cut o0 0 sL))),((List.take 0 (List.replicate 0 (([]:List dM),(([]:List cK),()))))++(cut o0 0 sL)))))) none) none) (
   nd (
    k (eB.out (o0,(0,([]:List dQ))))) (
    aG (decide (0=0∧(0+sL)≤(List.length o0))) (
    aG (db (0+(List.length (cut o0 0 sL))) 48) (
    k (eB.out (o0,((0+(List.length (cut o0 0 sL))),((List.take 0 (List.replicate 0 (([]:List dM),(([]:List cK),()))))++(cut o0 0 sL)))))) none) none)):=by kernel_rfl
theorem eB.ok:eB.Ok:=by
 rintro⟨n,l⟩ ⟨h1,h2⟩
 have h1:n≤l.length:=h1
 have h2:l.length≤1000000:=h2
 have ec:cut l 0 n=l.take n:=by simp[cut]
 have ht:(l.take n).length≤1000000:=by rw[List.length_take];omega
 have hr:db (l.take n).length 48=true:=cS (by omega) (by omega)
 rw[eB.eq]
 simp only[Nat.zero_add,ec,hr,ae,List.take_zero,List.nil_append,true_and,aZ h1,eB.add,eB.F]
 by_cases h:0 < n
 ·simp only[aZ h,ae]
 ·have:n=0:=by omega
  subst this
  simp only[List.take_zero,List.length_nil,Nat.zero_le,decide_true,ae,nU,bo (Nat.lt_irrefl 0),ag]
noncomputable def eB.E:=Entry.cD [none] eB.st eB.av eB.add eB.F eB.out
noncomputable def eB.call:eB.D→Option eB.X:=bS eB.E eB.st
theorem eB.run:bM eB.call eB.av eB.add eB.F:=dq (df [.n,.d (.slice dZ)] fun _=>by kernel_rfl)
noncomputable def eB.sg:SG Tryz.prog:=⟨90,wx,eB.E,.fn 0 (by kernel_rfl) eB.ok trivial⟩
abbrev bA.L0.D:=Nat×(List (cK×fa))×(List dQ)×(List (cK×fa))×(List dQ)×Nat×(List (cK×fa))
def bA.L0.st:bA.L0.D→AS:=fun(o0L,o1_2,o2_2,n6,n11,n13L,n18)=>⟨([.undef,.undef,.undef,.ptr (.new 13 0) 0 [] 0]++bl 14 ([.ptr (.new 18 0) 0 [] 0]++bl 12 [])),[.obj 0 false (.pr (.ff (.dx 1) 0) (.pr (.bH (.dx 2) 0 [] 0 0 o0L) (.d .unit ()))),.obj 0 true (.mp ck gl o1_2),.obj 0 false (.vec 161 dZ o2_2)],(ch 6 ([[.obj 0 false (.mp ck gl n6)]]++ch 4 ([[.obj 0 false (.vec 161 dZ n11)],[],[.obj 0 false (.pr (.ff (.new 6 0) 0) (.pr (.bH (.new 11 0) 0 [] 0 0 n13L) (.d .unit ())))]]++ch 4 ([[.obj 0 false (.j7 (.dx 1) 1 ck gl n18 none)]]++ch 12 []))))⟩
abbrev bA.L0.Y0:=(List (cK×fa))
abbrev bA.L0.X0:=(Nat×(List (cK×fa))×(List dQ)×(List dQ)×Nat)×((List (cK×fa)))
def bA.L0.bp:bA.L0.X0→Exit×AS:=fun x=>(.exit 0,⟨([.undef,.undef,.undef,.ptr (.new 13 0) 0 [] 0]++bl 27 []),[.obj 0 false (.pr (.ff (.dx 1) 0) (.pr (.bH (.dx 2) 0 [] 0 0 x.1.1) (.d .unit ()))),.obj 0 false (.mp ck gl x.1.2.1),.obj 0 false (.vec 161 dZ x.1.2.2.1)],(ch 6 ([[.obj 0 false (.mp ck gl x.2)]]++ch 4 ([[.obj 0 false (.vec 161 dZ x.1.2.2.2.1)],[],[.obj 0 false (.pr (.ff (.new 6 0) 0) (.pr (.bH (.new 11 0) 0 [] 0 0 x.1.2.2.2.2) (.d .unit ())))]]++ch 17 [])))⟩)
abbrev bA.L0.X:=bA.L0.X0
abbrev bA.L0.Y:=bA.L0.Y0
def bA.L0.out:bA.L0.X→Out (Exit×AS):=fun x=> .ok (bA.L0.bp x)
def bA.L0.add:bA.L0.D→bA.L0.Y→bA.L0.X:=fun(o0L,o1_2,o2_2,n6,n11,n13L,n18) y=>((o0L,o1_2,o2_2,n11,n13L),y)
abbrev bA.D:=Nat×(List (cK×fa))×(List dQ)
def bA.st:bA.D→SA:=fun(o0baL,o1,o2)=>([.ptr (.dx 0) 0 [] 0],[.obj 0 false (.pr (.ff (.dx 1) 0) (.pr (.bH (.dx 2) 0 [] 0 0 o0baL) (.d .unit ()))),.obj 0 false (.mp ck gl o1),.obj 0 false (.vec 161 dZ o2)])
abbrev bA.Y:=Nat×(List (cK×fa))×(List dQ)×Nat×(List (cK×fa))×(List dQ)
abbrev bA.X:=Nat×(List (cK×fa))×(List dQ)×Nat×(List (cK×fa))×(List dQ)
def bA.out:bA.X→ba:=fun x=>⟨.ptr (.new 0 0) 0 [] 0,[.obj 0 false (.pr (.ff (.dx 1) 0) (.pr (.bH (.dx 2) 0 [] 0 0 x.1) (.d .unit ()))),.obj 0 false (.mp ck gl x.2.1),.obj 0 false (.vec 161 dZ x.2.2.1)],[.obj 0 false (.pr (.ff (.new 0 1) 0) (.pr (.bH (.new 0 2) 0 [] 0 0 x.2.2.2.1) (.d .unit ()))),.obj 0 false (.mp ck gl x.2.2.2.2.1),.obj 0 false (.vec 161 dZ x.2.2.2.2.2)]⟩
def bA.add:bA.D→bA.Y→bA.X:=fun(o0baL,o1,o2) y=>y
theorem lr{β:Type}{kt:Ty}(hc:kt.comp=true){x:kt.den}{v:β}:∀ {l:List (kt.den×β)},x ∉ l.map (·.1)→fH kt x v l=l++ [(x,v)]
 |[],_=>rfl
 |p::l,h=>by
  rw[qd]
  have h1:¬kt.beq x p.1=true:=fun e=>h (by rw[beq_eq kt _ _ hc e];simp)
  rw[if_neg h1,lr hc fun e=>h (by simp[e])]
  rfl
def bA.L0.av:bA.L0.D→Prop:=fun(_,_,_,m,_,_,rest)=>((m++rest).map (·.1)).Nodup
noncomputable def bA.L0.F:bA.L0.D→bA.L0.Y:=fun(_,_,_,m,_,_,rest)=>jQ (m++rest)
def bA.av:bA.D→Prop:=fun(n,a,s)=>n≤s.length∧s.length≤1000000∧(a.map (·.1)).Nodup
noncomputable def bA.F:bA.D→bA.Y:=fun(n,a,s)=>(n,a,s,(s.take n).length,jQ a,s.take n)
noncomputable def bA.G:ed:=fk (P:=Tryz.prog) [eB.sg]
noncomputable def bA.L0.E:=bU.cD bA.L0.st bA.L0.av bA.L0.add bA.L0.F bA.L0.out
noncomputable def bA.L0.call:bA.L0.D→Option bA.L0.X:=dw bA.L0.E bA.L0.st
noncomputable def bA.an:eQ:= {bX:=[13],loops:=jB [(3,{bn:=[3,18],sites:=[6,11,13,18],Hd:=[18]})],outs:=jA [(3,{bn:=[3],sites:=[6,11,13],FI:=[(.new 6 0)]},{bn:=[2]})],fC:=kf [(3,bA.L0.E)]}
noncomputable def bA.A:= @cY Tryz.prog bA.G bA.an 0 Tryz.f39 _ bA.st
abbrev bA.Ok:=dd @bA.A bA.av bA.add bA.F bA.out
noncomputable def bA.L0.R:= @cj Tryz.prog bA.G bA.an 0 Tryz.f39 0 _ bA.L0.st
abbrev bA.L0.Ok:=ew Tryz.prog bA.G bA.an 0 Tryz.f39 0 bA.L0.st bA.L0.av bA.L0.add bA.L0.F bA.L0.out
theorem bA.L0.run:bM bA.L0.call bA.L0.av bA.L0.add bA.L0.F:=eM (eL [.n,.d (.slice (.pair ck gl)),.d (.slice dZ),.d (.slice (.pair ck gl)),.d (.slice dZ),.n,.d (.slice (.pair ck gl))] fun _=>by kernel_rfl)
theorem bA.L0.aB:Fz @bA.L0.R bA.L0.st bA.L0.av bA.L0.add bA.L0.F bA.L0.bp bA.L0.Ok:=GY
theorem bA.L0.step{R:Type}(o0L:Nat)(o1_2:(List (cK×fa)))(o2_2:(List dQ))(n6:(List (cK×fa)))(n11:(List dQ))(n13L:Nat)(n18:(List (cK×fa)))(kn:AS→Option R)(kx:Exit→AS→Option R):bA.L0.R (o0L,o1_2,o2_2,n6,n11,n13L,n18) kn kx=
  aG (decide (0 < (List.length n18))) (
   Cl (List.length n18) fun j1=>
   kn (bA.L0.st (o0L,o1_2,o2_2,(fH ck (lv ck gl n18 j1).1 (lv ck gl n18 j1).2 n6),n11,n13L,(List.eraseIdx n18 j1)))) (
   kx (bA.L0.bp ((o0L,o1_2,o2_2,n11,n13L),(jQ n6))).1 (bA.L0.bp ((o0L,o1_2,o2_2,n11,n13L),(jQ n6))).2):=by kernel_rfl
theorem bA.eq{R:Type}(o0baL:Nat)(o1:(List (cK×fa)))(o2:(List dQ))(k:ba→Option R):bA.A (o0baL,o1,o2) k=
 ah (eB.call (o0baL,o2)) fun x1=>
 ah (bA.L0.call (o0baL,o1,x1.1,([]:List (cK×fa)),x1.2.2,x1.2.1,o1)) fun x3=>
 k (bA.out (x3.1.1,x3.1.2.1,x3.1.2.2.1,x3.1.2.2.2.2,x3.2,x3.1.2.2.2.1)):=by kernel_rfl
theorem fI:ck.comp=true:=rfl
theorem bA.L0.ok:bA.L0.Ok:=by
 refine bA.L0.aB (fun(_,_,_,_,_,_,rest)=>rest.length) ?_
 rintro⟨n,a,s,m,u,k0,rest⟩ hn
 have hn:((m++rest).map (·.1)).Nodup:=hn
 by_cases h:0 < rest.length
 ·left
  have e1:∀j,j < rest.length→fH ck (lv ck gl rest j).1 (lv ck gl rest j).2 m=m++ [lv ck gl rest j]:=fun j hj=>by
   rw[lr fI]
   intro hm
   rw[List.map_append,List.nodup_append]at hn
   exact hn.2.2 _ hm _ (List.mem_map.2 ⟨_,List.getElem_mem hj,by rw[tj hj]⟩) rfl
  have e2:∀j,j < rest.length→(m++ [lv ck gl rest j]++rest.eraseIdx j).Perm (m++rest):=fun j hj=>by
   rw[List.append_assoc,tj hj]
   exact List.Perm.append_left _ (pS hj).symm
  refine⟨rest.length,fun j=>(n,a,s,fH ck (lv ck gl rest j).1 (lv ck gl rest j).2 m,u,k0,rest.eraseIdx j),h,fun j hj=>⟨?_,?_,?_⟩,fun kn kx=> ?_⟩
  ·show((fH ck (lv ck gl rest j).1 (lv ck gl rest j).2 m++rest.eraseIdx j).map (·.1)).Nodup
   rw[e1 j hj]
   exact(((e2 j hj).map _).nodup_iff).2 hn
  ·show(rest.eraseIdx j).length < rest.length
   rw[List.length_eraseIdx,if_pos hj];omega
  ·simp only[bA.L0.add,bA.L0.F,e1 j hj]
   rw[Bv (e2 j hj)]
  ·rw[bA.L0.step,aZ h,ae]
 ·right
  obtain rfl:rest=[]:=List.eq_nil_of_length_eq_zero (by omega)
  intro T kn kx
  rw[bA.L0.step,bo h,ag]
  simp only[bA.L0.add,bA.L0.F,List.append_nil]
theorem bA.ok:bA.Ok:=by
 rintro⟨n,a,s⟩ ⟨h1,h2,h3⟩
 have h1:n≤s.length:=h1
 have h2:s.length≤1000000:=h2
 rw[bA.eq,eB.run (d:=(n,s)) ⟨h1,h2⟩]
 simp only[aa,eB.add,eB.F]
 rw[bA.L0.run (d:=(n,a,s,[],s.take n,(s.take n).length,a)) h3]
 simp only[aa,bA.L0.add,bA.L0.F,bA.add,bA.F,List.nil_append]
noncomputable def bA.E:=Entry.cD [none] bA.st bA.av bA.add bA.F bA.out
noncomputable def bA.call:bA.D→Option bA.X:=bS bA.E bA.st
theorem bA.run:bM bA.call bA.av bA.add bA.F:=dq (df [.n,.d (.slice (.pair ck gl)),.d (.slice dZ)] fun _=>by kernel_rfl)
noncomputable def bA.sg:SG Tryz.prog:=⟨39,aR,bA.E,.fn 1 (by kernel_rfl) bA.ok (And.intro (.cD bA.L0.ok (by kernel_rfl)) trivial)⟩
set_option synthInstance.maxSize 5000
abbrev cZ.L0.D:=gm×Nat×Nat×Int×Int×Int×(List ik)
def cZ.L0.st:cZ.L0.D→AS:=fun(o_2,lL,t10L,t11,t12,n2,n9)=>⟨([.undef,.ej fe o_2,.ptr (.new 2 0) 0 [] 0,.bH (.new 9 0) 0 [] 0 0 lL]++bl 6 ([.bH (.new 9 0) 0 [] 0 0 t10L,.d ti t11,.d ti t12]++bl 17 [])),[],([[],[],[.obj 0 false (.pr (.d ti n2) (.pr (.pr (.dV) (.d .unit ())) (.d .unit ())))]]++ch 6 ([[.obj 0 false (.vec 29 fX n9)]]++ch 20 []))⟩
abbrev cZ.L0.Y0:=(List ik)×(List ik)
abbrev cZ.L0.X0:=(gm×Int)×((List ik)×(List ik))
def cZ.L0.bp:cZ.L0.X0→Exit×AS:=fun x=>(.exit 0,⟨([.undef,.ej fe x.1.1,.ptr (.new 2 0) 0 [] 0,.d (.slice fX) x.2.1]++bl 26 []),[],([[],[],[.obj 0 false (.pr (.d ti x.1.2) (.pr (.pr (.dV) (.d .unit ())) (.d .unit ())))]]++ch 6 ([[.obj 0 true (.vec 29 fX x.2.2)]]++ch 20 []))⟩)
abbrev cZ.L0.X:=cZ.L0.X0
abbrev cZ.L0.Y:=cZ.L0.Y0
def cZ.L0.out:cZ.L0.X→Out (Exit×AS):=fun x=> .ok (cZ.L0.bp x)
def cZ.L0.add:cZ.L0.D→cZ.L0.Y→cZ.L0.X:=fun(o_2,lL,t10L,t11,t12,n2,n9) y=>((o_2,n2),y)
abbrev cZ.D:=gm
def cZ.st:cZ.D→SA:=fun o=>([.d fe o],[])
abbrev cZ.Y:=gm
abbrev cZ.X:=gm
def cZ.out:cZ.X→ba:=fun x=>⟨.d fe x,[],[]⟩
def cZ.add:cZ.D→cZ.Y→cZ.X:=fun o y=>y
def HH(l:Lk):Prop:=l.1.length≤1000∧∀b∈l.1,b.1.length≤1000000
def cZ.L0.av:cZ.L0.D→Prop:=fun(_,n,m,t,i,_,l)=>(l.length≤1000∧∀b∈l,b.1.length≤1000000)∧∃k:Nat,k≤l.length∧i=k∧n=l.length∧m=l.length∧t=l.length
def cZ.L0.F:cZ.L0.D→cZ.L0.Y:=fun(_,_,_,_,_,_,l)=>(l,l)
def cZ.av:cZ.D→Prop:=fun o=>HH o.2.1
def cZ.F:cZ.D→cZ.Y:=fun o=>o
noncomputable def cZ.G:ed:=fk (P:=Tryz.prog) [fB.sg,dj.sg]
noncomputable def cZ.L0.E:=bU.cD cZ.L0.st cZ.L0.av cZ.L0.add cZ.L0.F cZ.L0.out
noncomputable def cZ.L0.call:cZ.L0.D→Option cZ.L0.X:=dw cZ.L0.E cZ.L0.st
noncomputable def cZ.an:eQ:= {loops:=jB [(3,{bn:=[1,2,3,10,11,12],sites:=[2,9]})],outs:=jA [(3,{bn:=[1,2,3],sites:=[2,9],data:=[(3,(.slice fX))]},{bn:=[2]})],fC:=kf [(3,cZ.L0.E)],res:=[some fe]}
noncomputable def cZ.A:= @cY Tryz.prog cZ.G cZ.an 0 Tryz.f78 _ cZ.st
abbrev cZ.Ok:=dd @cZ.A cZ.av cZ.add cZ.F cZ.out
noncomputable def cZ.L0.R:= @cj Tryz.prog cZ.G cZ.an 0 Tryz.f78 0 _ cZ.L0.st
abbrev cZ.L0.Ok:=ew Tryz.prog cZ.G cZ.an 0 Tryz.f78 0 cZ.L0.st cZ.L0.av cZ.L0.add cZ.L0.F cZ.L0.out
theorem cZ.L0.run:bM cZ.L0.call cZ.L0.av cZ.L0.add cZ.L0.F:=eM (eL [.d fe,.n,.n,.d ti,.d ti,.d ti,.d (.slice fX)] fun _=>by kernel_rfl)
theorem cZ.L0.aB:fQ @cZ.L0.R cZ.L0.st cZ.L0.av cZ.L0.add cZ.L0.F cZ.L0.bp cZ.L0.Ok:=fU
theorem cZ.L0.step{R:Type}(o_2:gm)(lL:Nat)(t10L:Nat)(t11:Int)(t12:Int)(n2:Int)(n9:(List ik))(kn:AS→Option R)(kx:Exit→AS→Option R):cZ.L0.R (o_2,lL,t10L,t11,t12,n2,n9) kn kx=
  aG ((fM t12 t11)) (
   aG (eI t12 ((t10L:Nat):Int)) (
   aG (decide ((0+(Int.toNat t12)) < (List.length n9))) (
   aG (decide ((((0+(Int.toNat t12))*4)+0)=(0+((Int.toNat t12)*4)))) (
   ah (dj.call (nth fX n9 (0+(Int.toNat t12))).1) fun x1=>
   aG (eI t12 ((lL:Nat):Int)) (
   aG (decide ((0+(Int.toNat t12)) < (List.length n9))) (
   aG (decide ((((0+(Int.toNat t12))*4)+0)=((0+((Int.toNat t12)*4))+0))) (
   aG (decide ((0+(Int.toNat t12)) < (List.length n9))) (
   kn (cZ.L0.st (o_2,lL,t10L,t11,(bN .i64 t12 (1:Int)),n2,(List.set n9 (0+(Int.toNat t12)) (x1,(nth fX n9 (0+(Int.toNat t12))).2))))) none) none) none) none) none) none) none) (
   aG (decide (0=0∧(0+lL)≤(List.length n9))) (
   kx (cZ.L0.bp ((o_2,n2),((cut n9 0 lL),n9))).1 (cZ.L0.bp ((o_2,n2),((cut n9 0 lL),n9))).2) none):=by kernel_rfl
theorem cZ.eq{R:Type}(o:gm)(k:ba→Option R):cZ.A o k=
 ah (fB.call o.2.1.1) fun x1=>
 ah (cZ.L0.call (o,x1.1,x1.1,((x1.1:Nat):Int),(0:Int),(0:Int),x1.2)) fun x3=>
 k (cZ.out (x3.1.1.1,((x3.2.1,()),()))):=by kernel_rfl
theorem cZ.L0.ok:cZ.L0.Ok:=by
 refine cZ.L0.aB (fun(_,_,_,_,i,_,l)=>l.length - i.toNat) ?_
 rintro⟨o,n,m,t,i,u,l⟩ ⟨⟨hlen,hx⟩,k,hk,rfl,rfl,rfl,rfl⟩
 have hlen:l.length≤1000:=hlen
 have hk:k≤l.length:=hk
 by_cases h:k < l.length
 ·left
  have n1:nth fX l k=l[k]:=cn (t:=fX) h
  have hs:l.set k l[k]=l:=List.set_getElem_self h
  have e:=hx _ (List.getElem_mem h)
  refine⟨(o,l.length,l.length,(l.length:Int),((k+1:Nat):Int),u,l),⟨⟨hlen,hx⟩,k+1,by omega,rfl,rfl,rfl,rfl⟩,by simp only[Int.toNat_natCast];omega,rfl,fun kn kx=> ?_⟩
  rw[cZ.L0.step,aW (by omega),bm (by omega) (by omega)]
  simp only[Int.toNat_natCast,Nat.zero_add,Nat.add_zero,ae,aZ h,decide_true,n1]
  rw[dj.run (d:=l[k].1) e]
  simp only[aa,dj.add,dj.F]
  rw[N.j5 (by omega)]
  exact congrArg (fun z=>kn (cZ.L0.st (_,_,_,_,_,_,z))) hs
 ·right
  obtain rfl:k=l.length:=by omega
  intro R kn kx
  rw[cZ.L0.step,aO (by omega),ag,aZ (by omega),ae,fb rfl]
  rfl
theorem cZ.ok:cZ.Ok:=by
 rintro⟨a,⟨l,u⟩,v⟩ ⟨h1,h2⟩
 have h1:l.length≤1000:=h1
 rw[cZ.eq,fB.run (d:=l) (by show l.length≤_;omega)]
 simp only[aa,fB.add,fB.F]
 rw[cZ.L0.run (d:=((a,(l,u),v),l.length,l.length,(l.length:Int),0,0,l)) ⟨⟨h1,h2⟩,0,Nat.zero_le _,rfl,rfl,rfl,rfl⟩]
 rfl
noncomputable def cZ.E:=Entry.cD [some fe] cZ.st cZ.av cZ.add cZ.F cZ.out
noncomputable def cZ.call:cZ.D→Option cZ.X:=bS cZ.E cZ.st
theorem cZ.run:bM cZ.call cZ.av cZ.add cZ.F:=dq (df [.d fe] fun _=>by kernel_rfl)
noncomputable def cZ.sg:SG Tryz.prog:=⟨78,aR,cZ.E,.fn 1 (by kernel_rfl) cZ.ok (And.intro (.cD cZ.L0.ok (by kernel_rfl)) trivial)⟩
abbrev bE.L0.D:=Int×(List gm)×Int×Int×(List (cK×fa))
def bE.L0.st:bE.L0.D→AS:=fun(sum,t13,t14,t15,n10)=>⟨([.undef,.undef,.undef,.ptr (.new 12 0) 0 [] 0,.d ti sum]++bl 8 ([.d (.slice fe) t13,.d ti t14,.d ti t15]++bl 35 [])),[],(ch 10 ([[.obj 0 false (.mp ck gl n10)],[],[.obj 0 false (.pr (.ff (.new 10 0) 0) (.pr (.dV) (.d .unit ())))]]++ch 38 []))⟩
abbrev bE.L0.Y0:=Unit
abbrev bE.L0.X0:=Unit
def bE.L0.bp:bE.L0.X0→Exit×AS:=fun x=>(.ret,⟨([.undef,.undef,.jd]++bl 48 []),[],(List.replicate 51 [])⟩)
abbrev bE.L0.Y1:=(List (cK×fa))
abbrev bE.L0.X1:=(List (cK×fa))
def bE.L0.fA:bE.L0.X1→Exit×AS:=fun x=>(.exit 0,⟨([.undef,.undef,.undef,.ptr (.new 12 0) 0 [] 0]++bl 47 []),[],(ch 10 ([[.obj 0 false (.mp ck gl x)],[],[.obj 0 false (.pr (.ff (.new 10 0) 0) (.pr (.dV) (.d .unit ())))]]++ch 38 []))⟩)
abbrev bE.L0.X:=(bE.L0.X0)⊕(bE.L0.X1)
abbrev bE.L0.Y:=(bE.L0.Y0)⊕(bE.L0.Y1)
def bE.L0.out:bE.L0.X→Out (Exit×AS):=fun x=> .br x.isLeft (.get x.getLeft? fun a=> .ok (bE.L0.bp a)) (.get x.getRight? fun b=> .ok (bE.L0.fA b))
def bE.L0.add:bE.L0.D→bE.L0.Y→bE.L0.X:=fun(sum,t13,t14,t15,n10) y=>match y with | .inl y=> .inl y | .inr z=> .inr (z)
abbrev bE.D:=(List gm)
def bE.st:bE.D→SA:=fun outs=>([.d (.slice fe) outs],[])
abbrev bE.Y:=(Unit)⊕((List (cK×fa))×(List dQ))
abbrev bE.X:=(Unit)⊕((List (cK×fa))×(List dQ))
def bE.out:bE.X→ba:=fun x=>match x with | .inl x=>⟨.jd,[],[]⟩ | .inr x=>⟨.ptr (.new 0 0) 0 [] 0,[],[.obj 0 false (.pr (.ff (.new 0 1) 0) (.pr (.bH (.new 0 2) 0 [] 0 0 0) (.d .unit ()))),.obj 0 false (.mp ck gl x.1),.obj 0 false (.vec 161 dZ x.2)]⟩
def bE.add:bE.D→bE.Y→bE.X:=fun outs y=>match y with | .inl y=> .inl y | .inr y=> .inr y
def mf(k:Nat)(o:gm):cK×fa:=((List.replicate 32 (0:Int),((k:Int),())),(o,((0:Int),())))
def j2(sum:Int)(o:gm):Bool:=iT o.2.1 && decide (0≤o.1∧o.1≤1125899906842624 - sum)
def na(sum:Int)(k:Nat):List gm→Option (List (cK×fa))
 |[]=>some []
 |o::l=>match j2 sum o with | true=>(na (sum+o.1) (k+1) l).map (mf k o:: ·) | false=>none
def qe(outs:List gm):Option (List (cK×fa)):=if outs.length≤256 then na 0 0 outs else none
def sO(o:gm):Prop:=u9 o.2.1∧o.2.1.1.length≤9223372036854775807∧o.1≤9223372036854775807
def bE.L0.av:bE.L0.D→Prop:=fun(sum,outs,n,i,a)=>(∀o∈outs,sO o)∧outs.length≤256∧0≤sum∧sum≤1125899906842624∧∃k:Nat,k≤outs.length∧i=k∧n=outs.length∧∀p∈a,p.1.2.1 < (k:Int)
def bE.L0.F:bE.L0.D→bE.L0.Y:=fun(sum,outs,_,i,a)=>match na sum i.toNat (outs.drop i.toNat) with | none=> .inl () | some r=> .inr (a++r)
def bE.av:bE.D→Prop:=fun outs=>∀o∈outs,sO o
def bE.F:bE.D→bE.Y:=fun outs=>match qe outs with | none=> .inl () | some r=> .inr (r,[])
noncomputable def bE.G:ed:=fk (P:=Tryz.prog) [aQ.sg,cZ.sg]
noncomputable def bE.L0.E:=bU.cD bE.L0.st bE.L0.av bE.L0.add bE.L0.F bE.L0.out
noncomputable def bE.L0.call:bE.L0.D→Option bE.L0.X:=dw bE.L0.E bE.L0.st
noncomputable def bE.an:eQ:= {bX:=[12],loops:=jB [(5,{bn:=[3,4,13,14,15],sites:=[10,12]})],outs:=jA [(5,{bn:=[3],sites:=[10,12]},{bn:=[2]})],fC:=kf [(5,bE.L0.E)],iE:=[⟨2,[.snd,.fst],0,148⟩]}
noncomputable def bE.A:= @cY Tryz.prog bE.G bE.an 0 Tryz.f27 _ bE.st
abbrev bE.Ok:=dd @bE.A bE.av bE.add bE.F bE.out
noncomputable def bE.L0.R:= @cj Tryz.prog bE.G bE.an 0 Tryz.f27 0 _ bE.L0.st
abbrev bE.L0.Ok:=ew Tryz.prog bE.G bE.an 0 Tryz.f27 0 bE.L0.st bE.L0.av bE.L0.add bE.L0.F bE.L0.out
theorem bE.L0.run:bM bE.L0.call bE.L0.av bE.L0.add bE.L0.F:=eM (eL [.d ti,.d (.slice fe),.d ti,.d ti,.d (.slice (.pair ck gl))] fun _=>by kernel_rfl)
theorem bE.L0.aB:kC @bE.L0.R bE.L0.st bE.L0.av bE.L0.add bE.L0.F bE.L0.out bE.L0.Ok:=kL
theorem bE.L0.step{R:Type}(sum:Int)(t13:(List gm))(t14:Int)(t15:Int)(n10:(List (cK×fa)))(kn:AS→Option R)(kx:Exit→AS→Option R):bE.L0.R (sum,t13,t14,t15,n10) kn kx=
  aG ((fM t15 t14)) (
   aG (eI t15 (((List.length t13):Nat):Int)) (
   ah (aQ.call (nth fe t13 (Int.toNat t15)).2.1) fun x1=>
   aG ((!x1)) (
    kx (bE.L0.bp ()).1 (bE.L0.bp ()).2) (
    aG ((fM (nth fe t13 (Int.toNat t15)).1 (0:Int))) (
     kx (bE.L0.bp ()).1 (bE.L0.bp ()).2) (
     aG ((nN (nth fe t13 (Int.toNat t15)).1 (da .i64 (1125899906842624:Int) sum))) (
      kx (bE.L0.bp ()).1 (bE.L0.bp ()).2) (
      ah (cZ.call (nth fe t13 (Int.toNat t15))) fun x2=>
      kn (bE.L0.st ((bN .i64 sum (nth fe t13 (Int.toNat t15)).1),t13,t14,(bN .i64 t15 (1:Int)),(fH ck ((List.replicate 32 (0:Int)),(t15,())) (x2,((0:Int),())) n10))))))) none) (
   kx (bE.L0.fA n10).1 (bE.L0.fA n10).2):=by kernel_rfl
theorem bE.eq{R:Type}(outs:(List gm))(k:ba→Option R):bE.A outs k=
  aG ((nN (((List.length outs):Nat):Int) (256:Int))) (
   k (bE.out (.inl ()))) (
   ah (bE.L0.call ((0:Int),outs,(((List.length outs):Nat):Int),(0:Int),([]:List (cK×fa)))) fun x3=>
   aG (x3.isLeft) (
    ah (x3.getLeft?) fun a4=>
    k (bE.out (.inl ()))) (
    ah (x3.getRight?) fun b5=>
    k (bE.out (.inr (b5,([]:List dQ)))))):=by kernel_rfl
theorem bE.L0.ok:bE.L0.Ok:=by
 refine bE.L0.aB (fun(_,outs,_,i,_)=>outs.length - i.toNat) ?_
 rintro⟨sum,outs,n,i,a⟩ ⟨hg,hl,h0,h1,k,hk,rfl,rfl,hf⟩
 have h0:0≤sum:=h0
 have h1:sum≤1125899906842624:=h1
 have hl:outs.length≤256:=hl
 have hk:k≤outs.length:=hk
 by_cases h:k < outs.length
 ·obtain⟨g1,g2,g3⟩:=hg _ (List.getElem_mem h)
  have n1:nth fe outs k=outs[k]:=cn (t:=fe) h
  have hd:outs.drop k=outs[k]::outs.drop (k+1):=List.drop_eq_getElem_cons h
  have hs:∀ {R:Type} (kn:AS→Option R) (kx:Exit→AS→Option R),bE.L0.R (sum,outs,(outs.length:Int),(k:Int),a) kn kx=
    aG (!(iT outs[k].2.1)) (kx (bE.L0.bp ()).1 (bE.L0.bp ()).2) (aG (fM outs[k].1 0) (kx (bE.L0.bp ()).1 (bE.L0.bp ()).2) (aG (nN outs[k].1 (1125899906842624 - sum)) (kx (bE.L0.bp ()).1 (bE.L0.bp ()).2)
     (ah (cZ.call outs[k]) fun x2=>kn (bE.L0.st ((bN .i64 sum outs[k].1),outs,(outs.length:Int),(bN .i64 (k:Int) (1:Int)),(fH ck ((List.replicate 32 (0:Int)),((k:Int),())) (x2,((0:Int),())) a)))))):=fun kn kx=>by
   rw[bE.L0.step,aW (by omega),ae,bm (by omega) (by omega),ae,Int.toNat_natCast,n1,aQ.run (d:=outs[k].2.1) ⟨g1,g2⟩,eS (by omega) (by omega)]
   rfl
  by_cases hok:j2 sum outs[k]=true
  ·left
   have hok':=hok
   unfold j2 at hok'
   simp only[Bool.and_eq_true,decide_eq_true_eq]at hok'
   obtain⟨k1,k2,k3⟩:=hok'
   have hlk:=oM k1
   refine⟨(sum+outs[k].1,outs,(outs.length:Int),((k+1:Nat):Int),a++ [mf k outs[k]]),⟨hg,hl,by show 0≤sum+outs[k].1;omega,by show sum+outs[k].1≤_;omega,k+1,by omega,rfl,rfl,fun p hp=> ?_⟩,by simp only[Int.toNat_natCast];omega,?_,fun kn kx=> ?_⟩
   ·rcases List.mem_append.1 hp with hp | hp
    ·have:=hf p hp;omega
    ·rw[List.mem_singleton.1 hp];show(k:Int) < _;omega
   ·simp only[bE.L0.add,bE.L0.F,Int.toNat_natCast,hd,na,hok]
    cases na (sum+outs[k].1) (k+1) (outs.drop (k+1)) with
    |none=>rfl
    |some r=>simp only[Option.map_some,List.append_assoc,List.singleton_append]
   ·rw[hs,k1,Bool.not_true,ag,aO (by omega),ag,dI (by omega),ag,cZ.run (d:=outs[k]) ⟨by omega,fun b hb=>by have:=hlk.2 b hb;omega⟩]
    simp only[aa,cZ.add,cZ.F]
    rw[gF (by omega) (by omega),N.j5 (by omega),lr fI]
    ·rfl
    ·intro hm
     obtain⟨p,hp,he⟩:=List.mem_map.1 hm
     have:=hf p hp
     have he:p.1=_:=he
     rw[he]at this
     have this:(k:Int) < k:=this
     omega
  ·right
   have hok2:j2 sum outs[k]=false:=by simpa using hok
   refine⟨bE.L0.bp (),?_,fun kn kx=> ?_⟩
   rotate_left
   ·rw[hs]
    unfold j2 at hok2
    cases k1:iT outs[k].2.1 with
    |false=>rw[Bool.not_false,ae]
    |true=>
     rw[k1]at hok2
     simp only[Bool.true_and,decide_eq_false_iff_not]at hok2
     rw[Bool.not_true,ag]
     by_cases k2:outs[k].1 < 0
     ·rw[aW k2,ae]
     ·rw[aO k2,ag,dY (by omega),ae]
   ·simp only[bE.L0.add,bE.L0.F,Int.toNat_natCast,hd,na,hok2]
    rfl
 ·right
  obtain rfl:k=outs.length:=by omega
  refine⟨bE.L0.fA a,?_,fun kn kx=> ?_⟩
  rotate_left
  ·rw[bE.L0.step,aO (by omega),ag]
  ·simp only[bE.L0.add,bE.L0.F,Int.toNat_natCast,List.drop_length,na,List.append_nil]
   rfl
theorem bE.ok:bE.Ok:=by
 intro outs hg
 rw[bE.eq]
 simp only[bE.add,bE.F,qe]
 by_cases h:outs.length≤256
 ·rw[dI (by omega),ag,bE.L0.run (d:=(0,outs,(outs.length:Int),0,[])) ⟨hg,h,by decide,by decide,0,Nat.zero_le _,rfl,rfl,fun p hp=>by cases hp⟩,if_pos h]
  simp only[aa,bE.L0.add,bE.L0.F,Int.toNat_zero,List.drop_zero]
  cases na 0 0 outs with
  |none=>rfl
  |some r=>rfl
 ·rw[dY (by omega),ae,if_neg h]
noncomputable def bE.E:=Entry.BU [some (.slice fe)] bE.st bE.av bE.add bE.F bE.out
noncomputable def bE.call:bE.D→Option bE.X:=bS bE.E bE.st
theorem bE.run:bM bE.call bE.av bE.add bE.F:=Bc (df [.d (.slice fe)] fun _=>by kernel_rfl)
noncomputable def bE.sg:SG Tryz.prog:=⟨27,aR,bE.E,.HE (.fn 1 (by kernel_rfl) bE.ok (And.intro (.cD bE.L0.ok (by kernel_rfl)) trivial))⟩
end Go.Ab
