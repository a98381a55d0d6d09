/-
  Made short by a program of mine (wip/tools/mini.py).
-/
import Derived.Test.YtlpebgkekjfhaaaGreatS13x4
import Derived.Shelf.SlSortCmp.NoneTotal
import Derived.Test.YtlpebgkekjfhaaaGreatProg
set_option linter.unusedVariables false
set_option linter.unusedSimpArgs false
namespace Go.Ab
open Go.Proofs
set_option maxRecDepth 100000
set_option linter.unusedVariables false
set_option linter.unusedSimpArgs false
set_option synthInstance.maxSize 5000
def lg(o:List Int)(ks:List Int):List Int:=ks.foldl (fun o p=>o++hZ p) o
def FQ(o:List Int)(b:iw):List Int:=eE (eE (lg (eE o b.1.length) b.1) b.2.1) b.2.2.1++hZ b.2.2.2.1
def zd(l:Lk):List Int:=if jE l then l.1.foldl FQ (eE [] l.1.length) else []
theorem rp:∀(ks:List Int) (o:List Int),(lg o ks).length=o.length+8*ks.length
 |[],o=>rfl
 |k::ks,o=>by
  show(lg (o++hZ k) ks).length=_
  rw[rp ks,List.length_append,bW,List.length_cons];omega
theorem AB(o:List Int)(b:iw)(h:b.1.length≤12):(FQ o b).length≤o.length+200:=by
 unfold FQ
 have h1:=fm o b.1.length
 have h2:=rp b.1 (eE o b.1.length)
 have h3:=fm (lg (eE o b.1.length) b.1) b.2.1
 have h4:=fm (eE (lg (eE o b.1.length) b.1) b.2.1) b.2.2.1
 rw[List.length_append,bW];omega
def Eg(n:Int):Prop:=n≤9223372036854775807
def HM(b:iw):Prop:=b.1.length≤12∧Eg b.2.1∧Eg b.2.2.1
theorem FR{b:iw}(h:oV b=true):HM b:=by
 unfold oV sw at h
 simp only[Bool.and_eq_true,decide_eq_true_eq]at h
 obtain⟨h1,_,h2,h3,_⟩:=h
 exact⟨h1,by unfold Eg;omega,by unfold Eg;omega⟩
theorem zL(o:List Int)(ks:List Int)(k:Nat)(h:k < ks.length):lg o (ks.drop k)=lg (o++hZ ks[k]) (ks.drop (k+1)):=by rw[List.drop_eq_getElem_cons h];rfl
abbrev aF.L0.D:=Bs×(List iw)×Int×Int
def aF.L0.st:aF.L0.D→AS:=fun(outv,t16,t17,t18)=>⟨([.undef,.undef,.undef,.d tB outv]++bh 12 ([.d (.slice gA) t16,.d ti t17,.d ti t18]++bh 31 [])),[],(List.replicate 50 [])⟩
abbrev aF.L0.Y0:=Bs
abbrev aF.L0.X0:=Bs
def aF.L0.bw:aF.L0.X0→Exit×AS:=fun x=>(.exit 0,⟨([.undef,.undef,.undef,.d tB x]++bh 46 []),[],(List.replicate 50 [])⟩)
abbrev aF.L0.X:=aF.L0.X0
abbrev aF.L0.Y:=aF.L0.Y0
def aF.L0.out:aF.L0.X→Out (Exit×AS):=fun x=> .ok (aF.L0.bw x)
def aF.L0.add:aF.L0.D→aF.L0.Y→aF.L0.X:=fun(outv,t16,t17,t18) y=>y
abbrev aF.L1.D:=Bs×(List iw)×Int×Int×Bs×Int×Int×iw
def aF.L1.st:aF.L1.D→AS:=fun(outv_2,t16_2,t17_2,t18_2,t28,t29,t30,n5)=>⟨([.undef,.undef,.undef,.d tB outv_2,.undef,.ptr (.new 5 0) 0 [] 0]++bh 10 ([.d (.slice gA) t16_2,.d ti t17_2,.d ti t18_2]++bh 9 ([.d tU t28,.d ti t29,.d ti t30]++bh 19 []))),[],(bI 5 ([[.obj 0 false (.d gA n5)]]++bI 44 []))⟩
abbrev aF.L1.Y0:=Bs
abbrev aF.L1.X0:=((List iw)×Int×Int×iw)×(Bs)
def aF.L1.bw:aF.L1.X0→Exit×AS:=fun x=>(.exit 2,⟨([.undef,.undef,.undef,.d tB x.2,.undef,.ptr (.new 5 0) 0 [] 0]++bh 10 ([.d (.slice gA) x.1.1,.d ti x.1.2.1,.d ti x.1.2.2.1]++bh 31 [])),[],(bI 5 ([[.obj 0 false (.d gA x.1.2.2.2)]]++bI 44 []))⟩)
abbrev aF.L1.X:=aF.L1.X0
abbrev aF.L1.Y:=aF.L1.Y0
def aF.L1.out:aF.L1.X→Out (Exit×AS):=fun x=> .ok (aF.L1.bw x)
def aF.L1.add:aF.L1.D→aF.L1.Y→aF.L1.X:=fun(outv_2,t16_2,t17_2,t18_2,t28,t29,t30,n5) y=>((t16_2,t17_2,t18_2,n5),y)
abbrev aF.D:=Lk
def aF.st:aF.D→SA:=fun l=>([.d oX l],[])
abbrev aF.Y:=Bs
abbrev aF.X:=Bs
def aF.out:aF.X→bg:=fun x=>⟨.d tB x,[],[]⟩
def aF.add:aF.D→aF.Y→aF.X:=fun l y=>y
def aF.L1.aB:aF.L1.D→Prop:=fun(o,bs,n,i,ks,m,j,b)=>ks.length≤12∧o.length+8*ks.length≤80000000+8*j.toNat∧m=ks.length∧∃k:Nat,k≤ks.length∧j=k
def aF.L1.F:aF.L1.D→aF.L1.Y:=fun(o,bs,n,i,ks,m,j,b)=>lg o (ks.drop j.toNat)
def aF.L0.aB:aF.L0.D→Prop:=fun(o,bs,n,i)=>(∀b∈bs,HM b)∧bs.length≤4∧o.length≤1000+200*i.toNat∧n=bs.length∧∃k:Nat,k≤bs.length∧i=k
def aF.L0.F:aF.L0.D→aF.L0.Y:=fun(o,bs,n,i)=>(bs.drop i.toNat).foldl FQ o
def aF.aB:aF.D→Prop:=fun l=>Ck l∧l.1.length≤9223372036854775807
def aF.F:aF.D→aF.Y:=fun l=>zd l
noncomputable def aF.G:dY:=fg (P:=Tryz.prog) [aM.sg,dE.sg,dw.sg]
noncomputable def aF.L0.E:=bQ.cC aF.L0.st aF.L0.aB aF.L0.add aF.L0.F aF.L0.out
noncomputable def aF.L0.call:aF.L0.D→Option aF.L0.X:=dm aF.L0.E aF.L0.st
noncomputable def aF.L1.E:=bQ.cC aF.L1.st aF.L1.aB aF.L1.add aF.L1.F aF.L1.out
noncomputable def aF.L1.call:aF.L1.D→Option aF.L1.X:=dm aF.L1.E aF.L1.st
noncomputable def aF.an:eI:= {loops:=j4 [(5,{bm:=[3,16,17,18]}),(9,{bm:=[3,5,16,17,18,28,29,30],sites:=[5]})],outs:=j3 [(5,{bm:=[3]},{bm:=[2]}),(9,{bm:=[3,5,16,17,18],sites:=[5]},{bm:=[2]})],fJ:=kT [(5,aF.L0.E),(9,aF.L1.E)],res:=[some tB]}
noncomputable def aF.A:= @cY Tryz.prog aF.G aF.an 0 Tryz.f146 _ aF.st
abbrev aF.Ok:=cZ @aF.A aF.aB aF.add aF.F aF.out
noncomputable def aF.L0.R:= @bV Tryz.prog aF.G aF.an 0 Tryz.f146 0 _ aF.L0.st
abbrev aF.L0.Ok:=ez Tryz.prog aF.G aF.an 0 Tryz.f146 0 aF.L0.st aF.L0.aB aF.L0.add aF.L0.F aF.L0.out
noncomputable def aF.L1.R:= @bV Tryz.prog aF.G aF.an 0 Tryz.f146 1 _ aF.L1.st
abbrev aF.L1.Ok:=ez Tryz.prog aF.G aF.an 0 Tryz.f146 1 aF.L1.st aF.L1.aB aF.L1.add aF.L1.F aF.L1.out
theorem aF.L0.run:bM aF.L0.call aF.L0.aB aF.L0.add aF.L0.F:=eF (eD [.d tB,.d (.slice gA),.d ti,.d ti] fun _=>by kernel_rfl)
theorem aF.L0.aD:fP @aF.L0.R aF.L0.st aF.L0.aB aF.L0.add aF.L0.F aF.L0.bw aF.L0.Ok:=fR
theorem aF.L0.step{R:Type}(outv:Bs)(t16:(List iw))(t17:Int)(t18:Int)(kn:AS→Option R)(kx:Exit→AS→Option R):aF.L0.R (outv,t16,t17,t18) kn kx=
  aK ((fZ t18 t17)) (
   aK (eH t18 (((List.length t16):Nat):Int)) (
   al (dE.call (outv,(((List.length (nth gA t16 (Int.toNat t18)).1):Nat):Int))) fun x1=>
   al (aF.L1.call (x1,t16,t17,t18,(nth gA t16 (Int.toNat t18)).1,(((List.length (nth gA t16 (Int.toNat t18)).1):Nat):Int),(0:Int),(nth gA t16 (Int.toNat t18)))) fun x2=>
   al (dE.call (x2.2,x2.1.2.2.2.2.1)) fun x3=>
   al (dE.call (x3,x2.1.2.2.2.2.2.1)) fun x4=>
   al (dw.call (x4,x2.1.2.2.2.2.2.2.1)) fun x5=>
   kn (aF.L0.st (x5,x2.1.1,x2.1.2.1,(bR .i64 x2.1.2.2.1 (1:Int))))) none) (
   kx (aF.L0.bw outv).1 (aF.L0.bw outv).2):=by kernel_rfl
theorem aF.L1.run:bM aF.L1.call aF.L1.aB aF.L1.add aF.L1.F:=eF (eD [.d tB,.d (.slice gA),.d ti,.d ti,.d tU,.d ti,.d ti,.d gA] fun _=>by kernel_rfl)
theorem aF.L1.aD:fP @aF.L1.R aF.L1.st aF.L1.aB aF.L1.add aF.L1.F aF.L1.bw aF.L1.Ok:=fR
theorem aF.L1.step{R:Type}(outv_2:Bs)(t16_2:(List iw))(t17_2:Int)(t18_2:Int)(t28:Bs)(t29:Int)(t30:Int)(n5:iw)(kn:AS→Option R)(kx:Exit→AS→Option R):aF.L1.R (outv_2,t16_2,t17_2,t18_2,t28,t29,t30,n5) kn kx=
  aK ((fZ t30 t29)) (
   aK (eH t30 (((List.length t28):Nat):Int)) (
   al (dw.call (outv_2,(nth tu t28 (Int.toNat t30)))) fun x1=>
   kn (aF.L1.st (x1,t16_2,t17_2,t18_2,t28,t29,(bR .i64 t30 (1:Int)),n5))) none) (
   kx (aF.L1.bw ((t16_2,t17_2,t18_2,n5),outv_2)).1 (aF.L1.bw ((t16_2,t17_2,t18_2,n5),outv_2)).2):=by kernel_rfl
theorem aF.eq{R:Type}(l:Lk)(k:bg→Option R):aF.A l k=
  al (aM.call l) fun x1=>
  aK ((!x1)) (
   k (aF.out ([]:List Int))) (
   al (dE.call (([]:List Int),(((List.length l.1):Nat):Int))) fun x2=>
   al (aF.L0.call (x2,l.1,(((List.length l.1):Nat):Int),(0:Int))) fun x9=>
   k (aF.out x9)):=by kernel_rfl
theorem aF.L1.ok:aF.L1.Ok:=by
 refine aF.L1.aD (fun(o,bs,n,i,ks,m,j,b)=>ks.length - j.toNat) ?_
 rintro⟨o,bs,n,i,ks,m,j,b⟩ ⟨hk12,hl,rfl,k,hk,rfl⟩
 have hk12:ks.length≤12:=hk12
 have hk:k≤ks.length:=hk
 have hl:o.length+8*ks.length≤80000000+8*(k:Int).toNat:=hl
 rw[Int.toNat_natCast]at hl
 by_cases h:k < ks.length
 ·left
  have n1:nth (.int .u64) ks k=ks[k]:=cG (t:= .int .u64) h
  refine⟨(o++hZ ks[k],bs,n,i,ks,ks.length,((k+1:Nat):Int),b),⟨hk12,by rw[List.length_append,bW,Int.toNat_natCast];omega,rfl,k+1,by omega,rfl⟩,by simp only[Int.toNat_natCast];omega,?_,fun kn kx=> ?_⟩
  ·simp only[aF.L1.add,aF.L1.F,Int.toNat_natCast]
   rw[zL _ _ _ h]
  ·rw[aF.L1.step]
   simp(disch:=omega) only[↓S1,↓if_pos,↓if_neg,if_pos,if_neg,if_true,if_false,S2,n1]
   rw[dw.run (d:=(o,ks[k])) (by show o.length≤90000000;omega)]
   rfl
 ·right
  obtain rfl:k=ks.length:=by omega
  intro R kn kx
  rw[aF.L1.step]
  simp(disch:=omega) only[↓S1,↓if_pos,↓if_neg,if_pos,if_neg,if_true,if_false,S2,aF.L1.add,aF.L1.F,List.drop_length]
  rfl
theorem aF.L0.ok:aF.L0.Ok:=by
 refine aF.L0.aD (fun(o,bs,n,i)=>bs.length - i.toNat) ?_
 rintro⟨o,bs,n,i⟩ ⟨hb,h4,hl,rfl,k,hk,rfl⟩
 have h4:bs.length≤4:=h4
 have hk:k≤bs.length:=hk
 have hl:o.length≤1000+200*(k:Int).toNat:=hl
 rw[Int.toNat_natCast]at hl
 by_cases h:k < bs.length
 ·left
  have hx:=hb _ (List.getElem_mem h)
  have n1:nth (.pair (.slice (.int .u64)) (.pair (.int .i64) (.pair (.int .i64) (.pair (.int .u64) .unit)))) bs k=bs[k]:=cG (t:=(.pair (.slice (.int .u64)) (.pair (.int .i64) (.pair (.int .i64) (.pair (.int .u64) .unit))))) h
  have e0:=AB o bs[k] hx.1
  refine⟨(FQ o bs[k],bs,bs.length,((k+1:Nat):Int)),⟨hb,h4,by rw[Int.toNat_natCast];omega,rfl,k+1,by omega,rfl⟩,by simp only[Int.toNat_natCast];omega,?_,fun kn kx=> ?_⟩
  ·simp only[aF.L0.add,aF.L0.F,Int.toNat_natCast]
   rw[List.drop_eq_getElem_cons h]
   rfl
  ·rw[aF.L0.step,bu (by omega),bz (by omega) (by omega),Int.toNat_natCast,n1]
   obtain⟨⟨ks,af,dl,sc,u⟩,hbk⟩:∃b,bs[k]=b:=⟨_,rfl⟩
   rw[hbk]at hx e0 ⊢
   obtain⟨h12,ha,hd⟩:=hx
   have h12:ks.length≤12:=h12
   have ha:af≤9223372036854775807:=ha
   have hd:dl≤9223372036854775807:=hd
   have l1:=fm o ks.length
   have l2:=rp ks (eE o ks.length)
   have l3:=fm (lg (eE o ks.length) ks) af
   have l4:=fm (eE (lg (eE o ks.length) ks) af) dl
   simp only[ai]
   rw[dE.run (d:=(o,(ks.length:Int))) ⟨by show o.length≤90000000;omega,by show(ks.length:Int)≤9223372036854775807;omega⟩]
   simp only[ab,dE.add,dE.F]
   rw[aF.L1.run (d:=(eE o ks.length,bs,bs.length,k,ks,ks.length,0,(ks,af,dl,sc,u))) ⟨h12,by show(eE o ks.length).length+8*ks.length≤_;omega,rfl,0,by omega,rfl⟩]
   simp only[ab,aF.L1.add,aF.L1.F,Int.toNat_zero,List.drop_zero]
   rw[dE.run (d:=(lg (eE o ks.length) ks,af)) ⟨by show(lg (eE o ks.length) ks).length≤90000000;omega,ha⟩]
   simp only[ab,dE.add,dE.F]
   rw[dE.run (d:=(eE (lg (eE o ks.length) ks) af,dl)) ⟨by show(eE (lg (eE o ks.length) ks) af).length≤90000000;omega,hd⟩]
   simp only[ab,dE.add,dE.F]
   rw[dw.run (d:=(eE (eE (lg (eE o ks.length) ks) af) dl,sc)) (by show(eE (eE (lg (eE o ks.length) ks) af) dl).length≤90000000;omega)]
   simp only[ab,dw.add,dw.F]
   rw[N.kO (by omega)]
   rfl
 ·right
  obtain rfl:k=bs.length:=by omega
  intro R kn kx
  rw[aF.L0.step]
  simp(disch:=omega) only[↓S1,↓if_pos,↓if_neg,if_pos,if_neg,if_true,if_false,S2,aF.L0.add,aF.L0.F,List.drop_length]
  rfl
theorem Dd{l:Lk}(h:jE l=true):(∀b∈l.1,HM b)∧0 < l.1.length∧l.1.length≤4:=by
 unfold jE at h
 simp only[Bool.and_eq_true,List.all_eq_true,decide_eq_true_eq]at h
 exact⟨fun b hb=>FR (h.1 b hb),h.2⟩
theorem aF.ok:aF.Ok:=by
 rintro l ⟨hl,hb⟩
 have hl:Ck l:=hl
 rw[aF.eq,aM.run (d:=l) ⟨hl,hb⟩]
 simp only[ab,aM.add,aM.F,aF.add,aF.F,zd]
 cases hok:jE l
 ·rfl
 ·obtain⟨h1,h2,h3⟩:=Dd hok
  have l1:=fm [] l.1.length
  have l0:([]:List Int).length=0:=rfl
  simp only[Bool.not_true,ao,if_true]
  rw[dE.run (d:=([],(l.1.length:Int))) ⟨by show([]:List Int).length≤90000000;omega,by show(l.1.length:Int)≤9223372036854775807;omega⟩]
  simp only[ab,dE.add,dE.F]
  rw[aF.L0.run (d:=(eE [] l.1.length,l.1,l.1.length,0)) ⟨h1,h3,by show(eE [] l.1.length).length≤_;omega,rfl,0,by omega,rfl⟩]
  rfl
theorem wN(l:Lk):(zd l).length≤1000:=by
 unfold zd
 split
 ·rename_i h
  obtain⟨h1,h2,h3⟩:=Dd h
  have key:∀(bs:List iw) (o:List Int),(∀b∈bs,HM b)→(bs.foldl FQ o).length≤o.length+200*bs.length:=by
   intro bs
   induction bs with
   |nil=>intro o _;exact Nat.le_refl _
   |cons b bs ih=>
    intro o hb
    have e1:=ih (FQ o b) fun x hx=>hb x (List.mem_cons_of_mem _ hx)
    have e2:=AB o b (hb b List.mem_cons_self).1
    rw[List.foldl_cons,List.length_cons];omega
  have e:=key l.1 (eE [] l.1.length) h1
  have e2:=fm [] l.1.length
  have l0:([]:List Int).length=0:=rfl
  omega
 ·exact Nat.zero_le _
noncomputable def aF.E:=Entry.cC [some oX] aF.st aF.aB aF.add aF.F aF.out
noncomputable def aF.call:aF.D→Option aF.X:=bS aF.E aF.st
theorem aF.run:bM aF.call aF.aB aF.add aF.F:=dh (dd [.d oX] fun _=>by kernel_rfl)
noncomputable def aF.sg:SG Tryz.prog:=⟨146,aX,aF.E,.fn 2 (by kernel_rfl) aF.ok (And.intro (.cC aF.L0.ok (by kernel_rfl)) (And.intro (.cC aF.L1.ok (by kernel_rfl)) trivial))⟩
set_option synthInstance.maxSize 5000
abbrev eh.D:=Bs×Bs
def eh.st:eh.D→SA:=fun(b,h)=>([.d tB b,.d tH h],[])
abbrev eh.Y:=Bs
abbrev eh.X:=Bs
def eh.out:eh.X→bg:=fun x=>⟨.d tB x,[],[]⟩
def eh.add:eh.D→eh.Y→eh.X:=fun(b,h) y=>y
def eh.aB:eh.D→Prop:=fun(b,h)=>b.length+h.length≤100000000∧h.length=32
def eh.F:eh.D→eh.Y:=fun(b,h)=>b++h
noncomputable def eh.G:dY:=fg (P:=Tryz.prog) [dz.sg]
noncomputable def eh.an:eI:= {}
noncomputable def eh.A:= @cY Tryz.prog eh.G eh.an 0 Tryz.f124 _ eh.st
abbrev eh.Ok:=cZ @eh.A eh.aB eh.add eh.F eh.out
theorem eh.eq{R:Type}(b:Bs)(h:Bs)(k:bg→Option R):eh.A (b,h) k=
 al (dz.call (b,(cut h 0 32))) fun x1=>
 k (eh.out x1):=by kernel_rfl
theorem eh.ok:eh.Ok:=by
 rintro⟨b,h⟩ ⟨h1,h2⟩
 have h1:b.length+h.length≤100000000:=h1
 have h2:h.length=32:=h2
 rw[eh.eq,e7 h2,dz.run (d:=(b,h)) h1]
 rfl
noncomputable def eh.E:=Entry.cC [some tB,some tH] eh.st eh.aB eh.add eh.F eh.out
noncomputable def eh.call:eh.D→Option eh.X:=bS eh.E eh.st
theorem eh.run:bM eh.call eh.aB eh.add eh.F:=dh (dd [.d tB,.d tB] fun _=>by kernel_rfl)
noncomputable def eh.sg:SG Tryz.prog:=⟨124,aX,eh.E,.fn 0 (by kernel_rfl) eh.ok trivial⟩
abbrev dZ.D:=Bs×Bs
def dZ.st:dZ.D→SA:=fun(b,c)=>([.d tB b,.d tB c],[])
abbrev dZ.Y:=Bs
abbrev dZ.X:=Bs
def dZ.out:dZ.X→bg:=fun x=>⟨.d tB x,[],[]⟩
def dZ.add:dZ.D→dZ.Y→dZ.X:=fun(b,c) y=>y
def dZ.aB:dZ.D→Prop:=fun(b,c)=>b.length+c.length≤90000000
def dZ.F:dZ.D→dZ.Y:=fun(b,c)=>b++(l9 c.length++c)
noncomputable def dZ.G:dY:=fg (P:=Tryz.prog) [cD.sg,ax.sg]
noncomputable def dZ.an:eI:= {res:=[some tB]}
noncomputable def dZ.A:= @cY Tryz.prog dZ.G dZ.an 0 Tryz.f145 _ dZ.st
abbrev dZ.Ok:=cZ @dZ.A dZ.aB dZ.add dZ.F dZ.out
theorem dZ.eq{R:Type}(b:Bs)(c:Bs)(k:bg→Option R):dZ.A (b,c) k=
 al (cD.call (((List.length c):Nat):Int)) fun x1=>
 al (ax.call [b,x1,c]) fun x2=>
 k (dZ.out x2):=by kernel_rfl
theorem dZ.ok:dZ.Ok:=by
 rintro⟨b,c⟩ h
 have h:b.length+c.length≤90000000:=h
 have hl:=qF c.length
 rw[dZ.eq,cD.run (d:=(c.length:Int)) ⟨by omega,by omega⟩]
 simp only[ab,cD.add,cD.F]
 rw[ax.run (d:=[b,l9 c.length,c]) ⟨by show [b,l9 c.length,c].length≤_;simp,by show jJ [b,l9 c.length,c]≤_;simp only[jJ,List.flatten_cons,List.flatten_nil,List.append_nil,List.length_append];omega⟩]
 simp only[ab,ax.add,ax.F,dZ.add,dZ.F,List.flatten_cons,List.flatten_nil,List.append_nil]
noncomputable def dZ.E:=Entry.cC [some tB,some tB] dZ.st dZ.aB dZ.add dZ.F dZ.out
noncomputable def dZ.call:dZ.D→Option dZ.X:=bS dZ.E dZ.st
theorem dZ.run:bM dZ.call dZ.aB dZ.add dZ.F:=dh (dd [.d tB,.d tB] fun _=>by kernel_rfl)
noncomputable def dZ.sg:SG Tryz.prog:=⟨145,aX,dZ.E,.fn 0 (by kernel_rfl) dZ.ok trivial⟩
def uJ(b:List Int)(x:fU):List Int:=eE (b++x.1.1) x.1.2.1
def uZ(b:List Int)(o:fx):List Int:=eE b o.1++(l9 (zd o.2.1).length++zd o.2.1)
def lV(t:eT):List Int:=eE (t.2.1.foldl uZ (eE (t.1.foldl uJ (eE [] t.1.length)) t.2.1.length)) t.2.2.1
def w7(b:List Int)(s:Sg):List Int:=b++hZ s.1++hZ s.2.1
def D9(b:List Int)(x:fU):List Int:=x.2.1.2.1.foldl w7 (eE (eE b x.2.1.1) x.2.1.2.1.length)++hZ x.2.1.2.2.1
def IT(t:eT):List Int:=if gv t then t.1.foldl D9 (lV t) else []
def mD(t:eT):List Int:=if gv t then tag (bt (⟨#[116,120]⟩:ByteArray)) [lV t] else List.replicate 32 0
def IG(x:fU):Prop:=Sm x.1.1∧wa x.2.1∧x.2.1.2.1.length≤9223372036854775807
def oE(t:eT):Prop:=HP t∧(∀x∈t.1,IG x)∧t.2.2.1≤9223372036854775807
theorem mL:∀(l:List fU) (m:List (db×Bool)),qe m l=true→∀x∈l,tw x=true
 |[],_,_,x,hx=>by cases hx
 |y::l,m,h,x,hx=>by
  rw[qe,Bool.and_eq_true,Bool.and_eq_true]at h
  rcases List.mem_cons.1 hx with rfl | hx
  ·exact h.1.2
  ·exact mL l _ h.2 x hx
theorem kb:∀(l:List fx) (s:Int),nk s l=true→∀o∈l,(0≤o.1∧o.1≤1125899906842624)∧jE o.2.1=true
 |[],_,_,o,ho=>by cases ho
 |y::l,s,h,o,ho=>by
  rw[nk,Bool.and_eq_true,Bool.and_eq_true]at h
  rcases List.mem_cons.1 ho with rfl | ho
  ·have h1:=h.1.1
   unfold pR nX at h1
   simp only[Bool.and_eq_true,decide_eq_true_eq]at h1
   exact⟨h1.2.1,h.1.2⟩
  ·exact kb l _ h.2 o ho
theorem wI{x:fU}(h:tw x=true):0≤x.1.2.1∧x.1.2.1 < 64∧0≤x.2.1.1∧x.2.1.1 < 4∧x.2.1.2.1.length≤12:=by
 unfold tw nL at h
 simp only[Bool.and_eq_true,decide_eq_true_eq]at h
 exact⟨h.1.1,h.1.2,h.2.1.1,h.2.1.2,h.2.2⟩
theorem iU{t:eT}(h:gv t=true):(1≤t.1.length∧t.1.length≤64∧t.2.1.length≤64∧0≤t.2.2.1)∧qe [] t.1=true∧nk 0 t.2.1=true:=by
 unfold gv xg at h
 simp only[Bool.and_eq_true,decide_eq_true_eq]at h
 exact h
theorem AN(b:List Int)(x:fU):(uJ b x).length≤b.length+x.1.1.length+11:=by
 have:=fm (b++x.1.1) x.1.2.1
 rw[List.length_append]at this
 exact this
theorem yF(b:List Int)(o:fx):(uZ b o).length≤b.length+1022:=by
 have h1:=fm b o.1
 have h2:=qF (zd o.2.1).length
 have h3:=wN o.2.1
 unfold uZ
 rw[List.length_append,List.length_append]
 omega
theorem yS(b:List Int)(s:Sg):(w7 b s).length=b.length+16:=by
 unfold w7
 rw[List.length_append,List.length_append,bW,bW]
abbrev aG.L0.D:=eT×Bs×(List fU)×Int×Int
def aG.L0.st:aG.L0.D→AS:=fun(t_2,b,t13,t14,t15)=>⟨([.undef,.eC fV t_2,.undef,.d tB b]++bh 9 ([.d (.slice fv) t13,.d ti t14,.d ti t15]++bh 38 [])),[],(List.replicate 54 [])⟩
abbrev aG.L0.Y0:=Bs
abbrev aG.L0.X0:=(eT)×(Bs)
def aG.L0.bw:aG.L0.X0→Exit×AS:=fun x=>(.exit 0,⟨([.undef,.eC fV x.1,.undef,.d tB x.2]++bh 50 []),[],(List.replicate 54 [])⟩)
abbrev aG.L0.X:=aG.L0.X0
abbrev aG.L0.Y:=aG.L0.Y0
def aG.L0.out:aG.L0.X→Out (Exit×AS):=fun x=> .ok (aG.L0.bw x)
def aG.L0.add:aG.L0.D→aG.L0.Y→aG.L0.X:=fun(t_2,b,t13,t14,t15) y=>(t_2,y)
abbrev aG.L1.D:=eT×Bs×(List fx)×Int×Int
def aG.L1.st:aG.L1.D→AS:=fun(t_3,b_2,t35,t36,t37)=>⟨([.undef,.eC fV t_3,.undef,.d tB b_2]++bh 31 ([.d (.slice eP) t35,.d ti t36,.d ti t37]++bh 16 [])),[],(List.replicate 54 [])⟩
abbrev aG.L1.Y0:=Bs
abbrev aG.L1.X0:=(eT)×(Bs)
def aG.L1.bw:aG.L1.X0→Exit×AS:=fun x=>(.exit 2,⟨([.undef,.eC fV x.1,.undef,.d tB x.2]++bh 50 []),[],(List.replicate 54 [])⟩)
abbrev aG.L1.X:=aG.L1.X0
abbrev aG.L1.Y:=aG.L1.Y0
def aG.L1.out:aG.L1.X→Out (Exit×AS):=fun x=> .ok (aG.L1.bw x)
def aG.L1.add:aG.L1.D→aG.L1.Y→aG.L1.X:=fun(t_3,b_2,t35,t36,t37) y=>(t_3,y)
abbrev aG.D:=eT
def aG.st:aG.D→SA:=fun t=>([.d fV t],[])
abbrev aG.Y:=Bs
abbrev aG.X:=Bs
def aG.out:aG.X→bg:=fun x=>⟨.d tB x,[],[]⟩
def aG.add:aG.D→aG.Y→aG.X:=fun t y=>y
def aG.L0.aB:aG.L0.D→Prop:=fun(t,b,l,n,i)=>(l).length≤1000000000∧∃k:Nat,k≤(l).length∧i=k∧n=(l).length∧(l.length≤64)∧(∀x∈l,x.1.1.length=32∧x.1.2.1≤9223372036854775807)∧(b.length≤100+50*k)
def aG.L0.F:aG.L0.D→aG.L0.Y:=fun(t,b,l,n,i)=>(List.drop (Int.toNat i) l).foldl uJ b
def aG.L1.aB:aG.L1.D→Prop:=fun(t,b,l,n,i)=>(l).length≤1000000000∧∃k:Nat,k≤(l).length∧i=k∧n=(l).length∧(l.length≤64)∧(∀o∈l,o.1≤9223372036854775807∧FH o.2.1)∧(b.length≤4000+1100*k)
def aG.L1.F:aG.L1.D→aG.L1.Y:=fun(t,b,l,n,i)=>(List.drop (Int.toNat i) l).foldl uZ b
def aG.aB:aG.D→Prop:=fun t=>gv t=true∧oE t
def aG.F:aG.D→aG.Y:=fun t=>lV t
noncomputable def aG.G:dY:=fg (P:=Tryz.prog) [dE.sg,eh.sg,aF.sg,dZ.sg]
noncomputable def aG.L0.E:=bQ.cC aG.L0.st aG.L0.aB aG.L0.add aG.L0.F aG.L0.out
noncomputable def aG.L0.call:aG.L0.D→Option aG.L0.X:=dm aG.L0.E aG.L0.st
noncomputable def aG.L1.E:=bQ.cC aG.L1.st aG.L1.aB aG.L1.add aG.L1.F aG.L1.out
noncomputable def aG.L1.call:aG.L1.D→Option aG.L1.X:=dm aG.L1.E aG.L1.st
noncomputable def aG.an:eI:= {loops:=j4 [(3,{bm:=[1,3,13,14,15]}),(9,{bm:=[1,3,35,36,37]})],outs:=j3 [(3,{bm:=[1,3]},{bm:=[2]}),(9,{bm:=[1,3]},{bm:=[2]})],fJ:=kT [(3,aG.L0.E),(9,aG.L1.E)],res:=[some tB]}
noncomputable def aG.A:= @cY Tryz.prog aG.G aG.an 0 Tryz.f73 _ aG.st
abbrev aG.Ok:=cZ @aG.A aG.aB aG.add aG.F aG.out
noncomputable def aG.L0.R:= @bV Tryz.prog aG.G aG.an 0 Tryz.f73 0 _ aG.L0.st
abbrev aG.L0.Ok:=ez Tryz.prog aG.G aG.an 0 Tryz.f73 0 aG.L0.st aG.L0.aB aG.L0.add aG.L0.F aG.L0.out
noncomputable def aG.L1.R:= @bV Tryz.prog aG.G aG.an 0 Tryz.f73 1 _ aG.L1.st
abbrev aG.L1.Ok:=ez Tryz.prog aG.G aG.an 0 Tryz.f73 1 aG.L1.st aG.L1.aB aG.L1.add aG.L1.F aG.L1.out
theorem aG.L0.run:bM aG.L0.call aG.L0.aB aG.L0.add aG.L0.F:=eF (eD [.d fV,.d tB,.d (.slice fv),.d ti,.d ti] fun _=>by kernel_rfl)
theorem aG.L0.aD:fP @aG.L0.R aG.L0.st aG.L0.aB aG.L0.add aG.L0.F aG.L0.bw aG.L0.Ok:=fR
theorem aG.L0.step{R:Type}(t_2:eT)(b:Bs)(t13:(List fU))(t14:Int)(t15:Int)(kn:AS→Option R)(kx:Exit→AS→Option R):aG.L0.R (t_2,b,t13,t14,t15) kn kx=
  aK ((fZ t15 t14)) (
   aK (eH t15 (((List.length t13):Nat):Int)) (
   al (eh.call (b,(nth fv t13 (Int.toNat t15)).1.1)) fun x1=>
   al (dE.call (x1,(nth fv t13 (Int.toNat t15)).1.2.1)) fun x2=>
   kn (aG.L0.st (t_2,x2,t13,t14,(bR .i64 t15 (1:Int))))) none) (
   kx (aG.L0.bw (t_2,b)).1 (aG.L0.bw (t_2,b)).2):=by kernel_rfl
theorem aG.L1.run:bM aG.L1.call aG.L1.aB aG.L1.add aG.L1.F:=eF (eD [.d fV,.d tB,.d (.slice eP),.d ti,.d ti] fun _=>by kernel_rfl)
theorem aG.L1.aD:fP @aG.L1.R aG.L1.st aG.L1.aB aG.L1.add aG.L1.F aG.L1.bw aG.L1.Ok:=fR
theorem aG.L1.step{R:Type}(t_3:eT)(b_2:Bs)(t35:(List fx))(t36:Int)(t37:Int)(kn:AS→Option R)(kx:Exit→AS→Option R):aG.L1.R (t_3,b_2,t35,t36,t37) kn kx=
  aK ((fZ t37 t36)) (
   aK (eH t37 (((List.length t35):Nat):Int)) (
   al (dE.call (b_2,(nth eP t35 (Int.toNat t37)).1)) fun x1=>
   al (aF.call (nth eP t35 (Int.toNat t37)).2.1) fun x2=>
   al (dZ.call (x1,x2)) fun x3=>
   kn (aG.L1.st (t_3,x3,t35,t36,(bR .i64 t37 (1:Int))))) none) (
   kx (aG.L1.bw (t_3,b_2)).1 (aG.L1.bw (t_3,b_2)).2):=by kernel_rfl
theorem aG.eq{R:Type}(t:eT)(k:bg→Option R):aG.A t k=
 al (dE.call (([]:List Int),(((List.length t.1):Nat):Int))) fun x1=>
 al (aG.L0.call (t,x1,t.1,(((List.length t.1):Nat):Int),(0:Int))) fun x4=>
 al (dE.call (x4.2,(((List.length x4.1.2.1):Nat):Int))) fun x5=>
 al (aG.L1.call (x4.1,x5,x4.1.2.1,(((List.length x4.1.2.1):Nat):Int),(0:Int))) fun x9=>
 al (dE.call (x9.2,x9.1.2.2.1)) fun x10=>
 k (aG.out x10):=by kernel_rfl
theorem aG.L0.ok:aG.L0.Ok:=by
 refine aG.L0.aD (fun(t,b,l,n,i)=>(l).length - Int.toNat i) ?_
 rintro⟨t,b,l,n,i⟩ ⟨hlen,k,hk,rfl,rfl,h64,hx,hb⟩
 have hlen:(l).length≤1000000000:=hlen
 have hk:k≤(l).length:=hk
 have h64:l.length≤64:=h64
 have hx:∀x∈l,x.1.1.length=32∧x.1.2.1≤9223372036854775807:=hx
 have hb:b.length≤100+50*k:=hb
 by_cases h:k < (l).length
 ·left
  have n1:nth fv l k=l[k]:=cG (t:=fv) h
  have hd:List.drop k l=l[k]::List.drop (k+1) l:=List.drop_eq_getElem_cons h
  refine⟨(t,(uJ b l[k]),l,((l).length:Int),((k+1:Nat):Int)),⟨hlen,k+1,by omega,rfl,rfl,h64,hx,by have:=AN b l[k];have:=(hx _ (List.getElem_mem h)).1;omega⟩,by simp only[Int.toNat_natCast];omega,?_,fun kn kx=> ?_⟩
  ·simp only[aG.L0.add,aG.L0.F,Int.toNat_natCast,hd,List.foldl_cons]
  ·rw[aG.L0.step,bu (by omega),bz (by omega) (by omega),Int.toNat_natCast,n1]
   simp only[ai]
   have e:=hx _ (List.getElem_mem h)
   have e2:(b++l[k].1.1).length=b.length+l[k].1.1.length:=List.length_append
   rw[eh.run (d:=(b,l[k].1.1)) ⟨by show b.length+l[k].1.1.length≤_;omega,e.1⟩]
   simp only[ab,eh.add,eh.F]
   rw[dE.run (d:=(b++l[k].1.1,l[k].1.2.1)) ⟨by show(b++l[k].1.1).length≤_;omega,e.2⟩]
   simp only[ab,dE.add,dE.F]
   rw[N.kO (by omega)]
   rfl
 ·right
  obtain rfl:k=(l).length:=by omega
  intro R kn kx
  rw[aG.L0.step,bk (by omega),ao]
  simp only[aG.L0.add,aG.L0.F,Int.toNat_natCast,List.drop_length,List.foldl_nil]
theorem aG.L1.ok:aG.L1.Ok:=by
 refine aG.L1.aD (fun(t,b,l,n,i)=>(l).length - Int.toNat i) ?_
 rintro⟨t,b,l,n,i⟩ ⟨hlen,k,hk,rfl,rfl,h64,hx,hb⟩
 have hlen:(l).length≤1000000000:=hlen
 have hk:k≤(l).length:=hk
 have h64:l.length≤64:=h64
 have hx:∀o∈l,o.1≤9223372036854775807∧FH o.2.1:=hx
 have hb:b.length≤4000+1100*k:=hb
 by_cases h:k < (l).length
 ·left
  have n1:nth eP l k=l[k]:=cG (t:=eP) h
  have hd:List.drop k l=l[k]::List.drop (k+1) l:=List.drop_eq_getElem_cons h
  refine⟨(t,(uZ b l[k]),l,((l).length:Int),((k+1:Nat):Int)),⟨hlen,k+1,by omega,rfl,rfl,h64,hx,by have:=yF b l[k];omega⟩,by simp only[Int.toNat_natCast];omega,?_,fun kn kx=> ?_⟩
  ·simp only[aG.L1.add,aG.L1.F,Int.toNat_natCast,hd,List.foldl_cons]
  ·rw[aG.L1.step,bu (by omega),bz (by omega) (by omega),Int.toNat_natCast,n1]
   simp only[ai]
   have e:=hx _ (List.getElem_mem h)
   have e1:=fm b l[k].1
   have e2:=wN l[k].2.1
   rw[dE.run (d:=(b,l[k].1)) ⟨by show b.length≤_;omega,e.1⟩]
   simp only[ab,dE.add,dE.F]
   rw[aF.run (d:=l[k].2.1) e.2]
   simp only[ab,aF.add,aF.F]
   rw[dZ.run (d:=(eE b l[k].1,zd l[k].2.1)) (by show(eE b l[k].1).length+(zd l[k].2.1).length≤_;omega)]
   simp only[ab,dZ.add,dZ.F]
   rw[N.kO (by omega)]
   rfl
 ·right
  obtain rfl:k=(l).length:=by omega
  intro R kn kx
  rw[aG.L1.step,bk (by omega),ao]
  simp only[aG.L1.add,aG.L1.F,Int.toNat_natCast,List.drop_length,List.foldl_nil]
theorem wK:∀(l:List fU) (b:List Int),(∀x∈l,x.1.1.length=32)→(l.foldl uJ b).length≤b.length+43*l.length
 |[],b,_=>Nat.le_refl _
 |x::l,b,h=>by
  have h1:=AN b x
  have h2:=h x List.mem_cons_self
  have h3:=wK l (uJ b x) fun y hy=>h y (List.mem_cons_of_mem _ hy)
  rw[List.foldl_cons,List.length_cons]
  omega
theorem tX:∀(l:List fx) (b:List Int),(l.foldl uZ b).length≤b.length+1022*l.length
 |[],b=>Nat.le_refl _
 |x::l,b=>by
  have h1:=yF b x
  have h3:=tX l (uZ b x)
  rw[List.foldl_cons,List.length_cons]
  omega
theorem tZ{t:eT}(hok:gv t=true)(hv:oE t):(lV t).length≤70000:=by
 obtain⟨⟨_,a2,a3,_⟩,_,_⟩:=iU hok
 have h1:=wK t.1 (eE [] t.1.length) fun x hx=>(hv.2.1 x hx).1.1
 have h2:=fm [] t.1.length
 have h3:=fm (t.1.foldl uJ (eE [] t.1.length)) t.2.1.length
 have h4:=tX t.2.1 (eE (t.1.foldl uJ (eE [] t.1.length)) t.2.1.length)
 have h5:=fm (t.2.1.foldl uZ (eE (t.1.foldl uJ (eE [] t.1.length)) t.2.1.length)) t.2.2.1
 have h0:([]:List Int).length=0:=rfl
 unfold lV
 omega
theorem aG.ok:aG.Ok:=by
 rintro t ⟨hok,hv⟩
 have hv:oE t:=hv
 obtain⟨⟨_,a2,a3,_⟩,b1,b2⟩:=iU hok
 have h0:([]:List Int).length=0:=rfl
 have l0:=fm [] t.1.length
 have l1:=wK t.1 (eE [] t.1.length) fun x hx=>(hv.2.1 x hx).1.1
 have l2:=fm (t.1.foldl uJ (eE [] t.1.length)) t.2.1.length
 have l3:=tX t.2.1 (eE (t.1.foldl uJ (eE [] t.1.length)) t.2.1.length)
 rw[aG.eq,dE.run (d:=([],(t.1.length:Int))) ⟨by show([]:List Int).length≤_;omega,by show(t.1.length:Int)≤_;omega⟩]
 simp only[ab,dE.add,dE.F]
 rw[aG.L0.run (d:=(t,eE [] t.1.length,t.1,t.1.length,0)) ⟨by show t.1.length≤_;omega,0,Nat.zero_le _,rfl,rfl,a2,fun x hx=>⟨(hv.2.1 x hx).1.1,by have:=wI (mL _ _ b1 x hx);omega⟩,by show(eE [] t.1.length).length≤_;omega⟩]
 simp only[ab,aG.L0.add,aG.L0.F,Int.toNat_zero,List.drop_zero]
 rw[dE.run (d:=(t.1.foldl uJ (eE [] t.1.length),(t.2.1.length:Int))) ⟨by show(t.1.foldl uJ (eE [] t.1.length)).length≤_;omega,by show(t.2.1.length:Int)≤_;omega⟩]
 simp only[ab,dE.add,dE.F]
 rw[aG.L1.run (d:=(t,eE (t.1.foldl uJ (eE [] t.1.length)) t.2.1.length,t.2.1,t.2.1.length,0)) ⟨by show t.2.1.length≤_;omega,0,Nat.zero_le _,rfl,rfl,a3,fun o ho=>⟨by have:=(kb _ _ b2 o ho).1;omega,hv.1.1 o ho⟩,by show(eE (t.1.foldl uJ (eE [] t.1.length)) t.2.1.length).length≤_;omega⟩]
 simp only[ab,aG.L1.add,aG.L1.F,Int.toNat_zero,List.drop_zero]
 rw[dE.run (d:=(t.2.1.foldl uZ (eE (t.1.foldl uJ (eE [] t.1.length)) t.2.1.length),t.2.2.1)) ⟨by show(t.2.1.foldl uZ (eE (t.1.foldl uJ (eE [] t.1.length)) t.2.1.length)).length≤_;omega,hv.2.2⟩]
 rfl
noncomputable def aG.E:=Entry.cC [some fV] aG.st aG.aB aG.add aG.F aG.out
noncomputable def aG.call:aG.D→Option aG.X:=bS aG.E aG.st
theorem aG.run:bM aG.call aG.aB aG.add aG.F:=dh (dd [.d fV] fun _=>by kernel_rfl)
noncomputable def aG.sg:SG Tryz.prog:=⟨73,aX,aG.E,.fn 2 (by kernel_rfl) aG.ok (And.intro (.cC aG.L0.ok (by kernel_rfl)) (And.intro (.cC aG.L1.ok (by kernel_rfl)) trivial))⟩
set_option synthInstance.maxSize 5000
def Co(t:eT):Prop:=(t.1.length≤1000000000∧∀x∈t.1,x.2.1.2.1.length≤1000000000)∧t.2.1.length≤1000000000∧∀x∈t.2.1,x.2.1.1.length≤1000000000∧∀b∈x.2.1.1,b.1.length≤1000000000
def rM(n:Int)(x:fU):Int:=n+(10+8*x.2.1.2.1.length)+(if x.2.1.2.2.1=0 then 0 else 4)
def D8(t:eT):Int:=if gv t then t.1.foldl rM (10+8*t.2.1.length) else 0
def ea(t:eT):List db:=if gv t then t.1.map (·.1) else []
def nG(id:List Int)(k n:Nat):List db:=(List.range' k n).map fun i:Nat=>(id,((i:Int),()))
def fw(t:eT):List db:=if gv t then nG (mD t) 0 t.2.1.length else []
abbrev tid.D:=eT
def tid.st:tid.D→SA:=fun t=>([.d fV t],[])
abbrev tid.Y:=Bs
abbrev tid.X:=Bs
def tid.out:tid.X→bg:=fun x=>⟨.d tH x,[],[]⟩
def tid.add:tid.D→tid.Y→tid.X:=fun t y=>y
def tid.aB:tid.D→Prop:=fun t=>oE t
def tid.F:tid.D→tid.Y:=fun t=>mD t
noncomputable def tid.G:dY:=fg (P:=Tryz.prog) [aw.sg,aG.sg,ch.sg]
noncomputable def tid.an:eI:= {}
noncomputable def tid.A:= @cY Tryz.prog tid.G tid.an 0 Tryz.f18 _ tid.st
abbrev tid.Ok:=cZ @tid.A tid.aB tid.add tid.F tid.out
theorem tid.eq{R:Type}(t:eT)(k:bg→Option R):tid.A t k=
  al (aw.call t) fun x1=>
  aK ((!x1)) (
   k (tid.out (List.replicate 32 (0:Int)))) (
   al (aG.call t) fun x2=>
   al (ch.call ((⟨#[116,120]⟩:ByteArray),[x2])) fun x3=>
   k (tid.out x3)):=by kernel_rfl
theorem tid.ok:tid.Ok:=by
 intro t hv
 have hv:oE t:=hv
 rw[tid.eq,aw.run (d:=t) hv.1]
 simp only[ab,aw.add,aw.F,tid.add,tid.F,mD]
 cases hok:gv t
 ·rfl
 ·have hl:=tZ hok hv
  rw[aG.run (d:=t) ⟨hok,hv⟩]
  simp only[Bool.not_true,ao,if_true,ab,aG.add,aG.F]
  rw[ch.run (d:=((⟨#[116,120]⟩:ByteArray),[lV t])) (DX (by decide) (by omega))]
  rfl
noncomputable def tid.E:=Entry.cC [some fV] tid.st tid.aB tid.add tid.F tid.out
noncomputable def tid.call:tid.D→Option tid.X:=bS tid.E tid.st
theorem tid.run:bM tid.call tid.aB tid.add tid.F:=dh (dd [.d fV] fun _=>by kernel_rfl)
noncomputable def tid.sg:SG Tryz.prog:=⟨18,aX,tid.E,.fn 0 (by kernel_rfl) tid.ok trivial⟩
abbrev aS.L0.D:=Int×(List fU)×Int×Int
def aS.L0.st:aS.L0.D→AS:=fun(n,t15,t16,t17)=>⟨([.undef,.undef,.undef,.d ti n]++bh 11 ([.d (.slice fv) t15,.d ti t16,.d ti t17]++bh 19 [])),[],(List.replicate 37 [])⟩
abbrev aS.L0.Y0:=Int
abbrev aS.L0.X0:=Int
def aS.L0.bw:aS.L0.X0→Exit×AS:=fun x=>(.exit 0,⟨([.undef,.undef,.undef,.d ti x]++bh 33 []),[],(List.replicate 37 [])⟩)
abbrev aS.L0.X:=aS.L0.X0
abbrev aS.L0.Y:=aS.L0.Y0
def aS.L0.out:aS.L0.X→Out (Exit×AS):=fun x=> .ok (aS.L0.bw x)
def aS.L0.add:aS.L0.D→aS.L0.Y→aS.L0.X:=fun(n,t15,t16,t17) y=>y
abbrev aS.D:=eT
def aS.st:aS.D→SA:=fun t=>([.d fV t],[])
abbrev aS.Y:=Int
abbrev aS.X:=Int
def aS.out:aS.X→bg:=fun x=>⟨.d ti x,[],[]⟩
def aS.add:aS.D→aS.Y→aS.X:=fun t y=>y
def aS.L0.aB:aS.L0.D→Prop:=fun(n,l,m,i)=>(l).length≤1000000000∧∃k:Nat,k≤(l).length∧i=k∧m=(l).length∧(l.length≤64)∧(∀x∈l,x.2.1.2.1.length≤12)∧(0≤n)∧(n≤1000+200*(k:Int))
def aS.L0.F:aS.L0.D→aS.L0.Y:=fun(n,l,m,i)=>(List.drop (Int.toNat i) l).foldl rM n
def aS.aB:aS.D→Prop:=fun t=>oE t
def aS.F:aS.D→aS.Y:=fun t=>D8 t
noncomputable def aS.G:dY:=fg (P:=Tryz.prog) [aw.sg]
noncomputable def aS.L0.E:=bQ.cC aS.L0.st aS.L0.aB aS.L0.add aS.L0.F aS.L0.out
noncomputable def aS.L0.call:aS.L0.D→Option aS.L0.X:=dm aS.L0.E aS.L0.st
noncomputable def aS.an:eI:= {loops:=j4 [(5,{bm:=[3,15,16,17]})],outs:=j3 [(5,{bm:=[3]},{bm:=[2]})],fJ:=kT [(5,aS.L0.E)]}
noncomputable def aS.A:= @cY Tryz.prog aS.G aS.an 0 Tryz.f278 _ aS.st
abbrev aS.Ok:=cZ @aS.A aS.aB aS.add aS.F aS.out
noncomputable def aS.L0.R:= @bV Tryz.prog aS.G aS.an 0 Tryz.f278 0 _ aS.L0.st
abbrev aS.L0.Ok:=ez Tryz.prog aS.G aS.an 0 Tryz.f278 0 aS.L0.st aS.L0.aB aS.L0.add aS.L0.F aS.L0.out
theorem aS.L0.run:bM aS.L0.call aS.L0.aB aS.L0.add aS.L0.F:=eF (eD [.d ti,.d (.slice fv),.d ti,.d ti] fun _=>by kernel_rfl)
theorem aS.L0.aD:fP @aS.L0.R aS.L0.st aS.L0.aB aS.L0.add aS.L0.F aS.L0.bw aS.L0.Ok:=fR
theorem aS.L0.step{R:Type}(n:Int)(t15:(List fU))(t16:Int)(t17:Int)(kn:AS→Option R)(kx:Exit→AS→Option R):aS.L0.R (n,t15,t16,t17) kn kx=
  aK ((fZ t17 t16)) (
   aK (eH t17 (((List.length t15):Nat):Int)) (
   aK ((mZ (nth fv t15 (Int.toNat t17)).2.1.2.2.1 (0:Int))) (
    kn (aS.L0.st ((bR .i64 (bR .i64 n (bR .i64 (10:Int) (fe .i64 (8:Int) (((List.length (nth fv t15 (Int.toNat t17)).2.1.2.1):Nat):Int)))) (4:Int)),t15,t16,(bR .i64 t17 (1:Int))))) (
    kn (aS.L0.st ((bR .i64 n (bR .i64 (10:Int) (fe .i64 (8:Int) (((List.length (nth fv t15 (Int.toNat t17)).2.1.2.1):Nat):Int)))),t15,t16,(bR .i64 t17 (1:Int)))))) none) (
   kx (aS.L0.bw n).1 (aS.L0.bw n).2):=by kernel_rfl
theorem aS.eq{R:Type}(t:eT)(k:bg→Option R):aS.A t k=
  al (aw.call t) fun x1=>
  aK ((!x1)) (
   k (aS.out (0:Int))) (
   al (aS.L0.call ((bR .i64 (10:Int) (fe .i64 (8:Int) (((List.length t.2.1):Nat):Int))),t.1,(((List.length t.1):Nat):Int),(0:Int))) fun x2=>
   k (aS.out x2)):=by kernel_rfl
theorem aS.L0.ok:aS.L0.Ok:=by
 refine aS.L0.aD (fun(n,l,m,i)=>(l).length - Int.toNat i) ?_
 rintro⟨n,l,m,i⟩ ⟨hlen,k,hk,rfl,rfl,h64,hx,h0,h1⟩
 have hlen:(l).length≤1000000000:=hlen
 have hk:k≤(l).length:=hk
 have h64:l.length≤64:=h64
 have hx:∀x∈l,x.2.1.2.1.length≤12:=hx
 have h0:0≤n:=h0
 have h1:n≤1000+200*(k:Int):=h1
 by_cases h:k < (l).length
 ·left
  have n1:nth fv l k=l[k]:=cG (t:=fv) h
  have hd:List.drop k l=l[k]::List.drop (k+1) l:=List.drop_eq_getElem_cons h
  refine⟨((rM n l[k]),l,((l).length:Int),((k+1:Nat):Int)),⟨hlen,k+1,by omega,rfl,rfl,h64,hx,by unfold rM;split <;> omega,by have:=hx _ (List.getElem_mem h);unfold rM;split <;> omega⟩,by simp only[Int.toNat_natCast];omega,?_,fun kn kx=> ?_⟩
  ·simp only[aS.L0.add,aS.L0.F,Int.toNat_natCast,hd,List.foldl_cons]
  ·rw[aS.L0.step,bu (by omega),bz (by omega) (by omega),Int.toNat_natCast,n1]
   simp only[ai]
   have e:=hx _ (List.getElem_mem h)
   rw[N.Hv (by omega)]
   have e2:bR .i64 10 ((8*l[k].2.1.2.1.length:Nat):Int)=10+8*(l[k].2.1.2.1.length:Int):=by rw[fY (by omega) (by omega)];omega
   rw[e2,fY (x:=n) (by omega) (by omega),N.kO (by omega)]
   unfold rM
   by_cases hs:l[k].2.1.2.2.1=0
   ·rw[cg hs,ao,if_pos hs,Int.add_zero]
   ·rw[dR hs,ai,if_neg hs,fY (by omega) (by omega)]
 ·right
  obtain rfl:k=(l).length:=by omega
  intro R kn kx
  rw[aS.L0.step,bk (by omega),ao]
  simp only[aS.L0.add,aS.L0.F,Int.toNat_natCast,List.drop_length,List.foldl_nil]
theorem aS.ok:aS.Ok:=by
 intro t hv
 have hv:oE t:=hv
 rw[aS.eq,aw.run (d:=t) hv.1]
 simp only[ab,aw.add,aw.F,aS.add,aS.F,D8]
 cases hok:gv t
 ·rfl
 ·obtain⟨⟨_,a2,a3,_⟩,b1,b2⟩:=iU hok
  rw[N.Hv (by omega),fY (by omega) (by omega),aS.L0.run (d:=(10+((8*t.2.1.length:Nat):Int),t.1,t.1.length,0)) ⟨by show t.1.length≤_;omega,0,Nat.zero_le _,rfl,rfl,a2,fun x hx=>(wI (mL _ _ b1 x hx)).2.2.2.2,by show(0:Int)≤10+((8*t.2.1.length:Nat):Int);omega,by show 10+((8*t.2.1.length:Nat):Int)≤_;omega⟩]
  simp only[ab,aS.L0.add,aS.L0.F,Int.toNat_zero,List.drop_zero,Bool.not_true,ao,if_true,Int.natCast_mul]
  rfl
noncomputable def aS.E:=Entry.cC [some fV] aS.st aS.aB aS.add aS.F aS.out
noncomputable def aS.call:aS.D→Option aS.X:=bS aS.E aS.st
theorem aS.run:bM aS.call aS.aB aS.add aS.F:=dh (dd [.d fV] fun _=>by kernel_rfl)
noncomputable def aS.sg:SG Tryz.prog:=⟨278,aX,aS.E,.fn 1 (by kernel_rfl) aS.ok (And.intro (.cC aS.L0.ok (by kernel_rfl)) trivial)⟩
abbrev aJ.L0.D:=Bs×(List fU)×Int×Int
def aJ.L0.st:aJ.L0.D→AS:=fun(b,t14,t15,t16)=>⟨([.undef,.undef,.undef,.d tB b]++bh 10 ([.d (.slice fv) t14,.d ti t15,.d ti t16]++bh 36 [])),[],(List.replicate 53 [])⟩
abbrev aJ.L0.Y0:=Bs
abbrev aJ.L0.X0:=Bs
def aJ.L0.bw:aJ.L0.X0→Exit×AS:=fun x=>(.exit 0,⟨([.undef,.undef,.undef,.d tB x]++bh 49 []),[],(List.replicate 53 [])⟩)
abbrev aJ.L0.X:=aJ.L0.X0
abbrev aJ.L0.Y:=aJ.L0.Y0
def aJ.L0.out:aJ.L0.X→Out (Exit×AS):=fun x=> .ok (aJ.L0.bw x)
def aJ.L0.add:aJ.L0.D→aJ.L0.Y→aJ.L0.X:=fun(b,t14,t15,t16) y=>y
abbrev aJ.L1.D:=Bs×(List fU)×Int×Int×(List Sg)×Int×Int×fU
def aJ.L1.st:aJ.L1.D→AS:=fun(b_2,t14_2,t15_2,t16_2,t32,t33,t34,n5)=>⟨([.undef,.undef,.undef,.d tB b_2,.undef,.ptr (.new 5 0) 0 [] 0]++bh 8 ([.d (.slice fv) t14_2,.d ti t15_2,.d ti t16_2]++bh 15 ([.d (.slice nK) t32,.d ti t33,.d ti t34]++bh 18 []))),[],(bI 5 ([[.obj 0 false (.d fv n5)]]++bI 47 []))⟩
abbrev aJ.L1.Y0:=Bs
abbrev aJ.L1.X0:=((List fU)×Int×Int×fU)×(Bs)
def aJ.L1.bw:aJ.L1.X0→Exit×AS:=fun x=>(.exit 2,⟨([.undef,.undef,.undef,.d tB x.2,.undef,.ptr (.new 5 0) 0 [] 0]++bh 8 ([.d (.slice fv) x.1.1,.d ti x.1.2.1,.d ti x.1.2.2.1]++bh 36 [])),[],(bI 5 ([[.obj 0 false (.d fv x.1.2.2.2)]]++bI 47 []))⟩)
abbrev aJ.L1.X:=aJ.L1.X0
abbrev aJ.L1.Y:=aJ.L1.Y0
def aJ.L1.out:aJ.L1.X→Out (Exit×AS):=fun x=> .ok (aJ.L1.bw x)
def aJ.L1.add:aJ.L1.D→aJ.L1.Y→aJ.L1.X:=fun(b_2,t14_2,t15_2,t16_2,t32,t33,t34,n5) y=>((t14_2,t15_2,t16_2,n5),y)
abbrev aJ.D:=eT
def aJ.st:aJ.D→SA:=fun t=>([.d fV t],[])
abbrev aJ.Y:=Bs
abbrev aJ.X:=Bs
def aJ.out:aJ.X→bg:=fun x=>⟨.d tB x,[],[]⟩
def aJ.add:aJ.D→aJ.Y→aJ.X:=fun t y=>y
def aJ.L1.aB:aJ.L1.D→Prop:=fun(b,l1,n1v,i1,l,n,i,x)=>(l).length≤1000000000∧∃k:Nat,k≤(l).length∧i=k∧n=(l).length∧(l.length≤12)∧(b.length≤80000000+16*k)
def aJ.L1.F:aJ.L1.D→aJ.L1.Y:=fun(b,l1,n1v,i1,l,n,i,x)=>(List.drop (Int.toNat i) l).foldl w7 b
def aJ.L0.aB:aJ.L0.D→Prop:=fun(b,l,n,i)=>(l).length≤1000000000∧∃k:Nat,k≤(l).length∧i=k∧n=(l).length∧(l.length≤64)∧(∀x∈l,x.2.1.2.1.length≤12∧x.2.1.1≤9223372036854775807)∧(b.length≤100000+1000*k)
def aJ.L0.F:aJ.L0.D→aJ.L0.Y:=fun(b,l,n,i)=>(List.drop (Int.toNat i) l).foldl D9 b
theorem uk:∀(l:List Sg) (b:List Int),(l.foldl w7 b).length=b.length+16*l.length
 |[],b=>rfl
 |x::l,b=>by
  have h1:=yS b x
  have h3:=uk l (w7 b x)
  rw[List.foldl_cons,List.length_cons]
  omega
theorem Ea(b:List Int)(x:fU)(h:x.2.1.2.1.length≤12):(D9 b x).length≤b.length+300:=by
 have e1:=fm b x.2.1.1
 have e2:=fm (eE b x.2.1.1) x.2.1.2.1.length
 have e3:=uk x.2.1.2.1 (eE (eE b x.2.1.1) x.2.1.2.1.length)
 unfold D9
 rw[List.length_append,bW]
 omega
def aJ.aB:aJ.D→Prop:=fun t=>oE t
def aJ.F:aJ.D→aJ.Y:=fun t=>IT t
noncomputable def aJ.G:dY:=fg (P:=Tryz.prog) [aw.sg,aG.sg,dE.sg,dw.sg]
noncomputable def aJ.L0.E:=bQ.cC aJ.L0.st aJ.L0.aB aJ.L0.add aJ.L0.F aJ.L0.out
noncomputable def aJ.L0.call:aJ.L0.D→Option aJ.L0.X:=dm aJ.L0.E aJ.L0.st
noncomputable def aJ.L1.E:=bQ.cC aJ.L1.st aJ.L1.aB aJ.L1.add aJ.L1.F aJ.L1.out
noncomputable def aJ.L1.call:aJ.L1.D→Option aJ.L1.X:=dm aJ.L1.E aJ.L1.st
noncomputable def aJ.an:eI:= {loops:=j4 [(5,{bm:=[3,14,15,16]}),(9,{bm:=[3,5,14,15,16,32,33,34],sites:=[5]})],outs:=j3 [(5,{bm:=[3]},{bm:=[2]}),(9,{bm:=[3,5,14,15,16],sites:=[5]},{bm:=[2]})],fJ:=kT [(5,aJ.L0.E),(9,aJ.L1.E)],res:=[some tB]}
noncomputable def aJ.A:= @cY Tryz.prog aJ.G aJ.an 0 Tryz.f127 _ aJ.st
abbrev aJ.Ok:=cZ @aJ.A aJ.aB aJ.add aJ.F aJ.out
noncomputable def aJ.L0.R:= @bV Tryz.prog aJ.G aJ.an 0 Tryz.f127 0 _ aJ.L0.st
abbrev aJ.L0.Ok:=ez Tryz.prog aJ.G aJ.an 0 Tryz.f127 0 aJ.L0.st aJ.L0.aB aJ.L0.add aJ.L0.F aJ.L0.out
noncomputable def aJ.L1.R:= @bV Tryz.prog aJ.G aJ.an 0 Tryz.f127 1 _ aJ.L1.st
abbrev aJ.L1.Ok:=ez Tryz.prog aJ.G aJ.an 0 Tryz.f127 1 aJ.L1.st aJ.L1.aB aJ.L1.add aJ.L1.F aJ.L1.out
theorem aJ.L0.run:bM aJ.L0.call aJ.L0.aB aJ.L0.add aJ.L0.F:=eF (eD [.d tB,.d (.slice fv),.d ti,.d ti] fun _=>by kernel_rfl)
theorem aJ.L0.aD:fP @aJ.L0.R aJ.L0.st aJ.L0.aB aJ.L0.add aJ.L0.F aJ.L0.bw aJ.L0.Ok:=fR
theorem aJ.L0.step{R:Type}(b:Bs)(t14:(List fU))(t15:Int)(t16:Int)(kn:AS→Option R)(kx:Exit→AS→Option R):aJ.L0.R (b,t14,t15,t16) kn kx=
  aK ((fZ t16 t15)) (
   aK (eH t16 (((List.length t14):Nat):Int)) (
   al (dE.call (b,(nth fv t14 (Int.toNat t16)).2.1.1)) fun x1=>
   al (dE.call (x1,(((List.length (nth fv t14 (Int.toNat t16)).2.1.2.1):Nat):Int))) fun x2=>
   al (aJ.L1.call (x2,t14,t15,t16,(nth fv t14 (Int.toNat t16)).2.1.2.1,(((List.length (nth fv t14 (Int.toNat t16)).2.1.2.1):Nat):Int),(0:Int),(nth fv t14 (Int.toNat t16)))) fun x3=>
   al (dw.call (x3.2,x3.1.2.2.2.2.1.2.2.1)) fun x4=>
   kn (aJ.L0.st (x4,x3.1.1,x3.1.2.1,(bR .i64 x3.1.2.2.1 (1:Int))))) none) (
   kx (aJ.L0.bw b).1 (aJ.L0.bw b).2):=by kernel_rfl
theorem aJ.L1.run:bM aJ.L1.call aJ.L1.aB aJ.L1.add aJ.L1.F:=eF (eD [.d tB,.d (.slice fv),.d ti,.d ti,.d (.slice nK),.d ti,.d ti,.d fv] fun _=>by kernel_rfl)
theorem aJ.L1.aD:fP @aJ.L1.R aJ.L1.st aJ.L1.aB aJ.L1.add aJ.L1.F aJ.L1.bw aJ.L1.Ok:=fR
theorem aJ.L1.step{R:Type}(b_2:Bs)(t14_2:(List fU))(t15_2:Int)(t16_2:Int)(t32:(List Sg))(t33:Int)(t34:Int)(n5:fU)(kn:AS→Option R)(kx:Exit→AS→Option R):aJ.L1.R (b_2,t14_2,t15_2,t16_2,t32,t33,t34,n5) kn kx=
  aK ((fZ t34 t33)) (
   aK (eH t34 (((List.length t32):Nat):Int)) (
   al (dw.call (b_2,(nth nK t32 (Int.toNat t34)).1)) fun x1=>
   al (dw.call (x1,(nth nK t32 (Int.toNat t34)).2.1)) fun x2=>
   kn (aJ.L1.st (x2,t14_2,t15_2,t16_2,t32,t33,(bR .i64 t34 (1:Int)),n5))) none) (
   kx (aJ.L1.bw ((t14_2,t15_2,t16_2,n5),b_2)).1 (aJ.L1.bw ((t14_2,t15_2,t16_2,n5),b_2)).2):=by kernel_rfl
theorem aJ.eq{R:Type}(t:eT)(k:bg→Option R):aJ.A t k=
  al (aw.call t) fun x1=>
  aK ((!x1)) (
   k (aJ.out ([]:List Int))) (
   al (aG.call t) fun x2=>
   al (aJ.L0.call (x2,t.1,(((List.length t.1):Nat):Int),(0:Int))) fun x9=>
   k (aJ.out x9)):=by kernel_rfl
theorem aJ.L1.ok:aJ.L1.Ok:=by
 refine aJ.L1.aD (fun(b,l1,n1v,i1,l,n,i,x)=>(l).length - Int.toNat i) ?_
 rintro⟨b,l1,n1v,i1,l,n,i,x⟩ ⟨hlen,k,hk,rfl,rfl,h12,hb⟩
 have hlen:(l).length≤1000000000:=hlen
 have hk:k≤(l).length:=hk
 have h12:l.length≤12:=h12
 have hb:b.length≤80000000+16*k:=hb
 by_cases h:k < (l).length
 ·left
  have n1:nth nK l k=l[k]:=cG (t:=nK) h
  have hd:List.drop k l=l[k]::List.drop (k+1) l:=List.drop_eq_getElem_cons h
  refine⟨((w7 b l[k]),l1,n1v,i1,l,((l).length:Int),((k+1:Nat):Int),x),⟨hlen,k+1,by omega,rfl,rfl,h12,by have:=yS b l[k];omega⟩,by simp only[Int.toNat_natCast];omega,?_,fun kn kx=> ?_⟩
  ·simp only[aJ.L1.add,aJ.L1.F,Int.toNat_natCast,hd,List.foldl_cons]
  ·rw[aJ.L1.step,bu (by omega),bz (by omega) (by omega),Int.toNat_natCast,n1]
   simp only[ai]
   rw[dw.run (d:=(b,l[k].1)) (by show b.length≤_;omega)]
   simp only[ab,dw.add,dw.F]
   rw[dw.run (d:=(b++hZ l[k].1,l[k].2.1)) (by show(b++hZ l[k].1).length≤_;rw[List.length_append,bW];omega)]
   simp only[ab,dw.add,dw.F]
   rw[N.kO (by omega)]
   rfl
 ·right
  obtain rfl:k=(l).length:=by omega
  intro R kn kx
  rw[aJ.L1.step,bk (by omega),ao]
  simp only[aJ.L1.add,aJ.L1.F,Int.toNat_natCast,List.drop_length,List.foldl_nil]
theorem aJ.L0.ok:aJ.L0.Ok:=by
 refine aJ.L0.aD (fun(b,l,n,i)=>(l).length - Int.toNat i) ?_
 rintro⟨b,l,n,i⟩ ⟨hlen,k,hk,rfl,rfl,h64,hx,hb⟩
 have hlen:(l).length≤1000000000:=hlen
 have hk:k≤(l).length:=hk
 have h64:l.length≤64:=h64
 have hx:∀x∈l,x.2.1.2.1.length≤12∧x.2.1.1≤9223372036854775807:=hx
 have hb:b.length≤100000+1000*k:=hb
 by_cases h:k < (l).length
 ·left
  have n1:nth fv l k=l[k]:=cG (t:=fv) h
  have hd:List.drop k l=l[k]::List.drop (k+1) l:=List.drop_eq_getElem_cons h
  refine⟨((D9 b l[k]),l,((l).length:Int),((k+1:Nat):Int)),⟨hlen,k+1,by omega,rfl,rfl,h64,hx,by have:=Ea b l[k] (hx _ (List.getElem_mem h)).1;omega⟩,by simp only[Int.toNat_natCast];omega,?_,fun kn kx=> ?_⟩
  ·simp only[aJ.L0.add,aJ.L0.F,Int.toNat_natCast,hd,List.foldl_cons]
  ·rw[aJ.L0.step,bu (by omega),bz (by omega) (by omega),Int.toNat_natCast,n1]
   simp only[ai]
   have e:=hx _ (List.getElem_mem h)
   have e1:=fm b l[k].2.1.1
   have e2:=fm (eE b l[k].2.1.1) l[k].2.1.2.1.length
   have e3:=uk l[k].2.1.2.1 (eE (eE b l[k].2.1.1) l[k].2.1.2.1.length)
   rw[dE.run (d:=(b,l[k].2.1.1)) ⟨by show b.length≤_;omega,e.2⟩]
   simp only[ab,dE.add,dE.F]
   rw[dE.run (d:=(eE b l[k].2.1.1,(l[k].2.1.2.1.length:Int))) ⟨by show(eE b l[k].2.1.1).length≤_;omega,by show(l[k].2.1.2.1.length:Int)≤_;omega⟩]
   simp only[ab,dE.add,dE.F]
   rw[aJ.L1.run (d:=(eE (eE b l[k].2.1.1) l[k].2.1.2.1.length,l,l.length,k,l[k].2.1.2.1,l[k].2.1.2.1.length,0,l[k])) ⟨by show l[k].2.1.2.1.length≤_;omega,0,Nat.zero_le _,rfl,rfl,e.1,by show(eE (eE b l[k].2.1.1) l[k].2.1.2.1.length).length≤_;omega⟩]
   simp only[ab,aJ.L1.add,aJ.L1.F,Int.toNat_zero,List.drop_zero]
   rw[dw.run (d:=(l[k].2.1.2.1.foldl w7 (eE (eE b l[k].2.1.1) l[k].2.1.2.1.length),l[k].2.1.2.2.1)) (by show(l[k].2.1.2.1.foldl w7 (eE (eE b l[k].2.1.1) l[k].2.1.2.1.length)).length≤_;omega)]
   simp only[ab,dw.add,dw.F]
   rw[N.kO (by omega)]
   rfl
 ·right
  obtain rfl:k=(l).length:=by omega
  intro R kn kx
  rw[aJ.L0.step,bk (by omega),ao]
  simp only[aJ.L0.add,aJ.L0.F,Int.toNat_natCast,List.drop_length,List.foldl_nil]
theorem aJ.ok:aJ.Ok:=by
 intro t hv
 have hv:oE t:=hv
 rw[aJ.eq,aw.run (d:=t) hv.1]
 simp only[ab,aw.add,aw.F,aJ.add,aJ.F,IT]
 cases hok:gv t
 ·rfl
 ·obtain⟨⟨_,a2,a3,_⟩,b1,b2⟩:=iU hok
  have hl:=tZ hok hv
  rw[aG.run (d:=t) ⟨hok,hv⟩]
  simp only[Bool.not_true,ao,if_true,ab,aG.add,aG.F]
  rw[aJ.L0.run (d:=(lV t,t.1,t.1.length,0)) ⟨by show t.1.length≤_;omega,0,Nat.zero_le _,rfl,rfl,a2,fun x hx=>by have:=wI (mL _ _ b1 x hx);exact⟨this.2.2.2.2,by omega⟩,by show(lV t).length≤_;omega⟩]
  rfl
noncomputable def aJ.E:=Entry.cC [some fV] aJ.st aJ.aB aJ.add aJ.F aJ.out
noncomputable def aJ.call:aJ.D→Option aJ.X:=bS aJ.E aJ.st
theorem aJ.run:bM aJ.call aJ.aB aJ.add aJ.F:=dh (dd [.d fV] fun _=>by kernel_rfl)
noncomputable def aJ.sg:SG Tryz.prog:=⟨127,aX,aJ.E,.fn 2 (by kernel_rfl) aJ.ok (And.intro (.cC aJ.L0.ok (by kernel_rfl)) (And.intro (.cC aJ.L1.ok (by kernel_rfl)) trivial))⟩
abbrev aO.L0.D:=Nat×(List fU)×Int×Int×(List db)
def aO.L0.st:aO.L0.D→AS:=fun(lL,t9,t10,t11,n19)=>⟨([.undef,.undef,.bJ (.new 19 0) 0 [] 0 0 lL]++bh 6 ([.d (.slice fv) t9,.d ti t10,.d ti t11]++bh 10 [])),[],(bI 19 [[.obj 0 false (.vec 47 cJ n19)],[],[]])⟩
abbrev aO.L0.Y0:=Nat×(List db)
abbrev aO.L0.X0:=Nat×(List db)
def aO.L0.bw:aO.L0.X0→Exit×AS:=fun x=>(.exit 0,⟨([.undef,.undef,.bJ (.new 19 0) 0 [] 0 0 x.1]++bh 19 []),[],(bI 19 [[.obj 0 false (.vec 47 cJ x.2)],[],[]])⟩)
abbrev aO.L0.X:=aO.L0.X0
abbrev aO.L0.Y:=aO.L0.Y0
def aO.L0.out:aO.L0.X→Out (Exit×AS):=fun x=> .ok (aO.L0.bw x)
def aO.L0.add:aO.L0.D→aO.L0.Y→aO.L0.X:=fun(lL,t9,t10,t11,n19) y=>y
abbrev aO.D:=eT
def aO.st:aO.D→SA:=fun t=>([.d fV t],[])
abbrev aO.Y:=(List db)
abbrev aO.X:=(List db)
def aO.out:aO.X→bg:=fun x=>⟨.d (.slice cJ) x,[],[]⟩
def aO.add:aO.D→aO.Y→aO.X:=fun t y=>y
def aO.L0.aB:aO.L0.D→Prop:=fun(L,l,n,i,r)=>(l).length≤1000000∧∃k:Nat,k≤(l).length∧i=k∧n=(l).length∧L=(r).length∧(r).length≤1000000+k
def aO.L0.F:aO.L0.D→aO.L0.Y:=fun(L,l,n,i,r)=>(L+(List.drop (Int.toNat i) l).length,r++(List.drop (Int.toNat i) l).map (fun x:fU=>x.1))
def aO.aB:aO.D→Prop:=fun t=>HP t
def aO.F:aO.D→aO.Y:=fun t=>ea t
noncomputable def aO.G:dY:=fg (P:=Tryz.prog) [aw.sg]
noncomputable def aO.L0.E:=bQ.cC aO.L0.st aO.L0.aB aO.L0.add aO.L0.F aO.L0.out
noncomputable def aO.L0.call:aO.L0.D→Option aO.L0.X:=dm aO.L0.E aO.L0.st
noncomputable def aO.an:eI:= {loops:=j4 [(4,{bm:=[2,9,10,11],sites:=[19],iA:=[⟨2,[],19,58⟩]})],outs:=j3 [(4,{bm:=[2],sites:=[19]},{bm:=[2]})],fJ:=kT [(4,aO.L0.E)],res:=[some (.slice cJ)]}
noncomputable def aO.A:= @cY Tryz.prog aO.G aO.an 0 Tryz.f32 _ aO.st
abbrev aO.Ok:=cZ @aO.A aO.aB aO.add aO.F aO.out
noncomputable def aO.L0.R:= @bV Tryz.prog aO.G aO.an 0 Tryz.f32 0 _ aO.L0.st
abbrev aO.L0.Ok:=ez Tryz.prog aO.G aO.an 0 Tryz.f32 0 aO.L0.st aO.L0.aB aO.L0.add aO.L0.F aO.L0.out
theorem aO.L0.run:bM aO.L0.call aO.L0.aB aO.L0.add aO.L0.F:=eF (eD [.n,.d (.slice fv),.d ti,.d ti,.d (.slice cJ)] fun _=>by kernel_rfl)
theorem aO.L0.aD:fP @aO.L0.R aO.L0.st aO.L0.aB aO.L0.add aO.L0.F aO.L0.bw aO.L0.Ok:=fR
theorem aO.L0.step{R:Type}(lL:Nat)(t9:(List fU))(t10:Int)(t11:Int)(n19:(List db))(kn:AS→Option R)(kx:Exit→AS→Option R):aO.L0.R (lL,t9,t10,t11,n19) kn kx=
  aK ((fZ t11 t10)) (
   aK (eH t11 (((List.length t9):Nat):Int)) (
   aK (decide (lL≤(List.length n19))) (
   aK (dp (lL+1) 40) (
   kn (aO.L0.st ((lL+1),t9,t10,(bR .i64 t11 (1:Int)),((List.take lL n19)++ [(nth fv t9 (Int.toNat t11)).1])))) none) none) none) (
   kx (aO.L0.bw (lL,n19)).1 (aO.L0.bw (lL,n19)).2):=by kernel_rfl
theorem aO.eq{R:Type}(t:eT)(k:bg→Option R):aO.A t k=
  al (aw.call t) fun x1=>
  aK ((!x1)) (
   k (aO.out ([]:List db))) (
   al (aO.L0.call (0,t.1,(((List.length t.1):Nat):Int),(0:Int),([]:List db))) fun x2=>
   aK (decide (0=0∧(0+x2.1)≤(List.length x2.2))) (
   k (aO.out (cut x2.2 0 x2.1))) none):=by kernel_rfl
theorem aO.L0.ok:aO.L0.Ok:=by
 refine aO.L0.aD (fun(L,l,n,i,r)=>(l).length - Int.toNat i) ?_
 rintro⟨L,l,n,i,r⟩ ⟨hlen,k,hk,rfl,rfl,rfl,hrow⟩
 have hlen:(l).length≤1000000:=hlen
 have hk:k≤(l).length:=hk
 have hrow:(r).length≤1000000+k:=hrow
 by_cases h:k < (l).length
 ·left
  have n1:nth fv l k=l[k]:=cG (t:=fv) h
  have hd:List.drop k l=l[k]::List.drop (k+1) l:=List.drop_eq_getElem_cons h
  refine⟨((r).length+1,l,((l).length:Int),((k+1:Nat):Int),r++ [(fun x:fU=>x.1) l[k]]),⟨hlen,k+1,by omega,rfl,rfl,by rw[List.length_append];rfl,by rw[List.length_append];show(r).length+1≤_;omega⟩,by simp only[Int.toNat_natCast];omega,?_,fun kn kx=> ?_⟩
  ·simp only[aO.L0.add,aO.L0.F,Int.toNat_natCast,hd,List.map_cons,List.length_cons,List.append_assoc,List.singleton_append]
   rw[show ∀a c:Nat,a+1+c=a+(c+1) from fun a c=>by omega]
  ·rw[aO.L0.step,bu (by omega),bz (show(0:Int)≤(k:Int) by omega) (by omega),Int.toNat_natCast,n1]
   simp only[ai]
   rw[aY (Nat.le_refl _),dX (by omega) (by omega),N.kO (by omega),List.take_length]
   rfl
 ·right
  obtain rfl:k=(l).length:=by omega
  intro R kn kx
  rw[aO.L0.step,bk (by omega),ao]
  simp only[aO.L0.add,aO.L0.F,Int.toNat_natCast,List.drop_length,List.map_nil,List.append_nil,List.length_nil,Nat.add_zero]
theorem aO.ok:aO.Ok:=by
 intro t hv
 have hv:HP t:=hv
 rw[aO.eq,aw.run (d:=t) hv]
 simp only[ab,aw.add,aw.F,aO.add,aO.F,ea]
 cases hok:gv t
 ·rfl
 ·obtain⟨⟨_,a2,a3,_⟩,b1,b2⟩:=iU hok
  rw[aO.L0.run (d:=(0,t.1,t.1.length,0,[])) ⟨by show t.1.length≤_;omega,0,Nat.zero_le _,rfl,rfl,rfl,Nat.zero_le _⟩]
  simp only[Bool.not_true,ao,if_true,ab,aO.L0.add,aO.L0.F,Int.toNat_zero,List.drop_zero,List.nil_append,Nat.zero_add]
  rw[aY ⟨by trivial,by rw[List.length_map];exact Nat.le_refl _⟩,ai,e7 (by rw[List.length_map])]
noncomputable def aO.E:=Entry.cC [some fV] aO.st aO.aB aO.add aO.F aO.out
noncomputable def aO.call:aO.D→Option aO.X:=bS aO.E aO.st
theorem aO.run:bM aO.call aO.aB aO.add aO.F:=dh (dd [.d fV] fun _=>by kernel_rfl)
noncomputable def aO.sg:SG Tryz.prog:=⟨32,aX,aO.E,.fn 1 (by kernel_rfl) aO.ok (And.intro (.cC aO.L0.ok (by kernel_rfl)) trivial)⟩
abbrev bD.L0.D:=Nat×Int×Int×Bs×(List db)
def bD.L0.st:bD.L0.D→AS:=fun(lL,t12,t13,n3,n21)=>⟨([.undef,.undef,.bJ (.new 21 0) 0 [] 0 0 lL,.ptr (.new 3 0) 0 [] 0]++bh 8 ([.d ti t12,.d ti t13]++bh 10 [])),[],([[],[],[],[.obj 0 false (.d tH n3)]]++bI 17 [[.obj 0 false (.vec 47 cJ n21)],[],[]])⟩
abbrev bD.L0.Y0:=Nat×(List db)
abbrev bD.L0.X0:=Nat×(List db)
def bD.L0.bw:bD.L0.X0→Exit×AS:=fun x=>(.exit 0,⟨([.undef,.undef,.bJ (.new 21 0) 0 [] 0 0 x.1]++bh 21 []),[],(bI 21 [[.obj 0 false (.vec 47 cJ x.2)],[],[]])⟩)
abbrev bD.L0.X:=bD.L0.X0
abbrev bD.L0.Y:=bD.L0.Y0
def bD.L0.out:bD.L0.X→Out (Exit×AS):=fun x=> .ok (bD.L0.bw x)
def bD.L0.add:bD.L0.D→bD.L0.Y→bD.L0.X:=fun(lL,t12,t13,n3,n21) y=>y
abbrev bD.D:=eT
def bD.st:bD.D→SA:=fun t=>([.d fV t],[])
abbrev bD.Y:=(List db)
abbrev bD.X:=(List db)
def bD.out:bD.X→bg:=fun x=>⟨.d (.slice cJ) x,[],[]⟩
def bD.add:bD.D→bD.Y→bD.X:=fun t y=>y
def bD.L0.aB:bD.L0.D→Prop:=fun(L,n,i,id,r)=>∃k m:Nat,k≤m∧i=k∧n=m∧m≤1000∧L=r.length∧L=k
def bD.L0.F:bD.L0.D→bD.L0.Y:=fun(L,n,i,id,r)=>(L+(n - i).toNat,r++nG id i.toNat (n - i).toNat)
def bD.aB:bD.D→Prop:=fun t=>oE t
def bD.F:bD.D→bD.Y:=fun t=>fw t
noncomputable def bD.G:dY:=fg (P:=Tryz.prog) [tid.sg,aw.sg]
noncomputable def bD.L0.E:=bQ.cC bD.L0.st bD.L0.aB bD.L0.add bD.L0.F bD.L0.out
noncomputable def bD.L0.call:bD.L0.D→Option bD.L0.X:=dm bD.L0.E bD.L0.st
noncomputable def bD.an:eI:= {loops:=j4 [(5,{bm:=[2,3,12,13],sites:=[3,21],iA:=[⟨2,[],21,58⟩]})],outs:=j3 [(5,{bm:=[2],sites:=[21]},{bm:=[2]})],fJ:=kT [(5,bD.L0.E)],res:=[some (.slice cJ)]}
noncomputable def bD.A:= @cY Tryz.prog bD.G bD.an 0 Tryz.f33 _ bD.st
abbrev bD.Ok:=cZ @bD.A bD.aB bD.add bD.F bD.out
noncomputable def bD.L0.R:= @bV Tryz.prog bD.G bD.an 0 Tryz.f33 0 _ bD.L0.st
abbrev bD.L0.Ok:=ez Tryz.prog bD.G bD.an 0 Tryz.f33 0 bD.L0.st bD.L0.aB bD.L0.add bD.L0.F bD.L0.out
theorem bD.L0.run:bM bD.L0.call bD.L0.aB bD.L0.add bD.L0.F:=eF (eD [.n,.d ti,.d ti,.d tB,.d (.slice cJ)] fun _=>by kernel_rfl)
theorem bD.L0.aD:fP @bD.L0.R bD.L0.st bD.L0.aB bD.L0.add bD.L0.F bD.L0.bw bD.L0.Ok:=fR
theorem bD.L0.step{R:Type}(lL:Nat)(t12:Int)(t13:Int)(n3:Bs)(n21:(List db))(kn:AS→Option R)(kx:Exit→AS→Option R):bD.L0.R (lL,t12,t13,n3,n21) kn kx=
  aK ((fZ t13 t12)) (
   aK (decide (lL≤(List.length n21))) (
   aK (dp (lL+1) 40) (
   kn (bD.L0.st ((lL+1),t12,(bR .i64 t13 (1:Int)),n3,((List.take lL n21)++ [(n3,(t13,()))])))) none) none) (
   kx (bD.L0.bw (lL,n21)).1 (bD.L0.bw (lL,n21)).2):=by kernel_rfl
theorem bD.eq{R:Type}(t:eT)(k:bg→Option R):bD.A t k=
  al (tid.call t) fun x1=>
  al (aw.call t) fun x2=>
  aK ((!x2)) (
   k (bD.out ([]:List db))) (
   al (bD.L0.call (0,(((List.length t.2.1):Nat):Int),(0:Int),x1,([]:List db))) fun x3=>
   aK (decide (0=0∧(0+x3.1)≤(List.length x3.2))) (
   k (bD.out (cut x3.2 0 x3.1))) none):=by kernel_rfl
theorem BR(id:List Int)(k n:Nat):(nG id k n).length=n:=by simp[nG]
theorem zP(id:List Int)(k n:Nat):nG id k (n+1)=(id,((k:Int),()))::nG id (k+1) n:=by
 unfold nG
 rw[List.range'_succ,List.map_cons]
theorem bD.L0.ok:bD.L0.Ok:=by
 refine bD.L0.aD (fun(L,n,i,id,r)=>(n - i).toNat) ?_
 rintro⟨L,n,i,id,r⟩ ⟨k,m,hk,rfl,rfl,hm,rfl,hrk⟩
 have hrk:r.length=k:=hrk
 by_cases h:k < m
 ·left
  have e1:((m:Int) - (k:Int)).toNat=(m - (k+1))+1:=by omega
  have e2:((m:Int) - ((k+1:Nat):Int)).toNat=m - (k+1):=by omega
  refine⟨(r.length+1,(m:Int),((k+1:Nat):Int),id,r++ [(id,((k:Int),()))]),⟨k+1,m,by omega,rfl,rfl,hm,by rw[List.length_append];rfl,by show r.length+1=_;omega⟩,by show((m:Int) - ((k+1:Nat):Int)).toNat < ((m:Int) - (k:Int)).toNat;omega,?_,fun kn kx=> ?_⟩
  ·simp only[bD.L0.add,bD.L0.F,e1,e2,Int.toNat_natCast,zP,List.append_assoc,List.singleton_append]
   rw[show r.length+1+(m - (k+1))=r.length+(m - (k+1)+1) by omega]
  ·rw[bD.L0.step,bu (by omega),aY (Nat.le_refl _),dX (by omega) (by omega),N.kO (by omega),List.take_length]
   rfl
 ·right
  obtain rfl:k=m:=by omega
  intro R kn kx
  rw[bD.L0.step,bk (by omega),ao]
  simp only[bD.L0.add,bD.L0.F,Int.sub_self,Int.toNat_zero,Nat.add_zero]
  rw[show nG id (k:Int).toNat 0=[] from rfl,List.append_nil]
theorem bD.ok:bD.Ok:=by
 intro t hv
 have hv:oE t:=hv
 rw[bD.eq,tid.run (d:=t) hv,aw.run (d:=t) hv.1]
 simp only[ab,tid.add,tid.F,aw.add,aw.F,bD.add,bD.F,fw]
 cases hok:gv t
 ·rfl
 ·obtain⟨⟨_,a2,a3,_⟩,b1,b2⟩:=iU hok
  have hl:=BR (mD t) 0 t.2.1.length
  rw[bD.L0.run (d:=(0,t.2.1.length,0,mD t,[])) ⟨0,t.2.1.length,Nat.zero_le _,rfl,rfl,by omega,rfl,rfl⟩]
  simp only[Bool.not_true,ao,if_true,ab,bD.L0.add,bD.L0.F,Int.sub_zero,Int.toNat_natCast,Int.toNat_zero,List.nil_append,Nat.zero_add]
  rw[aY ⟨by trivial,by rw[hl];exact Nat.le_refl _⟩,ai,e7 hl]
noncomputable def bD.E:=Entry.cC [some fV] bD.st bD.aB bD.add bD.F bD.out
noncomputable def bD.call:bD.D→Option bD.X:=bS bD.E bD.st
theorem bD.run:bM bD.call bD.aB bD.add bD.F:=dh (dd [.d fV] fun _=>by kernel_rfl)
noncomputable def bD.sg:SG Tryz.prog:=⟨33,aX,bD.E,.fn 1 (by kernel_rfl) bD.ok (And.intro (.cC bD.L0.ok (by kernel_rfl)) trivial)⟩
set_option synthInstance.maxSize 5000
abbrev fo.D:=(List fU)
def fo.st:fo.D→SA:=fun sv=>([.d (.slice fv) sv],[])
abbrev fo.Y:=Nat×(List fU)
abbrev fo.X:=Nat×(List fU)
def fo.out:fo.X→bg:=fun x=>⟨.bJ (.new 0 0) 0 [] 0 0 x.1,[],[.obj 0 false (.vec 52 fv x.2)]⟩
def fo.add:fo.D→fo.Y→fo.X:=fun sv y=>y
def fo.aB:fo.D→Prop:=fun l=>l.length≤1000000
def fo.F:fo.D→fo.Y:=fun l=>(l.length,l)
noncomputable def fo.G:dY:=fg (P:=Tryz.prog) []
noncomputable def fo.an:eI:= {bK:=[5],iA:=[⟨2,[],5,38⟩]}
noncomputable def fo.A:= @cY Tryz.prog fo.G fo.an 0 Tryz.f138 _ fo.st
abbrev fo.Ok:=cZ @fo.A fo.aB fo.add fo.F fo.out
theorem fo.eq{R:Type}(sv:(List fU))(k:bg→Option R):fo.A sv k=
  aK (decide (0 < (List.length sv))) (
   aK (dp (0+(List.length sv)) 80) (
   k (fo.out ((0+(List.length sv)),((List.take 0 (List.replicate 0 (((List.replicate 32 (0:Int)),((0:Int),())),(((0:Int),(([]:List Sg),((0:Int),()))),()))))++sv)))) none) (
   nd (
    k (fo.out (0,([]:List fU)))) (
    aK (dp (0+(List.length sv)) 80) (
    k (fo.out ((0+(List.length sv)),((List.take 0 (List.replicate 0 (((List.replicate 32 (0:Int)),((0:Int),())),(((0:Int),(([]:List Sg),((0:Int),()))),()))))++sv)))) none)):=by kernel_rfl
theorem fo.ok:fo.Ok:=by
 intro l hl
 have hl:l.length≤1000000:=hl
 have hr:dp l.length 80=true:=dX (by omega) (by omega)
 rw[fo.eq]
 simp only[Nat.zero_add,hr,ai,List.take_zero,List.nil_append,fo.add,fo.F]
 by_cases h:0 < l.length
 ·simp only[aY h,ai]
 ·have:l=[]:=List.eq_nil_of_length_eq_zero (by omega)
  subst this
  simp only[List.length_nil,ni,bq (Nat.lt_irrefl 0),ao]
noncomputable def fo.E:=Entry.cC [some (.slice fv)] fo.st fo.aB fo.add fo.F fo.out
noncomputable def fo.call:fo.D→Option fo.X:=bS fo.E fo.st
theorem fo.run:bM fo.call fo.aB fo.add fo.F:=dh (dd [.d (.slice fv)] fun _=>by kernel_rfl)
noncomputable def fo.sg:SG Tryz.prog:=⟨138,aX,fo.E,.fn 0 (by kernel_rfl) fo.ok trivial⟩
abbrev dO.D:=(List fx)
def dO.st:dO.D→SA:=fun sv=>([.d (.slice eP) sv],[])
abbrev dO.Y:=Nat×(List fx)
abbrev dO.X:=Nat×(List fx)
def dO.out:dO.X→bg:=fun x=>⟨.bJ (.new 0 0) 0 [] 0 0 x.1,[],[.obj 0 false (.vec 36 eP x.2)]⟩
def dO.add:dO.D→dO.Y→dO.X:=fun sv y=>y
def dO.aB:dO.D→Prop:=fun l=>l.length≤1000000
def dO.F:dO.D→dO.Y:=fun l=>(l.length,l)
noncomputable def dO.G:dY:=fg (P:=Tryz.prog) []
noncomputable def dO.an:eI:= {bK:=[5],iA:=[⟨2,[],5,37⟩]}
noncomputable def dO.A:= @cY Tryz.prog dO.G dO.an 0 Tryz.f139 _ dO.st
abbrev dO.Ok:=cZ @dO.A dO.aB dO.add dO.F dO.out
theorem dO.eq{R:Type}(sv:(List fx))(k:bg→Option R):dO.A sv k=
  aK (decide (0 < (List.length sv))) (
   aK (dp (0+(List.length sv)) 32) (
   k (dO.out ((0+(List.length sv)),((List.take 0 (List.replicate 0 ((0:Int),((([]:List iw),()),()))))++sv)))) none) (
   nd (
    k (dO.out (0,([]:List fx)))) (
    aK (dp (0+(List.length sv)) 32) (
    k (dO.out ((0+(List.length sv)),((List.take 0 (List.replicate 0 ((0:Int),((([]:List iw),()),()))))++sv)))) none)):=by kernel_rfl
theorem dO.ok:dO.Ok:=by
 intro l hl
 have hl:l.length≤1000000:=hl
 have hr:dp l.length 32=true:=dX (by omega) (by omega)
 rw[dO.eq]
 simp only[Nat.zero_add,hr,ai,List.take_zero,List.nil_append,dO.add,dO.F]
 by_cases h:0 < l.length
 ·simp only[aY h,ai]
 ·have:l=[]:=List.eq_nil_of_length_eq_zero (by omega)
  subst this
  simp only[List.length_nil,ni,bq (Nat.lt_irrefl 0),ao]
noncomputable def dO.E:=Entry.cC [some (.slice eP)] dO.st dO.aB dO.add dO.F dO.out
noncomputable def dO.call:dO.D→Option dO.X:=bS dO.E dO.st
theorem dO.run:bM dO.call dO.aB dO.add dO.F:=dh (dd [.d (.slice eP)] fun _=>by kernel_rfl)
noncomputable def dO.sg:SG Tryz.prog:=⟨139,aX,dO.E,.fn 0 (by kernel_rfl) dO.ok trivial⟩
abbrev fa.D:=(List iw)
def fa.st:fa.D→SA:=fun sv=>([.d (.slice gA) sv],[])
abbrev fa.Y:=Nat×(List iw)
abbrev fa.X:=Nat×(List iw)
def fa.out:fa.X→bg:=fun x=>⟨.bJ (.new 0 0) 0 [] 0 0 x.1,[],[.obj 0 false (.vec 29 gA x.2)]⟩
def fa.add:fa.D→fa.Y→fa.X:=fun sv y=>y
def fa.aB:fa.D→Prop:=fun l=>l.length≤1000000
def fa.F:fa.D→fa.Y:=fun l=>(l.length,l)
noncomputable def fa.G:dY:=fg (P:=Tryz.prog) []
noncomputable def fa.an:eI:= {bK:=[5],iA:=[⟨2,[],5,32⟩]}
noncomputable def fa.A:= @cY Tryz.prog fa.G fa.an 0 Tryz.f141 _ fa.st
abbrev fa.Ok:=cZ @fa.A fa.aB fa.add fa.F fa.out
theorem fa.eq{R:Type}(sv:(List iw))(k:bg→Option R):fa.A sv k=
  aK (decide (0 < (List.length sv))) (
   aK (dp (0+(List.length sv)) 48) (
   k (fa.out ((0+(List.length sv)),((List.take 0 (List.replicate 0 (([]:List Int),((0:Int),((0:Int),((0:Int),()))))))++sv)))) none) (
   nd (
    k (fa.out (0,([]:List iw)))) (
    aK (dp (0+(List.length sv)) 48) (
    k (fa.out ((0+(List.length sv)),((List.take 0 (List.replicate 0 (([]:List Int),((0:Int),((0:Int),((0:Int),()))))))++sv)))) none)):=by kernel_rfl
theorem fa.ok:fa.Ok:=by
 intro l hl
 have hl:l.length≤1000000:=hl
 have hr:dp l.length 48=true:=dX (by omega) (by omega)
 rw[fa.eq]
 simp only[Nat.zero_add,hr,ai,List.take_zero,List.nil_append,fa.add,fa.F]
 by_cases h:0 < l.length
 ·simp only[aY h,ai]
 ·have:l=[]:=List.eq_nil_of_length_eq_zero (by omega)
  subst this
  simp only[List.length_nil,ni,bq (Nat.lt_irrefl 0),ao]
noncomputable def fa.E:=Entry.cC [some (.slice gA)] fa.st fa.aB fa.add fa.F fa.out
noncomputable def fa.call:fa.D→Option fa.X:=bS fa.E fa.st
theorem fa.run:bM fa.call fa.aB fa.add fa.F:=dh (dd [.d (.slice gA)] fun _=>by kernel_rfl)
noncomputable def fa.sg:SG Tryz.prog:=⟨141,aX,fa.E,.fn 0 (by kernel_rfl) fa.ok trivial⟩
abbrev dP.D:=(List Sg)
def dP.st:dP.D→SA:=fun sv=>([.d (.slice nK) sv],[])
abbrev dP.Y:=(List Sg)
abbrev dP.X:=(List Sg)
def dP.out:dP.X→bg:=fun x=>⟨.d (.slice nK) x,[],[]⟩
def dP.add:dP.D→dP.Y→dP.X:=fun sv y=>y
def dP.aB:dP.D→Prop:=fun l=>l.length≤1000000
def dP.F:dP.D→dP.Y:=fun l=>l
noncomputable def dP.G:dY:=fg (P:=Tryz.prog) []
noncomputable def dP.an:eI:= {bK:=[5],res:=[some (.slice nK)]}
noncomputable def dP.A:= @cY Tryz.prog dP.G dP.an 0 Tryz.f140 _ dP.st
abbrev dP.Ok:=cZ @dP.A dP.aB dP.add dP.F dP.out
theorem dP.eq{R:Type}(sv:(List Sg))(k:bg→Option R):dP.A sv k=
  aK (decide (0 < (List.length sv))) (
   aK (dp (0+(List.length sv)) 16) (
   aK (decide (0=0∧(0+(0+(List.length sv)))≤(List.length ((List.take 0 (List.replicate 0 ((0:Int),((0:Int),()))))++sv)))) (
   k (dP.out (cut ((List.take 0 (List.replicate 0 ((0:Int),((0:Int),()))))++sv) 0 (0+(List.length sv))))) none) none) (
   nd (
    k (dP.out ([]:List Sg))) (
    aK (dp (0+(List.length sv)) 16) (
    aK (decide (0=0∧(0+(0+(List.length sv)))≤(List.length ((List.take 0 (List.replicate 0 ((0:Int),((0:Int),()))))++sv)))) (
    k (dP.out (cut ((List.take 0 (List.replicate 0 ((0:Int),((0:Int),()))))++sv) 0 (0+(List.length sv))))) none) none)):=by kernel_rfl
theorem dP.ok:dP.Ok:=by
 intro l hl
 have hl:l.length≤1000000:=hl
 have hr:dp l.length 16=true:=dX (by omega) (by omega)
 rw[dP.eq]
 simp only[Nat.zero_add,hr,ai,List.take_zero,List.nil_append,Nat.le_refl,and_self,decide_true,e7,dP.add,dP.F]
 by_cases h:0 < l.length
 ·simp only[aY h,ai]
 ·have:l=[]:=List.eq_nil_of_length_eq_zero (by omega)
  subst this
  simp only[List.length_nil,ni,bq (Nat.lt_irrefl 0),ao]
noncomputable def dP.E:=Entry.cC [some (.slice nK)] dP.st dP.aB dP.add dP.F dP.out
noncomputable def dP.call:dP.D→Option dP.X:=bS dP.E dP.st
theorem dP.run:bM dP.call dP.aB dP.add dP.F:=dh (dd [.d (.slice nK)] fun _=>by kernel_rfl)
noncomputable def dP.sg:SG Tryz.prog:=⟨140,aX,dP.E,.fn 0 (by kernel_rfl) dP.ok trivial⟩
abbrev ah.L0.D:=Int×Int×Nat×Nat×(Int×Unit)×(Int×Unit)×(List fU)×(List fx)
def ah.L0.st:ah.L0.D→AS:=fun(t17,t18,n1L,n1L_2,n1,n2,n9,n12)=>⟨([.undef,.ptr (.new 1 0) 0 [] 0,.ptr (.new 2 0) 0 [] 0]++bh 14 ([.d ti t17,.d ti t18]++bh 56 [])),[],([[],[.obj 0 false (.pr (.bJ (.new 9 0) 0 [] 0 0 n1L) (.pr (.bJ (.new 12 0) 0 [] 0 0 n1L_2) (.d (.pair ti .unit) n1)))],[.obj 0 false (.pr (.cV) (.pr (.cV) (.d (.pair ti .unit) n2)))]]++bI 6 ([[.obj 0 false (.vec 52 fv n9)],[],[],[.obj 0 false (.vec 36 eP n12)]]++bI 62 []))⟩
abbrev ah.L0.Y0:=(List fU)
abbrev ah.L0.X0:=(Nat×Nat×(Int×Unit)×(Int×Unit)×(List fx))×((List fU))
def ah.L0.bw:ah.L0.X0→Exit×AS:=fun x=>(.exit 0,⟨([.undef,.ptr (.new 1 0) 0 [] 0,.ptr (.new 2 0) 0 [] 0]++bh 72 []),[],([[],[.obj 0 false (.pr (.bJ (.new 9 0) 0 [] 0 0 x.1.1) (.pr (.bJ (.new 12 0) 0 [] 0 0 x.1.2.1) (.d (.pair ti .unit) x.1.2.2.1)))],[.obj 0 false (.pr (.cV) (.pr (.cV) (.d (.pair ti .unit) x.1.2.2.2.1)))]]++bI 6 ([[.obj 0 false (.vec 52 fv x.2)],[],[],[.obj 0 false (.vec 36 eP x.1.2.2.2.2)]]++bI 62 []))⟩)
abbrev ah.L0.X:=ah.L0.X0
abbrev ah.L0.Y:=ah.L0.Y0
def ah.L0.out:ah.L0.X→Out (Exit×AS):=fun x=> .ok (ah.L0.bw x)
def ah.L0.add:ah.L0.D→ah.L0.Y→ah.L0.X:=fun(t17,t18,n1L,n1L_2,n1,n2,n9,n12) y=>((n1L,n1L_2,n1,n2,n12),y)
abbrev ah.L1.D:=Int×Int×Nat×Nat×(Int×Unit)×(Int×Unit)×(List fU)×(List fx)
def ah.L1.st:ah.L1.D→AS:=fun(t38,t39,n1L_3,n1L_4,n1_2,n2_2,n9_2,n12_2)=>⟨([.undef,.ptr (.new 1 0) 0 [] 0,.ptr (.new 2 0) 0 [] 0]++bh 35 ([.d ti t38,.d ti t39]++bh 35 [])),[],([[],[.obj 0 false (.pr (.bJ (.new 9 0) 0 [] 0 0 n1L_3) (.pr (.bJ (.new 12 0) 0 [] 0 0 n1L_4) (.d (.pair ti .unit) n1_2)))],[.obj 0 false (.pr (.cV) (.pr (.cV) (.d (.pair ti .unit) n2_2)))]]++bI 6 ([[.obj 0 false (.vec 52 fv n9_2)],[],[],[.obj 0 false (.vec 36 eP n12_2)]]++bI 62 []))⟩
abbrev ah.L1.Y0:=Nat×Nat×(Int×Unit)×(Int×Unit)×(List fU)×(List fx)
abbrev ah.L1.X0:=Nat×Nat×(Int×Unit)×(Int×Unit)×(List fU)×(List fx)
def ah.L1.bw:ah.L1.X0→Exit×AS:=fun x=>(.exit 2,⟨([.undef,.ptr (.new 1 0) 0 [] 0,.ptr (.new 2 0) 0 [] 0]++bh 72 []),[],([[],[.obj 0 false (.pr (.bJ (.new 9 0) 0 [] 0 0 x.1) (.pr (.bJ (.new 12 0) 0 [] 0 0 x.2.1) (.d (.pair ti .unit) x.2.2.1)))],[.obj 0 false (.pr (.cV) (.pr (.cV) (.d (.pair ti .unit) x.2.2.2.1)))]]++bI 6 ([[.obj 0 false (.vec 52 fv x.2.2.2.2.1)],[],[],[.obj 0 false (.vec 36 eP x.2.2.2.2.2)]]++bI 62 []))⟩)
abbrev ah.L1.X:=ah.L1.X0
abbrev ah.L1.Y:=ah.L1.Y0
def ah.L1.out:ah.L1.X→Out (Exit×AS):=fun x=> .ok (ah.L1.bw x)
def ah.L1.add:ah.L1.D→ah.L1.Y→ah.L1.X:=fun(t38,t39,n1L_3,n1L_4,n1_2,n2_2,n9_2,n12_2) y=>y
abbrev ah.L2.D:=Int×Nat×Int×Int×Int×Int×Nat×Nat×(Int×Unit)×(Int×Unit)×(List fU)×(List fx)×(List iw)
def ah.L2.st:ah.L2.D→AS:=fun(kv,lL,t38_2,t39_2,t51,t52,n1L_5,n1L_6,n1_3,n2_3,n9_3,n12_3,n49)=>⟨([.undef,.ptr (.new 1 0) 0 [] 0,.ptr (.new 2 0) 0 [] 0,.undef,.d ti kv,.bJ (.new 49 0) 0 [] 0 0 lL]++bh 32 ([.d ti t38_2,.d ti t39_2]++bh 11 ([.d ti t51,.d ti t52]++bh 22 []))),[],([[],[.obj 0 false (.pr (.bJ (.new 9 0) 0 [] 0 0 n1L_5) (.pr (.bJ (.new 12 0) 0 [] 0 0 n1L_6) (.d (.pair ti .unit) n1_3)))],[.obj 0 false (.pr (.cV) (.pr (.cV) (.d (.pair ti .unit) n2_3)))]]++bI 6 ([[.obj 0 false (.vec 52 fv n9_3)],[],[],[.obj 0 false (.vec 36 eP n12_3)]]++bI 36 ([[.obj 0 false (.vec 29 gA n49)]]++bI 25 [])))⟩
abbrev ah.L2.Y0:=(List iw)×(List iw)
abbrev ah.L2.X0:=(Int×Int×Int×Nat×Nat×(Int×Unit)×(Int×Unit)×(List fU)×(List fx))×((List iw)×(List iw))
def ah.L2.bw:ah.L2.X0→Exit×AS:=fun x=>(.exit 4,⟨([.undef,.ptr (.new 1 0) 0 [] 0,.ptr (.new 2 0) 0 [] 0,.undef,.d ti x.1.1,.d (.slice gA) x.2.1]++bh 32 ([.d ti x.1.2.1,.d ti x.1.2.2.1]++bh 35 [])),[],([[],[.obj 0 false (.pr (.bJ (.new 9 0) 0 [] 0 0 x.1.2.2.2.1) (.pr (.bJ (.new 12 0) 0 [] 0 0 x.1.2.2.2.2.1) (.d (.pair ti .unit) x.1.2.2.2.2.2.1)))],[.obj 0 false (.pr (.cV) (.pr (.cV) (.d (.pair ti .unit) x.1.2.2.2.2.2.2.1)))]]++bI 6 ([[.obj 0 false (.vec 52 fv x.1.2.2.2.2.2.2.2.1)],[],[],[.obj 0 false (.vec 36 eP x.1.2.2.2.2.2.2.2.2)]]++bI 36 ([[.obj 0 true (.vec 29 gA x.2.2)]]++bI 25 [])))⟩)
abbrev ah.L2.X:=ah.L2.X0
abbrev ah.L2.Y:=ah.L2.Y0
def ah.L2.out:ah.L2.X→Out (Exit×AS):=fun x=> .ok (ah.L2.bw x)
def ah.L2.add:ah.L2.D→ah.L2.Y→ah.L2.X:=fun(kv,lL,t38_2,t39_2,t51,t52,n1L_5,n1L_6,n1_3,n2_3,n9_3,n12_3,n49) y=>((kv,t38_2,t39_2,n1L_5,n1L_6,n1_3,n2_3,n9_3,n12_3),y)
abbrev ah.D:=eT
def ah.st:ah.D→SA:=fun t=>([.d fV t],[])
abbrev ah.Y:=Nat×((List fx)×(Int×Unit))×(List fU)
abbrev ah.X:=Nat×((List fx)×(Int×Unit))×(List fU)
def ah.out:ah.X→bg:=fun x=>⟨.pr (.bJ (.new 0 0) 0 [] 0 0 x.1) (.d (.pair (.slice eP) (.pair ti .unit)) x.2.1),[],[.obj 0 false (.vec 52 fv x.2.2)]⟩
def ah.add:ah.D→ah.Y→ah.X:=fun t y=>y
def ah.L0.aB:ah.L0.D→Prop:=fun(m,i,L,L2,u,v,l,os)=>(l.length≤1000∧∀x∈l,x.2.1.2.1.length≤1000000)∧∃k:Nat,k≤l.length∧i=k∧m=l.length∧L=l.length
def ah.L0.F:ah.L0.D→ah.L0.Y:=fun(m,i,L,L2,u,v,l,os)=>l
def ah.L2.aB:ah.L2.D→Prop:=fun(kv,L,m1,i1,m,i,L5,L6,u,v,ls,os,bs)=>(bs.length≤1000∧∀x∈bs,x.1.length≤1000000)∧∃k:Nat,k≤bs.length∧i=k∧m=bs.length∧L=bs.length
def ah.L2.F:ah.L2.D→ah.L2.Y:=fun(kv,L,m1,i1,m,i,L5,L6,u,v,ls,os,bs)=>(bs,bs)
def ah.L1.aB:ah.L1.D→Prop:=fun(m,i,L3,L,u,v,ls,os)=>(os.length≤1000∧∀x∈os,x.2.1.1.length≤1000∧∀b∈x.2.1.1,b.1.length≤1000000)∧∃k:Nat,k≤os.length∧i=k∧m=os.length∧L=os.length
def ah.L1.F:ah.L1.D→ah.L1.Y:=fun(m,i,L3,L,u,v,ls,os)=>(L3,L,u,v,ls,os)
def ah.aB:ah.D→Prop:=fun t=>gv t=true
def ah.F:ah.D→ah.Y:=fun t=>(t.1.length,(t.2.1,t.2.2),t.1)
noncomputable def ah.G:dY:=fg (P:=Tryz.prog) [fo.sg,dO.sg,dP.sg,fa.sg,cH.sg]
noncomputable def ah.L0.E:=bQ.cC ah.L0.st ah.L0.aB ah.L0.add ah.L0.F ah.L0.out
noncomputable def ah.L0.call:ah.L0.D→Option ah.L0.X:=dm ah.L0.E ah.L0.st
noncomputable def ah.L1.E:=bQ.cC ah.L1.st ah.L1.aB ah.L1.add ah.L1.F ah.L1.out
noncomputable def ah.L1.call:ah.L1.D→Option ah.L1.X:=dm ah.L1.E ah.L1.st
noncomputable def ah.L2.E:=bQ.cC ah.L2.st ah.L2.aB ah.L2.add ah.L2.F ah.L2.out
noncomputable def ah.L2.call:ah.L2.D→Option ah.L2.X:=dm ah.L2.E ah.L2.st
noncomputable def ah.an:eI:= {bK:=[1],loops:=j4 [(3,{bm:=[1,2,17,18],sites:=[1,2,9,12]}),(8,{bm:=[1,2,38,39],sites:=[1,2,9,12]}),(12,{bm:=[1,2,4,5,38,39,51,52],sites:=[1,2,9,12,49]})],outs:=j3 [(3,{bm:=[1,2],sites:=[1,2,9,12]},{bm:=[2]}),(8,{bm:=[1,2],sites:=[1,2,9,12]},{bm:=[2]}),(12,{bm:=[1,2,4,5,38,39],sites:=[1,2,9,12,49],data:=[(5,(.slice gA))]},{bm:=[2]})],fJ:=kT [(3,ah.L0.E),(8,ah.L1.E),(12,ah.L2.E)],uQ:=[⟨2,[.snd,.fst],(.slice eP)⟩]}
noncomputable def ah.A:= @cY Tryz.prog ah.G ah.an 0 Tryz.f70 _ ah.st
abbrev ah.Ok:=cZ @ah.A ah.aB ah.add ah.F ah.out
noncomputable def ah.L0.R:= @bV Tryz.prog ah.G ah.an 0 Tryz.f70 0 _ ah.L0.st
abbrev ah.L0.Ok:=ez Tryz.prog ah.G ah.an 0 Tryz.f70 0 ah.L0.st ah.L0.aB ah.L0.add ah.L0.F ah.L0.out
noncomputable def ah.L1.R:= @bV Tryz.prog ah.G ah.an 0 Tryz.f70 1 _ ah.L1.st
abbrev ah.L1.Ok:=ez Tryz.prog ah.G ah.an 0 Tryz.f70 1 ah.L1.st ah.L1.aB ah.L1.add ah.L1.F ah.L1.out
noncomputable def ah.L2.R:= @bV Tryz.prog ah.G ah.an 0 Tryz.f70 2 _ ah.L2.st
abbrev ah.L2.Ok:=ez Tryz.prog ah.G ah.an 0 Tryz.f70 2 ah.L2.st ah.L2.aB ah.L2.add ah.L2.F ah.L2.out
theorem ah.L0.run:bM ah.L0.call ah.L0.aB ah.L0.add ah.L0.F:=eF (eD [.d ti,.d ti,.n,.n,.d (.pair ti .unit),.d (.pair ti .unit),.d (.slice fv),.d (.slice eP)] fun _=>by kernel_rfl)
theorem ah.L0.aD:fP @ah.L0.R ah.L0.st ah.L0.aB ah.L0.add ah.L0.F ah.L0.bw ah.L0.Ok:=fR
theorem ah.L0.step{R:Type}(t17:Int)(t18:Int)(n1L:Nat)(n1L_2:Nat)(n1:(Int×Unit))(n2:(Int×Unit))(n9:(List fU))(n12:(List fx))(kn:AS→Option R)(kx:Exit→AS→Option R):ah.L0.R (t17,t18,n1L,n1L_2,n1,n2,n9,n12) kn kx=
  aK ((fZ t18 t17)) (
   aK (eH t18 ((n1L:Nat):Int)) (
   aK (decide ((0+(Int.toNat t18)) < (List.length n9))) (
   aK (decide ((((0+(Int.toNat t18))*36)+34)=(((0+((Int.toNat t18)*36))+33)+1))) (
   al (dP.call (nth fv n9 (0+(Int.toNat t18))).2.1.2.1) fun x1=>
   aK (eH t18 ((n1L:Nat):Int)) (
   aK (decide ((0+(Int.toNat t18)) < (List.length n9))) (
   aK (decide ((((0+(Int.toNat t18))*36)+34)=(((0+((Int.toNat t18)*36))+33)+1))) (
   aK (decide ((0+(Int.toNat t18)) < (List.length n9))) (
   kn (ah.L0.st (t17,(bR .i64 t18 (1:Int)),n1L,n1L_2,n1,n2,(List.set n9 (0+(Int.toNat t18)) ((nth fv n9 (0+(Int.toNat t18))).1,(((nth fv n9 (0+(Int.toNat t18))).2.1.1,(x1,(nth fv n9 (0+(Int.toNat t18))).2.1.2.2)),(nth fv n9 (0+(Int.toNat t18))).2.2))),n12))) none) none) none) none) none) none) none) (
   kx (ah.L0.bw ((n1L,n1L_2,n1,n2,n12),n9)).1 (ah.L0.bw ((n1L,n1L_2,n1,n2,n12),n9)).2):=by kernel_rfl
theorem ah.L1.run:bM ah.L1.call ah.L1.aB ah.L1.add ah.L1.F:=eF (eD [.d ti,.d ti,.n,.n,.d (.pair ti .unit),.d (.pair ti .unit),.d (.slice fv),.d (.slice eP)] fun _=>by kernel_rfl)
theorem ah.L1.aD:fP @ah.L1.R ah.L1.st ah.L1.aB ah.L1.add ah.L1.F ah.L1.bw ah.L1.Ok:=fR
theorem ah.L1.step{R:Type}(t38:Int)(t39:Int)(n1L_3:Nat)(n1L_4:Nat)(n1_2:(Int×Unit))(n2_2:(Int×Unit))(n9_2:(List fU))(n12_2:(List fx))(kn:AS→Option R)(kx:Exit→AS→Option R):ah.L1.R (t38,t39,n1L_3,n1L_4,n1_2,n2_2,n9_2,n12_2) kn kx=
  aK ((fZ t39 t38)) (
   aK (eH t39 ((n1L_4:Nat):Int)) (
   aK (decide ((0+(Int.toNat t39)) < (List.length n12_2))) (
   aK (decide ((((0+(Int.toNat t39))*2)+1)=(((0+((Int.toNat t39)*2))+1)+0))) (
   al (fa.call (nth eP n12_2 (0+(Int.toNat t39))).2.1.1) fun x1=>
   al (ah.L2.call (t39,x1.1,t38,t39,((x1.1:Nat):Int),(0:Int),n1L_3,n1L_4,n1_2,n2_2,n9_2,n12_2,x1.2)) fun x2=>
   aK (eH x2.1.1 ((x2.1.2.2.2.2.1:Nat):Int)) (
   aK (decide ((0+(Int.toNat x2.1.1)) < (List.length x2.1.2.2.2.2.2.2.2.2))) (
   aK (decide ((((0+(Int.toNat x2.1.1))*2)+1)=(((0+((Int.toNat x2.1.1)*2))+1)+0))) (
   aK (decide ((0+(Int.toNat x2.1.1)) < (List.length x2.1.2.2.2.2.2.2.2.2))) (
   kn (ah.L1.st (x2.1.2.1,(bR .i64 x2.1.2.2.1 (1:Int)),x2.1.2.2.2.1,x2.1.2.2.2.2.1,x2.1.2.2.2.2.2.1,x2.1.2.2.2.2.2.2.1,x2.1.2.2.2.2.2.2.2.1,(List.set x2.1.2.2.2.2.2.2.2.2 (0+(Int.toNat x2.1.1)) ((nth eP x2.1.2.2.2.2.2.2.2.2 (0+(Int.toNat x2.1.1))).1,((x2.2.1,(nth eP x2.1.2.2.2.2.2.2.2.2 (0+(Int.toNat x2.1.1))).2.1.2),(nth eP x2.1.2.2.2.2.2.2.2.2 (0+(Int.toNat x2.1.1))).2.2)))))) none) none) none) none) none) none) none) (
   kx (ah.L1.bw (n1L_3,n1L_4,n1_2,n2_2,n9_2,n12_2)).1 (ah.L1.bw (n1L_3,n1L_4,n1_2,n2_2,n9_2,n12_2)).2):=by kernel_rfl
theorem ah.L2.run:bM ah.L2.call ah.L2.aB ah.L2.add ah.L2.F:=eF (eD [.d ti,.n,.d ti,.d ti,.d ti,.d ti,.n,.n,.d (.pair ti .unit),.d (.pair ti .unit),.d (.slice fv),.d (.slice eP),.d (.slice gA)] fun _=>by kernel_rfl)
theorem ah.L2.aD:fP @ah.L2.R ah.L2.st ah.L2.aB ah.L2.add ah.L2.F ah.L2.bw ah.L2.Ok:=fR
theorem ah.L2.step{R:Type}(kv:Int)(lL:Nat)(t38_2:Int)(t39_2:Int)(t51:Int)(t52:Int)(n1L_5:Nat)(n1L_6:Nat)(n1_3:(Int×Unit))(n2_3:(Int×Unit))(n9_3:(List fU))(n12_3:(List fx))(n49:(List iw))(kn:AS→Option R)(kx:Exit→AS→Option R):ah.L2.R (kv,lL,t38_2,t39_2,t51,t52,n1L_5,n1L_6,n1_3,n2_3,n9_3,n12_3,n49) kn kx=
  aK ((fZ t52 t51)) (
   aK (eH t52 ((lL:Nat):Int)) (
   aK (decide ((0+(Int.toNat t52)) < (List.length n49))) (
   aK (decide ((((0+(Int.toNat t52))*4)+0)=((0+((Int.toNat t52)*4))+0))) (
   al (cH.call (nth gA n49 (0+(Int.toNat t52))).1) fun x1=>
   aK (eH t52 ((lL:Nat):Int)) (
   aK (decide ((0+(Int.toNat t52)) < (List.length n49))) (
   aK (decide ((((0+(Int.toNat t52))*4)+0)=((0+((Int.toNat t52)*4))+0))) (
   aK (decide ((0+(Int.toNat t52)) < (List.length n49))) (
   kn (ah.L2.st (kv,lL,t38_2,t39_2,t51,(bR .i64 t52 (1:Int)),n1L_5,n1L_6,n1_3,n2_3,n9_3,n12_3,(List.set n49 (0+(Int.toNat t52)) (x1,(nth gA n49 (0+(Int.toNat t52))).2))))) none) none) none) none) none) none) none) (
   aK (decide (0=0∧(0+lL)≤(List.length n49))) (
   kx (ah.L2.bw ((kv,t38_2,t39_2,n1L_5,n1L_6,n1_3,n2_3,n9_3,n12_3),((cut n49 0 lL),n49))).1 (ah.L2.bw ((kv,t38_2,t39_2,n1L_5,n1L_6,n1_3,n2_3,n9_3,n12_3),((cut n49 0 lL),n49))).2) none):=by kernel_rfl
theorem ah.eq{R:Type}(t:eT)(k:bg→Option R):ah.A t k=
 al (fo.call t.1) fun x1=>
 al (dO.call t.2.1) fun x2=>
 al (ah.L0.call (((x1.1:Nat):Int),(0:Int),x1.1,x2.1,t.2.2,((0:Int),()),x1.2,x2.2)) fun x4=>
 al (ah.L1.call (((x4.1.2.1:Nat):Int),(0:Int),x4.1.1,x4.1.2.1,x4.1.2.2.1,x4.1.2.2.2.1,x4.2,x4.1.2.2.2.2)) fun x8=>
 aK (decide (0=0∧(0+x8.2.1)≤(List.length x8.2.2.2.2.2))) (
 k (ah.out (x8.1,((cut x8.2.2.2.2.2 0 x8.2.1),x8.2.2.1),x8.2.2.2.2.1))) none:=by kernel_rfl
theorem ah.L0.ok:ah.L0.Ok:=by
 refine ah.L0.aD (fun(m,i,L,L2,u,v,l,os)=>l.length - Int.toNat i) ?_
 rintro⟨m,i,L,L2,u,v,l,os⟩ ⟨⟨hlen,hx⟩,k,hk,rfl,rfl,rfl⟩
 have hlen:l.length≤1000:=hlen
 have hk:k≤l.length:=hk
 by_cases h:k < l.length
 ·left
  have n1:nth fv l k=l[k]:=cG (t:=fv) h
  have hs:l.set k l[k]=l:=List.set_getElem_self h
  have e:=hx _ (List.getElem_mem h)
  refine⟨((l.length:Int),((k+1:Nat):Int),l.length,L2,u,v,l,os),⟨⟨hlen,hx⟩,k+1,by omega,rfl,rfl,rfl⟩,by simp only[Int.toNat_natCast];omega,rfl,fun kn kx=> ?_⟩
  rw[ah.L0.step,bu (by omega),bz (by omega) (by omega)]
  simp only[Int.toNat_natCast,Nat.zero_add,Nat.add_zero,Nat.add_assoc,Nat.reduceAdd,ai,aY h,decide_true,n1]
  rw[dP.run (d:=l[k].2.1.2.1) e]
  simp only[ab,dP.add,dP.F]
  rw[N.kO (by omega)]
  exact congrArg (fun z=>kn (ah.L0.st (_,_,_,_,_,_,z,_))) hs
 ·right
  obtain rfl:k=l.length:=by omega
  intro R kn kx
  rw[ah.L0.step,bk (by omega),ao]
  rfl
theorem ah.L2.ok:ah.L2.Ok:=by
 refine ah.L2.aD (fun(kv,L,m1,i1,m,i,L5,L6,u,v,ls,os,bs)=>bs.length - Int.toNat i) ?_
 rintro⟨kv,L,m1,i1,m,i,L5,L6,u,v,ls,os,bs⟩ ⟨⟨hlen,hx⟩,k,hk,rfl,rfl,rfl⟩
 have hlen:bs.length≤1000:=hlen
 have hk:k≤bs.length:=hk
 by_cases h:k < bs.length
 ·left
  have n1:nth gA bs k=bs[k]:=cG (t:=gA) h
  have hs:bs.set k bs[k]=bs:=List.set_getElem_self h
  have e:=hx _ (List.getElem_mem h)
  refine⟨(kv,bs.length,m1,i1,(bs.length:Int),((k+1:Nat):Int),L5,L6,u,v,ls,os,bs),⟨⟨hlen,hx⟩,k+1,by omega,rfl,rfl,rfl⟩,by simp only[Int.toNat_natCast];omega,rfl,fun kn kx=> ?_⟩
  rw[ah.L2.step,bu (by omega),bz (by omega) (by omega)]
  simp only[Int.toNat_natCast,Nat.zero_add,Nat.add_zero,Nat.add_assoc,Nat.reduceAdd,ai,aY h,decide_true,n1]
  rw[cH.run (d:=bs[k].1) e]
  simp only[ab,cH.add,cH.F]
  rw[N.kO (by omega)]
  exact congrArg (fun z=>kn (ah.L2.st (_,_,_,_,_,_,_,_,_,_,_,_,z))) hs
 ·right
  obtain rfl:k=bs.length:=by omega
  intro R kn kx
  rw[ah.L2.step,bk (by omega),ao]
  simp only[Nat.zero_add,Nat.le_refl,and_self,decide_true,ai,e7]
  rfl
theorem ah.L1.ok:ah.L1.Ok:=by
 refine ah.L1.aD (fun(m,i,L3,L,u,v,ls,os)=>os.length - Int.toNat i) ?_
 rintro⟨m,i,L3,L,u,v,ls,os⟩ ⟨⟨hlen,hx⟩,k,hk,rfl,rfl,rfl⟩
 have hlen:os.length≤1000:=hlen
 have hk:k≤os.length:=hk
 by_cases h:k < os.length
 ·left
  have n1:nth eP os k=os[k]:=cG (t:=eP) h
  have hs:os.set k os[k]=os:=List.set_getElem_self h
  have e:=hx _ (List.getElem_mem h)
  refine⟨((os.length:Int),((k+1:Nat):Int),L3,os.length,u,v,ls,os),⟨⟨hlen,hx⟩,k+1,by omega,rfl,rfl,rfl⟩,by simp only[Int.toNat_natCast];omega,rfl,fun kn kx=> ?_⟩
  rw[ah.L1.step,bu (by omega),bz (by omega) (by omega)]
  simp only[Int.toNat_natCast,Nat.zero_add,Nat.add_zero,Nat.add_assoc,Nat.reduceAdd,ai,aY h,decide_true,n1]
  rw[fa.run (d:=os[k].2.1.1) (by show os[k].2.1.1.length≤_;have:=e.1;omega)]
  simp only[ab,fa.add,fa.F]
  rw[ah.L2.run (d:=((k:Int),os[k].2.1.1.length,(os.length:Int),(k:Int),(os[k].2.1.1.length:Int),0,L3,os.length,u,v,ls,os,os[k].2.1.1)) ⟨e,0,Nat.zero_le _,rfl,rfl,rfl⟩]
  simp only[ab,ah.L2.add,ah.L2.F,Int.toNat_natCast,n1,ai,aY h,bz (show(0:Int)≤(k:Int) by omega) (show(k:Int) < (os.length:Int) by omega)]
  rw[N.kO (by omega)]
  exact congrArg (fun z=>kn (ah.L1.st (_,_,_,_,_,_,_,z))) hs
 ·right
  obtain rfl:k=os.length:=by omega
  intro R kn kx
  rw[ah.L1.step,bk (by omega),ao]
  rfl
theorem tM{l:Lk}(h:jE l=true):l.1.length≤4∧∀b∈l.1,b.1.length≤12:=by
 unfold jE at h
 simp only[Bool.and_eq_true,List.all_eq_true,decide_eq_true_eq]at h
 refine⟨h.2.2,fun b hb=> ?_⟩
 have:=h.1 b hb
 unfold oV at this
 simp only[Bool.and_eq_true,decide_eq_true_eq]at this
 exact this.1
theorem ah.ok:ah.Ok:=by
 rintro⟨is,os,nt,u⟩ hok
 obtain⟨⟨_,a2,a3,_⟩,b1,b2⟩:=iU hok
 have a2:is.length≤64:=a2
 have a3:os.length≤64:=a3
 rw[ah.eq,fo.run (d:=is) (by show is.length≤_;omega),dO.run (d:=os) (by show os.length≤_;omega)]
 simp only[ab,fo.add,fo.F,dO.add,dO.F]
 rw[ah.L0.run (d:=(is.length,0,is.length,os.length,(nt,u),(0,()),is,os)) ⟨⟨by show is.length≤_;omega,fun x hx=>by have:=(wI (mL _ _ b1 x hx)).2.2.2.2;omega⟩,0,Nat.zero_le _,rfl,rfl,rfl⟩]
 simp only[ab,ah.L0.add,ah.L0.F]
 rw[ah.L1.run (d:=(os.length,0,is.length,os.length,(nt,u),(0,()),is,os)) ⟨⟨by show os.length≤_;omega,fun x hx=>by
  have:=tM (kb _ _ b2 x hx).2
  exact⟨by omega,fun b hb=>by have:=this.2 b hb;omega⟩⟩,0,Nat.zero_le _,rfl,rfl,rfl⟩]
 simp only[ab,ah.L1.add,ah.L1.F,Nat.zero_add,Nat.le_refl,and_self,decide_true,ai,e7]
 rfl
noncomputable def ah.E:=Entry.cC [some fV] ah.st ah.aB ah.add ah.F ah.out
noncomputable def ah.call:ah.D→Option ah.X:=bS ah.E ah.st
theorem ah.run:bM ah.call ah.aB ah.add ah.F:=dh (dd [.d fV] fun _=>by kernel_rfl)
noncomputable def ah.sg:SG Tryz.prog:=⟨70,aX,ah.E,.fn 3 (by kernel_rfl) ah.ok (And.intro (.cC ah.L0.ok (by kernel_rfl)) (And.intro (.cC ah.L1.ok (by kernel_rfl)) (And.intro (.cC ah.L2.ok (by kernel_rfl)) trivial)))⟩
set_option synthInstance.maxSize 5000
theorem qv(x:Int)(m:Int):∀k:Nat,(x%m)^k%m=x^k%m
 | 0=>by rw[Int.pow_zero,Int.pow_zero]
 |k+1=>by rw[Int.pow_succ,Int.pow_succ,Int.mul_emod,qv x m k,Int.emod_emod_of_dvd _ (Int.dvd_refl m),←Int.mul_emod]
theorem GH(a:Int)(k:Nat):(a*a)^k=a^(2*k):=by
 rw[Int.pow_mul,Int.pow_succ,Int.pow_succ,Int.pow_zero,Int.one_mul]
theorem DB:∀(f:Nat) (a:Int) (n:Nat) (out:Int),n < 2^f→Pn out→A4 f a n out=out*a^n%4611686018427377339
 | 0,a,n,out,h,ho=>by
  obtain rfl:n=0:=by omega
  rw[mN,Int.pow_zero,Int.mul_one,Int.emod_eq_of_lt ho.1 ho.2]
 |f+1,a,n,out,h,ho=>by
  have e:(2:Nat)^(f+1)=2^f*2:=Nat.pow_succ 2 f
  rw[A4]
  split
  ·rename_i h0
   subst h0
   rw[Int.pow_zero,Int.mul_one,Int.emod_eq_of_lt ho.1 ho.2]
  ·have hp:Pn (if n%2=1 then jW out a else out):=by
    split
    ·exact mg _ _
    ·exact ho
   rw[DB f _ _ _ (by omega) hp,Int.mul_emod]
   have e1:(jW a a)^(n / 2)%4611686018427377339=a^(2*(n / 2))%4611686018427377339:=by
    unfold jW
    rw[qv,GH]
   have e2:(if n%2=1 then jW out a else out)%4611686018427377339=(out*a^(n%2))%4611686018427377339:=by
    split
    ·rename_i h1
     rw[h1,Int.pow_succ,Int.pow_zero,Int.one_mul]
     exact Int.emod_emod_of_dvd _ (Int.dvd_refl _)
    ·have h1:n%2=0:=by omega
     rw[h1,Int.pow_zero,Int.mul_one]
   rw[e1,e2,←Int.mul_emod,Int.mul_assoc,←Int.pow_add]
   have e3:n%2+2*(n / 2)=n:=by omega
   rw[e3]
theorem ua(a:Int)(n:Nat)(h:n < 18446744073709551616):pw a n=a^n%4611686018427377339:=by
 unfold pw
 rw[DB 64 a n 1 h ⟨by omega,by omega⟩,Int.one_mul]
theorem one_pow(k:Nat):(1:Int)^k=1:=Int.one_pow
theorem DD(a:Int)(k q:Nat)(hk:k < 18446744073709551616)(hq:q < 18446744073709551616)(h:pw a q=1):pw (pw a k) q=1:=by
 rw[ua _ _ hq]at h
 rw[ua _ _ hq,ua _ _ hk,qv,←Int.pow_mul,Nat.mul_comm,Int.pow_mul,←qv,h,one_pow]
 rfl
theorem vz:pw 4 2305843009213688669=1:=by decide+kernel
theorem B3:pw 1 2305843009213688669=1:=by decide+kernel
theorem EK:mu 4=true:=by rw[mu,vz];rfl
theorem qf:mu 1=true:=by rw[mu,B3];rfl
theorem ES:yw 1=1:=by
 have e:pw 1 2305843009213688668=1:=by decide+kernel
 rw[yw,tk,qf]
 exact e
theorem w4{a:Int}(h:Pn a)(q:Nat)(hq:0 < q)(hq2:q < 18446744073709551616)(hp:pw a q=1):0 < a:=by
 rcases Int.lt_or_eq_of_le h.1 with h0 | h0
 ·exact h0
 ·subst h0
  rw[ua _ _ hq2,Int.zero_pow (by omega)]at hp
  cases hp
theorem Gd{a:Int}(h:Pn a)(hp:pw a 2305843009213688669=1):mu a=true:=by
 have h0:=w4 h 2305843009213688669 (by decide) (by decide) hp
 rw[mu,hp,decide_eq_true ⟨h0,h.2⟩];rfl
theorem BK{a:Int}(h:mu a=true):pw a 2305843009213688669=1∧Pn a:=by
 rw[mu,Bool.and_eq_true,decide_eq_true_eq,decide_eq_true_eq]at h
 exact⟨h.2,by omega,h.1.2⟩
theorem Ge{a:Int}(h:mu a=true)(k:Nat)(hk:k < 18446744073709551616):mu (pw a k)=true:=
 Gd (yN _ _) (DD a k _ hk (by decide) (BK h).1)
theorem Gf(a:Int):mu (tk a)=true:=by
 unfold tk
 cases h:mu a
 ·exact qf
 ·exact h
theorem BL(p k:Int):mu (nr p k)=true:=Ge (Gf p) _ (by omega)
theorem uA{a:Int}(h:mu a=true):tk a=a:=by rw[tk,h];rfl
theorem tG(k:Int):mu (eZ k)=true:=BL 4 k
theorem yu{a:Int}(h:Pn a):jW a 1=a:=by rw[jW,Int.mul_one,Int.emod_eq_of_lt h.1 h.2]
set_option synthInstance.maxSize 5000
def pm(m:Nat):Nat→Nat→Nat→Nat→Nat
 | 0,_,_,out=>out%m
 |f+1,a,n,out=>if n=0 then out%m else pm m f (a*a%m) (n / 2) (if n%2=1 then out*a%m else out)
theorem FD(m:Nat):∀(f a n out:Nat),n < 2^f→pm m f a n out=out*a^n%m
 | 0,a,n,out,h=>by
  obtain rfl:n=0:=by omega
  rw[pm,Nat.pow_zero,Nat.mul_one]
 |f+1,a,n,out,h=>by
  have e:(2:Nat)^(f+1)=2^f*2:=Nat.pow_succ (n:=2) (m:=f)
  rw[pm]
  split
  ·rename_i h0
   subst h0
   rw[Nat.pow_zero,Nat.mul_one]
  ·rw[FD m f _ _ _ (by omega),Nat.mul_mod]
   have e1:(a*a%m)^(n / 2)%m=a^(2*(n / 2))%m:=by
    rw[←Nat.pow_mod,Nat.pow_mul,Nat.pow_two]
   have e2:(if n%2=1 then out*a%m else out)%m=(out*a^(n%2))%m:=by
    split
    ·rename_i h1
     rw[h1,Nat.pow_one,Nat.mod_mod]
    ·have h1:n%2=0:=by omega
     rw[h1,Nat.pow_zero,Nat.mul_one]
   rw[e1,e2,←Nat.mul_mod,Nat.mul_assoc,←Nat.pow_add]
   have e3:n%2+2*(n / 2)=n:=by omega
   rw[e3]
theorem C0:∀(r q:Nat) (f:Nat→Nat),(∀i,i < q→f i < r)→(∀i j,i < j→j < q→f i≠f j)→q≤r
 | 0,q,f,h,_=>by
  rcases Nat.eq_zero_or_pos q with h0 | h0
  ·omega
  ·exact absurd (h 0 h0) (Nat.not_lt_zero _)
 |r+1,q,f,h,g=>by
  by_cases hx:∃i,i < q∧f i=r
  ·obtain⟨i,hi,hr⟩:=hx
   have e:=C0 r (q - 1) (fun j=>if j < i then f j else f (j+1)) (fun j hj=>by
    by_cases h1:j < i
    ·have a:=h j (by omega)
     have b:=g j i h1 hi
     simp only[h1,if_true]
     omega
    ·have a:=h (j+1) (by omega)
     have b:=g i (j+1) (by omega) (by omega)
     simp only[h1,if_false]
     omega) (fun j k hjk hk=>by
    by_cases h1:j < i
    ·by_cases h2:k < i
     ·simp only[h1,h2,if_true]
      exact g j k hjk (by omega)
     ·simp only[h1,h2,if_true,if_false]
      exact g j (k+1) (by omega) (by omega)
    ·have h2:¬k < i:=by omega
     simp only[h1,h2,if_false]
     exact g (j+1) (k+1) (by omega) (by omega))
   omega
  ·have e:=C0 r q f (fun i hi=>by
    have a:=h i hi
    have b:f i≠r:=fun x=>hx ⟨i,hi,x⟩
    omega) g
   omega
theorem A2(a m:Nat)(h1:1%m=1):∀i j:Nat,a^i%m=1→a^j%m=1→a^(Nat.gcd i j)%m=1:=by
 intro i
 induction i using Nat.strongRecOn with
 |ind i ih=>
  intro j hi hj
  rcases Nat.eq_zero_or_pos i with h0 | h0
  ·subst h0;rw[Nat.gcd_zero_left];exact hj
  ·rw[Nat.gcd_rec]
   refine ih (j%i) (Nat.mod_lt _ h0) i ?_ hi
   have e:a^j=(a^i)^(j / i)*a^(j%i):=by rw[←Nat.pow_mul,←Nat.pow_add,Nat.div_add_mod]
   rw[e,Nat.mul_mod,Nat.pow_mod,hi,Nat.one_pow,h1,Nat.one_mul,Nat.mod_mod]at hj
   exact hj
def Cn(n:Nat):Prop:=∀d,d∣n→d=1∨d=n
theorem A3{n k:Nat}(h:Cn n)(h0:0 < k)(hk:k < n):Nat.gcd k n=1:=by
 rcases h _ (Nat.gcd_dvd_right k n) with h1 | h1
 ·exact h1
 ·have:=Nat.le_of_dvd h0 (Nat.gcd_dvd_left k n);omega
theorem yz{n:Nat}(hn:1 < n)(h:∀r,1 < r→r*r≤n→¬r∣n):Cn n:=by
 intro d hd
 obtain⟨e,he⟩:=hd
 have hd0:0 < d:=Nat.pos_of_ne_zero (by intro x;rw[x,Nat.zero_mul]at he;omega)
 have he0:0 < e:=Nat.pos_of_ne_zero (by intro x;rw[x,Nat.mul_zero]at he;omega)
 by_cases h1:d=1
 ·exact .inl h1
 by_cases h2:e=1
 ·right;rw[he,h2,Nat.mul_one]
 exfalso
 rcases Nat.le_total d e with hle | hle
 ·exact h d (by omega) (by rw[he];exact Nat.mul_le_mul_left d hle) ⟨e,he⟩
 ·exact h e (by omega) (by rw[he];exact Nat.mul_le_mul_right e hle) ⟨d,by rw[he,Nat.mul_comm]⟩
theorem Gs{n q b:Nat}(hn:1 < n)(hq:Cn q)(hq1:1 < q)(hqq:n < q*q)(hb:b^q%n=1)(hg:Nat.gcd (b - 1) n=1)(hb0:0 < b):Cn n:=by
 refine yz hn fun r hr hrr hrn=> ?_
 have h1r:1%r=1:=Nat.mod_eq_of_lt hr
 have hbr:b^q%r=1:=by
  have:=Nat.mod_mod_of_dvd (b^q) hrn
  rw[←this,hb,h1r]
 have hne:b%r≠1:=by
  intro hx
  have hd:r∣b - 1:=by have e:=Nat.dvd_sub_mod (n:=r) b;rw[hx]at e;exact e
  have:=Nat.dvd_gcd hd hrn
  rw[hg]at this
  have:=Nat.le_of_dvd (by omega) this
  omega
 have key:q≤r:=by
  refine C0 r q (fun i=>b^i%r) (fun i _=>Nat.mod_lt _ (by omega)) fun i j hij hj he=> ?_
  have e1:b^(j - i)%r=1:=by
   have x1:b^(q - i)*b^i%r=b^(q - i)*b^j%r:=by rw[Nat.mul_mod,he,←Nat.mul_mod]
   rw[←Nat.pow_add,←Nat.pow_add,show q - i+i=q by omega,show q - i+j=q+(j - i) by omega,Nat.pow_add,Nat.mul_mod,hbr,Nat.one_mul,Nat.mod_mod]at x1
   exact x1.symm
  have e2:=A2 b r h1r (j - i) q e1 hbr
  rw[A3 hq (by omega) (by omega),Nat.pow_one]at e2
  exact hne e2
 have:q*q≤r*r:=Nat.mul_le_mul key key
 omega
def Dn(n:Nat):Nat→Bool
 | 0=>true
 |k+1=>n%(k+2) !=0 && Dn n k
theorem yy(n:Nat):∀k,Dn n k=true→∀d,1 < d→d≤k+1→¬d∣n
 | 0,_,d,h1,h2=>by omega
 |k+1,h,d,h1,h2=>by
  rw[Dn,Bool.and_eq_true]at h
  by_cases hd:d=k+2
  ·intro hx
   have:=Nat.mod_eq_zero_of_dvd hx
   rw[hd]at this
   rw[this]at h
   exact absurd h.1 (by decide)
  ·exact yy n k h.2 d h1 (by omega)
theorem Im:Cn 7930907:=by
 refine yz (by decide) fun r hr hrr=>yy 7930907 2820 (by decide+kernel) r hr ?_
 apply Nat.le_of_not_lt
 intro h
 have:2822*2822≤r*r:=Nat.mul_le_mul (by omega) (by omega)
 omega
theorem qw{n q:Nat}(a e:Nat)(hq:Cn q)(hq1:1 < q)(hn:1 < n)(hqq:n < q*q)(he:e < 2^64)(hq2:q < 2^64)(h1:pm n 64 (pm n 64 a e 1) q 1=1)(h2:Nat.gcd (pm n 64 a e 1 - 1) n=1)(h3:0 < pm n 64 a e 1):Cn n:=by
 generalize pm n 64 a e 1=b at*
 rw[FD _ _ _ _ _ hq2,Nat.one_mul]at h1
 exact Gs hn hq hq1 hqq h1 h2 h3
theorem Il:Cn 11864636873:=qw (q:=7930907) 2 1496 Im (by decide) (by decide) (by decide) (by decide) (by decide) (by decide+kernel) (by decide+kernel) (by decide+kernel)
theorem Ik:Cn 1732236983459:=qw (q:=11864636873) 2 146 Il (by decide) (by decide) (by decide) (by decide) (by decide) (by decide+kernel) (by decide+kernel) (by decide+kernel)
theorem Ij:Cn 249442125618097:=qw (q:=1732236983459) 2 144 Ik (by decide) (by decide) (by decide) (by decide) (by decide) (by decide+kernel) (by decide+kernel) (by decide+kernel)
theorem Io:Cn 2305843009213688669:=qw (q:=249442125618097) 2 9244 Ij (by decide) (by decide) (by decide) (by decide) (by decide) (by decide+kernel) (by decide+kernel) (by decide+kernel)
def gP(n:Nat):Int:=((4^n%4611686018427377339:Nat):Int)
theorem u5(a m q:Nat)(h1:1%m=1)(h:a^q%m=1)(n:Nat):a^(n%q)%m=a^n%m:=by
 have e:a^n=(a^q)^(n / q)*a^(n%q):=by rw[←Nat.pow_mul,←Nat.pow_add,Nat.div_add_mod]
 rw[e,Nat.mul_mod,Nat.pow_mod (a^q),h,Nat.one_pow,h1,Nat.one_mul,Nat.mod_mod]
theorem Fp:∀q:Nat,q=2305843009213688669→4^q%4611686018427377339=1:=by
 intro q hq
 have h:=vz
 rw[ua _ _ (by decide)]at h
 rw[←hq]at h
 have e:(((4^q%4611686018427377339:Nat)):Int)=1:=by
  rw[Int.natCast_emod,Int.natCast_pow]
  exact h
 omega
theorem wF(n:Nat):gP (n%2305843009213688669)=gP n:=by
 unfold gP
 obtain⟨q,hq⟩:∃q:Nat,q=2305843009213688669:=⟨_,rfl⟩
 rw[←hq,u5 4 4611686018427377339 q (by decide) (Fp q hq)]
theorem Hm(n:Nat)(h:n < 18446744073709551616):pw 4 n=gP n:=by
 rw[ua _ _ h]
 unfold gP
 rw[Int.natCast_emod,Int.natCast_pow]
 rfl
theorem CW(k:Int)(h:0≤k):(k%2305843009213688669).toNat=k.toNat%2305843009213688669:=by omega
theorem sE(k:Int)(h:0≤k):eZ k=gP k.toNat:=by
 show pw (tk 4) _=_
 rw[uA EK,Hm _ (by omega),CW k h,wF]
theorem Ey(n:Nat):gP n=eZ n:=by rw[sE _ (by omega),Int.toNat_natCast]
theorem tp(n:Nat):mu (gP n)=true:=by rw[Ey];exact tG _
theorem zI(a b:Nat):jW (gP a) (gP b)=gP (a+b):=by
 unfold jW gP
 rw[←Int.natCast_mul,Nat.pow_add]
 have e:(4611686018427377339:Int)=((4611686018427377339:Nat):Int):=rfl
 rw[e,←Int.natCast_emod,←Nat.mul_mod]
theorem CX(a:Nat)(c:Int)(h:0≤c):nr (gP a) c=gP (a*c.toNat):=by
 show pw (tk (gP a)) _=_
 rw[uA (tp a),ua _ _ (by omega),CW c h]
 obtain⟨b,hb⟩:∃b:Nat,b=c.toNat:=⟨_,rfl⟩
 rw[←hb]
 obtain⟨d,hd⟩:∃d:Nat,d=b%2305843009213688669:=⟨_,rfl⟩
 have hx:gP (a*b)=gP (a*d):=by rw[←wF (a*b),←wF (a*d),Nat.mul_mod a b,Nat.mul_mod a d,hd,Nat.mod_mod]
 rw[hx,←hd]
 unfold gP
 have e:(4611686018427377339:Int)=((4611686018427377339:Nat):Int):=rfl
 rw[e,←Int.natCast_pow,←Int.natCast_emod,←Nat.pow_mod,←Nat.pow_mul]
theorem AI:gP 0=1:=by decide
theorem Hl{n:Nat}(h:0 < n)(hn:n < 2305843009213688669):gP n≠1:=by
 intro he
 unfold gP at he
 have he:4^n%4611686018427377339=1:=by omega
 obtain⟨q,hq⟩:∃q:Nat,q=2305843009213688669:=⟨_,rfl⟩
 have e:=A2 4 4611686018427377339 (by decide) n q he (Fp q hq)
 rw[A3 (by rw[hq];exact Io) h (by omega)]at e
 exact absurd e (by decide)
theorem E8(k:Int)(m:List Int)(h0:0 < k)(hq:k < 2305843009213688669):lK (eZ k) m 1 (ij k m)=true:=by
 obtain⟨kn,hk⟩:∃kn:Nat,kn=k.toNat:=⟨_,rfl⟩
 have hb:eZ k=gP kn:=by rw[hk];exact sE k (by omega)
 have hn:=tm (DW zS [hZ k,m])
 unfold ij Dp
 rw[if_pos ⟨hq,by omega⟩]
 obtain⟨n,hne⟩:∃n,qa (DW zS [hZ k,m])=n:=⟨_,rfl⟩
 rw[hne]at hn ⊢
 unfold we
 have hr:sC [eZ n,1]=gP n.toNat:=by
  show jW (jW 1 (tk (eZ n))) (tk 1)=_
  rw[uA (tG n),uA qf,yu (mg _ _),sE n (by omega),←AI,zI,Nat.zero_add]
 rw[hr,hb]
 have hc:=s6 (gP n.toNat) (gP kn) m
 obtain⟨c,hce⟩:∃c,nD (gP n.toNat) (gP kn) m=c:=⟨_,rfl⟩
 rw[hce]at hc ⊢
 have ha:=Au n (wT c k)
 have h1:=hc.1
 have h2:=ha.1
 have h3:=ha.2
 unfold lK
 rw[if_neg (by
  intro h
  rcases h with h | h | h | h | h
  ·exact Hl (by omega) (by omega) h
  ·rw[tp]at h;cases h
  ·rw[qf]at h;cases h
  ·have h:mu (gP n.toNat)=false:=h
   rw[tp]at h;cases h
  ·exact h h3)]
 have e:eZ (zi n (wT c k))=sC [gP n.toNat,nr (gP kn) c,yw 1]:=by
  show _=jW (jW (jW 1 (tk (gP n.toNat))) (tk (nr (gP kn) c))) (tk (yw 1))
  rw[ES,uA qf,yu (mg _ _),uA (tp _),CX _ _ h1,uA (tp _)]
  rw[show(jW 1 (gP n.toNat))=gP n.toNat by rw[←AI,zI,Nat.zero_add]]
  rw[zI,sE _ h2]
  have hx:(zi n (wT c k)).toNat=(n.toNat+kn*c.toNat)%2305843009213688669:=by
   unfold zi wT Dq
   have g1:c%2305843009213688669=c:=Int.emod_eq_of_lt h1 hc.2
   have g2:k%2305843009213688669=k:=Int.emod_eq_of_lt (by omega) hq
   have g3:n%2305843009213688669=n:=Int.emod_eq_of_lt (by omega) hn.2
   rw[g1,g2,g3,Int.emod_emod_of_dvd _ (Int.dvd_refl _)]
   have g4:((kn*c.toNat:Nat):Int)=c*k:=by
    rw[Int.natCast_mul,hk,Int.toNat_of_nonneg (by omega),Int.toNat_of_nonneg h1,Int.mul_comm]
   have g5:0≤c*k:=by rw[←g4];exact Int.natCast_nonneg _
   obtain⟨z,hz⟩:∃z,c*k=z:=⟨_,rfl⟩
   rw[hz]at g4 g5 ⊢
   obtain⟨zn,hzn⟩:∃zn,kn*c.toNat=zn:=⟨_,rfl⟩
   rw[hzn]at g4 ⊢
   omega
  rw[hx,wF]
 show decide (eZ (zi n (wT c k))=sC [gP n.toNat,nr (gP kn) (nD (gP n.toNat) (gP kn) m),yw 1])=true
 rw[hce]
 exact decide_eq_true e
set_option synthInstance.maxSize 5000
def wH{α:Type}(p:α→Bool):List α→Int→Int⊕Unit
 |[],_=> .inr ()
 |x::xs,i=>if p x then .inl i else wH p xs (i+1)
def EG{α:Type}(p:α→Bool)(l:List α):Int:=match wH p l 0 with | .inl i=>i | .inr _=> -1
theorem yc{α:Type}(p:α→Bool):∀(l:List α) (i:Int),0≤i→(match wH p l i with | .inl i=>decide (i≥0) | .inr _=>false)=l.any p
 |[],_,_=>rfl
 |x::l,i,h=>by
  rw[wH,List.any_cons]
  cases hp:p x
  ·simp only[Bool.false_eq_true,if_false,Bool.false_or]
   exact yc p l (i+1) (by omega)
  ·simp[h]
theorem C2{α:Type}(p:α→Bool)(l:List α):oc (EG p l) 0=l.any p:=by
 have:=yc p l 0 (by omega)
 unfold EG oc
 cases h:wH p l 0
 ·rw[h]at this;exact this
 ·rw[h]at this;rw[←this];rfl
def pV(k:Int):Bool:=decide (¬(k < 2305843009213688669∧k≠0))
def oA(t:eT)(i br:Int)(ks:List Int):Bool:=gv t && (decide (0≤i∧i < t.1.length∧0≤br∧br < 4∧ks.length≤12) && !(ks.any pV))
def DL(t:eT)(i br:Int)(ks:List Int)(sc:Int):eT×Int:=
 if oA t i br ks then((t.1.set i.toNat ((nth fv t.1 i.toNat).1,(br,ks.map (fun k=>ij k (mD t)),sc,()),()),t.2),0) else(([],[],0,()),1)
theorem Ao{t:eT}:Sm (mD t):=by
 unfold mD
 split
 ·exact Af _ _
 ·exact⟨by rw[List.length_replicate],fun x hx=>by obtain rfl:=(List.mem_replicate.1 hx).2;exact⟨by decide,by decide⟩⟩
abbrev ee.D:=Int
def ee.st:ee.D→SA:=fun kv=>([.d tu kv],[])
abbrev ee.Y:=Bool
abbrev ee.X:=Bool
def ee.out:ee.X→bg:=fun x=>⟨.d .bool x,[],[]⟩
def ee.add:ee.D→ee.Y→ee.X:=fun kv y=>y
def ee.aB:ee.D→Prop:=fun _=>True
def ee.F:ee.D→ee.Y:=fun k=>pV k
noncomputable def ee.G:dY:=fg (P:=Tryz.prog) [cM.sg]
noncomputable def ee.an:eI:= {}
noncomputable def ee.A:= @cY Tryz.prog ee.G ee.an 0 Tryz.f64 _ ee.st
abbrev ee.Ok:=cZ @ee.A ee.aB ee.add ee.F ee.out
theorem ee.eq{R:Type}(kv:Int)(k:bg→Option R):ee.A kv k=
  aK ((jy kv (0:Int))) (
   k (ee.out true)) (
   al (cM.call kv) fun x1=>
   k (ee.out (!x1))):=by kernel_rfl
theorem ee.ok:ee.Ok:=by
 intro(k:Int) _
 rw[ee.eq,cM.run (d:=k) trivial]
 simp only[ee.add,ee.F,pV,ab,cM.add,cM.F]
 by_cases h:k=0
 ·rw[ia h,ai,aY (by omega)]
 ·rw[iO h,ao]
  by_cases h2:k < 2305843009213688669
  ·rw[bu h2,bq (by omega)];rfl
  ·rw[bk h2,aY (by omega)];rfl
noncomputable def ee.E:=Entry.cC [some tu] ee.st ee.aB ee.add ee.F ee.out
noncomputable def ee.call:ee.D→Option ee.X:=bS ee.E ee.st
theorem ee.run:bM ee.call ee.aB ee.add ee.F:=dh (dd [.d tu] fun _=>by kernel_rfl)
noncomputable def ee.sg:SG Tryz.prog:=⟨64,aX,ee.E,.fn 0 (by kernel_rfl) ee.ok trivial⟩
abbrev aV.L0.D:=Bs×Int×Int
def aV.L0.st:aV.L0.D→AS:=fun(sv_2,t7,t8)=>⟨([.d tU sv_2,.fn 64 (.nil)]++bh 5 ([.d ti t7,.d ti t8]++bh 10 [])),[],(List.replicate 19 [])⟩
abbrev aV.L0.Y0:=Int
abbrev aV.L0.X0:=Int
def aV.L0.bw:aV.L0.X0→Exit×AS:=fun x=>(.ret,⟨(bh 4 ([.d ti x]++bh 14 [])),[],(List.replicate 19 [])⟩)
abbrev aV.L0.Y1:=Unit
abbrev aV.L0.X1:=Unit
def aV.L0.fq:aV.L0.X1→Exit×AS:=fun x=>(.exit 0,⟨(bh 19 []),[],(List.replicate 19 [])⟩)
abbrev aV.L0.X:=(aV.L0.X0)⊕(aV.L0.X1)
abbrev aV.L0.Y:=(aV.L0.Y0)⊕(aV.L0.Y1)
def aV.L0.out:aV.L0.X→Out (Exit×AS):=fun x=> .br x.isLeft (.get x.getLeft? fun a=> .ok (aV.L0.bw a)) (.get x.getRight? fun b=> .ok (aV.L0.fq b))
def aV.L0.add:aV.L0.D→aV.L0.Y→aV.L0.X:=fun(sv_2,t7,t8) y=>match y with | .inl y=> .inl y | .inr z=> .inr (z)
abbrev aV.D:=Bs
def aV.st:aV.D→SA:=fun sv=>([.d tU sv,.fn 64 (.nil)],[])
abbrev aV.Y:=Int
abbrev aV.X:=Int
def aV.out:aV.X→bg:=fun x=>⟨.d ti x,[],[]⟩
def aV.add:aV.D→aV.Y→aV.X:=fun sv y=>y
def aV.L0.aB:aV.L0.D→Prop:=fun(l,n,i)=>(∀x∈l,True)∧l.length≤1000000000∧n=l.length∧∃k:Nat,k≤l.length∧i=k
def aV.L0.F:aV.L0.D→aV.L0.Y:=fun(l,n,i)=>wH pV (l.drop i.toNat) i
def aV.aB:aV.D→Prop:=fun l=>(∀x∈l,True)∧l.length≤1000000000
def aV.F:aV.D→aV.Y:=fun l=>EG pV l
noncomputable def aV.G:dY:=fg (P:=Tryz.prog) [ee.sg]
noncomputable def aV.L0.E:=bQ.cC aV.L0.st aV.L0.aB aV.L0.add aV.L0.F aV.L0.out
noncomputable def aV.L0.call:aV.L0.D→Option aV.L0.X:=dm aV.L0.E aV.L0.st
noncomputable def aV.an:eI:= {loops:=j4 [(2,{bm:=[0,1,7,8]})],outs:=j3 [(2,{},{bm:=[4]})],fJ:=kT [(2,aV.L0.E)]}
noncomputable def aV.A:= @cY Tryz.prog aV.G aV.an 0 Tryz.f133 _ aV.st
abbrev aV.Ok:=cZ @aV.A aV.aB aV.add aV.F aV.out
noncomputable def aV.L0.R:= @bV Tryz.prog aV.G aV.an 0 Tryz.f133 0 _ aV.L0.st
abbrev aV.L0.Ok:=ez Tryz.prog aV.G aV.an 0 Tryz.f133 0 aV.L0.st aV.L0.aB aV.L0.add aV.L0.F aV.L0.out
theorem aV.L0.run:bM aV.L0.call aV.L0.aB aV.L0.add aV.L0.F:=eF (eD [.d tU,.d ti,.d ti] fun _=>by kernel_rfl)
theorem aV.L0.aD:kP @aV.L0.R aV.L0.st aV.L0.aB aV.L0.add aV.L0.F aV.L0.out aV.L0.Ok:=lp
theorem aV.L0.step{R:Type}(sv_2:Bs)(t7:Int)(t8:Int)(kn:AS→Option R)(kx:Exit→AS→Option R):aV.L0.R (sv_2,t7,t8) kn kx=
  aK ((fZ t8 t7)) (
   aK (eH t8 (((List.length sv_2):Nat):Int)) (
   al (ee.call (nth tu sv_2 (Int.toNat t8))) fun x1=>
   aK (x1) (
    kx (aV.L0.bw t8).1 (aV.L0.bw t8).2) (
    kn (aV.L0.st (sv_2,t7,(bR .i64 t8 (1:Int)))))) none) (
   kx (aV.L0.fq ()).1 (aV.L0.fq ()).2):=by kernel_rfl
theorem aV.eq{R:Type}(sv:Bs)(k:bg→Option R):aV.A sv k=
  al (aV.L0.call (sv,(((List.length sv):Nat):Int),(0:Int))) fun x2=>
  aK (x2.isLeft) (
   al (x2.getLeft?) fun a3=>
   k (aV.out a3)) (
   al (x2.getRight?) fun b4=>
   k (aV.out (-1:Int))):=by kernel_rfl
theorem aV.L0.ok:aV.L0.Ok:=by
 refine aV.L0.aD (fun(l,n,i)=>l.length - i.toNat) ?_
 rintro⟨l,n,i⟩ ⟨hl,hb,rfl,k,hk,rfl⟩
 have hb:l.length≤1000000000:=hb
 have hk:k≤l.length:=hk
 by_cases h:k < l.length
 ·have hx:=hl _ (List.getElem_mem h)
  have n1:nth tu l k=l[k]:=cG (t:=tu) h
  have hd:wH pV (l.drop k) k=if pV l[k] then .inl (k:Int) else wH pV (l.drop (k+1)) ((k+1:Nat):Int):=by rw[List.drop_eq_getElem_cons h];rfl
  have step:∀ {R:Type} (kn:AS→Option R) (kx:Exit→AS→Option R),aV.L0.R (l,(l.length:Int),(k:Int)) kn kx=aK (pV l[k]) (kx (aV.L0.bw (k:Int)).1 (aV.L0.bw (k:Int)).2) (kn (aV.L0.st (l,(l.length:Int),((k+1:Nat):Int)))):=by
   intro R kn kx
   rw[aV.L0.step,bu (by omega),bz (by omega) (by omega),Int.toNat_natCast,n1,ee.run (d:=l[k]) hx,N.kO (by omega)]
   rfl
  cases hp:pV l[k]
  ·left
   refine⟨(l,l.length,((k+1:Nat):Int)),⟨hl,hb,rfl,k+1,by omega,rfl⟩,by simp only[Int.toNat_natCast];omega,?_,fun kn kx=> ?_⟩
   ·simp only[aV.L0.add,aV.L0.F,Int.toNat_natCast,hd,hp,Bool.false_eq_true,if_false]
   ·rw[step,hp,ao]
  ·right
   refine⟨aV.L0.bw (k:Int),?_,fun kn kx=> ?_⟩
   ·simp only[aV.L0.add,aV.L0.F,Int.toNat_natCast,hd,hp,if_true]
    rfl
   ·rw[step,hp,ai]
 ·right
  obtain rfl:k=l.length:=by omega
  refine⟨aV.L0.fq (),?_,fun kn kx=> ?_⟩
  ·simp only[aV.L0.add,aV.L0.F,Int.toNat_natCast,List.drop_length]
   rfl
  ·rw[aV.L0.step,bk (by omega),ao]
theorem aV.ok:aV.Ok:=by
 rintro l ⟨hl,hb⟩
 rw[aV.eq,aV.L0.run (d:=(l,l.length,0)) ⟨hl,hb,rfl,0,by omega,rfl⟩]
 simp only[ab,aV.L0.add,aV.L0.F,Int.toNat_zero,List.drop_zero,aV.add,aV.F,EG]
 cases wH pV l 0 <;> rfl
noncomputable def aV.E:=Entry.cC [some tU,none] aV.st aV.aB aV.add aV.F aV.out
noncomputable def aV.call:aV.D→Option aV.X:=bS aV.E aV.st
theorem aV.run:bM aV.call aV.aB aV.add aV.F:=dh (dd [.d tU] fun _=>by kernel_rfl)
noncomputable def aV.sg:SG Tryz.prog:=⟨133,aX,aV.E,.fn 1 (by kernel_rfl) aV.ok (And.intro (.cC aV.L0.ok (by kernel_rfl)) trivial)⟩
abbrev bO.D:=Bs
def bO.st:bO.D→SA:=fun sv=>([.d tU sv,.fn 64 (.nil)],[])
abbrev bO.Y:=Bool
abbrev bO.X:=Bool
def bO.out:bO.X→bg:=fun x=>⟨.d .bool x,[],[]⟩
def bO.add:bO.D→bO.Y→bO.X:=fun sv y=>y
def bO.aB:bO.D→Prop:=fun l=>(∀x∈l,True)∧l.length≤1000000000
def bO.F:bO.D→bO.Y:=fun l=>l.any pV
noncomputable def bO.G:dY:=fg (P:=Tryz.prog) [aV.sg]
noncomputable def bO.an:eI:= {}
noncomputable def bO.A:= @cY Tryz.prog bO.G bO.an 0 Tryz.f68 _ bO.st
abbrev bO.Ok:=cZ @bO.A bO.aB bO.add bO.F bO.out
theorem bO.eq{R:Type}(sv:Bs)(k:bg→Option R):bO.A sv k=
 al (aV.call sv) fun x1=>
 k (bO.out (oc x1 (0:Int))):=by kernel_rfl
theorem bO.ok:bO.Ok:=by
 rintro l ⟨hl,hb⟩
 rw[bO.eq,aV.run (d:=l) ⟨hl,hb⟩]
 simp only[ab,aV.add,aV.F,C2]
 rfl
noncomputable def bO.E:=Entry.cC [some tU,none] bO.st bO.aB bO.add bO.F bO.out
noncomputable def bO.call:bO.D→Option bO.X:=bS bO.E bO.st
theorem bO.run:bM bO.call bO.aB bO.add bO.F:=dh (dd [.d tU] fun _=>by kernel_rfl)
noncomputable def bO.sg:SG Tryz.prog:=⟨68,aX,bO.E,.fn 0 (by kernel_rfl) bO.ok trivial⟩
abbrev bC.L0.D:=Int×Bs×Int×Int×eT×(Int×Unit)×Int×Nat×(Int×Unit)×Bs×(List Sg)
def bC.L0.st:bC.L0.D→AS:=fun(inv_2,t52,t53,t54,n5,n10,n13,n13L,n13_2,n14,n64)=>⟨([.undef,.d ti inv_2,.undef,.undef,.undef,.ptr (.new 5 0) 0 [] 0]++bh 4 ([.ptr (.new 10 0) 0 [] 0,.undef,.undef,.ptr (.new 13 0) 0 [] 0,.ptr (.new 14 0) 0 [] 0]++bh 37 ([.d tU t52,.d ti t53,.d ti t54]++bh 21 []))),[],(bI 5 ([[.obj 0 false (.d fV n5)]]++bI 4 ([[.obj 0 false (.pr (.cV) (.pr (.cV) (.d (.pair ti .unit) n10)))],[],[],[.obj 0 false (.pr (.d ti n13) (.pr (.bJ (.new 64 0) 0 [] 0 0 n13L) (.d (.pair tu .unit) n13_2)))],[.obj 0 false (.d tH n14)]]++bI 49 ([[.obj 0 false (.vec 135 nK n64)]]++bI 11 []))))⟩
abbrev bC.L0.Y0:=oT×(List Sg)
abbrev bC.L0.X0:=(Int×eT×(Int×Unit))×(oT×(List Sg))
def bC.L0.bw:bC.L0.X0→Exit×AS:=fun x=>(.exit 0,⟨([.undef,.d ti x.1.1,.undef,.undef,.undef,.ptr (.new 5 0) 0 [] 0]++bh 4 ([.ptr (.new 10 0) 0 [] 0,.undef,.undef,.ptr (.new 13 0) 0 [] 0]++bh 62 [])),[],(bI 5 ([[.obj 0 false (.d fV x.1.2.1)]]++bI 4 ([[.obj 0 false (.pr (.cV) (.pr (.cV) (.d (.pair ti .unit) x.1.2.2)))],[],[],[.obj 0 false (.d vS x.2.1)]]++bI 50 ([[.obj 0 true (.vec 135 nK x.2.2)]]++bI 11 []))))⟩)
abbrev bC.L0.X:=bC.L0.X0
abbrev bC.L0.Y:=bC.L0.Y0
def bC.L0.out:bC.L0.X→Out (Exit×AS):=fun x=> .ok (bC.L0.bw x)
def bC.L0.add:bC.L0.D→bC.L0.Y→bC.L0.X:=fun(inv_2,t52,t53,t54,n5,n10,n13,n13L,n13_2,n14,n64) y=>((inv_2,n5,n10),y)
abbrev bC.D:=eT×Int×Int×Bs×Int
def bC.st:bC.D→SA:=fun(t,inv,branch,keys,secret)=>([.d fV t,.d ti inv,.d ti branch,.d tU keys,.d tu secret],[])
abbrev bC.Y:=eT×Int
abbrev bC.X:=eT×Int
def bC.out:bC.X→bg:=fun x=>⟨.cons (.d fV x.1) (.cons (.d ti x.2) (.nil)),[],[]⟩
def bC.add:bC.D→bC.Y→bC.X:=fun(t,inv,branch,keys,secret) y=>y
def bC.L0.aB:bC.L0.D→Prop:=fun(i0,l,n,i,t,e,br,L,sc,id,r)=>l.length≤1000∧(∀x∈l,iZ x)∧Sm id∧∃k:Nat,k≤l.length∧i=k∧n=l.length∧L=r.length∧r.length≤1000+k
def bC.L0.F:bC.L0.D→bC.L0.Y:=fun(i0,l,n,i,t,e,br,L,sc,id,r)=>((br,r++(l.drop i.toNat).map (fun k=>ij k id),sc),r++(l.drop i.toNat).map (fun k=>ij k id))
def bC.aB:bC.D→Prop:=fun(t,i,br,ks,sc)=>oE t∧(∀x∈ks,iZ x)∧ks.length≤1000000000
def bC.F:bC.D→bC.Y:=fun(t,i,br,ks,sc)=>DL t i br ks sc
noncomputable def bC.G:dY:=fg (P:=Tryz.prog) [aw.sg,fb.sg,bO.sg,tid.sg,dV.sg,ah.sg]
noncomputable def bC.L0.E:=bQ.cC bC.L0.st bC.L0.aB bC.L0.add bC.L0.F bC.L0.out
noncomputable def bC.L0.call:bC.L0.D→Option bC.L0.X:=dm bC.L0.E bC.L0.st
noncomputable def bC.an:eI:= {bK:=[5],loops:=j4 [(7,{bm:=[1,5,10,13,14,52,53,54],sites:=[5,10,13,14,64],iA:=[⟨13,[.snd,.fst],64,48⟩]})],outs:=j3 [(7,{bm:=[1,5,10,13],sites:=[5,10,13,64],uQ:=[⟨13,[.snd,.fst],(.slice nK)⟩]},{bm:=[10,11]})],fJ:=kT [(7,bC.L0.E)],res:=[some fV,none]}
noncomputable def bC.A:= @cY Tryz.prog bC.G bC.an 0 Tryz.f16 _ bC.st
abbrev bC.Ok:=cZ @bC.A bC.aB bC.add bC.F bC.out
noncomputable def bC.L0.R:= @bV Tryz.prog bC.G bC.an 0 Tryz.f16 0 _ bC.L0.st
abbrev bC.L0.Ok:=ez Tryz.prog bC.G bC.an 0 Tryz.f16 0 bC.L0.st bC.L0.aB bC.L0.add bC.L0.F bC.L0.out
theorem bC.L0.run:bM bC.L0.call bC.L0.aB bC.L0.add bC.L0.F:=eF (eD [.d ti,.d tU,.d ti,.d ti,.d fV,.d (.pair ti .unit),.d ti,.n,.d (.pair tu .unit),.d tB,.d (.slice nK)] fun _=>by kernel_rfl)
theorem bC.L0.aD:fP @bC.L0.R bC.L0.st bC.L0.aB bC.L0.add bC.L0.F bC.L0.bw bC.L0.Ok:=fR
theorem bC.L0.step{R:Type}(inv_2:Int)(t52:Bs)(t53:Int)(t54:Int)(n5:eT)(n10:(Int×Unit))(n13:Int)(n13L:Nat)(n13_2:(Int×Unit))(n14:Bs)(n64:(List Sg))(kn:AS→Option R)(kx:Exit→AS→Option R):bC.L0.R (inv_2,t52,t53,t54,n5,n10,n13,n13L,n13_2,n14,n64) kn kx=
  aK ((fZ t54 t53)) (
   aK (eH t54 (((List.length t52):Nat):Int)) (
   al (dV.call ((nth tu t52 (Int.toNat t54)),n14)) fun x4=>
   aK (decide (n13L≤(List.length n64))) (
   aK (dp (n13L+1) 16) (
   kn (bC.L0.st (inv_2,t52,t53,(bR .i64 t54 (1:Int)),n5,n10,n13,(n13L+1),n13_2,n14,((List.take n13L n64)++ [x4])))) none) none) none) (
   aK (decide (0=0∧(0+n13L)≤(List.length n64))) (
   kx (bC.L0.bw ((inv_2,n5,n10),((n13,((cut n64 0 n13L),n13_2)),n64))).1 (bC.L0.bw ((inv_2,n5,n10),((n13,((cut n64 0 n13L),n13_2)),n64))).2) none):=by kernel_rfl
theorem bC.eq{R:Type}(t:eT)(inv:Int)(branch:Int)(keys:Bs)(secret:Int)(k:bg→Option R):bC.A (t,inv,branch,keys,secret) k=
  al (aw.call t) fun x10=>
  aK ((!x10)) (
   k (bC.out ((([]:List fU),(([]:List fx),((0:Int),()))),(1:Int)))) (
   aK ((fZ inv (0:Int))) (
    k (bC.out ((([]:List fU),(([]:List fx),((0:Int),()))),(1:Int)))) (
    aK ((oc inv (((List.length t.1):Nat):Int))) (
     k (bC.out ((([]:List fU),(([]:List fx),((0:Int),()))),(1:Int)))) (
     al (fb.call (branch,(([]:List Sg),(secret,())))) fun x11=>
     aK ((!x11)) (
      k (bC.out ((([]:List fU),(([]:List fx),((0:Int),()))),(1:Int)))) (
      aK ((mJ (((List.length keys):Nat):Int) (12:Int))) (
       k (bC.out ((([]:List fU),(([]:List fx),((0:Int),()))),(1:Int)))) (
       al (bO.call keys) fun x12=>
       aK (x12) (
        k (bC.out ((([]:List fU),(([]:List fx),((0:Int),()))),(1:Int)))) (
        al (tid.call t) fun x16=>
        al (bC.L0.call (inv,keys,(((List.length keys):Nat):Int),(0:Int),t,((0:Int),()),branch,0,(secret,()),x16,([]:List Sg))) fun x26=>
        al (ah.call x26.1.2.1) fun x30=>
        aK (eH x26.1.1 ((x30.1:Nat):Int)) (
        aK (decide ((0+(Int.toNat x26.1.1)) < (List.length x30.2.2))) (
        aK (decide ((((0+(Int.toNat x26.1.1))*36)+33)=((0+((Int.toNat x26.1.1)*36))+33))) (
        aK (decide ((0+(Int.toNat x26.1.1)) < (List.length x30.2.2))) (
        aK (decide (0=0∧(0+x30.1)≤(List.length (List.set x30.2.2 (0+(Int.toNat x26.1.1)) ((nth fv x30.2.2 (0+(Int.toNat x26.1.1))).1,(x26.2.1,(nth fv x30.2.2 (0+(Int.toNat x26.1.1))).2.2)))))) (
        k (bC.out (((cut (List.set x30.2.2 (0+(Int.toNat x26.1.1)) ((nth fv x30.2.2 (0+(Int.toNat x26.1.1))).1,(x26.2.1,(nth fv x30.2.2 (0+(Int.toNat x26.1.1))).2.2))) 0 x30.1),x30.2.1),(0:Int)))) none) none) none) none) none)))))):=by kernel_rfl
theorem bC.L0.ok:bC.L0.Ok:=by
 refine bC.L0.aD (fun(i0,l,n,i,t,e,br,L,sc,id,r)=>l.length - i.toNat) ?_
 rintro⟨i0,l,n,i,t,e,br,L,sc,id,r⟩ ⟨hlen,hu,hm,k,hk,rfl,rfl,rfl,hr⟩
 have hlen:l.length≤1000:=hlen
 have hk:k≤l.length:=hk
 have hr:r.length≤1000+k:=hr
 by_cases h:k < l.length
 ·left
  have n1:nth tu l k=l[k]:=cG (t:=tu) h
  have hd:List.drop k l=l[k]::List.drop (k+1) l:=List.drop_eq_getElem_cons h
  refine⟨(i0,l,l.length,((k+1:Nat):Int),t,e,br,r.length+1,sc,id,r++ [ij l[k] id]),⟨hlen,hu,hm,k+1,by omega,rfl,rfl,by rw[List.length_append];rfl,by rw[List.length_append];show r.length+1≤_;omega⟩,by simp only[Int.toNat_natCast];omega,?_,fun kn kx=> ?_⟩
  ·simp only[bC.L0.add,bC.L0.F,Int.toNat_natCast,hd,List.map_cons,List.append_assoc,List.singleton_append]
  ·rw[bC.L0.step,bu (by omega),bz (by omega) (by omega),Int.toNat_natCast,n1,dV.run (d:=(l[k],id)) ⟨hu _ (List.getElem_mem h),hm⟩]
   simp only[ai,ab,dV.add,dV.F]
   rw[aY (Nat.le_refl _),dX (by omega) (by omega),N.kO (by omega),List.take_length]
   rfl
 ·right
  obtain rfl:k=l.length:=by omega
  intro R kn kx
  rw[bC.L0.step,bk (by omega),ao]
  simp only[bC.L0.add,bC.L0.F,Int.toNat_natCast,List.drop_length,List.map_nil,List.append_nil,Nat.zero_add,Nat.le_refl,and_self,decide_true,ai,e7]
theorem bC.ok:bC.Ok:=by
 rintro⟨⟨is,os,nt,u⟩,i,br,ks,sc⟩ ⟨hv,hu,hl⟩
 have hv:oE (is,os,nt,u):=hv
 have hl:ks.length≤1000000000:=hl
 rw[bC.eq,aw.run (d:=(is,os,nt,u)) hv.1]
 simp only[ab,aw.add,aw.F,bC.add,bC.F,DL,oA]
 rcases Bool.eq_false_or_eq_true (gv (is,os,nt,u)) with hok | hok
 rotate_left
 ·simp only[hok];rfl
 obtain⟨⟨_,a2,a3,_⟩,b1,b2⟩:=iU hok
 have a2:is.length≤64:=a2
 simp only[hok,Bool.not_true,ao,Bool.true_and]
 by_cases h1:i < 0
 ·rw[bu h1,ai,bq (by omega)];rfl
 rw[bk h1,ao]
 by_cases h2:i≥(is.length:Int)
 ·rw[gq h2,ai,bq (by omega)];rfl
 rw[eV h2,ao,fb.run (d:=(br,([],(sc,())))) trivial]
 simp only[ab,fb.add,fb.F,nL]
 by_cases h3:0≤br∧br < 4
 ·rw[aY h3]
  by_cases h4:ks.length > 12
  ·rw[dx (by omega),bq (p:=0≤i∧i < (is.length:Int)∧0≤br∧br < 4∧ks.length≤12) (by omega)];rfl
  ·rw[cW (by omega),aY (p:=0≤i∧i < (is.length:Int)∧0≤br∧br < 4∧ks.length≤12) (by omega),bO.run (d:=ks) ⟨fun _ _=>trivial,hl⟩]
   simp only[ab,bO.add,bO.F]
   rcases Bool.eq_false_or_eq_true (ks.any pV) with hb | hb
   rotate_left
   ·simp only[hb]
    obtain⟨k,rfl⟩:∃k:Nat,i=k:=⟨i.toNat,by omega⟩
    have hk:k < is.length:=by omega
    simp only[show(([]:List Sg).length≤12)=True from eq_true (Nat.zero_le _),decide_true,Bool.and_self,Bool.not_true,Bool.not_false,ao,Bool.true_and,if_true]
    rw[tid.run (d:=(is,os,nt,u)) hv]
    simp only[ab,tid.add,tid.F]
    rw[bC.L0.run (d:=((k:Int),ks,ks.length,0,(is,os,nt,u),(0,()),br,0,(sc,()),mD (is,os,nt,u),[])) ⟨by show ks.length≤_;omega,hu,Ao,0,Nat.zero_le _,rfl,rfl,rfl,Nat.zero_le _⟩]
    simp only[ab,bC.L0.add,bC.L0.F,Int.toNat_zero,List.drop_zero,List.nil_append]
    rw[ah.run (d:=(is,os,nt,u)) hok]
    simp only[ab,ah.add,ah.F,Int.toNat_natCast,Nat.zero_add,Nat.add_zero,bz (show(0:Int)≤(k:Int) by omega) (show(k:Int) < (is.length:Int) by omega),ai,aY hk,decide_true,List.length_set,Nat.le_refl,and_self]
    rw[e7 (by rw[List.length_set])]
   ·simp only[hb];rfl
 ·rw[bq h3,bq (p:=0≤i∧i < (is.length:Int)∧0≤br∧br < 4∧ks.length≤12) (by omega)];rfl
noncomputable def bC.E:=Entry.cC [some fV,some ti,some ti,some tU,some tu] bC.st bC.aB bC.add bC.F bC.out
noncomputable def bC.call:bC.D→Option bC.X:=bS bC.E bC.st
theorem bC.run:bM bC.call bC.aB bC.add bC.F:=dh (dd [.d fV,.d ti,.d ti,.d tU,.d tu] fun _=>by kernel_rfl)
noncomputable def bC.sg:SG Tryz.prog:=⟨16,aX,bC.E,.fn 1 (by kernel_rfl) bC.ok (And.intro (.cC bC.L0.ok (by kernel_rfl)) trivial)⟩
set_option synthInstance.maxSize 5000
abbrev bX.L0.D:=Bs×Bs×Int×Int
def bX.L0.st:bX.L0.D→AS:=fun(s1_2,s2_2,t12,t13)=>⟨([.d tB s1_2,.d tB s2_2]++bh 10 ([.d ti t12,.d ti t13]++bh 12 [])),[],(List.replicate 26 [])⟩
abbrev bX.L0.Y0:=Unit
abbrev bX.L0.X0:=Unit
def bX.L0.bw:bX.L0.X0→Exit×AS:=fun x=>(.ret,⟨(bh 4 ([.d .bool false]++bh 21 [])),[],(List.replicate 26 [])⟩)
abbrev bX.L0.Y1:=Unit
abbrev bX.L0.X1:=Unit
def bX.L0.fq:bX.L0.X1→Exit×AS:=fun x=>(.exit 0,⟨(bh 26 []),[],(List.replicate 26 [])⟩)
abbrev bX.L0.X:=(bX.L0.X0)⊕(bX.L0.X1)
abbrev bX.L0.Y:=(bX.L0.Y0)⊕(bX.L0.Y1)
def bX.L0.out:bX.L0.X→Out (Exit×AS):=fun x=> .br x.isLeft (.get x.getLeft? fun a=> .ok (bX.L0.bw a)) (.get x.getRight? fun b=> .ok (bX.L0.fq b))
def bX.L0.add:bX.L0.D→bX.L0.Y→bX.L0.X:=fun(s1_2,s2_2,t12,t13) y=>match y with | .inl y=> .inl y | .inr z=> .inr (z)
abbrev bX.D:=Bs×Bs
def bX.st:bX.D→SA:=fun(s1,s2)=>([.d tB s1,.d tB s2],[])
abbrev bX.Y:=Bool
abbrev bX.X:=Bool
def bX.out:bX.X→bg:=fun x=>⟨.d .bool x,[],[]⟩
def bX.add:bX.D→bX.Y→bX.X:=fun(s1,s2) y=>y
def bX.L0.aB:bX.L0.D→Prop:=fun(a,b,m,i)=>a.length≤1000000000∧a.length=b.length∧m=a.length∧∃k:Nat,k≤a.length∧i=k
def bX.L0.F:bX.L0.D→bX.L0.Y:=fun(a,b,m,i)=>if a.drop i.toNat=b.drop i.toNat then .inr () else .inl ()
def bX.aB:bX.D→Prop:=fun(a,b)=>a.length≤1000000000
def bX.F:bX.D→bX.Y:=fun(a,b)=>decide (a=b)
noncomputable def bX.G:dY:=fg (P:=Tryz.prog) []
noncomputable def bX.L0.E:=bQ.cC bX.L0.st bX.L0.aB bX.L0.add bX.L0.F bX.L0.out
noncomputable def bX.L0.call:bX.L0.D→Option bX.L0.X:=dm bX.L0.E bX.L0.st
noncomputable def bX.an:eI:= {loops:=j4 [(4,{bm:=[0,1,12,13]})],outs:=j3 [(4,{},{bm:=[4]})],fJ:=kT [(4,bX.L0.E)]}
noncomputable def bX.A:= @cY Tryz.prog bX.G bX.an 0 Tryz.f241 _ bX.st
abbrev bX.Ok:=cZ @bX.A bX.aB bX.add bX.F bX.out
noncomputable def bX.L0.R:= @bV Tryz.prog bX.G bX.an 0 Tryz.f241 0 _ bX.L0.st
abbrev bX.L0.Ok:=ez Tryz.prog bX.G bX.an 0 Tryz.f241 0 bX.L0.st bX.L0.aB bX.L0.add bX.L0.F bX.L0.out
theorem bX.L0.run:bM bX.L0.call bX.L0.aB bX.L0.add bX.L0.F:=eF (eD [.d tB,.d tB,.d ti,.d ti] fun _=>by kernel_rfl)
theorem bX.L0.aD:kP @bX.L0.R bX.L0.st bX.L0.aB bX.L0.add bX.L0.F bX.L0.out bX.L0.Ok:=lp
theorem bX.L0.step{R:Type}(s1_2:Bs)(s2_2:Bs)(t12:Int)(t13:Int)(kn:AS→Option R)(kx:Exit→AS→Option R):bX.L0.R (s1_2,s2_2,t12,t13) kn kx=
  aK ((fZ t13 t12)) (
   aK (eH t13 (((List.length s1_2):Nat):Int)) (
   aK (eH t13 (((List.length s2_2):Nat):Int)) (
   aK ((mZ (nth tb s1_2 (Int.toNat t13)) (nth tb s2_2 (Int.toNat t13)))) (
    kx (bX.L0.bw ()).1 (bX.L0.bw ()).2) (
    kn (bX.L0.st (s1_2,s2_2,t12,(bR .i64 t13 (1:Int)))))) none) none) (
   kx (bX.L0.fq ()).1 (bX.L0.fq ()).2):=by kernel_rfl
theorem bX.eq{R:Type}(s1:Bs)(s2:Bs)(k:bg→Option R):bX.A (s1,s2) k=
  aK ((mZ (((List.length s1):Nat):Int) (((List.length s2):Nat):Int))) (
   k (bX.out false)) (
   al (bX.L0.call (s1,s2,(((List.length s1):Nat):Int),(0:Int))) fun x1=>
   aK (x1.isLeft) (
    al (x1.getLeft?) fun a2=>
    k (bX.out false)) (
    al (x1.getRight?) fun b3=>
    k (bX.out true))):=by kernel_rfl
theorem bX.L0.ok:bX.L0.Ok:=by
 refine bX.L0.aD (fun(a,b,m,i)=>a.length - i.toNat) ?_
 rintro⟨a,b,m,i⟩ ⟨hl,hab,rfl,k,hk,rfl⟩
 have hl:a.length≤1000000000:=hl
 have hab:a.length=b.length:=hab
 have hk:k≤a.length:=hk
 by_cases h:k < a.length
 ·have h2:k < b.length:=by omega
  have n1:nth (.int .u8) a k=a[k]:=cG (t:=(.int .u8)) h
  have n2:nth (.int .u8) b k=b[k]:=cG (t:=(.int .u8)) h2
  have hd:(a.drop k=b.drop k)=(a[k]=b[k]∧a.drop (k+1)=b.drop (k+1)):=by rw[List.drop_eq_getElem_cons h,List.drop_eq_getElem_cons h2,List.cons.injEq]
  have step:∀ {R:Type} (kn:AS→Option R) (kx:Exit→AS→Option R),bX.L0.R (a,b,(a.length:Int),(k:Int)) kn kx=if a[k]=b[k] then kn (bX.L0.st (a,b,(a.length:Int),((k+1:Nat):Int))) else kx (bX.L0.bw ()).1 (bX.L0.bw ()).2:=by
   intro R kn kx
   rw[bX.L0.step,bu (by omega),bz (by omega) (by omega),bz (by omega) (by omega),Int.toNat_natCast,n1,n2,N.kO (by omega)]
   simp only[ai]
   by_cases hx:a[k]=b[k]
   ·rw[cg hx,if_pos hx];rfl
   ·rw[dR hx,if_neg hx];rfl
  by_cases hx:a[k]=b[k]
  ·left
   refine⟨(a,b,(a.length:Int),((k+1:Nat):Int)),⟨hl,hab,rfl,k+1,by omega,rfl⟩,by simp only[Int.toNat_natCast];omega,?_,fun kn kx=> ?_⟩
   ·simp only[bX.L0.add,bX.L0.F,Int.toNat_natCast,hd,hx,true_and]
   ·rw[step,if_pos hx]
  ·right
   refine⟨bX.L0.bw (),?_,fun kn kx=> ?_⟩
   ·simp only[bX.L0.add,bX.L0.F,Int.toNat_natCast,hd,hx,false_and,if_false]
    rfl
   ·rw[step,if_neg hx]
 ·right
  obtain rfl:k=a.length:=by omega
  refine⟨bX.L0.fq (),?_,fun kn kx=> ?_⟩
  ·simp only[bX.L0.add,bX.L0.F,Int.toNat_natCast,List.drop_length]
   rw[hab,List.drop_length,if_pos rfl]
   rfl
  ·rw[bX.L0.step,bk (by omega),ao]
theorem bX.ok:bX.Ok:=by
 rintro⟨a,b⟩ hl
 have hl:a.length≤1000000000:=hl
 rw[bX.eq]
 simp only[bX.add,bX.F]
 by_cases h:a.length=b.length
 ·rw[cg (by omega),ao,bX.L0.run (d:=(a,b,(a.length:Int),0)) ⟨hl,h,rfl,0,Nat.zero_le _,rfl⟩]
  simp only[ab,bX.L0.add,bX.L0.F,Int.toNat_zero,List.drop_zero]
  by_cases hx:a=b
  ·rw[if_pos hx,aY hx];rfl
  ·rw[if_neg hx,bq hx];rfl
 ·rw[dR (by omega),bq (fun x=>h (by rw[x]))];rfl
noncomputable def bX.E:=Entry.cC [some tB,some tB] bX.st bX.aB bX.add bX.F bX.out
noncomputable def bX.call:bX.D→Option bX.X:=bS bX.E bX.st
theorem bX.run:bM bX.call bX.aB bX.add bX.F:=dh (dd [.d tB,.d tB] fun _=>by kernel_rfl)
noncomputable def bX.sg:SG Tryz.prog:=⟨241,aX,bX.E,.fn 1 (by kernel_rfl) bX.ok (And.intro (.cC bX.L0.ok (by kernel_rfl)) trivial)⟩
set_option synthInstance.maxSize 5000
theorem qk{α:Type}{f:α→α→Bool}(hf:∀x,f x x=true):∀l:List α,gH f l l=true
 |[]=>rfl
 |x::l=>by rw[oe,hf,qk hf l];rfl
theorem pX:∀(t:Ty) (x:t.den),t.comp=true→t.beq x x=true
 | .int _,x,_=>by simp[Ty.beq]
 | .bool,x,_=>by simp[Ty.beq]
 | .str,x,_=>by simp[Ty.beq]
 | .unit,_,_=>rfl
 | .pair a b,x,h=>by
  simp only[Ty.comp,Bool.and_eq_true]at h
  simp only[Ty.beq,pX a x.1 h.1,pX b x.2 h.2,Bool.and_self]
 | .arr _ t,l,h=>qk (fun x=>pX t x h) l
 | .slice _,_,h=>by cases h
 | .fp _,_,h=>by cases h
theorem Ay(t:Ty)(hc:t.comp=true)(x y:t.den) [Decidable (x=y)]:t.beq x y=decide (x=y):=by
 by_cases h:x=y
 ·subst h;rw[aY rfl,pX t x hc]
 ·rw[bq h]
  cases hb:t.beq x y
  ·rfl
  ·exact absurd (beq_eq t x y hc hb) h
theorem FO(x y:Sg):Ty.beq nK x y=decide (x=y):= @Ay nK rfl x y (inferInstanceAs (Decidable (x=y)))
theorem FN(x y:db):Ty.beq cJ x y=decide (x=y):= @Ay cJ rfl x y (inferInstanceAs (Decidable (x=y)))
set_option synthInstance.maxSize 5000
def lD(x:fU):Bool:=decide (x.2.1.2.1.length≤14)
def lC(b:iw):Bool:=decide (b.1.length≤14)
def jT(o:fx):Bool:=decide (o.2.1.1.length≤6) && o.2.1.1.all lC
def DQ(t:eT):Bool:=decide (t.1.length≤66∧t.2.1.length≤66) && (t.1.all lD && t.2.1.all jT)
abbrev aa.L0.D:=eT×Int
def aa.L0.st:aa.L0.D→AS:=fun(t_2,i)=>⟨([.undef,.eC fV t_2,.undef,.d ti i]++bh 69 []),[],(List.replicate 73 [])⟩
abbrev aa.L0.Y0:=Unit
abbrev aa.L0.X0:=Unit
def aa.L0.bw:aa.L0.X0→Exit×AS:=fun x=>(.ret,⟨([.undef,.undef,.d .bool false]++bh 70 []),[],(List.replicate 73 [])⟩)
abbrev aa.L0.Y1:=Unit
abbrev aa.L0.X1:=eT
def aa.L0.fq:aa.L0.X1→Exit×AS:=fun x=>(.exit 0,⟨([.undef,.eC fV x]++bh 71 []),[],(List.replicate 73 [])⟩)
abbrev aa.L0.X:=(aa.L0.X0)⊕(aa.L0.X1)
abbrev aa.L0.Y:=(aa.L0.Y0)⊕(aa.L0.Y1)
def aa.L0.out:aa.L0.X→Out (Exit×AS):=fun x=> .br x.isLeft (.get x.getLeft? fun a=> .ok (aa.L0.bw a)) (.get x.getRight? fun b=> .ok (aa.L0.fq b))
def aa.L0.add:aa.L0.D→aa.L0.Y→aa.L0.X:=fun(t_2,i) y=>match y with | .inl y=> .inl y | .inr z=> .inr (t_2)
abbrev aa.L1.D:=eT×Int
def aa.L1.st:aa.L1.D→AS:=fun(t_3,i_2)=>⟨([.undef,.eC fV t_3,.undef,.undef,.d ti i_2]++bh 68 []),[],(List.replicate 73 [])⟩
abbrev aa.L1.Y0:=Unit
abbrev aa.L1.X0:=Unit
def aa.L1.bw:aa.L1.X0→Exit×AS:=fun x=>(.ret,⟨([.undef,.undef,.d .bool false]++bh 70 []),[],(List.replicate 73 [])⟩)
abbrev aa.L1.Y1:=Unit
abbrev aa.L1.X1:=Unit
def aa.L1.fq:aa.L1.X1→Exit×AS:=fun x=>(.exit 2,⟨(bh 73 []),[],(List.replicate 73 [])⟩)
abbrev aa.L1.X:=(aa.L1.X0)⊕(aa.L1.X1)
abbrev aa.L1.Y:=(aa.L1.Y0)⊕(aa.L1.Y1)
def aa.L1.out:aa.L1.X→Out (Exit×AS):=fun x=> .br x.isLeft (.get x.getLeft? fun a=> .ok (aa.L1.bw a)) (.get x.getRight? fun b=> .ok (aa.L1.fq b))
def aa.L1.add:aa.L1.D→aa.L1.Y→aa.L1.X:=fun(t_3,i_2) y=>match y with | .inl y=> .inl y | .inr z=> .inr (z)
abbrev aa.L2.D:=eT×Int×Int
def aa.L2.st:aa.L2.D→AS:=fun(t_4,i_3,kv)=>⟨([.undef,.eC fV t_4,.undef,.undef,.d ti i_3,.d ti kv]++bh 67 []),[],(List.replicate 73 [])⟩
abbrev aa.L2.Y0:=Unit
abbrev aa.L2.X0:=Unit
def aa.L2.bw:aa.L2.X0→Exit×AS:=fun x=>(.ret,⟨([.undef,.undef,.d .bool false]++bh 70 []),[],(List.replicate 73 [])⟩)
abbrev aa.L2.Y1:=Unit
abbrev aa.L2.X1:=eT×Int
def aa.L2.fq:aa.L2.X1→Exit×AS:=fun x=>(.exit 4,⟨([.undef,.eC fV x.1,.undef,.undef,.d ti x.2]++bh 68 []),[],(List.replicate 73 [])⟩)
abbrev aa.L2.X:=(aa.L2.X0)⊕(aa.L2.X1)
abbrev aa.L2.Y:=(aa.L2.Y0)⊕(aa.L2.Y1)
def aa.L2.out:aa.L2.X→Out (Exit×AS):=fun x=> .br x.isLeft (.get x.getLeft? fun a=> .ok (aa.L2.bw a)) (.get x.getRight? fun b=> .ok (aa.L2.fq b))
def aa.L2.add:aa.L2.D→aa.L2.Y→aa.L2.X:=fun(t_4,i_3,kv) y=>match y with | .inl y=> .inl y | .inr z=> .inr ((t_4,i_3))
abbrev aa.D:=eT
def aa.st:aa.D→SA:=fun t=>([.d fV t],[])
abbrev aa.Y:=Bool
abbrev aa.X:=Bool
def aa.out:aa.X→bg:=fun x=>⟨.d .bool x,[],[]⟩
def aa.add:aa.D→aa.Y→aa.X:=fun t y=>y
def aa.L0.aB:aa.L0.D→Prop:=fun(t,i)=>t.1.length≤1000000000∧∃k:Nat,k≤t.1.length∧i=k
def aa.L0.F:aa.L0.D→aa.L0.Y:=fun(t,i)=>if(List.drop (Int.toNat i) t.1).all lD then .inr () else .inl ()
def aa.L2.aB:aa.L2.D→Prop:=fun(t,j,i)=>(nth eP t.2.1 (Int.toNat j)).2.1.1.length≤1000000000∧∃k:Nat,k≤(nth eP t.2.1 (Int.toNat j)).2.1.1.length∧i=k∧(0≤j∧j < (t.2.1.length:Int))
def aa.L2.F:aa.L2.D→aa.L2.Y:=fun(t,j,i)=>if(List.drop (Int.toNat i) (nth eP t.2.1 (Int.toNat j)).2.1.1).all lC then .inr () else .inl ()
def aa.L1.aB:aa.L1.D→Prop:=fun(t,i)=>t.2.1.length≤1000000000∧∃k:Nat,k≤t.2.1.length∧i=k
def aa.L1.F:aa.L1.D→aa.L1.Y:=fun(t,i)=>if(List.drop (Int.toNat i) t.2.1).all jT then .inr () else .inl ()
def aa.aB:aa.D→Prop:=fun _=>True
def aa.F:aa.D→aa.Y:=fun t=>DQ t
noncomputable def aa.G:dY:=fg (P:=Tryz.prog) []
noncomputable def aa.L0.E:=bQ.cC aa.L0.st aa.L0.aB aa.L0.add aa.L0.F aa.L0.out
noncomputable def aa.L0.call:aa.L0.D→Option aa.L0.X:=dm aa.L0.E aa.L0.st
noncomputable def aa.L1.E:=bQ.cC aa.L1.st aa.L1.aB aa.L1.add aa.L1.F aa.L1.out
noncomputable def aa.L1.call:aa.L1.D→Option aa.L1.X:=dm aa.L1.E aa.L1.st
noncomputable def aa.L2.E:=bQ.cC aa.L2.st aa.L2.aB aa.L2.add aa.L2.F aa.L2.out
noncomputable def aa.L2.call:aa.L2.D→Option aa.L2.X:=dm aa.L2.E aa.L2.st
noncomputable def aa.an:eI:= {loops:=j4 [(4,{bm:=[1,3]}),(9,{bm:=[1,4]}),(14,{bm:=[1,4,5]})],outs:=j3 [(4,{bm:=[1]},{bm:=[2]}),(9,{},{bm:=[2]}),(14,{bm:=[1,4]},{bm:=[2]})],fJ:=kT [(4,aa.L0.E),(9,aa.L1.E),(14,aa.L2.E)]}
noncomputable def aa.A:= @cY Tryz.prog aa.G aa.an 0 Tryz.f49 _ aa.st
abbrev aa.Ok:=cZ @aa.A aa.aB aa.add aa.F aa.out
noncomputable def aa.L0.R:= @bV Tryz.prog aa.G aa.an 0 Tryz.f49 0 _ aa.L0.st
abbrev aa.L0.Ok:=ez Tryz.prog aa.G aa.an 0 Tryz.f49 0 aa.L0.st aa.L0.aB aa.L0.add aa.L0.F aa.L0.out
noncomputable def aa.L1.R:= @bV Tryz.prog aa.G aa.an 0 Tryz.f49 1 _ aa.L1.st
abbrev aa.L1.Ok:=ez Tryz.prog aa.G aa.an 0 Tryz.f49 1 aa.L1.st aa.L1.aB aa.L1.add aa.L1.F aa.L1.out
noncomputable def aa.L2.R:= @bV Tryz.prog aa.G aa.an 0 Tryz.f49 2 _ aa.L2.st
abbrev aa.L2.Ok:=ez Tryz.prog aa.G aa.an 0 Tryz.f49 2 aa.L2.st aa.L2.aB aa.L2.add aa.L2.F aa.L2.out
theorem aa.L0.run:bM aa.L0.call aa.L0.aB aa.L0.add aa.L0.F:=eF (eD [.d fV,.d ti] fun _=>by kernel_rfl)
theorem aa.L0.aD:kP @aa.L0.R aa.L0.st aa.L0.aB aa.L0.add aa.L0.F aa.L0.out aa.L0.Ok:=lp
theorem aa.L0.step{R:Type}(t_2:eT)(i:Int)(kn:AS→Option R)(kx:Exit→AS→Option R):aa.L0.R (t_2,i) kn kx=
  aK ((fZ i (((List.length t_2.1):Nat):Int))) (
   aK (eH i (((List.length t_2.1):Nat):Int)) (
   aK ((mJ (((List.length (nth fv t_2.1 (Int.toNat i)).2.1.2.1):Nat):Int) (14:Int))) (
    kx (aa.L0.bw ()).1 (aa.L0.bw ()).2) (
    kn (aa.L0.st (t_2,(bR .i64 i (1:Int)))))) none) (
   kx (aa.L0.fq t_2).1 (aa.L0.fq t_2).2):=by kernel_rfl
theorem aa.L1.run:bM aa.L1.call aa.L1.aB aa.L1.add aa.L1.F:=eF (eD [.d fV,.d ti] fun _=>by kernel_rfl)
theorem aa.L1.aD:kP @aa.L1.R aa.L1.st aa.L1.aB aa.L1.add aa.L1.F aa.L1.out aa.L1.Ok:=lp
theorem aa.L1.step{R:Type}(t_3:eT)(i_2:Int)(kn:AS→Option R)(kx:Exit→AS→Option R):aa.L1.R (t_3,i_2) kn kx=
  aK ((fZ i_2 (((List.length t_3.2.1):Nat):Int))) (
   aK (eH i_2 (((List.length t_3.2.1):Nat):Int)) (
   aK ((mJ (((List.length (nth eP t_3.2.1 (Int.toNat i_2)).2.1.1):Nat):Int) (6:Int))) (
    kx (aa.L1.bw ()).1 (aa.L1.bw ()).2) (
    al (aa.L2.call (t_3,i_2,(0:Int))) fun x1=>
    aK (x1.isLeft) (
     al (x1.getLeft?) fun a2=>
     kx (aa.L1.bw ()).1 (aa.L1.bw ()).2) (
     al (x1.getRight?) fun b3=>
     kn (aa.L1.st (b3.1,(bR .i64 b3.2 (1:Int))))))) none) (
   kx (aa.L1.fq ()).1 (aa.L1.fq ()).2):=by kernel_rfl
theorem aa.L2.run:bM aa.L2.call aa.L2.aB aa.L2.add aa.L2.F:=eF (eD [.d fV,.d ti,.d ti] fun _=>by kernel_rfl)
theorem aa.L2.aD:kP @aa.L2.R aa.L2.st aa.L2.aB aa.L2.add aa.L2.F aa.L2.out aa.L2.Ok:=lp
theorem aa.L2.step{R:Type}(t_4:eT)(i_3:Int)(kv:Int)(kn:AS→Option R)(kx:Exit→AS→Option R):aa.L2.R (t_4,i_3,kv) kn kx=
  aK (eH i_3 (((List.length t_4.2.1):Nat):Int)) (
  aK ((fZ kv (((List.length (nth eP t_4.2.1 (Int.toNat i_3)).2.1.1):Nat):Int))) (
   aK (eH i_3 (((List.length t_4.2.1):Nat):Int)) (
   aK (eH kv (((List.length (nth eP t_4.2.1 (Int.toNat i_3)).2.1.1):Nat):Int)) (
   aK ((mJ (((List.length (nth gA (nth eP t_4.2.1 (Int.toNat i_3)).2.1.1 (Int.toNat kv)).1):Nat):Int) (14:Int))) (
    kx (aa.L2.bw ()).1 (aa.L2.bw ()).2) (
    kn (aa.L2.st (t_4,i_3,(bR .i64 kv (1:Int)))))) none) none) (
   kx (aa.L2.fq (t_4,i_3)).1 (aa.L2.fq (t_4,i_3)).2)) none:=by kernel_rfl
theorem aa.eq{R:Type}(t:eT)(k:bg→Option R):aa.A t k=
  aK ((mJ (((List.length t.1):Nat):Int) (66:Int))) (
   k (aa.out false)) (
   aK ((mJ (((List.length t.2.1):Nat):Int) (66:Int))) (
    k (aa.out false)) (
    al (aa.L0.call (t,(0:Int))) fun x1=>
    aK (x1.isLeft) (
     al (x1.getLeft?) fun a2=>
     k (aa.out false)) (
     al (x1.getRight?) fun b3=>
     al (aa.L1.call (b3,(0:Int))) fun x7=>
     aK (x7.isLeft) (
      al (x7.getLeft?) fun a8=>
      k (aa.out false)) (
      al (x7.getRight?) fun b9=>
      k (aa.out true))))):=by kernel_rfl
theorem aa.L0.ok:aa.L0.Ok:=by
 refine aa.L0.aD (fun(t,i)=>t.1.length - Int.toNat i) ?_
 rintro⟨t,i⟩ ⟨hlen,k,hk,rfl⟩
 have hlen:t.1.length≤1000000000:=hlen
 have hk:k≤t.1.length:=hk
 by_cases h:k < t.1.length
 ·have n1:nth fv t.1 k=t.1[k]:=cG (t:=fv) h
  have hd:(List.drop k t.1).all lD=(lD t.1[k] && (List.drop (k+1) t.1).all lD):=by rw[List.drop_eq_getElem_cons h,List.all_cons]
  have step:∀ {R:Type} (kn:AS→Option R) (kx:Exit→AS→Option R),aa.L0.R (t,(k:Int)) kn kx=aK (lD t.1[k]) (kn (aa.L0.st (t,((k+1:Nat):Int)))) (kx (aa.L0.bw ()).1 (aa.L0.bw ()).2):=by
   intro R kn kx
   rw[aa.L0.step,bu (by omega),bz (show(0:Int)≤(k:Int) by omega) (by omega),Int.toNat_natCast,n1]
   simp only[ai]
   rw[N.kO (by omega)]
   unfold lD
   by_cases hs:t.1[k].2.1.2.1.length≤14
   ·rw[cW (by omega),aY hs];rfl
   ·rw[dx (by omega),bq hs];rfl
  cases hp:lD t.1[k]
  ·right
   refine⟨aa.L0.bw (),?_,fun kn kx=> ?_⟩
   ·simp only[aa.L0.add,aa.L0.F,Int.toNat_natCast,hd,hp,Bool.false_and,Bool.false_eq_true,if_false]
    rfl
   ·rw[step,hp,ao]
  ·left
   refine⟨(t,((k+1:Nat):Int)),⟨hlen,k+1,by omega,rfl⟩,by simp only[Int.toNat_natCast];omega,?_,fun kn kx=> ?_⟩
   ·simp only[aa.L0.add,aa.L0.F,Int.toNat_natCast,hd,hp,Bool.true_and]
   ·rw[step,hp,ai]
 ·right
  obtain rfl:k=t.1.length:=by omega
  refine⟨aa.L0.fq t,?_,fun kn kx=> ?_⟩
  ·simp only[aa.L0.add,aa.L0.F,Int.toNat_natCast,List.drop_length]
   rfl
  ·rw[aa.L0.step,bk (by omega),ao]
theorem aa.L2.ok:aa.L2.Ok:=by
 refine aa.L2.aD (fun(t,j,i)=>(nth eP t.2.1 (Int.toNat j)).2.1.1.length - Int.toNat i) ?_
 rintro⟨t,j,i⟩ ⟨hlen,k,hk,rfl,hj⟩
 have hlen:(nth eP t.2.1 (Int.toNat j)).2.1.1.length≤1000000000:=hlen
 have hk:k≤(nth eP t.2.1 (Int.toNat j)).2.1.1.length:=hk
 have hj:0≤j∧j < (t.2.1.length:Int):=hj
 by_cases h:k < (nth eP t.2.1 (Int.toNat j)).2.1.1.length
 ·have n1:nth gA (nth eP t.2.1 (Int.toNat j)).2.1.1 k=(nth eP t.2.1 (Int.toNat j)).2.1.1[k]:=cG (t:=gA) h
  have hd:(List.drop k (nth eP t.2.1 (Int.toNat j)).2.1.1).all lC=(lC (nth eP t.2.1 (Int.toNat j)).2.1.1[k] && (List.drop (k+1) (nth eP t.2.1 (Int.toNat j)).2.1.1).all lC):=by rw[List.drop_eq_getElem_cons h,List.all_cons]
  have step:∀ {R:Type} (kn:AS→Option R) (kx:Exit→AS→Option R),aa.L2.R (t,j,(k:Int)) kn kx=aK (lC (nth eP t.2.1 (Int.toNat j)).2.1.1[k]) (kn (aa.L2.st (t,j,((k+1:Nat):Int)))) (kx (aa.L2.bw ()).1 (aa.L2.bw ()).2):=by
   intro R kn kx
   rw[aa.L2.step,bz hj.1 hj.2,ai,bu (by omega),bz (show(0:Int)≤(k:Int) by omega) (by omega),Int.toNat_natCast,n1]
   simp only[ai]
   rw[N.kO (by omega)]
   unfold lC
   by_cases hs:(nth eP t.2.1 (Int.toNat j)).2.1.1[k].1.length≤14
   ·rw[cW (by omega),aY hs];rfl
   ·rw[dx (by omega),bq hs];rfl
  cases hp:lC (nth eP t.2.1 (Int.toNat j)).2.1.1[k]
  ·right
   refine⟨aa.L2.bw (),?_,fun kn kx=> ?_⟩
   ·simp only[aa.L2.add,aa.L2.F,Int.toNat_natCast,hd,hp,Bool.false_and,Bool.false_eq_true,if_false]
    rfl
   ·rw[step,hp,ao]
  ·left
   refine⟨(t,j,((k+1:Nat):Int)),⟨hlen,k+1,by omega,rfl,hj⟩,by simp only[Int.toNat_natCast];omega,?_,fun kn kx=> ?_⟩
   ·simp only[aa.L2.add,aa.L2.F,Int.toNat_natCast,hd,hp,Bool.true_and]
   ·rw[step,hp,ai]
 ·right
  obtain rfl:k=(nth eP t.2.1 (Int.toNat j)).2.1.1.length:=by omega
  refine⟨aa.L2.fq (t,j),?_,fun kn kx=> ?_⟩
  ·simp only[aa.L2.add,aa.L2.F,Int.toNat_natCast,List.drop_length]
   rfl
  ·rw[aa.L2.step,bz hj.1 hj.2,ai,bk (by omega),ao]
theorem aa.L1.ok:aa.L1.Ok:=by
 refine aa.L1.aD (fun(t,i)=>t.2.1.length - Int.toNat i) ?_
 rintro⟨t,i⟩ ⟨hlen,k,hk,rfl⟩
 have hlen:t.2.1.length≤1000000000:=hlen
 have hk:k≤t.2.1.length:=hk
 by_cases h:k < t.2.1.length
 ·have n1:nth eP t.2.1 k=t.2.1[k]:=cG (t:=eP) h
  have hd:(List.drop k t.2.1).all jT=(jT t.2.1[k] && (List.drop (k+1) t.2.1).all jT):=by rw[List.drop_eq_getElem_cons h,List.all_cons]
  have step:∀ {R:Type} (kn:AS→Option R) (kx:Exit→AS→Option R),aa.L1.R (t,(k:Int)) kn kx=aK (jT t.2.1[k]) (kn (aa.L1.st (t,((k+1:Nat):Int)))) (kx (aa.L1.bw ()).1 (aa.L1.bw ()).2):=by
   intro R kn kx
   rw[aa.L1.step,bu (by omega),bz (show(0:Int)≤(k:Int) by omega) (by omega),Int.toNat_natCast,n1]
   simp only[ai]
   unfold jT
   by_cases hs:t.2.1[k].2.1.1.length≤6
   ·rw[cW (by omega),aY hs,ao,aa.L2.run (d:=(t,(k:Int),0)) ⟨by rw[Int.toNat_natCast,n1];show t.2.1[k].2.1.1.length≤_;omega,0,Nat.zero_le _,rfl,by show(0:Int)≤(k:Int);omega,by show(k:Int) < (t.2.1.length:Int);omega⟩]
    simp only[ab,aa.L2.add,aa.L2.F,Int.toNat_natCast,n1,Int.toNat_zero,List.drop_zero,Bool.true_and]
    cases t.2.1[k].2.1.1.all lC
    ·rfl
    ·simp only[if_true,Sum.isLeft_inr,Sum.getRight?_inr,ao,ab,ai]
     rw[N.kO (by omega)]
   ·rw[dx (by omega),bq hs];rfl
  cases hp:jT t.2.1[k]
  ·right
   refine⟨aa.L1.bw (),?_,fun kn kx=> ?_⟩
   ·simp only[aa.L1.add,aa.L1.F,Int.toNat_natCast,hd,hp,Bool.false_and,Bool.false_eq_true,if_false]
    rfl
   ·rw[step,hp,ao]
  ·left
   refine⟨(t,((k+1:Nat):Int)),⟨hlen,k+1,by omega,rfl⟩,by simp only[Int.toNat_natCast];omega,?_,fun kn kx=> ?_⟩
   ·simp only[aa.L1.add,aa.L1.F,Int.toNat_natCast,hd,hp,Bool.true_and]
   ·rw[step,hp,ai]
 ·right
  obtain rfl:k=t.2.1.length:=by omega
  refine⟨aa.L1.fq (),?_,fun kn kx=> ?_⟩
  ·simp only[aa.L1.add,aa.L1.F,Int.toNat_natCast,List.drop_length]
   rfl
  ·rw[aa.L1.step,bk (by omega),ao]
theorem aa.ok:aa.Ok:=by
 intro t _
 rw[aa.eq]
 simp only[aa.add,aa.F,DQ]
 by_cases h1:t.1.length≤66
 ·by_cases h2:t.2.1.length≤66
  ·rw[cW (by omega),cW (by omega),ao,ao,aY ⟨h1,h2⟩,aa.L0.run (d:=(t,0)) ⟨by show t.1.length≤_;omega,0,Nat.zero_le _,rfl⟩]
   simp only[ab,aa.L0.add,aa.L0.F,Int.toNat_zero,List.drop_zero,Bool.true_and]
   cases t.1.all lD
   ·rfl
   ·simp only[if_true,Sum.isLeft_inr,Sum.getRight?_inr,ao,ab,Bool.true_and]
    rw[aa.L1.run (d:=(t,0)) ⟨by show t.2.1.length≤_;omega,0,Nat.zero_le _,rfl⟩]
    simp only[ab,aa.L1.add,aa.L1.F,Int.toNat_zero,List.drop_zero]
    cases t.2.1.all jT <;> rfl
  ·rw[cW (by omega),dx (by omega),bq (fun x=>h2 x.2)];rfl
 ·rw[dx (by omega),bq (fun x=>h1 x.1)];rfl
noncomputable def aa.E:=Entry.cC [some fV] aa.st aa.aB aa.add aa.F aa.out
noncomputable def aa.call:aa.D→Option aa.X:=bS aa.E aa.st
theorem aa.run:bM aa.call aa.aB aa.add aa.F:=dh (dd [.d fV] fun _=>by kernel_rfl)
noncomputable def aa.sg:SG Tryz.prog:=⟨49,aX,aa.E,.fn 3 (by kernel_rfl) aa.ok (And.intro (.cC aa.L0.ok (by kernel_rfl)) (And.intro (.cC aa.L1.ok (by kernel_rfl)) (And.intro (.cC aa.L2.ok (by kernel_rfl)) trivial)))⟩
abbrev aT.L0.D:=oT×oT×Int
def aT.L0.st:aT.L0.D→AS:=fun(a_2,b_2,i)=>⟨([.undef,.undef,.eC vS a_2,.eC vS b_2,.undef,.d ti i]++bh 39 []),[],(List.replicate 45 [])⟩
abbrev aT.L0.Y0:=Unit
abbrev aT.L0.X0:=Unit
def aT.L0.bw:aT.L0.X0→Exit×AS:=fun x=>(.ret,⟨(bh 4 ([.d .bool false]++bh 40 [])),[],(List.replicate 45 [])⟩)
abbrev aT.L0.Y1:=Unit
abbrev aT.L0.X1:=Unit
def aT.L0.fq:aT.L0.X1→Exit×AS:=fun x=>(.exit 0,⟨(bh 45 []),[],(List.replicate 45 [])⟩)
abbrev aT.L0.X:=(aT.L0.X0)⊕(aT.L0.X1)
abbrev aT.L0.Y:=(aT.L0.Y0)⊕(aT.L0.Y1)
def aT.L0.out:aT.L0.X→Out (Exit×AS):=fun x=> .br x.isLeft (.get x.getLeft? fun a=> .ok (aT.L0.bw a)) (.get x.getRight? fun b=> .ok (aT.L0.fq b))
def aT.L0.add:aT.L0.D→aT.L0.Y→aT.L0.X:=fun(a_2,b_2,i) y=>match y with | .inl y=> .inl y | .inr z=> .inr (z)
abbrev aT.D:=oT×oT
def aT.st:aT.D→SA:=fun(a,b)=>([.d vS a,.d vS b],[])
abbrev aT.Y:=Bool
abbrev aT.X:=Bool
def aT.out:aT.X→bg:=fun x=>⟨.d .bool x,[],[]⟩
def aT.add:aT.D→aT.Y→aT.X:=fun(a,b) y=>y
def aT.L0.aB:aT.L0.D→Prop:=fun(a,b,i)=>a.2.1.length≤1000000000∧a.2.1.length=b.2.1.length∧∃k:Nat,k≤a.2.1.length∧i=k
def aT.L0.F:aT.L0.D→aT.L0.Y:=fun(a,b,i)=>if List.drop (Int.toNat i) a.2.1=List.drop (Int.toNat i) b.2.1 then .inr () else .inl ()
def aT.aB:aT.D→Prop:=fun(a,b)=>a.2.1.length≤1000000000
def aT.F:aT.D→aT.Y:=fun(a,b)=>decide (a=b)
noncomputable def aT.G:dY:=fg (P:=Tryz.prog) []
noncomputable def aT.L0.E:=bQ.cC aT.L0.st aT.L0.aB aT.L0.add aT.L0.F aT.L0.out
noncomputable def aT.L0.call:aT.L0.D→Option aT.L0.X:=dm aT.L0.E aT.L0.st
noncomputable def aT.an:eI:= {loops:=j4 [(4,{bm:=[2,3,5]})],outs:=j3 [(4,{},{bm:=[4]})],fJ:=kT [(4,aT.L0.E)]}
noncomputable def aT.A:= @cY Tryz.prog aT.G aT.an 0 Tryz.f120 _ aT.st
abbrev aT.Ok:=cZ @aT.A aT.aB aT.add aT.F aT.out
noncomputable def aT.L0.R:= @bV Tryz.prog aT.G aT.an 0 Tryz.f120 0 _ aT.L0.st
abbrev aT.L0.Ok:=ez Tryz.prog aT.G aT.an 0 Tryz.f120 0 aT.L0.st aT.L0.aB aT.L0.add aT.L0.F aT.L0.out
theorem aT.L0.run:bM aT.L0.call aT.L0.aB aT.L0.add aT.L0.F:=eF (eD [.d vS,.d vS,.d ti] fun _=>by kernel_rfl)
theorem aT.L0.aD:kP @aT.L0.R aT.L0.st aT.L0.aB aT.L0.add aT.L0.F aT.L0.out aT.L0.Ok:=lp
theorem aT.L0.step{R:Type}(a_2:oT)(b_2:oT)(i:Int)(kn:AS→Option R)(kx:Exit→AS→Option R):aT.L0.R (a_2,b_2,i) kn kx=
  aK ((fZ i (((List.length a_2.2.1):Nat):Int))) (
   aK (eH i (((List.length a_2.2.1):Nat):Int)) (
   aK (eH i (((List.length b_2.2.1):Nat):Int)) (
   aK ((!(Ty.beq nK (nth nK a_2.2.1 (Int.toNat i)) (nth nK b_2.2.1 (Int.toNat i))))) (
    kx (aT.L0.bw ()).1 (aT.L0.bw ()).2) (
    kn (aT.L0.st (a_2,b_2,(bR .i64 i (1:Int)))))) none) none) (
   kx (aT.L0.fq ()).1 (aT.L0.fq ()).2):=by kernel_rfl
theorem aT.eq{R:Type}(a:oT)(b:oT)(k:bg→Option R):aT.A (a,b) k=
  aK ((mZ a.1 b.1)) (
   k (aT.out false)) (
   aK ((mZ a.2.2.1 b.2.2.1)) (
    k (aT.out false)) (
    aK ((mZ (((List.length a.2.1):Nat):Int) (((List.length b.2.1):Nat):Int))) (
     k (aT.out false)) (
     al (aT.L0.call (a,b,(0:Int))) fun x1=>
     aK (x1.isLeft) (
      al (x1.getLeft?) fun a2=>
      k (aT.out false)) (
      al (x1.getRight?) fun b3=>
      k (aT.out true))))):=by kernel_rfl
theorem aT.L0.ok:aT.L0.Ok:=by
 refine aT.L0.aD (fun(a,b,i)=>a.2.1.length - Int.toNat i) ?_
 rintro⟨a,b,i⟩ ⟨hlen,hab,k,hk,rfl⟩
 have hlen:a.2.1.length≤1000000000:=hlen
 have hab:a.2.1.length=b.2.1.length:=hab
 have hk:k≤a.2.1.length:=hk
 by_cases h:k < a.2.1.length
 ·have h2:k < b.2.1.length:=by omega
  have n1:nth nK a.2.1 k=a.2.1[k]:=cG (t:=nK) h
  have n2:nth nK b.2.1 k=b.2.1[k]:=cG (t:=nK) h2
  have hd:(List.drop k a.2.1=List.drop k b.2.1)=(a.2.1[k]=b.2.1[k]∧List.drop (k+1) a.2.1=List.drop (k+1) b.2.1):=by rw[List.drop_eq_getElem_cons h,List.drop_eq_getElem_cons h2,List.cons.injEq]
  have step:∀ {R:Type} (kn:AS→Option R) (kx:Exit→AS→Option R),aT.L0.R (a,b,(k:Int)) kn kx=if a.2.1[k]=b.2.1[k] then kn (aT.L0.st (a,b,((k+1:Nat):Int))) else kx (aT.L0.bw ()).1 (aT.L0.bw ()).2:=by
   intro R kn kx
   rw[aT.L0.step,bu (by omega),bz (by omega) (by omega),bz (by omega) (by omega),Int.toNat_natCast,n1,n2]
   simp only[ai]
   rw[FO,N.kO (by omega)]
   by_cases hx:a.2.1[k]=b.2.1[k]
   ·rw[aY hx,if_pos hx];rfl
   ·rw[bq hx,if_neg hx];rfl
  by_cases hx:a.2.1[k]=b.2.1[k]
  ·left
   refine⟨(a,b,((k+1:Nat):Int)),⟨hlen,hab,k+1,by omega,rfl⟩,by simp only[Int.toNat_natCast];omega,?_,fun kn kx=> ?_⟩
   ·simp only[aT.L0.add,aT.L0.F,Int.toNat_natCast,hd,hx,true_and]
   ·rw[step,if_pos hx]
  ·right
   refine⟨aT.L0.bw (),?_,fun kn kx=> ?_⟩
   ·simp only[aT.L0.add,aT.L0.F,Int.toNat_natCast,hd,hx,false_and,if_false]
    rfl
   ·rw[step,if_neg hx]
 ·right
  obtain rfl:k=a.2.1.length:=by omega
  refine⟨aT.L0.fq (),?_,fun kn kx=> ?_⟩
  ·simp only[aT.L0.add,aT.L0.F,Int.toNat_natCast,List.drop_length]
   rw[hab,List.drop_length,if_pos rfl]
   rfl
  ·rw[aT.L0.step,bk (by omega),ao]
theorem aT.ok:aT.Ok:=by
 rintro⟨⟨b1,s1,c1,u1⟩,⟨b2,s2,c2,u2⟩⟩ h
 have h:s1.length≤1000000000:=h
 rw[aT.eq]
 simp only[aT.add,aT.F]
 by_cases e1:b1=b2
 ·by_cases e2:c1=c2
  ·by_cases e3:s1.length=s2.length
   ·rw[cg e1,cg e2,cg (by omega),aT.L0.run (d:=((b1,s1,c1,u1),(b2,s2,c2,u2),0)) ⟨h,e3,0,Nat.zero_le _,rfl⟩]
    simp only[ab,aT.L0.add,aT.L0.F,Int.toNat_zero,List.drop_zero,ao]
    by_cases e4:s1=s2
    ·rw[if_pos e4,aY (by rw[e1,e2,e4])];rfl
    ·rw[if_neg e4,bq (by rintro⟨⟩;exact e4 rfl)];rfl
   ·rw[cg e1,cg e2,dR (by omega),bq (by rintro⟨⟩;exact e3 rfl)];rfl
  ·rw[cg e1,dR e2,bq (by rintro⟨⟩;exact e2 rfl)];rfl
 ·rw[dR e1,bq (by rintro⟨⟩;exact e1 rfl)];rfl
noncomputable def aT.E:=Entry.cC [some vS,some vS] aT.st aT.aB aT.add aT.F aT.out
noncomputable def aT.call:aT.D→Option aT.X:=bS aT.E aT.st
theorem aT.run:bM aT.call aT.aB aT.add aT.F:=dh (dd [.d vS,.d vS] fun _=>by kernel_rfl)
noncomputable def aT.sg:SG Tryz.prog:=⟨120,aX,aT.E,.fn 1 (by kernel_rfl) aT.ok (And.intro (.cC aT.L0.ok (by kernel_rfl)) trivial)⟩
abbrev aj.L0.D:=Lk×Lk×Int
def aj.L0.st:aj.L0.D→AS:=fun(a_2,b_2,i)=>⟨([.undef,.undef,.eC oX a_2,.eC oX b_2,.undef,.d ti i]++bh 73 []),[],(List.replicate 79 [])⟩
abbrev aj.L0.Y0:=Unit
abbrev aj.L0.X0:=Unit
def aj.L0.bw:aj.L0.X0→Exit×AS:=fun x=>(.ret,⟨(bh 4 ([.d .bool false]++bh 74 [])),[],(List.replicate 79 [])⟩)
abbrev aj.L0.Y1:=Unit
abbrev aj.L0.X1:=Unit
def aj.L0.fq:aj.L0.X1→Exit×AS:=fun x=>(.exit 0,⟨(bh 79 []),[],(List.replicate 79 [])⟩)
abbrev aj.L0.X:=(aj.L0.X0)⊕(aj.L0.X1)
abbrev aj.L0.Y:=(aj.L0.Y0)⊕(aj.L0.Y1)
def aj.L0.out:aj.L0.X→Out (Exit×AS):=fun x=> .br x.isLeft (.get x.getLeft? fun a=> .ok (aj.L0.bw a)) (.get x.getRight? fun b=> .ok (aj.L0.fq b))
def aj.L0.add:aj.L0.D→aj.L0.Y→aj.L0.X:=fun(a_2,b_2,i) y=>match y with | .inl y=> .inl y | .inr z=> .inr (z)
abbrev aj.L1.D:=Lk×Lk×Int×Int×iw×iw
def aj.L1.st:aj.L1.D→AS:=fun(a_3,b_3,i_2,kv,n6,n7)=>⟨([.undef,.undef,.eC oX a_3,.eC oX b_3,.undef,.d ti i_2,.ptr (.new 6 0) 0 [] 0,.ptr (.new 7 0) 0 [] 0,.d ti kv]++bh 70 []),[],(bI 6 ([[.obj 0 false (.d gA n6)],[.obj 0 false (.d gA n7)]]++bI 71 []))⟩
abbrev aj.L1.Y0:=Unit
abbrev aj.L1.X0:=Unit
def aj.L1.bw:aj.L1.X0→Exit×AS:=fun x=>(.ret,⟨(bh 4 ([.d .bool false]++bh 74 [])),[],(List.replicate 79 [])⟩)
abbrev aj.L1.Y1:=Unit
abbrev aj.L1.X1:=Lk×Lk×Int
def aj.L1.fq:aj.L1.X1→Exit×AS:=fun x=>(.exit 2,⟨([.undef,.undef,.eC oX x.1,.eC oX x.2.1,.undef,.d ti x.2.2]++bh 73 []),[],(List.replicate 79 [])⟩)
abbrev aj.L1.X:=(aj.L1.X0)⊕(aj.L1.X1)
abbrev aj.L1.Y:=(aj.L1.Y0)⊕(aj.L1.Y1)
def aj.L1.out:aj.L1.X→Out (Exit×AS):=fun x=> .br x.isLeft (.get x.getLeft? fun a=> .ok (aj.L1.bw a)) (.get x.getRight? fun b=> .ok (aj.L1.fq b))
def aj.L1.add:aj.L1.D→aj.L1.Y→aj.L1.X:=fun(a_3,b_3,i_2,kv,n6,n7) y=>match y with | .inl y=> .inl y | .inr z=> .inr ((a_3,b_3,i_2))
abbrev aj.D:=Lk×Lk
def aj.st:aj.D→SA:=fun(a,b)=>([.d oX a,.d oX b],[])
abbrev aj.Y:=Bool
abbrev aj.X:=Bool
def aj.out:aj.X→bg:=fun x=>⟨.d .bool x,[],[]⟩
def aj.add:aj.D→aj.Y→aj.X:=fun(a,b) y=>y
def aj.L1.aB:aj.L1.D→Prop:=fun(a,b,j,i,x,y)=>x.1.length≤1000000000∧x.1.length=y.1.length∧∃k:Nat,k≤x.1.length∧i=k
def aj.L1.F:aj.L1.D→aj.L1.Y:=fun(a,b,j,i,x,y)=>if List.drop (Int.toNat i) x.1=List.drop (Int.toNat i) y.1 then .inr () else .inl ()
def aj.L0.aB:aj.L0.D→Prop:=fun(a,b,i)=>a.1.length≤1000000000∧a.1.length=b.1.length∧(∀x∈a.1,x.1.length≤1000000000)∧∃k:Nat,k≤a.1.length∧i=k
def aj.L0.F:aj.L0.D→aj.L0.Y:=fun(a,b,i)=>if List.drop (Int.toNat i) a.1=List.drop (Int.toNat i) b.1 then .inr () else .inl ()
def aj.aB:aj.D→Prop:=fun(a,b)=>a.1.length≤1000000000∧∀x∈a.1,x.1.length≤1000000000
def aj.F:aj.D→aj.Y:=fun(a,b)=>decide (a.1=b.1)
noncomputable def aj.G:dY:=fg (P:=Tryz.prog) []
noncomputable def aj.L0.E:=bQ.cC aj.L0.st aj.L0.aB aj.L0.add aj.L0.F aj.L0.out
noncomputable def aj.L0.call:aj.L0.D→Option aj.L0.X:=dm aj.L0.E aj.L0.st
noncomputable def aj.L1.E:=bQ.cC aj.L1.st aj.L1.aB aj.L1.add aj.L1.F aj.L1.out
noncomputable def aj.L1.call:aj.L1.D→Option aj.L1.X:=dm aj.L1.E aj.L1.st
noncomputable def aj.an:eI:= {loops:=j4 [(4,{bm:=[2,3,5]}),(11,{bm:=[2,3,5,6,7,8],sites:=[6,7]})],outs:=j3 [(4,{},{bm:=[4]}),(11,{bm:=[2,3,5]},{bm:=[4]})],fJ:=kT [(4,aj.L0.E),(11,aj.L1.E)]}
noncomputable def aj.A:= @cY Tryz.prog aj.G aj.an 0 Tryz.f121 _ aj.st
abbrev aj.Ok:=cZ @aj.A aj.aB aj.add aj.F aj.out
noncomputable def aj.L0.R:= @bV Tryz.prog aj.G aj.an 0 Tryz.f121 0 _ aj.L0.st
abbrev aj.L0.Ok:=ez Tryz.prog aj.G aj.an 0 Tryz.f121 0 aj.L0.st aj.L0.aB aj.L0.add aj.L0.F aj.L0.out
noncomputable def aj.L1.R:= @bV Tryz.prog aj.G aj.an 0 Tryz.f121 1 _ aj.L1.st
abbrev aj.L1.Ok:=ez Tryz.prog aj.G aj.an 0 Tryz.f121 1 aj.L1.st aj.L1.aB aj.L1.add aj.L1.F aj.L1.out
theorem aj.L0.run:bM aj.L0.call aj.L0.aB aj.L0.add aj.L0.F:=eF (eD [.d oX,.d oX,.d ti] fun _=>by kernel_rfl)
theorem aj.L0.aD:kP @aj.L0.R aj.L0.st aj.L0.aB aj.L0.add aj.L0.F aj.L0.out aj.L0.Ok:=lp
theorem aj.L0.step{R:Type}(a_2:Lk)(b_2:Lk)(i:Int)(kn:AS→Option R)(kx:Exit→AS→Option R):aj.L0.R (a_2,b_2,i) kn kx=
  aK ((fZ i (((List.length a_2.1):Nat):Int))) (
   aK (eH i (((List.length a_2.1):Nat):Int)) (
   aK (eH i (((List.length b_2.1):Nat):Int)) (
   aK ((mZ (nth gA a_2.1 (Int.toNat i)).2.1 (nth gA b_2.1 (Int.toNat i)).2.1)) (
    kx (aj.L0.bw ()).1 (aj.L0.bw ()).2) (
    aK ((mZ (nth gA a_2.1 (Int.toNat i)).2.2.1 (nth gA b_2.1 (Int.toNat i)).2.2.1)) (
     kx (aj.L0.bw ()).1 (aj.L0.bw ()).2) (
     aK ((mZ (nth gA a_2.1 (Int.toNat i)).2.2.2.1 (nth gA b_2.1 (Int.toNat i)).2.2.2.1)) (
      kx (aj.L0.bw ()).1 (aj.L0.bw ()).2) (
      aK ((mZ (((List.length (nth gA a_2.1 (Int.toNat i)).1):Nat):Int) (((List.length (nth gA b_2.1 (Int.toNat i)).1):Nat):Int))) (
       kx (aj.L0.bw ()).1 (aj.L0.bw ()).2) (
       al (aj.L1.call (a_2,b_2,i,(0:Int),(nth gA a_2.1 (Int.toNat i)),(nth gA b_2.1 (Int.toNat i)))) fun x1=>
       aK (x1.isLeft) (
        al (x1.getLeft?) fun a2=>
        kx (aj.L0.bw ()).1 (aj.L0.bw ()).2) (
        al (x1.getRight?) fun b3=>
        kn (aj.L0.st (b3.1,b3.2.1,(bR .i64 b3.2.2 (1:Int)))))))))) none) none) (
   kx (aj.L0.fq ()).1 (aj.L0.fq ()).2):=by kernel_rfl
theorem aj.L1.run:bM aj.L1.call aj.L1.aB aj.L1.add aj.L1.F:=eF (eD [.d oX,.d oX,.d ti,.d ti,.d gA,.d gA] fun _=>by kernel_rfl)
theorem aj.L1.aD:kP @aj.L1.R aj.L1.st aj.L1.aB aj.L1.add aj.L1.F aj.L1.out aj.L1.Ok:=lp
theorem aj.L1.step{R:Type}(a_3:Lk)(b_3:Lk)(i_2:Int)(kv:Int)(n6:iw)(n7:iw)(kn:AS→Option R)(kx:Exit→AS→Option R):aj.L1.R (a_3,b_3,i_2,kv,n6,n7) kn kx=
  aK ((fZ kv (((List.length n6.1):Nat):Int))) (
   aK (eH kv (((List.length n6.1):Nat):Int)) (
   aK (eH kv (((List.length n7.1):Nat):Int)) (
   aK ((mZ (nth tu n6.1 (Int.toNat kv)) (nth tu n7.1 (Int.toNat kv)))) (
    kx (aj.L1.bw ()).1 (aj.L1.bw ()).2) (
    kn (aj.L1.st (a_3,b_3,i_2,(bR .i64 kv (1:Int)),n6,n7)))) none) none) (
   kx (aj.L1.fq (a_3,b_3,i_2)).1 (aj.L1.fq (a_3,b_3,i_2)).2):=by kernel_rfl
theorem aj.eq{R:Type}(a:Lk)(b:Lk)(k:bg→Option R):aj.A (a,b) k=
  aK ((mZ (((List.length a.1):Nat):Int) (((List.length b.1):Nat):Int))) (
   k (aj.out false)) (
   al (aj.L0.call (a,b,(0:Int))) fun x4=>
   aK (x4.isLeft) (
    al (x4.getLeft?) fun a5=>
    k (aj.out false)) (
    al (x4.getRight?) fun b6=>
    k (aj.out true))):=by kernel_rfl
theorem aj.L1.ok:aj.L1.Ok:=by
 refine aj.L1.aD (fun(a,b,j,i,x,y)=>x.1.length - Int.toNat i) ?_
 rintro⟨a,b,j,i,x,y⟩ ⟨hlen,hab,k,hk,rfl⟩
 have hlen:x.1.length≤1000000000:=hlen
 have hab:x.1.length=y.1.length:=hab
 have hk:k≤x.1.length:=hk
 by_cases h:k < x.1.length
 ·have h2:k < y.1.length:=by omega
  have n1:nth tu x.1 k=x.1[k]:=cG (t:=tu) h
  have n2:nth tu y.1 k=y.1[k]:=cG (t:=tu) h2
  have hd:(List.drop k x.1=List.drop k y.1)=(x.1[k]=y.1[k]∧List.drop (k+1) x.1=List.drop (k+1) y.1):=by rw[List.drop_eq_getElem_cons h,List.drop_eq_getElem_cons h2,List.cons.injEq]
  have step:∀ {R:Type} (kn:AS→Option R) (kx:Exit→AS→Option R),aj.L1.R (a,b,j,(k:Int),x,y) kn kx=if x.1[k]=y.1[k] then kn (aj.L1.st (a,b,j,((k+1:Nat):Int),x,y)) else kx (aj.L1.bw ()).1 (aj.L1.bw ()).2:=by
   intro R kn kx
   rw[aj.L1.step,bu (by omega),bz (by omega) (by omega),bz (by omega) (by omega),Int.toNat_natCast,n1,n2]
   simp only[ai]
   rw[N.kO (by omega)]
   by_cases hx:x.1[k]=y.1[k]
   ·rw[cg hx,if_pos hx];rfl
   ·rw[dR hx,if_neg hx];rfl
  by_cases hx:x.1[k]=y.1[k]
  ·left
   refine⟨(a,b,j,((k+1:Nat):Int),x,y),⟨hlen,hab,k+1,by omega,rfl⟩,by simp only[Int.toNat_natCast];omega,?_,fun kn kx=> ?_⟩
   ·simp only[aj.L1.add,aj.L1.F,Int.toNat_natCast,hd,hx,true_and]
   ·rw[step,if_pos hx]
  ·right
   refine⟨aj.L1.bw (),?_,fun kn kx=> ?_⟩
   ·simp only[aj.L1.add,aj.L1.F,Int.toNat_natCast,hd,hx,false_and,if_false]
    rfl
   ·rw[step,if_neg hx]
 ·right
  obtain rfl:k=x.1.length:=by omega
  refine⟨aj.L1.fq (a,b,j),?_,fun kn kx=> ?_⟩
  ·simp only[aj.L1.add,aj.L1.F,Int.toNat_natCast,List.drop_length]
   rw[hab,List.drop_length,if_pos rfl]
   rfl
  ·rw[aj.L1.step,bk (by omega),ao]
theorem aj.L0.ok:aj.L0.Ok:=by
 refine aj.L0.aD (fun(a,b,i)=>a.1.length - Int.toNat i) ?_
 rintro⟨a,b,i⟩ ⟨hlen,hab,hs,k,hk,rfl⟩
 have hlen:a.1.length≤1000000000:=hlen
 have hab:a.1.length=b.1.length:=hab
 have hk:k≤a.1.length:=hk
 have hs:∀x∈a.1,x.1.length≤1000000000:=hs
 by_cases h:k < a.1.length
 ·have h2:k < b.1.length:=by omega
  have n1:nth gA a.1 k=a.1[k]:=cG (t:=gA) h
  have n2:nth gA b.1 k=b.1[k]:=cG (t:=gA) h2
  have hd:(List.drop k a.1=List.drop k b.1)=(a.1[k]=b.1[k]∧List.drop (k+1) a.1=List.drop (k+1) b.1):=by rw[List.drop_eq_getElem_cons h,List.drop_eq_getElem_cons h2,List.cons.injEq]
  have step:∀ {R:Type} (kn:AS→Option R) (kx:Exit→AS→Option R),aj.L0.R (a,b,(k:Int)) kn kx=if a.1[k]=b.1[k] then kn (aj.L0.st (a,b,((k+1:Nat):Int))) else kx (aj.L0.bw ()).1 (aj.L0.bw ()).2:=by
   intro R kn kx
   rw[aj.L0.step,bu (by omega),bz (by omega) (by omega),bz (by omega) (by omega),Int.toNat_natCast,n1,n2]
   simp only[ai]
   have hsk:=hs _ (List.getElem_mem h)
   obtain⟨⟨k1,a1,d1,s1,u1⟩,e1⟩:∃x,a.1[k]=x:=⟨_,rfl⟩
   obtain⟨⟨k2,a2,d2,s2,u2⟩,e2⟩:∃x,b.1[k]=x:=⟨_,rfl⟩
   rw[e1]at hsk ⊢
   rw[e2]
   dsimp only
   have hsk:k1.length≤1000000000:=hsk
   by_cases q2:a1=a2
   ·by_cases q3:d1=d2
    ·by_cases q4:s1=s2
     ·by_cases q1:k1.length=k2.length
      ·rw[cg q2,cg q3,cg q4,cg (by omega),aj.L1.run (d:=(a,b,(k:Int),0,(k1,a1,d1,s1,u1),(k2,a2,d2,s2,u2))) ⟨hsk,q1,0,Nat.zero_le _,rfl⟩]
       simp only[ao,ab,aj.L1.add,aj.L1.F,Int.toNat_zero,List.drop_zero]
       by_cases q5:k1=k2
       ·rw[if_pos q5,if_pos (by rw[q5,q2,q3,q4])]
        simp only[Sum.isLeft_inr,Sum.getRight?_inr,ao,ab]
        rw[N.kO (by omega)]
       ·rw[if_neg q5,if_neg (by rintro⟨⟩;exact q5 rfl)]
        rfl
      ·rw[cg q2,cg q3,cg q4,dR (by omega),if_neg (by rintro⟨⟩;exact q1 rfl)];rfl
     ·rw[cg q2,cg q3,dR q4,if_neg (by rintro⟨⟩;exact q4 rfl)];rfl
    ·rw[cg q2,dR q3,if_neg (by rintro⟨⟩;exact q3 rfl)];rfl
   ·rw[dR q2,if_neg (by rintro⟨⟩;exact q2 rfl)];rfl
  by_cases hx:a.1[k]=b.1[k]
  ·left
   refine⟨(a,b,((k+1:Nat):Int)),⟨hlen,hab,hs,k+1,by omega,rfl⟩,by simp only[Int.toNat_natCast];omega,?_,fun kn kx=> ?_⟩
   ·simp only[aj.L0.add,aj.L0.F,Int.toNat_natCast,hd,hx,true_and]
   ·rw[step,if_pos hx]
  ·right
   refine⟨aj.L0.bw (),?_,fun kn kx=> ?_⟩
   ·simp only[aj.L0.add,aj.L0.F,Int.toNat_natCast,hd,hx,false_and,if_false]
    rfl
   ·rw[step,if_neg hx]
 ·right
  obtain rfl:k=a.1.length:=by omega
  refine⟨aj.L0.fq (),?_,fun kn kx=> ?_⟩
  ·simp only[aj.L0.add,aj.L0.F,Int.toNat_natCast,List.drop_length]
   rw[hab,List.drop_length,if_pos rfl]
   rfl
  ·rw[aj.L0.step,bk (by omega),ao]
theorem aj.ok:aj.Ok:=by
 rintro⟨a,b⟩ ⟨h,hs⟩
 have h:a.1.length≤1000000000:=h
 rw[aj.eq]
 simp only[aj.add,aj.F]
 by_cases e3:a.1.length=b.1.length
 ·rw[cg (by omega),aj.L0.run (d:=(a,b,0)) ⟨h,e3,hs,0,Nat.zero_le _,rfl⟩]
  simp only[ab,aj.L0.add,aj.L0.F,Int.toNat_zero,List.drop_zero,ao]
  by_cases e4:a.1=b.1
  ·rw[if_pos e4,aY e4];rfl
  ·rw[if_neg e4,bq e4];rfl
 ·rw[dR (by omega),bq (fun x=>e3 (by rw[x]))];rfl
noncomputable def aj.E:=Entry.cC [some oX,some oX] aj.st aj.aB aj.add aj.F aj.out
noncomputable def aj.call:aj.D→Option aj.X:=bS aj.E aj.st
theorem aj.run:bM aj.call aj.aB aj.add aj.F:=dh (dd [.d oX,.d oX] fun _=>by kernel_rfl)
noncomputable def aj.sg:SG Tryz.prog:=⟨121,aX,aj.E,.fn 2 (by kernel_rfl) aj.ok (And.intro (.cC aj.L0.ok (by kernel_rfl)) (And.intro (.cC aj.L1.ok (by kernel_rfl)) trivial))⟩
abbrev aq.L0.D:=eT×eT×Int
def aq.L0.st:aq.L0.D→AS:=fun(a_2,b_2,i)=>⟨([.undef,.undef,.eC fV a_2,.eC fV b_2,.undef,.d ti i]++bh 96 []),[],(List.replicate 102 [])⟩
abbrev aq.L0.Y0:=Unit
abbrev aq.L0.X0:=Unit
def aq.L0.bw:aq.L0.X0→Exit×AS:=fun x=>(.ret,⟨(bh 4 ([.d .bool false]++bh 97 [])),[],(List.replicate 102 [])⟩)
abbrev aq.L0.Y1:=Unit
abbrev aq.L0.X1:=eT×eT
def aq.L0.fq:aq.L0.X1→Exit×AS:=fun x=>(.exit 0,⟨([.undef,.undef,.eC fV x.1,.eC fV x.2]++bh 98 []),[],(List.replicate 102 [])⟩)
abbrev aq.L0.X:=(aq.L0.X0)⊕(aq.L0.X1)
abbrev aq.L0.Y:=(aq.L0.Y0)⊕(aq.L0.Y1)
def aq.L0.out:aq.L0.X→Out (Exit×AS):=fun x=> .br x.isLeft (.get x.getLeft? fun a=> .ok (aq.L0.bw a)) (.get x.getRight? fun b=> .ok (aq.L0.fq b))
def aq.L0.add:aq.L0.D→aq.L0.Y→aq.L0.X:=fun(a_2,b_2,i) y=>match y with | .inl y=> .inl y | .inr z=> .inr ((a_2,b_2))
abbrev aq.L1.D:=eT×eT×Int
def aq.L1.st:aq.L1.D→AS:=fun(a_3,b_3,i_2)=>⟨([.undef,.undef,.eC fV a_3,.eC fV b_3,.undef,.undef,.d ti i_2]++bh 95 []),[],(List.replicate 102 [])⟩
abbrev aq.L1.Y0:=Unit
abbrev aq.L1.X0:=Unit
def aq.L1.bw:aq.L1.X0→Exit×AS:=fun x=>(.ret,⟨(bh 4 ([.d .bool false]++bh 97 [])),[],(List.replicate 102 [])⟩)
abbrev aq.L1.Y1:=Unit
abbrev aq.L1.X1:=Unit
def aq.L1.fq:aq.L1.X1→Exit×AS:=fun x=>(.exit 2,⟨(bh 102 []),[],(List.replicate 102 [])⟩)
abbrev aq.L1.X:=(aq.L1.X0)⊕(aq.L1.X1)
abbrev aq.L1.Y:=(aq.L1.Y0)⊕(aq.L1.Y1)
def aq.L1.out:aq.L1.X→Out (Exit×AS):=fun x=> .br x.isLeft (.get x.getLeft? fun a=> .ok (aq.L1.bw a)) (.get x.getRight? fun b=> .ok (aq.L1.fq b))
def aq.L1.add:aq.L1.D→aq.L1.Y→aq.L1.X:=fun(a_3,b_3,i_2) y=>match y with | .inl y=> .inl y | .inr z=> .inr (z)
abbrev aq.D:=eT×eT
def aq.st:aq.D→SA:=fun(a,b)=>([.d fV a,.d fV b],[])
abbrev aq.Y:=Bool
abbrev aq.X:=Bool
def aq.out:aq.X→bg:=fun x=>⟨.d .bool x,[],[]⟩
def aq.add:aq.D→aq.Y→aq.X:=fun(a,b) y=>y
def aq.L0.aB:aq.L0.D→Prop:=fun(a,b,i)=>a.1.length≤1000000000∧a.1.length=b.1.length∧(∀x∈a.1,x.2.1.2.1.length≤1000000000)∧∃k:Nat,k≤a.1.length∧i=k
def aq.L0.F:aq.L0.D→aq.L0.Y:=fun(a,b,i)=>if List.drop (Int.toNat i) a.1=List.drop (Int.toNat i) b.1 then .inr () else .inl ()
def aq.L1.aB:aq.L1.D→Prop:=fun(a,b,i)=>a.2.1.length≤1000000000∧a.2.1.length=b.2.1.length∧(∀x∈a.2.1,x.2.1.1.length≤1000000000∧∀b∈x.2.1.1,b.1.length≤1000000000)∧∃k:Nat,k≤a.2.1.length∧i=k
def aq.L1.F:aq.L1.D→aq.L1.Y:=fun(a,b,i)=>if List.drop (Int.toNat i) a.2.1=List.drop (Int.toNat i) b.2.1 then .inr () else .inl ()
def aq.aB:aq.D→Prop:=fun(a,b)=>Co a
def aq.F:aq.D→aq.Y:=fun(a,b)=>decide (a=b)
noncomputable def aq.G:dY:=fg (P:=Tryz.prog) [aT.sg,aj.sg]
noncomputable def aq.L0.E:=bQ.cC aq.L0.st aq.L0.aB aq.L0.add aq.L0.F aq.L0.out
noncomputable def aq.L0.call:aq.L0.D→Option aq.L0.X:=dm aq.L0.E aq.L0.st
noncomputable def aq.L1.E:=bQ.cC aq.L1.st aq.L1.aB aq.L1.add aq.L1.F aq.L1.out
noncomputable def aq.L1.call:aq.L1.D→Option aq.L1.X:=dm aq.L1.E aq.L1.st
noncomputable def aq.an:eI:= {loops:=j4 [(4,{bm:=[2,3,5]}),(9,{bm:=[2,3,6]})],outs:=j3 [(4,{bm:=[2,3]},{bm:=[4]}),(9,{},{bm:=[4]})],fJ:=kT [(4,aq.L0.E),(9,aq.L1.E)]}
noncomputable def aq.A:= @cY Tryz.prog aq.G aq.an 0 Tryz.f54 _ aq.st
abbrev aq.Ok:=cZ @aq.A aq.aB aq.add aq.F aq.out
noncomputable def aq.L0.R:= @bV Tryz.prog aq.G aq.an 0 Tryz.f54 0 _ aq.L0.st
abbrev aq.L0.Ok:=ez Tryz.prog aq.G aq.an 0 Tryz.f54 0 aq.L0.st aq.L0.aB aq.L0.add aq.L0.F aq.L0.out
noncomputable def aq.L1.R:= @bV Tryz.prog aq.G aq.an 0 Tryz.f54 1 _ aq.L1.st
abbrev aq.L1.Ok:=ez Tryz.prog aq.G aq.an 0 Tryz.f54 1 aq.L1.st aq.L1.aB aq.L1.add aq.L1.F aq.L1.out
theorem aq.L0.run:bM aq.L0.call aq.L0.aB aq.L0.add aq.L0.F:=eF (eD [.d fV,.d fV,.d ti] fun _=>by kernel_rfl)
theorem aq.L0.aD:kP @aq.L0.R aq.L0.st aq.L0.aB aq.L0.add aq.L0.F aq.L0.out aq.L0.Ok:=lp
theorem aq.L0.step{R:Type}(a_2:eT)(b_2:eT)(i:Int)(kn:AS→Option R)(kx:Exit→AS→Option R):aq.L0.R (a_2,b_2,i) kn kx=
  aK ((fZ i (((List.length a_2.1):Nat):Int))) (
   aK (eH i (((List.length a_2.1):Nat):Int)) (
   aK (eH i (((List.length b_2.1):Nat):Int)) (
   aK ((!(Ty.beq cJ (nth fv a_2.1 (Int.toNat i)).1 (nth fv b_2.1 (Int.toNat i)).1))) (
    kx (aq.L0.bw ()).1 (aq.L0.bw ()).2) (
    aK (eH i (((List.length a_2.1):Nat):Int)) (
    aK (eH i (((List.length b_2.1):Nat):Int)) (
    al (aT.call ((nth fv a_2.1 (Int.toNat i)).2.1,(nth fv b_2.1 (Int.toNat i)).2.1)) fun x1=>
    aK ((!x1)) (
     kx (aq.L0.bw ()).1 (aq.L0.bw ()).2) (
     kn (aq.L0.st (a_2,b_2,(bR .i64 i (1:Int)))))) none) none)) none) none) (
   kx (aq.L0.fq (a_2,b_2)).1 (aq.L0.fq (a_2,b_2)).2):=by kernel_rfl
theorem aq.L1.run:bM aq.L1.call aq.L1.aB aq.L1.add aq.L1.F:=eF (eD [.d fV,.d fV,.d ti] fun _=>by kernel_rfl)
theorem aq.L1.aD:kP @aq.L1.R aq.L1.st aq.L1.aB aq.L1.add aq.L1.F aq.L1.out aq.L1.Ok:=lp
theorem aq.L1.step{R:Type}(a_3:eT)(b_3:eT)(i_2:Int)(kn:AS→Option R)(kx:Exit→AS→Option R):aq.L1.R (a_3,b_3,i_2) kn kx=
  aK ((fZ i_2 (((List.length a_3.2.1):Nat):Int))) (
   aK (eH i_2 (((List.length a_3.2.1):Nat):Int)) (
   aK (eH i_2 (((List.length b_3.2.1):Nat):Int)) (
   aK ((mZ (nth eP a_3.2.1 (Int.toNat i_2)).1 (nth eP b_3.2.1 (Int.toNat i_2)).1)) (
    kx (aq.L1.bw ()).1 (aq.L1.bw ()).2) (
    aK (eH i_2 (((List.length a_3.2.1):Nat):Int)) (
    aK (eH i_2 (((List.length b_3.2.1):Nat):Int)) (
    al (aj.call ((nth eP a_3.2.1 (Int.toNat i_2)).2.1,(nth eP b_3.2.1 (Int.toNat i_2)).2.1)) fun x1=>
    aK ((!x1)) (
     kx (aq.L1.bw ()).1 (aq.L1.bw ()).2) (
     kn (aq.L1.st (a_3,b_3,(bR .i64 i_2 (1:Int)))))) none) none)) none) none) (
   kx (aq.L1.fq ()).1 (aq.L1.fq ()).2):=by kernel_rfl
theorem aq.eq{R:Type}(a:eT)(b:eT)(k:bg→Option R):aq.A (a,b) k=
  aK ((mZ a.2.2.1 b.2.2.1)) (
   k (aq.out false)) (
   aK ((mZ (((List.length a.1):Nat):Int) (((List.length b.1):Nat):Int))) (
    k (aq.out false)) (
    aK ((mZ (((List.length a.2.1):Nat):Int) (((List.length b.2.1):Nat):Int))) (
     k (aq.out false)) (
     al (aq.L0.call (a,b,(0:Int))) fun x2=>
     aK (x2.isLeft) (
      al (x2.getLeft?) fun a3=>
      k (aq.out false)) (
      al (x2.getRight?) fun b4=>
      al (aq.L1.call (b4.1,b4.2,(0:Int))) fun x6=>
      aK (x6.isLeft) (
       al (x6.getLeft?) fun a7=>
       k (aq.out false)) (
       al (x6.getRight?) fun b8=>
       k (aq.out true)))))):=by kernel_rfl
theorem aq.L0.ok:aq.L0.Ok:=by
 refine aq.L0.aD (fun(a,b,i)=>a.1.length - Int.toNat i) ?_
 rintro⟨a,b,i⟩ ⟨hlen,hab,hs,k,hk,rfl⟩
 have hlen:a.1.length≤1000000000:=hlen
 have hab:a.1.length=b.1.length:=hab
 have hk:k≤a.1.length:=hk
 have hs:∀x∈a.1,x.2.1.2.1.length≤1000000000:=hs
 by_cases h:k < a.1.length
 ·have h2:k < b.1.length:=by omega
  have n1:nth fv a.1 k=a.1[k]:=cG (t:=fv) h
  have n2:nth fv b.1 k=b.1[k]:=cG (t:=fv) h2
  have hd:(List.drop k a.1=List.drop k b.1)=(a.1[k]=b.1[k]∧List.drop (k+1) a.1=List.drop (k+1) b.1):=by rw[List.drop_eq_getElem_cons h,List.drop_eq_getElem_cons h2,List.cons.injEq]
  have step:∀ {R:Type} (kn:AS→Option R) (kx:Exit→AS→Option R),aq.L0.R (a,b,(k:Int)) kn kx=if a.1[k]=b.1[k] then kn (aq.L0.st (a,b,((k+1:Nat):Int))) else kx (aq.L0.bw ()).1 (aq.L0.bw ()).2:=by
   intro R kn kx
   rw[aq.L0.step,bu (by omega),bz (by omega) (by omega),bz (by omega) (by omega),Int.toNat_natCast,n1,n2]
   simp only[ai]
   have e:=hs _ (List.getElem_mem h)
   rw[FN,N.kO (by omega),aT.run (d:=(a.1[k].2.1,b.1[k].2.1)) e]
   simp only[ab,aT.add,aT.F]
   obtain⟨⟨f1,w1,u1⟩,e1⟩:∃x,a.1[k]=x:=⟨_,rfl⟩
   obtain⟨⟨f2,w2,u2⟩,e2⟩:∃x,b.1[k]=x:=⟨_,rfl⟩
   rw[e1,e2]
   by_cases q1:f1=f2
   ·by_cases q2:w1=w2
    ·rw[aY q1,aY q2,if_pos (by rw[q1,q2])];rfl
    ·rw[aY q1,bq q2,if_neg (by rintro⟨⟩;exact q2 rfl)];rfl
   ·rw[bq q1,if_neg (by rintro⟨⟩;exact q1 rfl)];rfl
  by_cases hx:a.1[k]=b.1[k]
  ·left
   refine⟨(a,b,((k+1:Nat):Int)),⟨hlen,hab,hs,k+1,by omega,rfl⟩,by simp only[Int.toNat_natCast];omega,?_,fun kn kx=> ?_⟩
   ·simp only[aq.L0.add,aq.L0.F,Int.toNat_natCast,hd,hx,true_and]
   ·rw[step,if_pos hx]
  ·right
   refine⟨aq.L0.bw (),?_,fun kn kx=> ?_⟩
   ·simp only[aq.L0.add,aq.L0.F,Int.toNat_natCast,hd,hx,false_and,if_false]
    rfl
   ·rw[step,if_neg hx]
 ·right
  obtain rfl:k=a.1.length:=by omega
  refine⟨aq.L0.fq (a,b),?_,fun kn kx=> ?_⟩
  ·simp only[aq.L0.add,aq.L0.F,Int.toNat_natCast,List.drop_length]
   rw[hab,List.drop_length,if_pos rfl]
   rfl
  ·rw[aq.L0.step,bk (by omega),ao]
theorem aq.L1.ok:aq.L1.Ok:=by
 refine aq.L1.aD (fun(a,b,i)=>a.2.1.length - Int.toNat i) ?_
 rintro⟨a,b,i⟩ ⟨hlen,hab,hs,k,hk,rfl⟩
 have hlen:a.2.1.length≤1000000000:=hlen
 have hab:a.2.1.length=b.2.1.length:=hab
 have hk:k≤a.2.1.length:=hk
 have hs:∀x∈a.2.1,x.2.1.1.length≤1000000000∧∀b∈x.2.1.1,b.1.length≤1000000000:=hs
 by_cases h:k < a.2.1.length
 ·have h2:k < b.2.1.length:=by omega
  have n1:nth eP a.2.1 k=a.2.1[k]:=cG (t:=eP) h
  have n2:nth eP b.2.1 k=b.2.1[k]:=cG (t:=eP) h2
  have hd:(List.drop k a.2.1=List.drop k b.2.1)=(a.2.1[k]=b.2.1[k]∧List.drop (k+1) a.2.1=List.drop (k+1) b.2.1):=by rw[List.drop_eq_getElem_cons h,List.drop_eq_getElem_cons h2,List.cons.injEq]
  have step:∀ {R:Type} (kn:AS→Option R) (kx:Exit→AS→Option R),aq.L1.R (a,b,(k:Int)) kn kx=if a.2.1[k]=b.2.1[k] then kn (aq.L1.st (a,b,((k+1:Nat):Int))) else kx (aq.L1.bw ()).1 (aq.L1.bw ()).2:=by
   intro R kn kx
   rw[aq.L1.step,bu (by omega),bz (by omega) (by omega),bz (by omega) (by omega),Int.toNat_natCast,n1,n2]
   simp only[ai]
   have e:=hs _ (List.getElem_mem h)
   rw[N.kO (by omega),aj.run (d:=(a.2.1[k].2.1,b.2.1[k].2.1)) e]
   simp only[ab,aj.add,aj.F]
   obtain⟨⟨n1,⟨l1,v1⟩,u1⟩,e1⟩:∃x,a.2.1[k]=x:=⟨_,rfl⟩
   obtain⟨⟨n2,⟨l2,v2⟩,u2⟩,e2⟩:∃x,b.2.1[k]=x:=⟨_,rfl⟩
   rw[e1,e2]
   by_cases q1:n1=n2
   ·by_cases q2:l1=l2
    ·rw[cg q1,aY q2,if_pos (by rw[q1,q2])];rfl
    ·rw[cg q1,bq q2,if_neg (by rintro⟨⟩;exact q2 rfl)];rfl
   ·rw[dR q1,if_neg (by rintro⟨⟩;exact q1 rfl)];rfl
  by_cases hx:a.2.1[k]=b.2.1[k]
  ·left
   refine⟨(a,b,((k+1:Nat):Int)),⟨hlen,hab,hs,k+1,by omega,rfl⟩,by simp only[Int.toNat_natCast];omega,?_,fun kn kx=> ?_⟩
   ·simp only[aq.L1.add,aq.L1.F,Int.toNat_natCast,hd,hx,true_and]
   ·rw[step,if_pos hx]
  ·right
   refine⟨aq.L1.bw (),?_,fun kn kx=> ?_⟩
   ·simp only[aq.L1.add,aq.L1.F,Int.toNat_natCast,hd,hx,false_and,if_false]
    rfl
   ·rw[step,if_neg hx]
 ·right
  obtain rfl:k=a.2.1.length:=by omega
  refine⟨aq.L1.fq (),?_,fun kn kx=> ?_⟩
  ·simp only[aq.L1.add,aq.L1.F,Int.toNat_natCast,List.drop_length]
   rw[hab,List.drop_length,if_pos rfl]
   rfl
  ·rw[aq.L1.step,bk (by omega),ao]
theorem aq.ok:aq.Ok:=by
 rintro⟨⟨i1,o1,n1,u1⟩,⟨i2,o2,n2,u2⟩⟩ h
 have h:Co (i1,o1,n1,u1):=h
 have hi:i1.length≤1000000000:=h.1.1
 have ho:o1.length≤1000000000:=h.2.1
 rw[aq.eq]
 simp only[aq.add,aq.F]
 by_cases e1:n1=n2
 ·by_cases e2:i1.length=i2.length
  ·by_cases e3:o1.length=o2.length
   ·rw[cg e1,cg (by omega),cg (by omega),aq.L0.run (d:=((i1,o1,n1,u1),(i2,o2,n2,u2),0)) ⟨hi,e2,h.1.2,0,Nat.zero_le _,rfl⟩]
    simp only[ab,aq.L0.add,aq.L0.F,Int.toNat_zero,List.drop_zero,ao]
    by_cases e4:i1=i2
    ·rw[if_pos e4]
     simp only[Sum.isLeft_inr,Sum.getRight?_inr,ao,ab]
     rw[aq.L1.run (d:=((i1,o1,n1,u1),(i2,o2,n2,u2),0)) ⟨ho,e3,h.2.2,0,Nat.zero_le _,rfl⟩]
     simp only[ab,aq.L1.add,aq.L1.F,Int.toNat_zero,List.drop_zero]
     by_cases e5:o1=o2
     ·rw[if_pos e5,aY (by rw[e1,e4,e5])];rfl
     ·rw[if_neg e5,bq (by rintro⟨⟩;exact e5 rfl)];rfl
    ·rw[if_neg e4,bq (by rintro⟨⟩;exact e4 rfl)];rfl
   ·rw[cg e1,cg (by omega),dR (by omega),bq (by rintro⟨⟩;exact e3 rfl)];rfl
  ·rw[cg e1,dR (by omega),bq (by rintro⟨⟩;exact e2 rfl)];rfl
 ·rw[dR e1,bq (by rintro⟨⟩;exact e1 rfl)];rfl
noncomputable def aq.E:=Entry.cC [some fV,some fV] aq.st aq.aB aq.add aq.F aq.out
noncomputable def aq.call:aq.D→Option aq.X:=bS aq.E aq.st
theorem aq.run:bM aq.call aq.aB aq.add aq.F:=dh (dd [.d fV,.d fV] fun _=>by kernel_rfl)
noncomputable def aq.sg:SG Tryz.prog:=⟨54,aX,aq.E,.fn 2 (by kernel_rfl) aq.ok (And.intro (.cC aq.L0.ok (by kernel_rfl)) (And.intro (.cC aq.L1.ok (by kernel_rfl)) trivial))⟩
set_option synthInstance.maxSize 5000
abbrev ae.L0.D:=eT×Int×(Int×Unit)×Nat×(Int×Unit)×(List fU)
def ae.L0.st:ae.L0.D→AS:=fun(t_2,i,n2,n3L,n3,n36)=>⟨([.undef,.eC fV t_2,.ptr (.new 2 0) 0 [] 0,.ptr (.new 3 0) 0 [] 0,.d ti i]++bh 89 []),[],([[],[],[.obj 0 false (.pr (.cV) (.pr (.cV) (.d (.pair ti .unit) n2)))],[.obj 0 false (.pr (.bJ (.new 36 0) 0 [] 0 0 n3L) (.pr (.cV) (.d (.pair ti .unit) n3)))]]++bI 32 ([[.obj 0 false (.vec 52 fv n36)]]++bI 57 []))⟩
abbrev ae.L0.Y0:=Nat×(List fU)
abbrev ae.L0.X0:=(eT×(Int×Unit)×(Int×Unit))×(Nat×(List fU))
def ae.L0.bw:ae.L0.X0→Exit×AS:=fun x=>(.exit 0,⟨([.undef,.eC fV x.1.1,.ptr (.new 2 0) 0 [] 0,.ptr (.new 3 0) 0 [] 0]++bh 90 []),[],([[],[],[.obj 0 false (.pr (.cV) (.pr (.cV) (.d (.pair ti .unit) x.1.2.1)))],[.obj 0 false (.pr (.bJ (.new 36 0) 0 [] 0 0 x.2.1) (.pr (.cV) (.d (.pair ti .unit) x.1.2.2)))]]++bI 32 ([[.obj 0 false (.vec 52 fv x.2.2)]]++bI 57 []))⟩)
abbrev ae.L0.X:=ae.L0.X0
abbrev ae.L0.Y:=ae.L0.Y0
def ae.L0.out:ae.L0.X→Out (Exit×AS):=fun x=> .ok (ae.L0.bw x)
def ae.L0.add:ae.L0.D→ae.L0.Y→ae.L0.X:=fun(t_2,i,n2,n3L,n3,n36) y=>((t_2,n2,n3),y)
abbrev ae.L1.D:=eT×Int×(Int×Unit)×Nat×Nat×(Int×Unit)×(List fU)×(List fx)
def ae.L1.st:ae.L1.D→AS:=fun(t_3,i_2,n2_2,n3L_2,n3L_3,n3_2,n36_2,n91)=>⟨([.undef,.eC fV t_3,.ptr (.new 2 0) 0 [] 0,.ptr (.new 3 0) 0 [] 0,.undef,.undef,.d ti i_2]++bh 87 []),[],([[],[],[.obj 0 false (.pr (.cV) (.pr (.cV) (.d (.pair ti .unit) n2_2)))],[.obj 0 false (.pr (.bJ (.new 36 0) 0 [] 0 0 n3L_2) (.pr (.bJ (.new 91 0) 0 [] 0 0 n3L_3) (.d (.pair ti .unit) n3_2)))]]++bI 32 ([[.obj 0 false (.vec 52 fv n36_2)]]++bI 54 [[.obj 0 false (.vec 36 eP n91)],[],[]]))⟩
abbrev ae.L1.Y0:=(Int×Unit)×Nat×Nat×(Int×Unit)×(List fU)×(List fx)
abbrev ae.L1.X0:=(Int×Unit)×Nat×Nat×(Int×Unit)×(List fU)×(List fx)
def ae.L1.bw:ae.L1.X0→Exit×AS:=fun x=>(.exit 2,⟨([.undef,.undef,.ptr (.new 2 0) 0 [] 0,.ptr (.new 3 0) 0 [] 0]++bh 90 []),[],([[],[],[.obj 0 false (.pr (.cV) (.pr (.cV) (.d (.pair ti .unit) x.1)))],[.obj 0 false (.pr (.bJ (.new 36 0) 0 [] 0 0 x.2.1) (.pr (.bJ (.new 91 0) 0 [] 0 0 x.2.2.1) (.d (.pair ti .unit) x.2.2.2.1)))]]++bI 32 ([[.obj 0 false (.vec 52 fv x.2.2.2.2.1)]]++bI 54 [[.obj 0 false (.vec 36 eP x.2.2.2.2.2)],[],[]]))⟩)
abbrev ae.L1.X:=ae.L1.X0
abbrev ae.L1.Y:=ae.L1.Y0
def ae.L1.out:ae.L1.X→Out (Exit×AS):=fun x=> .ok (ae.L1.bw x)
def ae.L1.add:ae.L1.D→ae.L1.Y→ae.L1.X:=fun(t_3,i_2,n2_2,n3L_2,n3L_3,n3_2,n36_2,n91) y=>y
abbrev ae.L2.D:=eT×Int×Int×(Int×Unit)×Nat×Nat×(Int×Unit)×Int×Nat×(List fU)×(List iw)×(List fx)
def ae.L2.st:ae.L2.D→AS:=fun(t_4,i_3,kv,n2_3,n3L_4,n3L_5,n3_3,n7,n7L,n36_3,n84,n91_2)=>⟨([.undef,.eC fV t_4,.ptr (.new 2 0) 0 [] 0,.ptr (.new 3 0) 0 [] 0,.undef,.undef,.d ti i_3,.ptr (.new 7 0) 0 [] 0,.d ti kv]++bh 85 []),[],([[],[],[.obj 0 false (.pr (.cV) (.pr (.cV) (.d (.pair ti .unit) n2_3)))],[.obj 0 false (.pr (.bJ (.new 36 0) 0 [] 0 0 n3L_4) (.pr (.bJ (.new 91 0) 0 [] 0 0 n3L_5) (.d (.pair ti .unit) n3_3)))],[],[],[],[.obj 0 false (.pr (.d ti n7) (.pr (.pr (.bJ (.new 84 0) 0 [] 0 0 n7L) (.d .unit ())) (.d .unit ())))]]++bI 28 ([[.obj 0 false (.vec 52 fv n36_3)]]++bI 47 ([[.obj 0 false (.vec 29 gA n84)]]++bI 6 [[.obj 0 false (.vec 36 eP n91_2)],[],[]])))⟩
abbrev ae.L2.Y0:=Nat×(List iw)
abbrev ae.L2.X0:=(eT×Int×(Int×Unit)×Nat×Nat×(Int×Unit)×Int×(List fU)×(List fx))×(Nat×(List iw))
def ae.L2.bw:ae.L2.X0→Exit×AS:=fun x=>(.exit 4,⟨([.undef,.eC fV x.1.1,.ptr (.new 2 0) 0 [] 0,.ptr (.new 3 0) 0 [] 0,.undef,.undef,.d ti x.1.2.1,.ptr (.new 7 0) 0 [] 0]++bh 86 []),[],([[],[],[.obj 0 false (.pr (.cV) (.pr (.cV) (.d (.pair ti .unit) x.1.2.2.1)))],[.obj 0 false (.pr (.bJ (.new 36 0) 0 [] 0 0 x.1.2.2.2.1) (.pr (.bJ (.new 91 0) 0 [] 0 0 x.1.2.2.2.2.1) (.d (.pair ti .unit) x.1.2.2.2.2.2.1)))],[],[],[],[.obj 0 false (.pr (.d ti x.1.2.2.2.2.2.2.1) (.pr (.pr (.bJ (.new 84 0) 0 [] 0 0 x.2.1) (.d .unit ())) (.d .unit ())))]]++bI 28 ([[.obj 0 false (.vec 52 fv x.1.2.2.2.2.2.2.2.1)]]++bI 47 ([[.obj 0 false (.vec 29 gA x.2.2)]]++bI 6 [[.obj 0 false (.vec 36 eP x.1.2.2.2.2.2.2.2.2)],[],[]])))⟩)
abbrev ae.L2.X:=ae.L2.X0
abbrev ae.L2.Y:=ae.L2.Y0
def ae.L2.out:ae.L2.X→Out (Exit×AS):=fun x=> .ok (ae.L2.bw x)
def ae.L2.add:ae.L2.D→ae.L2.Y→ae.L2.X:=fun(t_4,i_3,kv,n2_3,n3L_4,n3L_5,n3_3,n7,n7L,n36_3,n84,n91_2) y=>((t_4,i_3,n2_3,n3L_4,n3L_5,n3_3,n7,n36_3,n91_2),y)
abbrev ae.D:=eT
def ae.st:ae.D→SA:=fun t=>([.d fV t],[])
abbrev ae.Y:=Nat×Nat×(Int×Unit)×(List fU)×(List fx)
abbrev ae.X:=Nat×Nat×(Int×Unit)×(List fU)×(List fx)
def ae.out:ae.X→bg:=fun x=>⟨.pr (.bJ (.new 0 0) 0 [] 0 0 x.1) (.pr (.bJ (.new 0 1) 0 [] 0 0 x.2.1) (.d (.pair ti .unit) x.2.2.1)),[],[.obj 0 false (.vec 52 fv x.2.2.2.1),.obj 0 false (.vec 36 eP x.2.2.2.2)]⟩
def ae.add:ae.D→ae.Y→ae.X:=fun t y=>y
def ae.L0.aB:ae.L0.D→Prop:=fun(t,i,u,L,v,r)=>(t.1).length≤1000000∧∃k:Nat,k≤(t.1).length∧i=k∧L=(r).length∧(r).length≤1000000+k∧(∀x∈t.1,x.2.1.2.1.length≤1000000)
def ae.L0.F:ae.L0.D→ae.L0.Y:=fun(t,i,u,L,v,r)=>(L+(List.drop (Int.toNat i) t.1).length,r++(List.drop (Int.toNat i) t.1).map (fun x:fU=>x))
def ae.L2.aB:ae.L2.D→Prop:=fun(t,j,i,u,L4,L5,v,am,L,is,r,os)=>((nth eP t.2.1 (Int.toNat j)).2.1.1).length≤1000000∧∃k:Nat,k≤((nth eP t.2.1 (Int.toNat j)).2.1.1).length∧i=k∧L=(r).length∧(r).length≤1000000+k∧(0≤j∧j < (t.2.1.length:Int))∧(∀x∈(nth eP t.2.1 (Int.toNat j)).2.1.1,x.1.length≤1000000)
def ae.L2.F:ae.L2.D→ae.L2.Y:=fun(t,j,i,u,L4,L5,v,am,L,is,r,os)=>(L+(List.drop (Int.toNat i) (nth eP t.2.1 (Int.toNat j)).2.1.1).length,r++(List.drop (Int.toNat i) (nth eP t.2.1 (Int.toNat j)).2.1.1).map (fun x:iw=>x))
def ae.L1.aB:ae.L1.D→Prop:=fun(t,i,u,L3,L,v,is,r)=>(t.2.1.length≤1000∧∀x∈t.2.1,x.2.1.1.length≤1000∧∀b∈x.2.1.1,b.1.length≤1000000)∧∃k:Nat,k≤t.2.1.length∧i=k∧L=r.length∧r.length=k
def ae.L1.F:ae.L1.D→ae.L1.Y:=fun(t,i,u,L3,L,v,is,r)=>(u,L3,L+(t.2.1.drop i.toNat).length,v,is,r++t.2.1.drop i.toNat)
def G3(t:eT):Prop:=(t.1.length≤1000∧∀x∈t.1,x.2.1.2.1.length≤1000000)∧t.2.1.length≤1000∧∀x∈t.2.1,x.2.1.1.length≤1000∧∀b∈x.2.1.1,b.1.length≤1000000
def ae.aB:ae.D→Prop:=fun t=>G3 t
def ae.F:ae.D→ae.Y:=fun t=>(t.1.length,t.2.1.length,(t.2.2.1,()),t.1,t.2.1)
noncomputable def ae.G:dY:=fg (P:=Tryz.prog) []
noncomputable def ae.L0.E:=bQ.cC ae.L0.st ae.L0.aB ae.L0.add ae.L0.F ae.L0.out
noncomputable def ae.L0.call:ae.L0.D→Option ae.L0.X:=dm ae.L0.E ae.L0.st
noncomputable def ae.L1.E:=bQ.cC ae.L1.st ae.L1.aB ae.L1.add ae.L1.F ae.L1.out
noncomputable def ae.L1.call:ae.L1.D→Option ae.L1.X:=dm ae.L1.E ae.L1.st
noncomputable def ae.L2.E:=bQ.cC ae.L2.st ae.L2.aB ae.L2.add ae.L2.F ae.L2.out
noncomputable def ae.L2.call:ae.L2.D→Option ae.L2.X:=dm ae.L2.E ae.L2.st
noncomputable def ae.an:eI:= {bK:=[25,74],loops:=j4 [(3,{bm:=[1,2,3,4],sites:=[2,3,36],iA:=[⟨3,[.fst],36,38⟩]}),(9,{bm:=[1,2,3,6],sites:=[2,3,36,91],iA:=[⟨3,[.snd,.fst],91,37⟩]}),(13,{bm:=[1,2,3,6,7,8],sites:=[2,3,7,36,84,91],iA:=[⟨7,[.snd,.fst,.fst],84,32⟩]})],outs:=j3 [(3,{bm:=[1,2,3],sites:=[2,3,36]},{bm:=[2]}),(9,{bm:=[2,3],sites:=[2,3,36,91]},{bm:=[2]}),(13,{bm:=[1,2,3,6,7],sites:=[2,3,7,36,84,91]},{bm:=[2]})],fJ:=kT [(3,ae.L0.E),(9,ae.L1.E),(13,ae.L2.E)]}
noncomputable def ae.A:= @cY Tryz.prog ae.G ae.an 0 Tryz.f91 _ ae.st
abbrev ae.Ok:=cZ @ae.A ae.aB ae.add ae.F ae.out
noncomputable def ae.L0.R:= @bV Tryz.prog ae.G ae.an 0 Tryz.f91 0 _ ae.L0.st
abbrev ae.L0.Ok:=ez Tryz.prog ae.G ae.an 0 Tryz.f91 0 ae.L0.st ae.L0.aB ae.L0.add ae.L0.F ae.L0.out
noncomputable def ae.L1.R:= @bV Tryz.prog ae.G ae.an 0 Tryz.f91 1 _ ae.L1.st
abbrev ae.L1.Ok:=ez Tryz.prog ae.G ae.an 0 Tryz.f91 1 ae.L1.st ae.L1.aB ae.L1.add ae.L1.F ae.L1.out
noncomputable def ae.L2.R:= @bV Tryz.prog ae.G ae.an 0 Tryz.f91 2 _ ae.L2.st
abbrev ae.L2.Ok:=ez Tryz.prog ae.G ae.an 0 Tryz.f91 2 ae.L2.st ae.L2.aB ae.L2.add ae.L2.F ae.L2.out
theorem ae.L0.run:bM ae.L0.call ae.L0.aB ae.L0.add ae.L0.F:=eF (eD [.d fV,.d ti,.d (.pair ti .unit),.n,.d (.pair ti .unit),.d (.slice fv)] fun _=>by kernel_rfl)
theorem ae.L0.aD:fP @ae.L0.R ae.L0.st ae.L0.aB ae.L0.add ae.L0.F ae.L0.bw ae.L0.Ok:=fR
theorem ae.L0.step{R:Type}(t_2:eT)(i:Int)(n2:(Int×Unit))(n3L:Nat)(n3:(Int×Unit))(n36:(List fU))(kn:AS→Option R)(kx:Exit→AS→Option R):ae.L0.R (t_2,i,n2,n3L,n3,n36) kn kx=
  aK ((fZ i (((List.length t_2.1):Nat):Int))) (
   aK (eH i (((List.length t_2.1):Nat):Int)) (
   aK (dp (0+(List.length (nth fv t_2.1 (Int.toNat i)).2.1.2.1)) 16) (
   aK (decide (0=0∧(0+(0+(List.length (nth fv t_2.1 (Int.toNat i)).2.1.2.1)))≤(List.length ((List.take 0 (List.replicate 0 ((0:Int),((0:Int),()))))++(nth fv t_2.1 (Int.toNat i)).2.1.2.1)))) (
   aK (decide (n3L≤(List.length n36))) (
   aK (dp (n3L+1) 80) (
   kn (ae.L0.st (t_2,(bR .i64 i (1:Int)),n2,(n3L+1),n3,((List.take n3L n36)++ [((nth fv t_2.1 (Int.toNat i)).1,(((nth fv t_2.1 (Int.toNat i)).2.1.1,((cut ((List.take 0 (List.replicate 0 ((0:Int),((0:Int),()))))++(nth fv t_2.1 (Int.toNat i)).2.1.2.1) 0 (0+(List.length (nth fv t_2.1 (Int.toNat i)).2.1.2.1))),(nth fv t_2.1 (Int.toNat i)).2.1.2.2)),(nth fv t_2.1 (Int.toNat i)).2.2))])))) none) none) none) none) none) (
   kx (ae.L0.bw ((t_2,n2,n3),(n3L,n36))).1 (ae.L0.bw ((t_2,n2,n3),(n3L,n36))).2):=by kernel_rfl
theorem ae.L1.run:bM ae.L1.call ae.L1.aB ae.L1.add ae.L1.F:=eF (eD [.d fV,.d ti,.d (.pair ti .unit),.n,.n,.d (.pair ti .unit),.d (.slice fv),.d (.slice eP)] fun _=>by kernel_rfl)
theorem ae.L1.aD:fP @ae.L1.R ae.L1.st ae.L1.aB ae.L1.add ae.L1.F ae.L1.bw ae.L1.Ok:=fR
theorem ae.L1.step{R:Type}(t_3:eT)(i_2:Int)(n2_2:(Int×Unit))(n3L_2:Nat)(n3L_3:Nat)(n3_2:(Int×Unit))(n36_2:(List fU))(n91:(List fx))(kn:AS→Option R)(kx:Exit→AS→Option R):ae.L1.R (t_3,i_2,n2_2,n3L_2,n3L_3,n3_2,n36_2,n91) kn kx=
  aK ((fZ i_2 (((List.length t_3.2.1):Nat):Int))) (
   aK (eH i_2 (((List.length t_3.2.1):Nat):Int)) (
   al (ae.L2.call (t_3,i_2,(0:Int),n2_2,n3L_2,n3L_3,n3_2,(nth eP t_3.2.1 (Int.toNat i_2)).1,0,n36_2,([]:List iw),n91)) fun x1=>
   aK (decide (0=0∧(0+x1.2.1)≤(List.length x1.2.2))) (
   aK (decide (x1.1.2.2.2.2.1≤(List.length x1.1.2.2.2.2.2.2.2.2))) (
   aK (dp (x1.1.2.2.2.2.1+1) 32) (
   kn (ae.L1.st (x1.1.1,(bR .i64 x1.1.2.1 (1:Int)),x1.1.2.2.1,x1.1.2.2.2.1,(x1.1.2.2.2.2.1+1),x1.1.2.2.2.2.2.1,x1.1.2.2.2.2.2.2.2.1,((List.take x1.1.2.2.2.2.1 x1.1.2.2.2.2.2.2.2.2)++ [(x1.1.2.2.2.2.2.2.1,(((cut x1.2.2 0 x1.2.1),()),()))])))) none) none) none) none) (
   kx (ae.L1.bw (n2_2,n3L_2,n3L_3,n3_2,n36_2,n91)).1 (ae.L1.bw (n2_2,n3L_2,n3L_3,n3_2,n36_2,n91)).2):=by kernel_rfl
theorem ae.L2.run:bM ae.L2.call ae.L2.aB ae.L2.add ae.L2.F:=eF (eD [.d fV,.d ti,.d ti,.d (.pair ti .unit),.n,.n,.d (.pair ti .unit),.d ti,.n,.d (.slice fv),.d (.slice gA),.d (.slice eP)] fun _=>by kernel_rfl)
theorem ae.L2.aD:fP @ae.L2.R ae.L2.st ae.L2.aB ae.L2.add ae.L2.F ae.L2.bw ae.L2.Ok:=fR
theorem ae.L2.step{R:Type}(t_4:eT)(i_3:Int)(kv:Int)(n2_3:(Int×Unit))(n3L_4:Nat)(n3L_5:Nat)(n3_3:(Int×Unit))(n7:Int)(n7L:Nat)(n36_3:(List fU))(n84:(List iw))(n91_2:(List fx))(kn:AS→Option R)(kx:Exit→AS→Option R):ae.L2.R (t_4,i_3,kv,n2_3,n3L_4,n3L_5,n3_3,n7,n7L,n36_3,n84,n91_2) kn kx=
  aK (eH i_3 (((List.length t_4.2.1):Nat):Int)) (
  aK ((fZ kv (((List.length (nth eP t_4.2.1 (Int.toNat i_3)).2.1.1):Nat):Int))) (
   aK (eH i_3 (((List.length t_4.2.1):Nat):Int)) (
   aK (eH kv (((List.length (nth eP t_4.2.1 (Int.toNat i_3)).2.1.1):Nat):Int)) (
   aK (dp (0+(List.length (nth gA (nth eP t_4.2.1 (Int.toNat i_3)).2.1.1 (Int.toNat kv)).1)) 8) (
   aK (decide (0=0∧(0+(0+(List.length (nth gA (nth eP t_4.2.1 (Int.toNat i_3)).2.1.1 (Int.toNat kv)).1)))≤(List.length ((List.take 0 (List.replicate 0 (0:Int)))++(nth gA (nth eP t_4.2.1 (Int.toNat i_3)).2.1.1 (Int.toNat kv)).1)))) (
   aK (decide (n7L≤(List.length n84))) (
   aK (dp (n7L+1) 48) (
   kn (ae.L2.st (t_4,i_3,(bR .i64 kv (1:Int)),n2_3,n3L_4,n3L_5,n3_3,n7,(n7L+1),n36_3,((List.take n7L n84)++ [((cut ((List.take 0 (List.replicate 0 (0:Int)))++(nth gA (nth eP t_4.2.1 (Int.toNat i_3)).2.1.1 (Int.toNat kv)).1) 0 (0+(List.length (nth gA (nth eP t_4.2.1 (Int.toNat i_3)).2.1.1 (Int.toNat kv)).1))),(nth gA (nth eP t_4.2.1 (Int.toNat i_3)).2.1.1 (Int.toNat kv)).2)]),n91_2))) none) none) none) none) none) none) (
   kx (ae.L2.bw ((t_4,i_3,n2_3,n3L_4,n3L_5,n3_3,n7,n36_3,n91_2),(n7L,n84))).1 (ae.L2.bw ((t_4,i_3,n2_3,n3L_4,n3L_5,n3_3,n7,n36_3,n91_2),(n7L,n84))).2)) none:=by kernel_rfl
theorem ae.eq{R:Type}(t:eT)(k:bg→Option R):ae.A t k=
 al (ae.L0.call (t,(0:Int),((0:Int),()),0,(t.2.2.1,()),([]:List fU))) fun x1=>
 al (ae.L1.call (x1.1.1,(0:Int),x1.1.2.1,x1.2.1,0,x1.1.2.2,x1.2.2,([]:List fx))) fun x4=>
 k (ae.out (x4.2.1,x4.2.2.1,x4.2.2.2.1,x4.2.2.2.2.1,x4.2.2.2.2.2)):=by kernel_rfl
theorem ae.L0.ok:ae.L0.Ok:=by
 refine ae.L0.aD (fun(t,i,u,L,v,r)=>(t.1).length - Int.toNat i) ?_
 rintro⟨t,i,u,L,v,r⟩ ⟨hlen,k,hk,rfl,rfl,hrow,hx⟩
 have hlen:(t.1).length≤1000000:=hlen
 have hk:k≤(t.1).length:=hk
 have hrow:(r).length≤1000000+k:=hrow
 have hx:∀x∈t.1,x.2.1.2.1.length≤1000000:=hx
 by_cases h:k < (t.1).length
 ·left
  have n1:nth fv t.1 k=t.1[k]:=cG (t:=fv) h
  have hd:List.drop k t.1=t.1[k]::List.drop (k+1) t.1:=List.drop_eq_getElem_cons h
  refine⟨(t,((k+1:Nat):Int),u,(r).length+1,v,r++ [(fun x:fU=>x) t.1[k]]),⟨hlen,k+1,by omega,rfl,by rw[List.length_append];rfl,by rw[List.length_append];show(r).length+1≤_;omega,hx⟩,by simp only[Int.toNat_natCast];omega,?_,fun kn kx=> ?_⟩
  ·simp only[ae.L0.add,ae.L0.F,Int.toNat_natCast,hd,List.map_cons,List.length_cons,List.append_assoc,List.singleton_append]
   rw[show ∀a c:Nat,a+1+c=a+(c+1) from fun a c=>by omega]
  ·rw[ae.L0.step,bu (by omega),bz (show(0:Int)≤(k:Int) by omega) (by omega),Int.toNat_natCast,n1]
   simp only[ai]
   have e:=hx _ (List.getElem_mem h)
   have hr:dp t.1[k].2.1.2.1.length 16=true:=dX (by omega) (by omega)
   simp only[Nat.zero_add,List.take_zero,List.nil_append,hr,ai,Nat.le_refl,and_self,decide_true,e7]
   rw[dX (by omega) (by omega),N.kO (by omega),List.take_length]
   rfl
 ·right
  obtain rfl:k=(t.1).length:=by omega
  intro R kn kx
  rw[ae.L0.step,bk (by omega),ao]
  simp only[ae.L0.add,ae.L0.F,Int.toNat_natCast,List.drop_length,List.map_nil,List.append_nil,List.length_nil,Nat.add_zero]
theorem ae.L2.ok:ae.L2.Ok:=by
 refine ae.L2.aD (fun(t,j,i,u,L4,L5,v,am,L,is,r,os)=>((nth eP t.2.1 (Int.toNat j)).2.1.1).length - Int.toNat i) ?_
 rintro⟨t,j,i,u,L4,L5,v,am,L,is,r,os⟩ ⟨hlen,k,hk,rfl,rfl,hrow,hj,hx⟩
 have hlen:((nth eP t.2.1 (Int.toNat j)).2.1.1).length≤1000000:=hlen
 have hk:k≤((nth eP t.2.1 (Int.toNat j)).2.1.1).length:=hk
 have hrow:(r).length≤1000000+k:=hrow
 have hj:0≤j∧j < (t.2.1.length:Int):=hj
 have hx:∀x∈(nth eP t.2.1 (Int.toNat j)).2.1.1,x.1.length≤1000000:=hx
 by_cases h:k < ((nth eP t.2.1 (Int.toNat j)).2.1.1).length
 ·left
  have n1:nth gA (nth eP t.2.1 (Int.toNat j)).2.1.1 k=(nth eP t.2.1 (Int.toNat j)).2.1.1[k]:=cG (t:=gA) h
  have hd:List.drop k (nth eP t.2.1 (Int.toNat j)).2.1.1=(nth eP t.2.1 (Int.toNat j)).2.1.1[k]::List.drop (k+1) (nth eP t.2.1 (Int.toNat j)).2.1.1:=List.drop_eq_getElem_cons h
  refine⟨(t,j,((k+1:Nat):Int),u,L4,L5,v,am,(r).length+1,is,r++ [(fun x:iw=>x) (nth eP t.2.1 (Int.toNat j)).2.1.1[k]],os),⟨hlen,k+1,by omega,rfl,by rw[List.length_append];rfl,by rw[List.length_append];show(r).length+1≤_;omega,hj,hx⟩,by simp only[Int.toNat_natCast];omega,?_,fun kn kx=> ?_⟩
  ·simp only[ae.L2.add,ae.L2.F,Int.toNat_natCast,hd,List.map_cons,List.length_cons,List.append_assoc,List.singleton_append]
   rw[show ∀a c:Nat,a+1+c=a+(c+1) from fun a c=>by omega]
  ·rw[ae.L2.step,bz hj.1 hj.2,ai,bu (by omega),bz (show(0:Int)≤(k:Int) by omega) (by omega),Int.toNat_natCast,n1]
   simp only[ai]
   have e:=hx _ (List.getElem_mem h)
   have hr:dp (nth eP t.2.1 (Int.toNat j)).2.1.1[k].1.length 8=true:=dX (by omega) (by omega)
   simp only[Nat.zero_add,List.take_zero,List.nil_append,hr,ai,Nat.le_refl,and_self,decide_true,e7]
   rw[dX (by omega) (by omega),N.kO (by omega),List.take_length]
   rfl
 ·right
  obtain rfl:k=((nth eP t.2.1 (Int.toNat j)).2.1.1).length:=by omega
  intro R kn kx
  rw[ae.L2.step,bz hj.1 hj.2,ai,bk (by omega),ao]
  simp only[ae.L2.add,ae.L2.F,Int.toNat_natCast,List.drop_length,List.map_nil,List.append_nil,List.length_nil,Nat.add_zero]
theorem ae.L1.ok:ae.L1.Ok:=by
 refine ae.L1.aD (fun(t,i,u,L3,L,v,is,r)=>t.2.1.length - i.toNat) ?_
 rintro⟨t,i,u,L3,L,v,is,r⟩ ⟨⟨hl,hx⟩,k,hk,rfl,rfl,hrk⟩
 have hl:t.2.1.length≤1000:=hl
 have hk:k≤t.2.1.length:=hk
 have hrk:r.length=k:=hrk
 by_cases h:k < t.2.1.length
 ·left
  have e:=hx _ (List.getElem_mem h)
  have n1:nth eP t.2.1 k=t.2.1[k]:=cG (t:=eP) h
  have hd:t.2.1.drop k=t.2.1[k]::t.2.1.drop (k+1):=List.drop_eq_getElem_cons h
  have e1:(nth eP t.2.1 (Int.toNat (k:Int))).2.1.1=t.2.1[k].2.1.1:=by rw[Int.toNat_natCast,n1]
  refine⟨(t,((k+1:Nat):Int),u,L3,r.length+1,v,is,r++ [t.2.1[k]]),⟨⟨hl,hx⟩,k+1,by omega,rfl,by rw[List.length_append];rfl,by rw[List.length_append];show r.length+1=_;omega⟩,by simp only[Int.toNat_natCast];omega,?_,fun kn kx=> ?_⟩
  ·simp only[ae.L1.add,ae.L1.F,Int.toNat_natCast,hd,List.length_cons,List.append_assoc,List.singleton_append]
   rw[show ∀a c:Nat,a+1+c=a+(c+1) from fun a c=>by omega]
  ·rw[ae.L1.step,bu (by omega),bz (by omega) (by omega),Int.toNat_natCast,n1]
   simp only[ai]
   rw[ae.L2.run (d:=(t,(k:Int),0,u,L3,r.length,v,t.2.1[k].1,0,is,[],r)) ⟨by rw[e1];omega,0,Nat.zero_le _,rfl,rfl,Nat.zero_le _,⟨by show(0:Int)≤(k:Int);omega,by show(k:Int) < (t.2.1.length:Int);omega⟩,by rw[e1];exact e.2⟩]
   simp only[ab,ae.L2.add,ae.L2.F,e1,Int.toNat_zero,List.drop_zero,List.nil_append,Nat.zero_add,List.map_id',Nat.le_refl,and_self,decide_true,ai,e7]
   rw[dX (by omega) (by omega),N.kO (by omega),List.take_length]
   rfl
 ·right
  obtain rfl:k=t.2.1.length:=by omega
  intro R kn kx
  rw[ae.L1.step,bk (by omega),ao]
  simp only[ae.L1.add,ae.L1.F,Int.toNat_natCast,List.drop_length,List.append_nil,List.length_nil,Nat.add_zero]
theorem ae.ok:ae.Ok:=by
 rintro⟨is,os,nt,u⟩ ⟨⟨h1,h2⟩,h3,h4⟩
 have h1:is.length≤1000:=h1
 have h3:os.length≤1000:=h3
 rw[ae.eq,ae.L0.run (d:=((is,os,nt,u),0,(0,()),0,(nt,()),[])) ⟨by show is.length≤_;omega,0,Nat.zero_le _,rfl,rfl,Nat.zero_le _,h2⟩]
 simp only[ab,ae.L0.add,ae.L0.F,Int.toNat_zero,List.drop_zero,List.nil_append,Nat.zero_add,List.map_id']
 rw[ae.L1.run (d:=((is,os,nt,u),0,(0,()),is.length,0,(nt,()),is,[])) ⟨⟨h3,h4⟩,0,Nat.zero_le _,rfl,rfl,rfl⟩]
 simp only[ab,ae.L1.add,ae.L1.F,Int.toNat_zero,List.drop_zero,List.nil_append,Nat.zero_add]
 rfl
noncomputable def ae.E:=Entry.cC [some fV] ae.st ae.aB ae.add ae.F ae.out
noncomputable def ae.call:ae.D→Option ae.X:=bS ae.E ae.st
theorem ae.run:bM ae.call ae.aB ae.add ae.F:=dh (dd [.d fV] fun _=>by kernel_rfl)
noncomputable def ae.sg:SG Tryz.prog:=⟨91,aX,ae.E,.fn 3 (by kernel_rfl) ae.ok (And.intro (.cC ae.L0.ok (by kernel_rfl)) (And.intro (.cC ae.L1.ok (by kernel_rfl)) (And.intro (.cC ae.L2.ok (by kernel_rfl)) trivial)))⟩
end Go.Ab
namespace Go.Ab
open Go.Sort (grow)
structure GQ(P:Program)(t:Ty)(g:FuncId)(Q:t.den→Prop)(cf:t.den→t.den→Int):Prop where
 bU:∃en,j5 P g en∧∀x y,Q x→Q y→∃X,en.run [.d t x,.d t y] []=some X∧en.out [.d t x,.d t y] [] X=⟨.d (.int .i64) (cf x y),[],[]⟩
 enters:∀args w,(callFunc g args).run P w= .ok (.enter g args) w
 irrefl:∀x,Q x→¬cf x x < 0
 trans:∀x y z,Q x→Q y→Q z→cf x y < 0→cf y z < 0→cf x z < 0
 ntrans:∀x y z,Q x→Q y→Q z→¬cf x y < 0→¬cf y z < 0→¬cf x z < 0
theorem ED{w w':World}(hos:w'.os=w.os)(htp:w'.tape=w.tape)(hout:w'.output=w.output∧w.drawn≤w'.drawn)(hsz:w.heap.size≤w'.heap.size)(hb:∀b:Nat,b < w.heap.size→w'.heap[b]? =w.heap[b]?):
  ∃q os,w'=grow (w.drewN q) os:=by
 obtain⟨h1,t1,d1,o1,p1⟩:=w
 obtain⟨h2,t2,d2,o2,p2⟩:=w'
 simp only at*
 obtain⟨hout,hd⟩:=hout
 subst hos htp hout
 obtain⟨q,rfl⟩:∃q,d2=d1+q:=⟨d2 - d1,by omega⟩
 refine⟨q,h2.extract h1.size h2.size,?_⟩
 have hh:h2=h1++h2.extract h1.size h2.size:=by
  apply Array.ext_getElem?
  intro i
  rw[Array.getElem?_append]
  by_cases hi:i < h1.size
  ·rw[if_pos hi,hb i hi]
  ·rw[if_neg hi,Array.getElem?_extract]
   by_cases h3:i < h2.size
   ·rw[if_pos (by omega)]
    congr 1;omega
   ·rw[if_neg (by omega),Array.getElem?_eq_none (by omega)]
 show({heap:=h2,tape:=_,drawn:=_,os:=_,output:=_}:World)= {heap:=h1++h2.extract h1.size h2.size,tape:=_,drawn:=_,os:=_,output:=_}
 rw[←hh]
 rfl
section
variable {P:Program} {t:Ty} {g:FuncId} {Q:t.den→Prop} {cf:t.den→t.den→Int}
theorem GQ.Hp(h:GQ P t g Q cf)(ha:t.agg=true){W:World}{cx cy:List Value}{x y:t.den}(hx:cP ((fX []).env W (fun _=> .free) (fun _=>none)) t cx x)
  (hy:cP ((fX []).env W (fun _=> .free) (fun _=>none)) t cy y) (qx:Q x) (qy:Q y):
  Calls P g #[.agg cx.toArray,.agg cy.toArray] W fun e w'=>e= .returned (.int .i64 (cf x y))∧∃q os,w'=grow (W.drewN q) os:=by
 obtain⟨en,hd,hrun⟩:=h.bU
 obtain⟨X,hX1,hX2⟩:=hrun x y qx qy
 have one:∀ {c:List Value} {z:t.den},cP ((fX []).env W (fun _=> .free) (fun _=>none)) t c z→VS ((fX []).env W (fun _=> .free) (fun _=>none)) (.d t z) (.agg c.toArray):=fun hz=>
  ⟨_,by simpa only[V]using hz,by show eY t.agg _ _;rw[ha];rfl⟩
 have ho:gl ((fX []).env W (fun _=> .free) (fun _=>none)):=fun id ver fr c h=>by
  exfalso
  cases id with
  |dq k=>simp[AS.env,AS.bU,fX]at h
  |new i j=>simp[AS.env,AS.bU,fX]at h
 rcases hd W (fun _=> .free) (fun _=>none) [.d t x,.d t y] [] [.agg cx.toArray,.agg cy.toArray] X ⟨one hx,one hy,trivial⟩ ho hX1 with⟨_,hc⟩ | ⟨v,w',hc,_⟩
 ·refine hc.mono fun e w' he=> ?_
  obtain⟨v,rfl,g',β',hv,_,ht,_⟩:=he
  rw[hX2]at hv
  obtain⟨cs,k1,k2⟩:=hv
  have k1:cs=[.int .i64 (cf x y)]:=k1
  subst k1
  have k2: [Value.int .i64 (cf x y)]=[v]:=k2
  have hv:v= .int .i64 (cf x y):=by simpa using k2.symm
  exact⟨by rw[hv],ED ht.os ht.tape ht.output ht.size fun b hb=>(ht.sm b hb).2⟩
 ·rw[h.enters]at hc;cases hc
def Cp(cf:t.den→t.den→Int)(l l':List t.den):Prop:=l'.Perm l∧l'.Pairwise fun x y=>¬cf y x < 0
open Classical in
noncomputable def pL(cf:t.den→t.den→Int)(l:List t.den):List t.den:=if h:∃l',Cp cf l l' then h.choose else l
theorem Ak(h:GQ P t g Q cf){l:List t.den}(hQ:∀x∈l,Q x):Cp cf l (pL cf l):=by
 have hx:∃l',Cp cf l l':=by
  let le: {x // Q x}→ {x // Q x}→Bool:=fun x y=> !decide (cf y.1 x.1 < 0)
  refine⟨((l.attachWith Q hQ).mergeSort le).map (·.1),?_,?_⟩
  ·have h1:=(List.mergeSort_perm (l.attachWith Q hQ) le).map (·.1)
   rwa[List.attachWith_map_subtype_val]at h1
  ·have h2:=List.pairwise_mergeSort (le:=le) (fun a b c h1 h2=>by
    simp only[le,Bool.not_eq_true',decide_eq_false_iff_not]at*
    exact h.ntrans _ _ _ c.2 b.2 a.2 h2 h1) (fun a b=>by
    simp only[le,Bool.or_eq_true,Bool.not_eq_true',decide_eq_false_iff_not]
    by_cases h1:cf b.1 a.1 < 0
    ·exact .inr fun h2=>h.irrefl _ a.2 (h.trans _ _ _ a.2 b.2 a.2 h2 h1)
    ·exact .inl h1) (l.attachWith Q hQ)
   rw[List.pairwise_map]
   exact h2.imp fun {a b} h3=>by simpa[le]using h3
 unfold pL
 rw[dif_pos hx]
 exact hx.choose_spec
theorem uu(h:GQ P t g Q cf){l l':List t.den}(hQ:∀x∈l,Q x)(hT:∀x∈l,∀y∈l,¬cf x y < 0→¬cf y x < 0→x=y)(hs:Cp cf l l'):l'=pL cf l:=by
 have h2:=Ak h hQ
 exact List.Perm.eq_of_pairwise (fun a b ha hb h3 h4=>hT a (hs.1.mem_iff.1 ha) b (h2.1.mem_iff.1 hb) h4 h3) hs.2 h2.2 (hs.1.trans h2.1.symm)
def qP(g:FuncId)(e:TypeId)(t:Ty):Nat×List t.den→List az×List dK:=fun d=>([.bJ (.dq 0) 0 [] 0 0 d.1,.fn g .nil],[.obj 0 false (.vec e t d.2)])
def ur(Q:t.den→Prop)(cf:t.den→t.den→Int):Nat×List t.den→Prop:=fun d=>d.1=d.2.length∧d.2.length < 4611686018427387904∧(∀x∈d.2,Q x)∧∀x∈d.2,∀y∈d.2,¬cf x y < 0→¬cf y x < 0→x=y
def GI(e:TypeId)(t:Ty):Nat×List t.den→bg:=fun x=>⟨.nil,[.obj 0 false (.vec e t x.2)],[]⟩
noncomputable def E9(g:FuncId)(e:TypeId)(t:Ty)(Q:t.den→Prop)(cf:t.den→t.den→Int):Entry:=
 Entry.of [none,none] (qP g e t) (ur Q cf) (fun d=>(d.1,pL cf d.2)) (GI e t)
theorem Fa{g:FuncId}{e:TypeId}{t:Ty}(d d':Nat×List t.den)(h:qP g e t d=qP g e t d'):d=d':=by
 obtain⟨n,l⟩:=d
 obtain⟨n',l'⟩:=d'
 simp only[qP,Prod.mk.injEq,List.cons.injEq,az.bJ.injEq,dK.obj.injEq,true_and,and_true]at h
 obtain⟨rfl,h2⟩:=h
 rw[Fg h2]
noncomputable def xd(g:FuncId)(e:TypeId)(t:Ty)(Q:t.den→Prop)(cf:t.den→t.den→Int):Nat×List t.den→Option (Nat×List t.den):=fun d=>(E9 g e t Q cf).run (qP g e t d).1 (qP g e t d).2
theorem A9{g:FuncId}{e:TypeId}{t:Ty}{Q:t.den→Prop}{cf:t.den→t.den→Int}{d:Nat×List t.den}(h:ur Q cf d):xd g e t Q cf d=some (d.1,pL cf d.2):=Entry.oo Fa h
theorem pZ{R:List Value→t.den→Prop}:∀ {cs:List Value} {l:List t.den},bj R cs l→(∀x∈l,Q x)→∃ps:List {p:List Value×t.den // R p.1 p.2∧Q p.2},ps.map (·.1.2)=l∧(ps.map (·.1.1)).flatten=cs
 |cs,[],h,_=>⟨[],rfl,by have h:cs=[]:=h;rw[h];rfl⟩
 |cs,x::l,⟨c,cs',h1,h2,h3⟩,hq=>by
  obtain⟨ps,h4,h5⟩:=pZ h3 fun y hy=>hq y (List.mem_cons_of_mem _ hy)
  exact⟨⟨(c,x),h2,hq x (List.mem_cons_self ..)⟩::ps,by simp[h4],by simp[h5,h1]⟩
theorem qt{R R':List Value→t.den→Prop}(hR:∀c x,R c x→R' c x):∀ps:List {p:List Value×t.den // R p.1 p.2∧Q p.2},bj R' (ps.map (·.1.1)).flatten (ps.map (·.1.2))
 |[]=>rfl
 |p::ps=>⟨p.1.1,(ps.map (·.1.1)).flatten,by simp,hR _ _ p.2.1,qt hR ps⟩
theorem xS{α:Type} [Inhabited α] (enc:α→List Value) {k:Nat} (hk:∀x,(enc x).length=k):∀(ps:List α) (j:Nat),j < ps.length*k→((ps.map enc).flatten)[j]? =(enc (ps.toArray[j / k]!))[j%k]?
 |[],j,h=>by simp at h
 |p::ps,j,h=>by
  have k0:0 < k:=by
   rcases Nat.eq_zero_or_pos k with h0 | h0
   ·subst h0;simp at h
   ·exact h0
  simp only[List.map_cons,List.flatten_cons]
  by_cases hj:j < k
  ·rw[List.getElem?_append_left (by rw[hk];exact hj),Nat.div_eq_of_lt hj,Nat.mod_eq_of_lt hj]
   rfl
  ·have e1:j / k=(j - k) / k+1:=by
    rw[Nat.div_eq_sub_div k0 (by omega)]
   have e2:j%k=(j - k)%k:=by rw[Nat.mod_eq_sub_mod (by omega)]
   rw[List.getElem?_append_right (by rw[hk];omega),hk,xS enc hk ps (j - k) (by simp only[List.length_cons,Nat.add_mul,Nat.one_mul]at h;omega),e1,e2]
   congr 2
   simp
theorem pD{α:Type} [Inhabited α] (enc:α→List Value) {k:Nat} (hk:∀x,(enc x).length=k) (d:Array α):(Go.Sort.flatK enc k d).toList=(d.toList.map enc).flatten:=by
 have hl:((d.toList.map enc).flatten).length=d.size*k:=by
  rw[List.length_flatten,List.map_map]
  have:(d.toList.map (List.length∘enc))=List.replicate d.size k:=by
   rw[List.eq_replicate_iff]
   exact⟨by simp,fun x hx=>by obtain⟨y,_,rfl⟩:=List.mem_map.1 hx;exact hk y⟩
  rw[this,List.sum_replicate_nat]
 apply List.ext_getElem?
 intro j
 by_cases hj:j < d.size*k
 ·rw[xS enc hk d.toList j (by simpa using hj)]
  have h2:(Go.Sort.flatK enc k d).toList[j]? =some ((Go.Sort.flatK enc k d)[j]!):=by
   rw[Array.getElem?_toList,getElem!_pos _ j (by rw[Go.Sort.size_flatK];exact hj)]
   simp[hj]
  rw[h2,Go.Sort.get_flatK _ _ _ _ hj]
  have hk0:0 < k:=by
   rcases Nat.eq_zero_or_pos k with h0 | h0
   ·subst h0;simp at hj
   ·exact h0
  have hm:j%k < k:=Nat.mod_lt _ hk0
  simp only[Array.toArray_toList]
  rw[List.getElem?_eq_getElem (by rw[hk];exact hm),getElem!_pos _ _ (by rw[hk];exact hm)]
 ·rw[List.getElem?_eq_none (by simpa using hj),List.getElem?_eq_none (by rw[hl];omega)]
theorem Dz{F cur:Array Value}(h:F.size≤cur.size):(Go.Sort.putCells id 0 F cur).toList=F.toList++cur.toList.drop F.size:=by
 apply List.ext_getElem?
 intro j
 simp only[Go.Sort.putCells,Array.getElem?_toList,Array.getElem?_mapIdx,Nat.zero_le,true_and,Nat.zero_add,Nat.sub_zero,id]
 by_cases hj:j < F.size
 ·rw[List.getElem?_append_left (by simpa using hj),Array.getElem?_toList,Array.getElem?_eq_getElem hj,Array.getElem?_eq_getElem (by omega),Option.map_some,if_pos hj,getElem!_pos F j hj]
 ·rw[List.getElem?_append_right (by simpa using hj),List.getElem?_drop,Array.getElem?_toList,Array.length_toList,show F.size+(j - F.size)=j by omega]
  cases cur[j]? with
  |none=>rfl
  |some y=>rw[Option.map_some,if_neg hj]
end
section
open Go.Proofs Go.Shelf Go.Lib Go.Sort
variable {P:Program} {ρ:Go.Shelf.Ren} {t:Ty} {g:FuncId} {Q:t.den→Prop} {cf:t.den→t.den→Int}
theorem uv{α:Type} [Inhabited α] (enc:α→List Value) (k:Nat) (w:World) (sm m:Nat) (dk:Array α) (os:Array Obj) {b:Nat} (hb:b < w.heap.size) (hne:b≠sm):(sortWorldK enc k w sm 0 m dk os).heap[b]? =w.heap[b]? :=by
 show((w.heap.modify sm _)++os)[b]? =_
 rw[Array.getElem?_append,if_pos (by simpa using hb),Array.getElem?_modify,if_neg (fun e=>hne e.symm)]
theorem Fe{α:Type} [Inhabited α] (enc:α→List Value) (k:Nat) (w:World) (sm m:Nat) (dk:Array α) (os:Array Obj) {cur:Array Value} {e:TypeId} {fr:Nat×Nat} (hb:w.heap[sm]? =some (.cells cur e fr)):
  (sortWorldK enc k w sm 0 m dk os).heap[sm]? =some (.cells (putCells id 0 (flatK enc k dk) cur) e fr):=by
 have hlt:sm < w.heap.size:=(Array.getElem?_eq_some_iff.1 hb).1
 show((w.heap.modify sm _)++os)[sm]? =_
 rw[Array.getElem?_append,if_pos (by simpa using hlt),Array.getElem?_modify,if_pos rfl,hb]
 rfl
set_option maxHeartbeats 1000000 in
theorem DS(L:SlLaysF0.n6 P ρ){e:TypeId}(ha:t.agg=true)(aE:∀w,(isAgg (ρ.t 24)).run P w= .ok true w)(zE:∀w,(Go.sizeOf (ρ.t 24)).run P w= .ok t.size w)(hc:GQ P t g Q cf):
  j5 P (ρ.f 6) (E9 g e t Q cf):=by
 intro w γ β args cU gT x hv ho hx
 obtain⟨d0,hd0,hpre⟩:∃d,qP g e t d=(args,cU)∧ur Q cf d:=by
  by_cases hh:∃d,qP g e t d=(args,cU)∧ur Q cf d
  ·exact hh
  ·exfalso
   have hn:(E9 g e t Q cf).run args cU=none:=dif_neg hh
   rw[hn]at hx
   cases hx
 have hr:=A9 (g:=g) (e:=e) hpre
 unfold xd at hr
 rw[hd0]at hr
 obtain rfl:x=(d0.1,pL cf d0.2):=Option.some.inj (hx.symm.trans hr)
 obtain⟨n,l⟩:=d0
 simp only[qP,Prod.mk.injEq]at hd0
 obtain⟨rfl,rfl⟩:=hd0
 obtain⟨hn,hsz,hQ,hT⟩:=hpre
 have hn:n=l.length:=hn
 subst hn
 match gT,hv with
 |[y1,y2],⟨hv1,hv2,_⟩=>
 obtain⟨vs,rfl,hvs⟩:=AG hv2
 have hvs:vs=[]:=by simpa only[VC]using hvs
 subst hvs
 have h1:=hv1.single rfl rfl
 simp only[V]at h1
 obtain⟨a,cap,h1,hcap,hsome,_,hcur⟩:=h1
 have h1:y1= .slice a l.length cap:=by simpa using h1
 subst h1
 have hent:(fX [dK.obj 0 false (.vec e t l)]).bU (.dq 0)=some (.obj 0 false (.vec e t l)):=rfl
 obtain⟨hz,hO⟩:G8 ((fX [dK.obj 0 false (.vec e t l)]).env w γ β) (.dq 0) false e t l:=ho (.dq 0) 0 false _ hent
 have hcur:=hcur ⟨false,_,hent⟩
 refine .inl ⟨L.f6.enters rfl _ _,?_⟩
 have hnil:∀v:Value,v= .tuple #[]→VS ((bg.st ⟨.nil,[.obj 0 false (.vec e t (pL cf l))],[]⟩).env w γ β) .nil v:=fun v hv=>by rw[hv];exact rfl
 have hS:=Ak hc hQ
 by_cases hl:l=[]
 ·subst hl
  have hs:pL cf ([]:List t.den)=[]:=List.eq_nil_of_length_eq_zero hS.1.length_eq
  refine(AnyF.slices_SortFunc_none L a cap _ w).mono fun e' w' he=> ?_
  obtain⟨rfl,rfl⟩:=he
  refine⟨_,rfl,?_⟩
  show lH _ (⟨.nil,[.obj 0 false (.vec e t (pL cf []))],[]⟩:bg) _ _
  rw[hs]
  exact lH.same rfl ho
 ·have hpos:0 < l.length:=List.length_pos_iff.2 hl
  change (match β (.dq 0) with | none=>l=[] | some pl=>∃cur k,w.heap[pl.b]? =some (.cells cur e (0,0))∧cur.size=pl.cap*t.size∧l.length≤pl.cap∧pl.cap≤maxLen∧γ pl.b= .own (.id (.dq 0)) k∧
   k≤l.length*t.size∧(false=false→k=0)∧bj (cP ((fX [dK.obj 0 false (.vec e t l)]).env w γ β) t) (cur.toList.take (l.length*t.size)) l) at hO
  change (match β (.dq 0) with | some pl=>(0 < l.length∨True→a=some ⟨pl.b,0,none⟩)∧(True→True→cap=pl.cap) | none=>a=none∧l.length=0∧cap=0) at hcur
  cases hβ:β (.dq 0) with
  |none=>rw[hβ]at hO;exact absurd hO hl
  |some pl=>
  rw[hβ]at hO hcur
  obtain⟨cur,k0,q1,q2,q3,q4,q5,_,q7,q8⟩:=hO
  obtain rfl:=q7 rfl
  obtain rfl:=hcur.1 (.inl hpos)
  have hblk:pl.b < w.heap.size:=(Array.getElem?_eq_some_iff.1 q1).1
  obtain⟨R,hR⟩:∃R:List Value→t.den→Prop,R=cP ((fX [dK.obj 0 false (.vec e t l)]).env w γ β) t:=⟨_,rfl⟩
  have hRm:∀c x,R c x→cP ((fX [dK.obj 0 false (.vec e t l)]).env w γ β) t c x:=by rw[hR];exact fun _ _ h=>h
  rw[←hR]at q8
  obtain⟨ps,p1,p2⟩:=pZ (Q:=Q) q8 hQ
  have hps:ps.length=l.length:=by rw[←p1,List.length_map]
  let α:= {p:List Value×t.den // R p.1 p.2∧Q p.2}
  have:0 < ps.length:=by omega
  letI:Inhabited α:=⟨ps[0]⟩
  let enc:α→List Value:=fun p=>p.1.1
  let cf':α→α→Int:=fun p q=>cf p.1.2 q.1.2
  have hk:∀x,(enc x).length=t.size:=fun x=>(hRm _ _ x.2.1).size
  have hO:SWO (ltOf cf'):=⟨fun x=>by simpa[ltOf,cf']using hc.irrefl _ x.2.2,fun x y z h1 h2=>by
   simp only[ltOf,decide_eq_true_eq,cf']at*
   exact hc.trans _ _ _ x.2.2 y.2.2 z.2.2 h1 h2,fun x y z h1 h2=>by
   simp only[ltOf,decide_eq_false_iff_not,cf']at*
   exact hc.ntrans _ _ _ x.2.2 y.2.2 z.2.2 h1 h2⟩
  have hcell:∀j,j < l.length*t.size→cur[j]? =((ps.map enc).flatten)[j]? :=fun j hj=>by
   have:(ps.map enc).flatten=cur.toList.take (l.length*t.size):=p2
   rw[this,List.getElem?_take,if_pos hj,Array.getElem?_toList]
  have hH:HoldsK enc t.size w pl.b 0 ps.toArray:=fun j hj=>by
   rw[size_flatK]at hj
   have hj:j < ps.length*t.size:=by simpa using hj
   have h2:=hcell j (by rw[←hps];exact hj)
   have h3:((flatK enc t.size ps.toArray).toList)[j]? =((ps.map enc).flatten)[j]? :=by rw[pD enc hk]
   rw[Array.getElem?_toList,Array.getElem?_eq_getElem (by rw[size_flatK];simpa using hj)]at h3
   refine⟨?_,?_⟩
   ·show(match w.heap[pl.b]? with | some (.cells c _ _)=>if(none:Option _).isSome then none else c[0+j]? | _=>none)=_
    rw[q1]
    simp only[Option.isSome_none,Bool.false_eq_true,if_false,Nat.zero_add]
    rw[h2,←h3,getElem!_pos _ j (by rw[size_flatK];simpa using hj)]
    rfl
   ·show(match w.heap[pl.b]? with | some (.cells _ _ (lo,hi))=>decide (lo≤0+j) && decide (0+j < hi) | _=>false)=false
    rw[q1]
    simp
  have hmem:∀(m:Nat) (dk:Array α) (os:Array Obj),jY ((fX [dK.obj 0 false (.vec e t l)]).env w γ β) ((fX []).env (sortWorldK enc t.size w pl.b 0 m dk os) (fun _=> .free) (fun _=>none)):=fun m dk os=>by
   refine⟨fun b off v hh=>⟨?_,trivial⟩,fun b ob hf hob=>⟨rfl,?_⟩⟩
   ·obtain⟨h1,h2⟩:=hh
    have hb:b < w.heap.size:=World.block_lt_of_cell? _ _ h1
    have hne:b≠pl.b:=fun e=>by
     have h2:jX γ b off:=h2
     unfold jX at h2
     rw[e,q5]at h2
     exact Nat.not_lt_zero _ h2
    have h1:w.cell? ⟨b,off,none⟩=some v:=h1
    show(sortWorldK enc t.size w pl.b 0 m dk os).cell? ⟨b,off,none⟩=some v
    simpa only[World.cell?,uv enc t.size w pl.b m dk os hb hne]using h1
   ·have hob:w.heap[b]? =some ob:=hob
    have hb:b < w.heap.size:=(Array.getElem?_eq_some_iff.1 hob).1
    have hne:b≠pl.b:=fun e=>by
     have hf:γ b= .free:=hf
     rw[e,q5]at hf;cases hf
    exact(uv enc t.size w pl.b m dk os hb hne).trans hob
  have hcmp:CmpLays P g #[] enc t.size cf' pl.b 0 ps.toArray.size w:=fun m os dk _ p q=>
   hc.Hp ha ((hRm _ _ p.2.1).mono (hmem m dk os)) ((hRm _ _ q.2.1).mono (hmem m dk os)) p.2.2 q.2.2
  have hcon:=AnyQ.slices_SortFunc L t.size aE zE enc hk (fun p=>(hRm _ _ p.2.1).one) cf' hO g #[] pl.b 0 cap ps.toArray w hc.enters hcmp hH hblk (by simpa[hps]using hsz)
  rw[show ps.toArray.size=l.length by simpa using hps]at hcon
  refine hcon.mono fun e' w' he=> ?_
  obtain⟨rfl,d',m,os,hp,hs,rfl⟩:=he
  refine⟨_,rfl,?_⟩
  obtain⟨s1,_,s2⟩:=hp
  have hd:d'.size=l.length:=by rw[s1];simpa using hps
  have hperm:d'.toList.Perm ps:=by
   have e1:(d'.extract 0 l.length)=d':=by rw[←hd];simp
   have e2:(ps.toArray.extract 0 l.length)=ps.toArray:=by rw[←hps];simp
   rw[e1,e2]at s2
   exact s2
  have hl':Cp cf l (d'.toList.map (·.1.2)):=by
   refine⟨by rw[←p1];exact hperm.map _,?_⟩
   rw[List.pairwise_map,List.pairwise_iff_getElem]
   intro i j hi hj hij
   have:=hs i j (Nat.zero_le _) hij (by rw[←hd];simpa using hj)
   rw[getElem!_pos d' i (by simpa using hi),getElem!_pos d' j (by simpa using hj)]at this
   simpa[ltOf,cf']using this
  have heq:=uu hc hQ hT hl'
  show lH _ (⟨.nil,[.obj 0 false (.vec e t (pL cf l))],[]⟩:bg) _ _
  rw[←heq]
  have hself:=Fe enc t.size w pl.b m d' os q1
  have hFs:(flatK enc t.size d').size≤cur.size:=by
   rw[size_flatK,hd,q2]
   exact Nat.mul_le_mul_right _ q3
  have hoth:∀b,b < w.heap.size→b≠pl.b→(sortWorldK enc t.size w pl.b 0 m d' os).heap[b]? =w.heap[b]? :=fun b hb hne=>uv enc t.size w pl.b m d' os hb hne
  have hsize:w.heap.size≤(sortWorldK enc t.size w pl.b 0 m d' os).heap.size:=size_sortWorldK_c enc t.size w pl.b 0 m d' os
  have hw:(sortWorldK enc t.size w pl.b 0 m d' os).os=w.os∧(sortWorldK enc t.size w pl.b 0 m d' os).tape=w.tape∧((sortWorldK enc t.size w pl.b 0 m d' os).output=w.output∧w.drawn≤(sortWorldK enc t.size w pl.b 0 m d' os).drawn):=⟨rfl,rfl,rfl,Nat.le_add_right _ _⟩
  generalize sortWorldK enc t.size w pl.b 0 m d' os=w' at hself hoth hsize hw
  have ht:Trans w w' γ γ:=by
   refine⟨hw.1,hw.2.1,hw.2.2,hsize,fun b hb=> ?_⟩
   by_cases hbb:b=pl.b
   ·subst hbb
    rw[q5]
    exact⟨.inr ⟨_,0,rfl,Nat.le_refl _⟩,fun _ _ hh=>by omega⟩
   ·rw[hoth b hb hbb]
    cases hgb:γ b with
    |free=>exact⟨rfl,rfl⟩
    |own o' k=>cases o' with
     |eJ=>exact⟨rfl,rfl⟩
     |id i'=>exact⟨.inr ⟨i',k,rfl,Nat.le_refl _⟩,fun off v _ hv=>by simpa only[World.cell?,hoth b hb hbb]using hv⟩
  have hle:cn ((fX [dK.obj 0 false (.vec e t l)]).env w γ β) ((bg.st ⟨.nil,[.obj 0 false (.vec e t (d'.toList.map (·.1.2)))],[]⟩).env w' γ β):=by
   have e0:∀id,(∃c,(fX [dK.obj 0 false (.vec e t l)]).bU id=some (.obj 0 false c)∧id= .dq 0)∨((fX [dK.obj 0 false (.vec e t l)]).bU id=none∧(bg.st ⟨.nil,[.obj 0 false (.vec e t (d'.toList.map (·.1.2)))],[]⟩).bU id=none):=fun id=>by
    cases id with
    |dq k=>cases k with
     |zero=>exact .inl ⟨_,rfl,rfl⟩
     |succ k=>exact .inr ⟨rfl,rfl⟩
    |new i j=>refine .inr ⟨?_,?_⟩ <;> cases i <;> rfl
   refine⟨Trans.mem (E:=(fX [dK.obj 0 false (.vec e t l)]).env w γ β) (E':=(bg.st ⟨.nil,[.obj 0 false (.vec e t (d'.toList.map (·.1.2)))],[]⟩).env w' γ β) ht,fun id ver hb=> ?_,fun id ver hb hcu=> ?_⟩
   ·rcases e0 id with⟨c,_,rfl⟩ | ⟨h1,_⟩
    ·refine⟨by show(some _:Option dK)≠none;simp,fun v fr c h=> ?_⟩
     have h:some (dK.obj 0 false (.vec e t (d'.toList.map (·.1.2))))=some (.obj v fr c):=h
     simp only[Option.some.injEq,dK.obj.injEq]at h
     have:=hb.2 0 false _ rfl
     omega
    ·exact absurd h1 hb.1
   ·rcases e0 id with⟨c,_,rfl⟩ | ⟨h1,_⟩
    ·obtain⟨fr,c,h⟩:=hcu
     have h:some (dK.obj 0 false (.vec e t (d'.toList.map (·.1.2))))=some (.obj ver fr c):=h
     simp only[Option.some.injEq,dK.obj.injEq]at h
     obtain⟨rfl,rfl,_⟩:=h
     exact⟨⟨false,_,rfl⟩,rfl⟩
    ·exact absurd h1 hb.1
  refine⟨γ,β,rfl,fun id ver fr c h=> ?_,ht,hle⟩
  have hid:id= .dq 0∧ver=0∧fr=false∧c= .vec e t (d'.toList.map (·.1.2)):=by
   cases id with
   |dq k=>cases k with
    |zero=>
     have h:some (dK.obj 0 false (.vec e t (d'.toList.map (·.1.2))))=some (.obj ver fr c):=h
     simp only[Option.some.injEq,dK.obj.injEq]at h
     obtain⟨rfl,rfl,rfl⟩:=h
     exact⟨rfl,rfl,rfl,rfl⟩
    |succ k=>cases h
   |new i j=>cases i <;> cases h
  obtain⟨rfl,rfl,rfl,rfl⟩:=hid
  refine⟨hz,?_⟩
  show(match β (.dq 0) with | none=>(d'.toList.map (·.1.2))=[] | some pl=>_)
  rw[hβ]
  have hlen:(d'.toList.map (fun p:α=>p.1.2)).length=l.length:=by simpa using hd
  refine⟨_,0,hself,?_,by rw[hlen];exact q3,q4,q5,Nat.zero_le _,fun _=>rfl,?_⟩
  ·rw[←q2];simp[putCells]
  ·have e3:(putCells id 0 (flatK enc t.size d') cur).toList.take ((d'.toList.map (fun p:α=>p.1.2)).length*t.size)=(d'.toList.map enc).flatten:=by
    rw[Dz hFs,pD enc hk,hlen]
    have e4:((d'.toList.map enc).flatten).length=l.length*t.size:=by
     rw[←pD enc hk,Array.length_toList,size_flatK,hd]
    rw[←e4,List.take_left]
   rw[e3]
   exact qt (Q:=Q) (fun c x h=>(hRm c x h).mono hle.mem) d'.toList
end
end Go.Ab
namespace Go.Ab
open Go.Proofs
set_option maxRecDepth 100000
set_option linter.unusedVariables false
set_option linter.unusedSimpArgs false
set_option synthInstance.maxSize 5000
abbrev gF:Ty:=(.pair eP (.pair ti .unit))
abbrev eX:=(fx×(Int×Unit))
abbrev Ce:Ty:=(.pair cJ (.pair gF .unit))
abbrev ze:=(db×(eX×Unit))
abbrev eO:Ty:=(.pair (.slice Ce) (.pair (.slice cJ) .unit))
abbrev eg:=((List ze)×((List db)×Unit))
abbrev nv:Ty:=(.pair ti (.pair fV (.pair ti .unit)))
abbrev ph:=(Int×(eT×(Int×Unit)))
abbrev fA.D:=Bs×Bs
def fA.st:fA.D→SA:=fun(a,b)=>([.d tB a,.d tB b],[])
abbrev fA.Y:=Int
abbrev fA.X:=Int
def fA.out:fA.X→bg:=fun x=>⟨.d ti x,[],[]⟩
def fA.add:fA.D→fA.Y→fA.X:=fun(a,b) y=>y
def fA.aB:fA.D→Prop:=fun _=>True
def fA.F:fA.D→fA.Y:=fun(a,b)=>uO a b
noncomputable def fA.G:dY:=fg (P:=Tryz.prog) [⟨156,aX,Ax.E,Ax.of (fn:=Tryz.f156) (by kernel_rfl) (by kernel_rfl) (by kernel_rfl) (by kernel_rfl) (by kernel_rfl)⟩]
noncomputable def fA.an:eI:= {}
noncomputable def fA.A:= @cY Tryz.prog fA.G fA.an 0 Tryz.f82 _ fA.st
abbrev fA.Ok:=cZ @fA.A fA.aB fA.add fA.F fA.out
theorem fA.eq{R:Type}(a:Bs)(b:Bs)(k:bg→Option R):fA.A (a,b) k=
 al (Ax.call (a,b)) fun x1=>
 k (fA.out x1):=by kernel_rfl
theorem fA.ok:fA.Ok:=by
 rintro⟨a,b⟩ _
 rw[fA.eq,Ax.run]
 rfl
noncomputable def fA.E:=Entry.cC [some tB,some tB] fA.st fA.aB fA.add fA.F fA.out
noncomputable def fA.call:fA.D→Option fA.X:=bS fA.E fA.st
theorem fA.run:bM fA.call fA.aB fA.add fA.F:=dh (dd [.d tB,.d tB] fun _=>by kernel_rfl)
noncomputable def fA.sg:SG Tryz.prog:=⟨82,aX,fA.E,.fn 0 (by kernel_rfl) fA.ok trivial⟩
abbrev fi.D:=Int
def fi.st:fi.D→SA:=fun x=>([.d ti x],[])
abbrev fi.Y:=Bool
abbrev fi.X:=Bool
def fi.out:fi.X→bg:=fun x=>⟨.d .bool x,[],[]⟩
def fi.add:fi.D→fi.Y→fi.X:=fun x y=>y
def fi.aB:fi.D→Prop:=fun _=>True
def fi.F:fi.D→fi.Y:=fun _=>false
noncomputable def fi.G:dY:=fg (P:=Tryz.prog) []
noncomputable def fi.an:eI:= {}
noncomputable def fi.A:= @cY Tryz.prog fi.G fi.an 0 Tryz.f157 _ fi.st
abbrev fi.Ok:=cZ @fi.A fi.aB fi.add fi.F fi.out
theorem fi.eq{R:Type}(x:Int)(k:bg→Option R):fi.A x k=
 k (fi.out (mZ x x)):=by kernel_rfl
theorem fi.ok:fi.Ok:=by
 intro x _
 rw[fi.eq]
 simp only[fi.add,fi.F,cg rfl]
noncomputable def fi.E:=Entry.cC [some ti] fi.st fi.aB fi.add fi.F fi.out
noncomputable def fi.call:fi.D→Option fi.X:=bS fi.E fi.st
theorem fi.run:bM fi.call fi.aB fi.add fi.F:=dh (dd [.d ti] fun _=>by kernel_rfl)
noncomputable def fi.sg:SG Tryz.prog:=⟨157,aX,fi.E,.fn 0 (by kernel_rfl) fi.ok trivial⟩
def zu(x y:Int):Int:=if x < y then -1 else if x > y then 1 else 0
abbrev fh.D:=Int×Int
def fh.st:fh.D→SA:=fun(x,yv)=>([.d ti x,.d ti yv],[])
abbrev fh.Y:=Int
abbrev fh.X:=Int
def fh.out:fh.X→bg:=fun x=>⟨.d ti x,[],[]⟩
def fh.add:fh.D→fh.Y→fh.X:=fun(x,yv) y=>y
def fh.aB:fh.D→Prop:=fun _=>True
def fh.F:fh.D→fh.Y:=fun(x,y)=>zu x y
noncomputable def fh.G:dY:=fg (P:=Tryz.prog) [fi.sg]
noncomputable def fh.an:eI:= {}
noncomputable def fh.A:= @cY Tryz.prog fh.G fh.an 0 Tryz.f83 _ fh.st
abbrev fh.Ok:=cZ @fh.A fh.aB fh.add fh.F fh.out
theorem fh.eq{R:Type}(x:Int)(yv:Int)(k:bg→Option R):fh.A (x,yv) k=
  al (fi.call x) fun x1=>
  al (fi.call yv) fun x2=>
  aK (x1) (
   aK (x2) (
    k (fh.out (0:Int))) (
    k (fh.out (-1:Int)))) (
   aK (x2) (
    k (fh.out (1:Int))) (
    aK ((fZ x yv)) (
     k (fh.out (-1:Int))) (
     aK ((mJ x yv)) (
      k (fh.out (1:Int))) (
      k (fh.out (0:Int)))))):=by kernel_rfl
theorem fh.ok:fh.Ok:=by
 rintro⟨x,y⟩ _
 rw[fh.eq,fi.run (d:=x) trivial]
 simp only[ab,fi.add,fi.F]
 rw[fi.run (d:=y) trivial]
 simp only[ab,fi.add,fi.F,ao,fh.add,fh.F,zu]
 by_cases h:x < y
 ·rw[bu h,ai,if_pos h]
 ·rw[bk h,ao,if_neg h]
  by_cases h2:x > y
  ·rw[dx h2,ai,if_pos h2]
  ·rw[cW h2,ao,if_neg h2]
noncomputable def fh.E:=Entry.cC [some ti,some ti] fh.st fh.aB fh.add fh.F fh.out
noncomputable def fh.call:fh.D→Option fh.X:=bS fh.E fh.st
theorem fh.run:bM fh.call fh.aB fh.add fh.F:=dh (dd [.d ti,.d ti] fun _=>by kernel_rfl)
noncomputable def fh.sg:SG Tryz.prog:=⟨83,aX,fh.E,.fn 0 (by kernel_rfl) fh.ok trivial⟩
abbrev eK.L0.D:=Int×(List Int)×Int×Int
def eK.L0.st:eK.L0.D→AS:=fun(zero,t6,t7,t8)=>⟨([.undef,.undef,.undef,.d ti zero,.undef,.undef,.d (.slice ti) t6,.d ti t7,.d ti t8]++bh 9 []),[],(List.replicate 18 [])⟩
abbrev eK.L0.Y0:=Int
abbrev eK.L0.X0:=Int
def eK.L0.bw:eK.L0.X0→Exit×AS:=fun x=>(.ret,⟨([.undef,.undef,.d ti x]++bh 15 []),[],(List.replicate 18 [])⟩)
abbrev eK.L0.Y1:=Unit
abbrev eK.L0.X1:=Int
def eK.L0.fq:eK.L0.X1→Exit×AS:=fun x=>(.exit 0,⟨([.undef,.undef,.undef,.d ti x]++bh 14 []),[],(List.replicate 18 [])⟩)
abbrev eK.L0.X:=(eK.L0.X0)⊕(eK.L0.X1)
abbrev eK.L0.Y:=(eK.L0.Y0)⊕(eK.L0.Y1)
def eK.L0.out:eK.L0.X→Out (Exit×AS):=fun x=> .br x.isLeft (.get x.getLeft? fun a=> .ok (eK.L0.bw a)) (.get x.getRight? fun b=> .ok (eK.L0.fq b))
def eK.L0.add:eK.L0.D→eK.L0.Y→eK.L0.X:=fun(zero,t6,t7,t8) y=>match y with | .inl y=> .inl y | .inr z=> .inr (zero)
abbrev eK.D:=(List Int)
def eK.st:eK.D→SA:=fun gT=>([.d (.slice ti) gT],[])
abbrev eK.Y:=Int
abbrev eK.X:=Int
def eK.out:eK.X→bg:=fun x=>⟨.d ti x,[],[]⟩
def eK.add:eK.D→eK.Y→eK.X:=fun gT y=>y
def G0:List Int→Int
 |[]=>0
 |x::l=>if x≠0 then x else G0 l
def FB:List Int→Int⊕Unit
 |[]=> .inr ()
 |x::l=>if x≠0 then .inl x else FB l
theorem FC:∀l:List Int,G0 l=match FB l with | .inl x=>x | .inr _=>0
 |[]=>rfl
 |x::l=>by
  simp only[G0,FB]
  split
  ·rfl
  ·exact FC l
def eK.L0.aB:eK.L0.D→Prop:=fun(z,l,n,i)=>z=0∧l.length≤1000000000∧n=l.length∧∃k:Nat,k≤l.length∧i=k
def eK.L0.F:eK.L0.D→eK.L0.Y:=fun(z,l,n,i)=>FB (l.drop i.toNat)
def eK.aB:eK.D→Prop:=fun l=>l.length≤1000000000
def eK.F:eK.D→eK.Y:=fun l=>G0 l
noncomputable def eK.G:dY:=fg (P:=Tryz.prog) []
noncomputable def eK.L0.E:=bQ.cC eK.L0.st eK.L0.aB eK.L0.add eK.L0.F eK.L0.out
noncomputable def eK.L0.call:eK.L0.D→Option eK.L0.X:=dm eK.L0.E eK.L0.st
noncomputable def eK.an:eI:= {loops:=j4 [(3,{bm:=[3,6,7,8]})],outs:=j3 [(3,{bm:=[3]},{bm:=[2]})],fJ:=kT [(3,eK.L0.E)]}
noncomputable def eK.A:= @cY Tryz.prog eK.G eK.an 0 Tryz.f81 _ eK.st
abbrev eK.Ok:=cZ @eK.A eK.aB eK.add eK.F eK.out
noncomputable def eK.L0.R:= @bV Tryz.prog eK.G eK.an 0 Tryz.f81 0 _ eK.L0.st
abbrev eK.L0.Ok:=ez Tryz.prog eK.G eK.an 0 Tryz.f81 0 eK.L0.st eK.L0.aB eK.L0.add eK.L0.F eK.L0.out
theorem eK.L0.run:bM eK.L0.call eK.L0.aB eK.L0.add eK.L0.F:=eF (eD [.d ti,.d (.slice ti),.d ti,.d ti] fun _=>by kernel_rfl)
theorem eK.L0.aD:kP @eK.L0.R eK.L0.st eK.L0.aB eK.L0.add eK.L0.F eK.L0.out eK.L0.Ok:=lp
theorem eK.L0.step{R:Type}(zero:Int)(t6:(List Int))(t7:Int)(t8:Int)(kn:AS→Option R)(kx:Exit→AS→Option R):eK.L0.R (zero,t6,t7,t8) kn kx=
  aK ((fZ t8 t7)) (
   aK (eH t8 (((List.length t6):Nat):Int)) (
   aK ((mZ (nth ti t6 (Int.toNat t8)) zero)) (
    kx (eK.L0.bw (nth ti t6 (Int.toNat t8))).1 (eK.L0.bw (nth ti t6 (Int.toNat t8))).2) (
    kn (eK.L0.st (zero,t6,t7,(bR .i64 t8 (1:Int)))))) none) (
   kx (eK.L0.fq zero).1 (eK.L0.fq zero).2):=by kernel_rfl
theorem eK.eq{R:Type}(gT:(List Int))(k:bg→Option R):eK.A gT k=
  al (eK.L0.call ((0:Int),gT,(((List.length gT):Nat):Int),(0:Int))) fun x1=>
  aK (x1.isLeft) (
   al (x1.getLeft?) fun a2=>
   k (eK.out a2)) (
   al (x1.getRight?) fun b3=>
   k (eK.out b3)):=by kernel_rfl
theorem eK.L0.ok:eK.L0.Ok:=by
 refine eK.L0.aD (fun(z,l,n,i)=>l.length - i.toNat) ?_
 rintro⟨z,l,n,i⟩ ⟨rfl,hl,rfl,k,hk,rfl⟩
 by_cases h:k < l.length
 ·have hd:l.drop k=l[k]::l.drop (k+1):=List.drop_eq_getElem_cons h
  have n1:nth ti l k=l[k]:=cG (t:=ti) h
  by_cases h2:l[k]≠0
  ·right
   refine⟨eK.L0.bw l[k],?_,fun kn kx=> ?_⟩
   rotate_left
   ·rw[eK.L0.step,bu (by omega),ai,bz (by omega) (by omega),ai,Int.toNat_natCast,n1,dR h2,ai]
   ·simp only[eK.L0.add,eK.L0.F,Int.toNat_natCast,hd,FB,if_pos h2]
    rfl
  ·left
   refine⟨(0,l,(l.length:Int),((k+1:Nat):Int)),⟨rfl,hl,rfl,k+1,by omega,rfl⟩,by simp only[Int.toNat_natCast];omega,?_,fun kn kx=> ?_⟩
   ·simp only[eK.L0.add,eK.L0.F,Int.toNat_natCast,hd,FB,if_neg h2]
   ·rw[eK.L0.step,bu (by omega),ai,bz (by omega) (by omega),ai,Int.toNat_natCast,n1,cg (by omega),ao,N.kO (by omega)]
 ·right
  obtain rfl:k=l.length:=by omega
  refine⟨eK.L0.fq 0,?_,fun kn kx=> ?_⟩
  rotate_left
  ·rw[eK.L0.step,bk (by omega),ao]
  ·simp only[eK.L0.add,eK.L0.F,Int.toNat_natCast,List.drop_length,FB]
   rfl
theorem eK.ok:eK.Ok:=by
 intro l hl
 rw[eK.eq,eK.L0.run (d:=(0,l,(l.length:Int),0)) ⟨rfl,hl,rfl,0,Nat.zero_le _,rfl⟩]
 simp only[ab,eK.L0.add,eK.L0.F,Int.toNat_zero,List.drop_zero,eK.add,eK.F]
 rw[FC]
 cases FB l <;> rfl
noncomputable def eK.E:=Entry.cC [some (.slice ti)] eK.st eK.aB eK.add eK.F eK.out
noncomputable def eK.call:eK.D→Option eK.X:=bS eK.E eK.st
theorem eK.run:bM eK.call eK.aB eK.add eK.F:=dh (dd [.d (.slice ti)] fun _=>by kernel_rfl)
noncomputable def eK.sg:SG Tryz.prog:=⟨81,aX,eK.E,.fn 1 (by kernel_rfl) eK.ok (And.intro (.cC eK.L0.ok (by kernel_rfl)) trivial)⟩
abbrev fB.D:=db×db
def fB.st:fB.D→SA:=fun(a,b)=>([.d cJ a,.d cJ b],[])
abbrev fB.Y:=Int
abbrev fB.X:=Int
def fB.out:fB.X→bg:=fun x=>⟨.d ti x,[],[]⟩
def fB.add:fB.D→fB.Y→fB.X:=fun(a,b) y=>y
def pq(a b:db):Int:=G0 [uO a.1 b.1,zu a.2.1 b.2.1]
def fB.aB:fB.D→Prop:=fun(a,b)=>a.1.length=32∧b.1.length=32
def fB.F:fB.D→fB.Y:=fun(a,b)=>pq a b
noncomputable def fB.G:dY:=fg (P:=Tryz.prog) [fA.sg,fh.sg,eK.sg]
noncomputable def fB.an:eI:= {}
noncomputable def fB.A:= @cY Tryz.prog fB.G fB.an 0 Tryz.f80 _ fB.st
abbrev fB.Ok:=cZ @fB.A fB.aB fB.add fB.F fB.out
theorem fB.eq{R:Type}(a:db)(b:db)(k:bg→Option R):fB.A (a,b) k=
 al (fA.call ((cut a.1 0 32),(cut b.1 0 32))) fun x1=>
 al (fh.call (a.2.1,b.2.1)) fun x2=>
 al (eK.call [x1,x2]) fun x3=>
 k (fB.out x3):=by kernel_rfl
theorem fB.ok:fB.Ok:=by
 rintro⟨a,b⟩ ⟨ha,hb⟩
 have ha:a.1.length=32:=ha
 have hb:b.1.length=32:=hb
 have c1:cut a.1 0 32=a.1:=e7 ha
 have c2:cut b.1 0 32=b.1:=e7 hb
 rw[fB.eq,c1,c2,fA.run (d:=(a.1,b.1)) trivial]
 simp only[ab,fA.add,fA.F]
 rw[fh.run (d:=(a.2.1,b.2.1)) trivial]
 simp only[ab,fh.add,fh.F]
 rw[eK.run (d:=[uO a.1 b.1,zu a.2.1 b.2.1]) (by show 2≤_;decide)]
 simp only[ab,eK.add,eK.F,fB.add,fB.F,pq]
noncomputable def fB.E:=Entry.cC [some cJ,some cJ] fB.st fB.aB fB.add fB.F fB.out
noncomputable def fB.call:fB.D→Option fB.X:=bS fB.E fB.st
theorem fB.run:bM fB.call fB.aB fB.add fB.F:=dh (dd [.d cJ,.d cJ] fun _=>by kernel_rfl)
noncomputable def fB.sg:SG Tryz.prog:=⟨80,aX,fB.E,.fn 0 (by kernel_rfl) fB.ok trivial⟩
def lx:List Int→List Int→Int
 |x::xs,y::ys=>if x≠y then(if x < y then -1 else 1) else lx xs ys
 |_,_=>0
theorem AV:∀a,lx a a=0
 |[]=>rfl
 |x::a=>by simp[lx,AV a]
theorem Fw:∀ {a b:List Int},a.length=b.length→lx a b=0→a=b
 |[],[],_,_=>rfl
 |[],_::_,h,_=>by simp at h
 |_::_,[],h,_=>by simp at h
 |x::a,y::b,h,h2=>by
  simp only[lx]at h2
  split at h2
  ·split at h2 <;> omega
  ·rename_i e
   have e:x=y:=by omega
   rw[e,Fw (by simpa using h) h2]
theorem tP:∀a b:List Int,lx b a= - lx a b
 |[],[]=>rfl
 |[],_::_=>rfl
 |_::_,[]=>rfl
 |x::a,y::b=>by
  simp only[lx]
  by_cases h:x=y
  ·rw[if_neg (by omega),if_neg (by omega),tP a b]
  ·rw[if_pos (by omega),if_pos h]
   by_cases h2:x < y
   ·rw[if_neg (by omega),if_pos h2];rfl
   ·rw[if_pos (by omega),if_neg h2]
theorem tQ:∀ {a b c:List Int},a.length=b.length→b.length=c.length→lx a b≤0→lx b c≤0→lx a c≤0∧(lx a c=0→lx a b=0∧lx b c=0)
 |[],[],[],_,_,_,_=>by simp[lx]
 |x::a,y::b,z::c,h1,h2,h3,h4=>by
  have ih:=tQ (a:=a) (b:=b) (c:=c) (by simpa using h1) (by simpa using h2)
  simp only[lx]at h3 h4 ⊢
  by_cases e1:x=y
  ·by_cases e2:y=z
   ·rw[if_neg (by omega)]at h3 h4
    rw[if_neg (by omega),if_neg (by omega),if_neg (by omega)]
    exact ih h3 h4
   ·rw[if_neg (by omega)]at h3
    rw[if_pos e2]at h4
    rw[if_pos (by omega)]
    by_cases e3:y < z
    ·rw[if_pos (by omega)]
     exact⟨by omega,fun h=>by omega⟩
    ·rw[if_neg e3]at h4;omega
  ·rw[if_pos e1]at h3
   by_cases e3:x < y
   ·by_cases e2:y=z
    ·rw[if_pos (by omega),if_pos (by omega)]
     exact⟨by omega,fun h=>by omega⟩
    ·rw[if_pos e2]at h4
     by_cases e4:y < z
     ·rw[if_pos (by omega),if_pos (by omega)]
      exact⟨by omega,fun h=>by omega⟩
     ·rw[if_neg e4]at h4;omega
   ·rw[if_neg e3]at h3;omega
 |[],_::_,_,h,_,_,_=>by simp at h
 |_::_,[],_,h,_,_,_=>by simp at h
 |_,[],_::_,_,h,_,_=>by simp at h
 |_,_::_,[],_,h,_,_=>by simp at h
def HX(a b:Int):Int:=if a=0 then b else a
theorem wQ{p:Int}{a b:List Int}:lx (p::a) (p::b)=lx a b:=by simp[lx]
theorem rr{p q:Int}{a b:List Int}(h:¬p=q):lx (p::a) (q::b)=if p < q then -1 else 1:=by simp[lx,h]
theorem AU:∀ {a b:List Int} (x y:Int),a.length=b.length→lx (a++ [x]) (b++ [y])=HX (lx a b) (zu x y)
 |[],[],x,y,_=>by
  show lx [x] [y]=HX 0 (zu x y)
  simp only[HX,if_true]
  unfold zu
  by_cases h:x=y
  ·subst h
   rw[wQ,if_neg (by omega),if_neg (by omega)]
   rfl
  ·rw[rr h]
   by_cases h2:x < y
   ·rw[if_pos h2,if_pos h2]
   ·rw[if_neg h2,if_neg h2,if_pos (by omega)]
 |[],_::_,_,_,h=>by simp at h
 |_::_,[],_,_,h=>by simp at h
 |p::a,q::b,x,y,h=>by
  show lx (p::(a++ [x])) (q::(b++ [y]))=_
  by_cases h2:p=q
  ·subst h2
   rw[wQ,wQ]
   exact AU x y (by simpa using h)
  ·rw[rr h2,rr h2]
   by_cases h3:p < q
   ·rw[if_pos h3];rfl
   ·rw[if_neg h3];rfl
def CK:List UInt8→List UInt8→Int
 |x::xs,y::ys=>if x !=y then(if x < y then -1 else 1) else CK xs ys
 |_,_=>0
theorem xH:∀(xs ys:List UInt8),xs.length=ys.length→(match(List.range xs.length).find? fun i=>xs[i]! !=ys[i]! with | some i=>if xs[i]! < ys[i]! then(-1:Int) else 1 | none=>0)=CK xs ys
 |[],[],_=>rfl
 |[],_::_,h=>by simp at h
 |_::_,[],h=>by simp at h
 |x::xs,y::ys,h=>by
  have ih:=xH xs ys (by simpa using h)
  rw[List.length_cons,List.range_succ_eq_map,List.find?_cons]
  simp only[List.getElem!_cons_zero,CK]
  cases hb:(x !=y) with
  |true=>simp
  |false=>
   simp only[Bool.false_eq_true,if_false]
   rw[List.find?_map,←ih]
   have e:((fun i=>(x::xs)[i]! !=(y::ys)[i]!)∘Nat.succ)=fun i=>xs[i]! !=ys[i]! :=by
    funext i;simp
   rw[e]
   cases(List.range xs.length).find? fun i=>xs[i]! !=ys[i]! <;> simp
theorem AD:∀ {a b:List Int},(∀x∈a,0≤x∧x < 256)→(∀x∈b,0≤x∧x < 256)→CK (a.map fun n=>UInt8.ofNat n.toNat) (b.map fun n=>UInt8.ofNat n.toNat)=lx a b
 |[],_,_,_=>by cases ‹List Int› <;> rfl
 |_::_,[],_,_=>rfl
 |x::a,y::b,ha,hb=>by
  have hx:=ha x (List.mem_cons_self ..)
  have hy:=hb y (List.mem_cons_self ..)
  have ih:=AD (a:=a) (b:=b) (fun z hz=>ha z (List.mem_cons_of_mem _ hz)) (fun z hz=>hb z (List.mem_cons_of_mem _ hz))
  simp only[List.map_cons,CK,lx,ih]
  have e1:(UInt8.ofNat x.toNat).toNat=x.toNat:=by simp[UInt8.toNat_ofNat];omega
  have e2:(UInt8.ofNat y.toNat).toNat=y.toNat:=by simp[UInt8.toNat_ofNat];omega
  by_cases h:x=y
  ·subst h;simp
  ·have hne:(UInt8.ofNat x.toNat !=UInt8.ofNat y.toNat)=true:=by
    rw[bne_iff_ne]
    intro e
    have:=congrArg UInt8.toNat e
    rw[e1,e2]at this
    omega
   rw[hne,if_pos rfl,if_pos h]
   have hlt:UInt8.ofNat x.toNat < UInt8.ofNat y.toNat↔x < y:=by
    rw[UInt8.lt_iff_toNat_lt,e1,e2];omega
   by_cases h2:x < y
   ·rw[if_pos (hlt.2 h2),if_pos h2]
   ·rw[if_neg (fun e=>h2 (hlt.1 e)),if_neg h2]
theorem Ep{a b:List Int}(hl:a.length=b.length)(ha:∀x∈a,0≤x∧x < 256)(hb:∀x∈b,0≤x∧x < 256):uO a b=lx a b:=by
 rw[←AD ha hb,←xH _ _ (by simpa using hl)]
 unfold uO Extern.BytealgCompare.cmp
 have s1:∀l:List Int,(eG l).size=l.length:=fun l=>by simp[eG,ByteArray.size]
 have g1:∀(l:List Int) (i:Nat),(eG l)[i]! =(l.map fun n=>UInt8.ofNat n.toNat)[i]! :=fun l i=>by
  by_cases h:i < (eG l).size
  ·rw[getElem!_pos _ i h]
   have h2:i < (l.map fun n=>UInt8.ofNat n.toNat).length:=by simpa[eG,ByteArray.size]using h
   rw[getElem!_pos _ i h2]
   rfl
  ·rw[getElem!_neg _ i h]
   have h2:¬i < (l.map fun n=>UInt8.ofNat n.toNat).length:=by simpa[eG,ByteArray.size]using h
   rw[getElem!_neg _ i h2]
 simp only[s1,g1,hl,Nat.min_self,List.length_map]
 cases(List.range b.length).find? fun i=>(a.map fun n=>UInt8.ofNat n.toNat)[i]! !=(b.map fun n=>UInt8.ofNat n.toNat)[i]! <;> simp
def xn(o:db):Prop:=o.1.length=32∧∀x∈o.1,0≤x∧x < 256
def lT(o:db):List Int:=o.1++ [o.2.1]
theorem jf{o:db}(h:xn o):(lT o).length=33:=by simp[lT,h.1]
theorem Dt{a b:db}(ha:xn a)(hb:xn b)(h:lT a=lT b):a=b:=by
 obtain⟨a1,a2,_⟩:=a
 obtain⟨b1,b2,_⟩:=b
 have h:a1++ [a2]=b1++ [b2]:=h
 have:=List.append_inj' h rfl
 rw[this.1,show a2=b2 by simpa using this.2]
theorem lq{a b:db}(ha:xn a)(hb:xn b):pq a b=lx (lT a) (lT b):=by
 unfold lT pq
 rw[AU _ _ (ha.1.trans hb.1.symm),Ep (ha.1.trans hb.1.symm) ha.2 hb.2]
 simp only[G0,HX]
 by_cases h:lx a.1 b.1=0
 ·rw[if_pos h,if_neg (fun e=>e h)]
  split
  ·rfl
  ·omega
 ·rw[if_neg h,if_pos h]
theorem s7:GQ Tryz.prog cJ 80 xn pq:= {
 bU:=⟨fB.E,fB.sg.h,fun x y hx hy=>⟨_,fB.run (d:=(x,y)) ⟨hx.1,hy.1⟩,rfl⟩⟩
 enters:=enters_of Tryz.func80 (by kernel_rfl) rfl
 irrefl:=fun x hx=>by rw[lq hx hx,AV];decide
 trans:=fun x y z hx hy hz h1 h2=>by
  rw[lq hx hy]at h1
  rw[lq hy hz]at h2
  rw[lq hx hz]
  have:=tQ (by rw[jf hx,jf hy]) (by rw[jf hy,jf hz]) (by omega:lx (lT x) (lT y)≤0) (by omega:lx (lT y) (lT z)≤0)
  have h3:=this.1
  by_cases h4:lx (lT x) (lT z)=0
  ·have:=(this.2 h4).1;omega
  ·omega
 ntrans:=fun x y z hx hy hz h1 h2=>by
  rw[lq hx hy]at h1
  rw[lq hy hz]at h2
  rw[lq hx hz]
  have e1:=tP (lT x) (lT y)
  have e2:=tP (lT y) (lT z)
  have e3:=tP (lT x) (lT z)
  have:=(tQ (by rw[jf hz,jf hy]) (by rw[jf hy,jf hx]) (by omega:lx (lT z) (lT y)≤0) (by omega:lx (lT y) (lT x)≤0)).1
  omega}
theorem s8{x y:db}(hx:xn x)(hy:xn y)(h1:¬pq x y < 0)(h2:¬pq y x < 0):x=y:=by
 rw[lq hx hy]at h1
 rw[lq hy hx,tP]at h2
 exact Dt hx hy (Fw (by rw[jf hx,jf hy]) (by omega))
end Go.Ab
namespace Go.Proofs
open Go.Shelf
def Tryz.Ag:Go.Shelf.Ren:=⟨fun | 6=>79 | 15=>155 | 14=>154 | 28=>214 | 29=>215 | 20=>206 | 21=>207 | 22=>208 | 23=>209 | 24=>210 | 25=>211 | 26=>212 | 27=>213 | 46=>255 | 47=>256 | 48=>257 | 49=>258 | 50=>259 | 57=>279 | n=>n,fun | 22=>58 | 24=>47 | 25=>157 | 3=>3 | 39=>224 | 0=>0 | 53=>255 | 55=>22 | 4=>4 | 46=>265 | 45=>264 | 50=>66 | 5=>5 | 9=>9 | 66=>298 | 70=>301 | 76=>313 | 77=>314 | n=>n,fun | n=>n⟩
theorem Tryz.GF:Go.Proofs.SlLaysF0.n6 Tryz.prog Tryz.Ag:= {
 mixed:=by kernel_rfl
 f6:=⟨Tryz.f79.name,by decide,Tryz.func79.trans (congrArg some (by kernel_rfl))⟩
 f14:=⟨Tryz.f154.name,by decide,Tryz.func154.trans (congrArg some (by kernel_rfl))⟩
 f15:=Tryz.func155.trans (congrArg some (by kernel_rfl))
 f20:=⟨Tryz.f206.name,by decide,Tryz.func206.trans (congrArg some (by kernel_rfl))⟩
 f21:=⟨Tryz.f207.name,by decide,Tryz.func207.trans (congrArg some (by kernel_rfl))⟩
 f22:=⟨Tryz.f208.name,by decide,Tryz.func208.trans (congrArg some (by kernel_rfl))⟩
 f23:=⟨Tryz.f209.name,by decide,Tryz.func209.trans (congrArg some (by kernel_rfl))⟩
 f24:=⟨Tryz.f210.name,by decide,Tryz.func210.trans (congrArg some (by kernel_rfl))⟩
 f25:=⟨Tryz.f211.name,by decide,Tryz.func211.trans (congrArg some (by kernel_rfl))⟩
 f26:=⟨Tryz.f212.name,by decide,Tryz.func212.trans (congrArg some (by kernel_rfl))⟩
 f27:=⟨Tryz.f213.name,by decide,Tryz.func213.trans (congrArg some (by kernel_rfl))⟩
 f28:=Tryz.func214.trans (congrArg some (by kernel_rfl))
 f29:=Tryz.func215.trans (congrArg some (by kernel_rfl))
 f46:=⟨Tryz.f255.name,by decide,Tryz.func255.trans (congrArg some (by kernel_rfl))⟩
 f47:=Tryz.func256.trans (congrArg some (by kernel_rfl))
 f48:=Tryz.func257.trans (congrArg some (by kernel_rfl))
 f49:=⟨Tryz.f258.name,by decide,Tryz.func258.trans (congrArg some (by kernel_rfl))⟩
 f50:=⟨Tryz.f259.name,by decide,Tryz.func259.trans (congrArg some (by kernel_rfl))⟩
 f57:=⟨Tryz.f279.name,by decide,Tryz.func279.trans (congrArg some (by kernel_rfl))⟩
 t0:=Tryz.underlying0
 a0:=Tryz.isAgg0
 z0:=Tryz.sizeOf0
 v0:=Tryz.zeroValue0
 t3:=Tryz.underlying3
 a3:=Tryz.isAgg3
 z3:=Tryz.sizeOf3
 v3:=Tryz.zeroValue3
 t4:=Tryz.underlying4
 a4:=Tryz.isAgg4
 z4:=Tryz.sizeOf4
 v4:=Tryz.zeroValue4
 t5:=Tryz.underlying5
 a5:=Tryz.isAgg5
 z5:=Tryz.sizeOf5
 v5:=Tryz.zeroValue5
 t9:=Tryz.underlying9
 a9:=Tryz.isAgg9
 z9:=Tryz.sizeOf9
 v9:=Tryz.zeroValue9
 t22:=Tryz.underlying58
 a22:=Tryz.isAgg58
 z22:=Tryz.sizeOf58
 v22:=Tryz.zeroValue58
 t25:=Tryz.underlying157
 a25:=Tryz.isAgg157
 z25:=Tryz.sizeOf157
 v25:=Tryz.zeroValue157
 t39:=Tryz.underlying224
 a39:=Tryz.isAgg224
 z39:=Tryz.sizeOf224
 v39:=Tryz.zeroValue224
 t45:=Tryz.underlying264
 a45:=Tryz.isAgg264
 z45:=Tryz.sizeOf264
 v45:=Tryz.zeroValue264
 t46:=Tryz.underlying265
 a46:=Tryz.isAgg265
 z46:=Tryz.sizeOf265
 v46:=Tryz.zeroValue265
 t50:=Tryz.underlying66
 a50:=Tryz.isAgg66
 z50:=Tryz.sizeOf66
 v50:=Tryz.zeroValue66
 t53:=Tryz.underlying255
 a53:=Tryz.isAgg255
 z53:=Tryz.sizeOf255
 v53:=Tryz.zeroValue255
 t55:=Tryz.underlying22
 a55:=Tryz.isAgg22
 z55:=Tryz.sizeOf22
 v55:=Tryz.zeroValue22
 t66:=Tryz.underlying298
 a66:=Tryz.isAgg298
 z66:=Tryz.sizeOf298
 v66:=Tryz.zeroValue298
 t70:=Tryz.underlying301
 a70:=Tryz.isAgg301
 z70:=Tryz.sizeOf301
 v70:=Tryz.zeroValue301
 t76:=Tryz.underlying313
 a76:=Tryz.isAgg313
 z76:=Tryz.sizeOf313
 v76:=Tryz.zeroValue313
 t77:=Tryz.underlying314
 a77:=Tryz.isAgg314
 z77:=Tryz.sizeOf314
 v77:=Tryz.zeroValue314}
end Go.Proofs
namespace Go.Ab
open Go.Proofs
set_option maxRecDepth 100000
set_option linter.unusedVariables false
set_option linter.unusedSimpArgs false
set_option synthInstance.maxSize 5000
noncomputable def yY.E:Entry:=E9 80 47 cJ xn pq
noncomputable def yY.call:Nat×List db→Option (Nat×List db):=xd 80 47 cJ xn pq
theorem yY.run{d:Nat×List db}(h:ur (t:=cJ) xn pq d):yY.call d=some (d.1,pL (t:=cJ) pq d.2):=A9 h
noncomputable def yY.sg:SG Tryz.prog:=⟨79,aX,yY.E,DS Tryz.GF (by rfl) (fun w=>Tryz.isAgg47 w) (fun w=>Tryz.sizeOf47 w) s7⟩
abbrev bG.L0.D:=Nat×Nat×(List (db×eX))×(List eg)×(List (db×eX))×(List db)
def bG.L0.st:bG.L0.D→AS:=fun(outL,o0L,o1_2,o2_2,n9,n17)=>⟨([.undef,.undef,.undef,.bJ (.new 17 0) 0 [] 0 0 outL]++bh 5 ([.ptr (.new 9 0) 0 [] 0]++bh 11 [])),[.obj 0 false (.pr (.eN (.dq 1) 0) (.pr (.bJ (.dq 2) 0 [] 0 0 o0L) (.d .unit ()))),.obj 0 true (.mp cJ gF o1_2),.obj 0 false (.vec 161 eO o2_2)],(bI 9 ([[.obj 0 false (.jz (.dq 1) 1 cJ gF n9 none)]]++bI 7 [[.obj 0 false (.vec 47 cJ n17)],[],[],[]]))⟩
abbrev bG.L0.Y0:=Nat×(List db)
abbrev bG.L0.X0:=(Nat×(List (db×eX))×(List eg))×(Nat×(List db))
def bG.L0.bw:bG.L0.X0→Exit×AS:=fun x=>(.exit 0,⟨([.undef,.undef,.undef,.bJ (.new 17 0) 0 [] 0 0 x.2.1]++bh 17 []),[.obj 0 false (.pr (.eN (.dq 1) 0) (.pr (.bJ (.dq 2) 0 [] 0 0 x.1.1) (.d .unit ()))),.obj 0 false (.mp cJ gF x.1.2.1),.obj 0 false (.vec 161 eO x.1.2.2)],(bI 17 [[.obj 0 false (.vec 47 cJ x.2.2)],[],[],[]])⟩)
abbrev bG.L0.X:=bG.L0.X0
abbrev bG.L0.Y:=bG.L0.Y0
def bG.L0.out:bG.L0.X→Out (Exit×AS):=fun x=> .ok (bG.L0.bw x)
def bG.L0.add:bG.L0.D→bG.L0.Y→bG.L0.X:=fun(outL,o0L,o1_2,o2_2,n9,n17) y=>((o0L,o1_2,o2_2),y)
abbrev bG.D:=Nat×(List (db×eX))×(List eg)
def bG.st:bG.D→SA:=fun(o0baL,o1,o2)=>([.ptr (.dq 0) 0 [] 0],[.obj 0 false (.pr (.eN (.dq 1) 0) (.pr (.bJ (.dq 2) 0 [] 0 0 o0baL) (.d .unit ()))),.obj 0 false (.mp cJ gF o1),.obj 0 false (.vec 161 eO o2)])
abbrev bG.Y:=Nat×Nat×(List (db×eX))×(List eg)×(List db)
abbrev bG.X:=Nat×Nat×(List (db×eX))×(List eg)×(List db)
def bG.out:bG.X→bg:=fun x=>⟨.bJ (.new 0 0) 0 [] 0 0 x.1,[.obj 0 false (.pr (.eN (.dq 1) 0) (.pr (.bJ (.dq 2) 0 [] 0 0 x.2.1) (.d .unit ()))),.obj 0 false (.mp cJ gF x.2.2.1),.obj 0 false (.vec 161 eO x.2.2.2.1)],[.obj 0 false (.vec 47 cJ x.2.2.2.2)]⟩
def bG.add:bG.D→bG.Y→bG.X:=fun(o0baL,o1,o2) y=>y
def gW(l:List (db×eX)):Int:=(l.map fun p=>p.2.1.1).sum
theorem gK(p:db×eX)(l:List (db×eX)):gW (p::l)=p.2.1.1+gW l:=by simp[gW]
theorem xv(l l':List (db×eX)):gW (l++l')=gW l+gW l':=by simp[gW]
theorem qW{l l':List (db×eX)}(h:l.Perm l'):gW l=gW l':=by
 induction h with
 |nil=>rfl
 |cons x _ ih=>rw[gK,gK,ih]
 |swap x y l=>rw[gK,gK,gK,gK];omega
 |trans _ _ h1 h2=>rw[h1,h2]
theorem pz{α:Type}{l:List α}{j:Nat}(h:j < l.length):l.Perm (l[j]::l.eraseIdx j):=by
 induction l generalizing j with
 |nil=>simp at h
 |cons x l ih=>
  cases j with
  |zero=>exact List.Perm.refl _
  |succ j=>
   have h:j < l.length:=by simpa using h
   simp only[List.getElem_cons_succ,List.eraseIdx_cons_succ]
   exact((ih h).cons x).trans (List.Perm.swap _ _ _)
theorem sQ{kt vt:Ty}{l:List (kt.den×vt.den)}{j:Nat}(h:j < l.length):kF kt vt l j=l[j]:=by
 simp[kF,List.getD_eq_getElem?_getD,List.getElem?_eq_getElem h]
def bG.L0.aB:bG.L0.D→Prop:=fun(n,_,_,_,rest,out)=>n=out.length∧out.length+rest.length≤1000000
def bG.L0.iM:bG.L0.D→bG.L0.Y→Prop:=fun(_,_,_,_,rest,out) (m,out')=>m=out'.length∧out'.Perm (out++rest.map (·.1))
def bG.aB:bG.D→Prop:=fun(_,a,_)=>a.length≤1000000∧∀p∈a,xn p.1
noncomputable def bG.F:bG.D→bG.Y:=fun(n,a,s)=>(a.length,n,a,s,pL (t:=cJ) pq (a.map (·.1)))
noncomputable def bG.G:dY:=fg (P:=Tryz.prog) [yY.sg]
noncomputable def bG.L0.E:=bQ.EO bG.L0.st bG.L0.aB bG.L0.add bG.L0.iM bG.L0.out
def bG.L0.set:bG.L0.D→bG.L0.X→Prop:=HH bG.L0.st bG.L0.aB bG.L0.add bG.L0.iM
noncomputable def bG.an:eI:= {loops:=j4 [(3,{bm:=[3,9],sites:=[9,17],iA:=[⟨3,[],17,58⟩],Hs:=[9]})],outs:=j3 [(3,{bm:=[3],sites:=[17]},{bm:=[2]})],fJ:=kT [(3,bG.L0.E)]}
noncomputable def bG.A:= @cY Tryz.prog bG.G bG.an 0 Tryz.f28 _ bG.st
abbrev bG.Ok:=cZ @bG.A bG.aB bG.add bG.F bG.out
noncomputable def bG.L0.R:= @bV Tryz.prog bG.G bG.an 0 Tryz.f28 0 _ bG.L0.st
abbrev bG.L0.Ok:=Ar Tryz.prog bG.G bG.an 0 Tryz.f28 0 bG.L0.st bG.L0.aB bG.L0.add bG.L0.iM bG.L0.out
theorem bG.L0.run:G7 bG.L0.set bG.L0.aB bG.L0.add bG.L0.iM:=Iy (eD [.n,.n,.d (.slice (.pair cJ gF)),.d (.slice eO),.d (.slice (.pair cJ gF)),.d (.slice cJ)] fun _=>by kernel_rfl)
theorem bG.L0.aD:Fk @bG.L0.R bG.L0.st bG.L0.aB bG.L0.add bG.L0.iM bG.L0.bw bG.L0.Ok:=Hc
theorem bG.L0.step{R:Type}(outL:Nat)(o0L:Nat)(o1_2:(List (db×eX)))(o2_2:(List eg))(n9:(List (db×eX)))(n17:(List db))(kn:AS→Option R)(kx:Exit→AS→Option R):bG.L0.R (outL,o0L,o1_2,o2_2,n9,n17) kn kx=
  aK (decide (0 < (List.length n9))) (
   Cl (List.length n9) fun j1=>
   aK (decide (outL≤(List.length n17))) (
   aK (dp (outL+1) 40) (
   kn (bG.L0.st ((outL+1),o0L,o1_2,o2_2,(List.eraseIdx n9 j1),((List.take outL n17)++ [(kF cJ gF n9 j1).1])))) none) none) (
   kx (bG.L0.bw ((o0L,o1_2,o2_2),(outL,n17))).1 (bG.L0.bw ((o0L,o1_2,o2_2),(outL,n17))).2):=by kernel_rfl
theorem bG.eq{R:Type}(o0baL:Nat)(o1:(List (db×eX)))(o2:(List eg))(k:bg→Option R):bG.A (o0baL,o1,o2) k=
 zz (bG.L0.set (0,o0baL,o1,o2,o1,([]:List db))) fun x3=>
 al (yY.call (x3.2.1,x3.2.2)) fun x4=>
 k (bG.out (x3.2.1,x3.1.1,x3.1.2.1,x3.1.2.2,x4.2)):=by kernel_rfl
theorem bG.L0.ok:bG.L0.Ok:=by
 refine bG.L0.aD (fun(n,_,_,_,rest,out)=>rest.length) ?_
 rintro⟨n,o,a,s,rest,out⟩ ⟨rfl,hl⟩
 have hl:out.length+rest.length≤1000000:=hl
 by_cases h:0 < rest.length
 ·left
  refine⟨rest.length,fun j=>(out.length+1,o,a,s,rest.eraseIdx j,out++ [(kF cJ gF rest j).1]),h,fun j hj=>⟨⟨by simp,?_⟩,?_,fun y hy=>⟨y,?_,rfl⟩⟩,fun kn kx=> ?_⟩
  ·show(out++ [_]).length+(rest.eraseIdx j).length≤1000000
   rw[List.length_append,List.length_eraseIdx,if_pos hj]
   simp only[List.length_cons,List.length_nil]
   omega
  ·show(rest.eraseIdx j).length < rest.length
   rw[List.length_eraseIdx,if_pos hj]
   omega
  ·obtain⟨m,out'⟩:=y
   obtain⟨h1,h2⟩:=hy
   refine⟨h1,h2.trans ?_⟩
   rw[sQ hj,List.append_assoc]
   refine List.Perm.append_left _ ?_
   have:=((pz hj).map (·.1)).symm
   exact this
  ·rw[bG.L0.step,aY h,ai]
   congr 1
   funext j
   rw[aY (Nat.le_refl _),ai,dX (by omega) (by omega),ai,List.take_length]
 ·right
  obtain rfl:rest=[]:=List.eq_nil_of_length_eq_zero (by omega)
  refine⟨(out.length,out),⟨rfl,by simp⟩,fun kn kx=> ?_⟩
  rw[bG.L0.step,bq h,ao]
  rfl
theorem Cc{l l':List db}(h:l.Perm l')(hq:∀x∈l',xn x):pL (t:=cJ) pq l=pL (t:=cJ) pq l':=by
 have hq':∀x∈l,xn x:=fun x hx=>hq x (h.mem_iff.1 hx)
 have h1:=Ak s7 hq'
 exact uu s7 hq (fun x hx y hy a b=>s8 (hq x hx) (hq y hy) a b) ⟨h1.1.trans h,h1.2⟩
theorem bG.ok:bG.Ok:=by
 rintro⟨n,a,s⟩ ⟨hl,hq⟩
 have hl:a.length≤1000000:=hl
 rw[bG.eq]
 refine bG.L0.run (d:=(0,n,a,s,a,[])) ⟨rfl,by show 0+a.length≤_;omega⟩ ⟨(a.length,a.map (·.1)),by show a.length=(a.map (·.1)).length;simp,by simp⟩ fun y hy=> ?_
 obtain⟨m,out⟩:=y
 obtain⟨h1,hp⟩:=hy
 have h1:m=out.length:=h1
 subst h1
 have hp:out.Perm (a.map (·.1)):=by simpa using hp
 have hq':∀x∈a.map (·.1),xn x:=fun x hx=>by obtain⟨p,hp,rfl⟩:=List.mem_map.1 hx;exact hq p hp
 have hlen:out.length=a.length:=by rw[hp.length_eq,List.length_map]
 simp only[bG.L0.add]
 rw[yY.run (d:=(out.length,out)) ⟨rfl,by show out.length < _;omega,fun x hx=>hq' x (hp.mem_iff.1 hx),fun x hx y hy h1 h2=>s8 (hq' x (hp.mem_iff.1 hx)) (hq' y (hp.mem_iff.1 hy)) h1 h2⟩]
 simp only[ab,bG.add,bG.F]
 rw[Cc hp hq',hlen]
noncomputable def bG.E:=Entry.cC [none] bG.st bG.aB bG.add bG.F bG.out
noncomputable def bG.call:bG.D→Option bG.X:=bS bG.E bG.st
theorem bG.run:bM bG.call bG.aB bG.add bG.F:=dh (dd [.n,.d (.slice (.pair cJ gF)),.d (.slice eO)] fun _=>by kernel_rfl)
noncomputable def bG.sg:SG Tryz.prog:=⟨28,aX,bG.E,.fn 1 (by kernel_rfl) bG.ok (And.intro (.EO bG.L0.ok (by kernel_rfl)) trivial)⟩
abbrev bB.L0.D:=Int×Nat×(List (db×eX))×(List eg)×(List (db×eX))
def bB.L0.st:bB.L0.D→AS:=fun(sum,o0L,o1_2,o2_2,n10)=>⟨([.undef,.undef,.undef,.d ti sum]++bh 6 ([.ptr (.new 10 0) 0 [] 0]++bh 10 [])),[.obj 0 false (.pr (.eN (.dq 1) 0) (.pr (.bJ (.dq 2) 0 [] 0 0 o0L) (.d .unit ()))),.obj 0 true (.mp cJ gF o1_2),.obj 0 false (.vec 161 eO o2_2)],(bI 10 ([[.obj 0 false (.jz (.dq 1) 1 cJ gF n10 none)]]++bI 10 []))⟩
abbrev bB.L0.Y0:=Int
abbrev bB.L0.X0:=(Nat×(List (db×eX))×(List eg))×(Int)
def bB.L0.bw:bB.L0.X0→Exit×AS:=fun x=>(.exit 0,⟨([.undef,.undef,.undef,.d ti x.2]++bh 17 []),[.obj 0 false (.pr (.eN (.dq 1) 0) (.pr (.bJ (.dq 2) 0 [] 0 0 x.1.1) (.d .unit ()))),.obj 0 false (.mp cJ gF x.1.2.1),.obj 0 false (.vec 161 eO x.1.2.2)],(List.replicate 21 [])⟩)
abbrev bB.L0.X:=bB.L0.X0
abbrev bB.L0.Y:=bB.L0.Y0
def bB.L0.out:bB.L0.X→Out (Exit×AS):=fun x=> .ok (bB.L0.bw x)
def bB.L0.add:bB.L0.D→bB.L0.Y→bB.L0.X:=fun(sum,o0L,o1_2,o2_2,n10) y=>((o0L,o1_2,o2_2),y)
abbrev bB.D:=Nat×(List (db×eX))×(List eg)
def bB.st:bB.D→SA:=fun(o0baL,o1,o2)=>([.ptr (.dq 0) 0 [] 0],[.obj 0 false (.pr (.eN (.dq 1) 0) (.pr (.bJ (.dq 2) 0 [] 0 0 o0baL) (.d .unit ()))),.obj 0 false (.mp cJ gF o1),.obj 0 false (.vec 161 eO o2)])
abbrev bB.Y:=Int×Nat×(List (db×eX))×(List eg)
abbrev bB.X:=Int×Nat×(List (db×eX))×(List eg)
def bB.out:bB.X→bg:=fun x=>⟨.d ti x.1,[.obj 0 false (.pr (.eN (.dq 1) 0) (.pr (.bJ (.dq 2) 0 [] 0 0 x.2.1) (.d .unit ()))),.obj 0 false (.mp cJ gF x.2.2.1),.obj 0 false (.vec 161 eO x.2.2.2)],[]⟩
def bB.add:bB.D→bB.Y→bB.X:=fun(o0baL,o1,o2) y=>y
def bB.L0.aB:bB.L0.D→Prop:=fun(sum,_,_,_,rest)=>0≤sum∧(∀p∈rest,0≤p.2.1.1)∧sum+gW rest≤1000000000000000000
def bB.L0.F:bB.L0.D→bB.L0.Y:=fun(sum,_,_,_,rest)=>sum+gW rest
def bB.aB:bB.D→Prop:=fun(_,a,_)=>(∀p∈a,0≤p.2.1.1)∧gW a≤1000000000000000000
def bB.F:bB.D→bB.Y:=fun(n,a,s)=>(gW a,n,a,s)
theorem xw{l:List (db×eX)}(h:∀p∈l,0≤p.2.1.1):0≤gW l:=by
 induction l with
 |nil=>simp[gW]
 |cons p l ih=>
  rw[gK]
  have:=h p (List.mem_cons_self ..)
  have:=ih fun q hq=>h q (List.mem_cons_of_mem _ hq)
  omega
noncomputable def bB.G:dY:=fg (P:=Tryz.prog) []
noncomputable def bB.L0.E:=bQ.cC bB.L0.st bB.L0.aB bB.L0.add bB.L0.F bB.L0.out
noncomputable def bB.L0.call:bB.L0.D→Option bB.L0.X:=dm bB.L0.E bB.L0.st
noncomputable def bB.an:eI:= {loops:=j4 [(3,{bm:=[3,10],sites:=[10],Hs:=[10]})],outs:=j3 [(3,{bm:=[3]},{bm:=[2]})],fJ:=kT [(3,bB.L0.E)]}
noncomputable def bB.A:= @cY Tryz.prog bB.G bB.an 0 Tryz.f24 _ bB.st
abbrev bB.Ok:=cZ @bB.A bB.aB bB.add bB.F bB.out
noncomputable def bB.L0.R:= @bV Tryz.prog bB.G bB.an 0 Tryz.f24 0 _ bB.L0.st
abbrev bB.L0.Ok:=ez Tryz.prog bB.G bB.an 0 Tryz.f24 0 bB.L0.st bB.L0.aB bB.L0.add bB.L0.F bB.L0.out
theorem bB.L0.run:bM bB.L0.call bB.L0.aB bB.L0.add bB.L0.F:=eF (eD [.d ti,.n,.d (.slice (.pair cJ gF)),.d (.slice eO),.d (.slice (.pair cJ gF))] fun _=>by kernel_rfl)
theorem bB.L0.aD:FG @bB.L0.R bB.L0.st bB.L0.aB bB.L0.add bB.L0.F bB.L0.bw bB.L0.Ok:=Hb
theorem bB.L0.step{R:Type}(sum:Int)(o0L:Nat)(o1_2:(List (db×eX)))(o2_2:(List eg))(n10:(List (db×eX)))(kn:AS→Option R)(kx:Exit→AS→Option R):bB.L0.R (sum,o0L,o1_2,o2_2,n10) kn kx=
  aK (decide (0 < (List.length n10))) (
   Cl (List.length n10) fun j1=>
   kn (bB.L0.st ((bR .i64 sum (kF cJ gF n10 j1).2.1.1),o0L,o1_2,o2_2,(List.eraseIdx n10 j1)))) (
   kx (bB.L0.bw ((o0L,o1_2,o2_2),sum)).1 (bB.L0.bw ((o0L,o1_2,o2_2),sum)).2):=by kernel_rfl
theorem bB.eq{R:Type}(o0baL:Nat)(o1:(List (db×eX)))(o2:(List eg))(k:bg→Option R):bB.A (o0baL,o1,o2) k=
 al (bB.L0.call ((0:Int),o0baL,o1,o2,o1)) fun x2=>
 k (bB.out (x2.2,x2.1.1,x2.1.2.1,x2.1.2.2)):=by kernel_rfl
theorem bB.L0.ok:bB.L0.Ok:=by
 refine bB.L0.aD (fun(_,_,_,_,rest)=>rest.length) ?_
 rintro⟨sum,o,a,s,rest⟩ ⟨h0,hn,hm⟩
 have h0:0≤sum:=h0
 have hm:sum+gW rest≤1000000000000000000:=hm
 by_cases h:0 < rest.length
 ·left
  have key:∀j,(hj:j < rest.length)→rest[j].2.1.1+gW (rest.eraseIdx j)=gW rest:=fun j hj=>by rw[←gK];exact qW (pz hj).symm
  refine⟨rest.length,fun j=>(bR .i64 sum (kF cJ gF rest j).2.1.1,o,a,s,rest.eraseIdx j),h,fun j hj=> ?_,fun kn kx=> ?_⟩
  ·have hk:=key j hj
   have hx:=hn _ (List.getElem_mem hj)
   have hr:∀p∈rest.eraseIdx j,0≤p.2.1.1:=fun p hp=>hn p ((List.eraseIdx_sublist rest j).subset hp)
   have:=xw hr
   have e1:bR .i64 sum (kF cJ gF rest j).2.1.1=sum+rest[j].2.1.1:=by rw[sQ hj];exact fY (by omega) (by omega)
   refine⟨⟨?_,hr,?_⟩,?_,?_⟩
   ·show 0≤bR .i64 sum _;rw[e1];omega
   ·show bR .i64 sum _+gW (rest.eraseIdx j)≤_;rw[e1];omega
   ·show(rest.eraseIdx j).length < rest.length
    rw[List.length_eraseIdx,if_pos hj];omega
   ·simp only[bB.L0.add,bB.L0.F,e1]
    rw[←hk,Int.add_assoc]
  ·rw[bB.L0.step,aY h,ai]
 ·right
  obtain rfl:rest=[]:=List.eq_nil_of_length_eq_zero (by omega)
  intro T kn kx
  rw[bB.L0.step,bq h,ao]
  simp only[bB.L0.add,bB.L0.F,gW,List.map_nil,List.sum_nil,Int.add_zero]
theorem bB.ok:bB.Ok:=by
 rintro⟨n,a,s⟩ ⟨hn,hm⟩
 have hm:gW a≤_:=hm
 rw[bB.eq,bB.L0.run (d:=(0,n,a,s,a)) ⟨Int.le_refl _,hn,by show 0+gW a≤_;omega⟩]
 simp only[ab,bB.L0.add,bB.L0.F,bB.add,bB.F,Int.zero_add]
noncomputable def bB.E:=Entry.cC [none] bB.st bB.aB bB.add bB.F bB.out
noncomputable def bB.call:bB.D→Option bB.X:=bS bB.E bB.st
theorem bB.run:bM bB.call bB.aB bB.add bB.F:=dh (dd [.n,.d (.slice (.pair cJ gF)),.d (.slice eO)] fun _=>by kernel_rfl)
noncomputable def bB.sg:SG Tryz.prog:=⟨24,aX,bB.E,.fn 1 (by kernel_rfl) bB.ok (And.intro (.cC bB.L0.ok (by kernel_rfl)) trivial)⟩
abbrev dQ.D:=Nat×(List eg)
def dQ.st:dQ.D→SA:=fun(sL,o0)=>([.bJ (.dq 0) 0 [] 0 0 sL],[.obj 0 false (.vec 161 eO o0)])
abbrev dQ.Y:=Nat×(List eg)
abbrev dQ.X:=((List eg))×(Nat×(List eg))
def dQ.out:dQ.X→bg:=fun x=>⟨.bJ (.new 0 0) 0 [] 0 0 x.2.1,[.obj 0 false (.vec 161 eO x.1)],[.obj 0 false (.vec 161 eO x.2.2)]⟩
def dQ.add:dQ.D→dQ.Y→dQ.X:=fun(sL,o0) y=>(o0,y)
def dQ.aB:dQ.D→Prop:=fun(n,l)=>n≤l.length∧l.length≤1000000
def dQ.F:dQ.D→dQ.Y:=fun(n,l)=>((l.take n).length,l.take n)
noncomputable def dQ.G:dY:=fg (P:=Tryz.prog) []
noncomputable def dQ.an:eI:= {bK:=[5],iA:=[⟨2,[],5,148⟩]}
noncomputable def dQ.A:= @cY Tryz.prog dQ.G dQ.an 0 Tryz.f90 _ dQ.st
abbrev dQ.Ok:=cZ @dQ.A dQ.aB dQ.add dQ.F dQ.out
theorem dQ.eq{R:Type}(sL:Nat)(o0:(List eg))(k:bg→Option R):dQ.A (sL,o0) k=
  aK (decide (0 < sL)) (
   aK (decide (0=0∧(0+sL)≤(List.length o0))) (
   aK (dp (0+(List.length (cut o0 0 sL))) 48) (
   k (dQ.out (o0,((0+(List.length (cut o0 0 sL))),((List.take 0 (List.replicate 0 (([]:List ze),(([]:List db),()))))++(cut o0 0 sL)))))) none) none) (
   nd (
    k (dQ.out (o0,(0,([]:List eg))))) (
    aK (decide (0=0∧(0+sL)≤(List.length o0))) (
    aK (dp (0+(List.length (cut o0 0 sL))) 48) (
    k (dQ.out (o0,((0+(List.length (cut o0 0 sL))),((List.take 0 (List.replicate 0 (([]:List ze),(([]:List db),()))))++(cut o0 0 sL)))))) none) none)):=by kernel_rfl
theorem dQ.ok:dQ.Ok:=by
 rintro⟨n,l⟩ ⟨h1,h2⟩
 have h1:n≤l.length:=h1
 have h2:l.length≤1000000:=h2
 have ec:cut l 0 n=l.take n:=by simp[cut]
 have ht:(l.take n).length≤1000000:=by rw[List.length_take];omega
 have hr:dp (l.take n).length 48=true:=dX (by omega) (by omega)
 rw[dQ.eq]
 simp only[Nat.zero_add,ec,hr,ai,List.take_zero,List.nil_append,true_and,aY h1,dQ.add,dQ.F]
 by_cases h:0 < n
 ·simp only[aY h,ai]
 ·have:n=0:=by omega
  subst this
  simp only[List.take_zero,List.length_nil,Nat.zero_le,decide_true,ai,ni,bq (Nat.lt_irrefl 0),ao]
noncomputable def dQ.E:=Entry.cC [none] dQ.st dQ.aB dQ.add dQ.F dQ.out
noncomputable def dQ.call:dQ.D→Option dQ.X:=bS dQ.E dQ.st
theorem dQ.run:bM dQ.call dQ.aB dQ.add dQ.F:=dh (dd [.n,.d (.slice eO)] fun _=>by kernel_rfl)
noncomputable def dQ.sg:SG Tryz.prog:=⟨90,vR,dQ.E,.fn 0 (by kernel_rfl) dQ.ok trivial⟩
abbrev bl.L0.D:=Nat×(List (db×eX))×(List eg)×(List (db×eX))×(List eg)×Nat×(List (db×eX))
def bl.L0.st:bl.L0.D→AS:=fun(o0L,o1_2,o2_2,n6,n11,n13L,n18)=>⟨([.undef,.undef,.undef,.ptr (.new 13 0) 0 [] 0]++bh 14 ([.ptr (.new 18 0) 0 [] 0]++bh 12 [])),[.obj 0 false (.pr (.eN (.dq 1) 0) (.pr (.bJ (.dq 2) 0 [] 0 0 o0L) (.d .unit ()))),.obj 0 true (.mp cJ gF o1_2),.obj 0 false (.vec 161 eO o2_2)],(bI 6 ([[.obj 0 false (.mp cJ gF n6)]]++bI 4 ([[.obj 0 false (.vec 161 eO n11)],[],[.obj 0 false (.pr (.eN (.new 6 0) 0) (.pr (.bJ (.new 11 0) 0 [] 0 0 n13L) (.d .unit ())))]]++bI 4 ([[.obj 0 false (.jz (.dq 1) 1 cJ gF n18 none)]]++bI 12 []))))⟩
abbrev bl.L0.Y0:=(List (db×eX))
abbrev bl.L0.X0:=(Nat×(List (db×eX))×(List eg)×(List eg)×Nat)×((List (db×eX)))
def bl.L0.bw:bl.L0.X0→Exit×AS:=fun x=>(.exit 0,⟨([.undef,.undef,.undef,.ptr (.new 13 0) 0 [] 0]++bh 27 []),[.obj 0 false (.pr (.eN (.dq 1) 0) (.pr (.bJ (.dq 2) 0 [] 0 0 x.1.1) (.d .unit ()))),.obj 0 false (.mp cJ gF x.1.2.1),.obj 0 false (.vec 161 eO x.1.2.2.1)],(bI 6 ([[.obj 0 false (.mp cJ gF x.2)]]++bI 4 ([[.obj 0 false (.vec 161 eO x.1.2.2.2.1)],[],[.obj 0 false (.pr (.eN (.new 6 0) 0) (.pr (.bJ (.new 11 0) 0 [] 0 0 x.1.2.2.2.2) (.d .unit ())))]]++bI 17 [])))⟩)
abbrev bl.L0.X:=bl.L0.X0
abbrev bl.L0.Y:=bl.L0.Y0
def bl.L0.out:bl.L0.X→Out (Exit×AS):=fun x=> .ok (bl.L0.bw x)
def bl.L0.add:bl.L0.D→bl.L0.Y→bl.L0.X:=fun(o0L,o1_2,o2_2,n6,n11,n13L,n18) y=>((o0L,o1_2,o2_2,n11,n13L),y)
abbrev bl.D:=Nat×(List (db×eX))×(List eg)
def bl.st:bl.D→SA:=fun(o0baL,o1,o2)=>([.ptr (.dq 0) 0 [] 0],[.obj 0 false (.pr (.eN (.dq 1) 0) (.pr (.bJ (.dq 2) 0 [] 0 0 o0baL) (.d .unit ()))),.obj 0 false (.mp cJ gF o1),.obj 0 false (.vec 161 eO o2)])
abbrev bl.Y:=Nat×(List (db×eX))×(List eg)×Nat×(List (db×eX))×(List eg)
abbrev bl.X:=Nat×(List (db×eX))×(List eg)×Nat×(List (db×eX))×(List eg)
def bl.out:bl.X→bg:=fun x=>⟨.ptr (.new 0 0) 0 [] 0,[.obj 0 false (.pr (.eN (.dq 1) 0) (.pr (.bJ (.dq 2) 0 [] 0 0 x.1) (.d .unit ()))),.obj 0 false (.mp cJ gF x.2.1),.obj 0 false (.vec 161 eO x.2.2.1)],[.obj 0 false (.pr (.eN (.new 0 1) 0) (.pr (.bJ (.new 0 2) 0 [] 0 0 x.2.2.2.1) (.d .unit ()))),.obj 0 false (.mp cJ gF x.2.2.2.2.1),.obj 0 false (.vec 161 eO x.2.2.2.2.2)]⟩
def bl.add:bl.D→bl.Y→bl.X:=fun(o0baL,o1,o2) y=>y
theorem mf{β:Type}{kt:Ty}(hc:kt.comp=true){x:kt.den}{v:β}:∀ {l:List (kt.den×β)},x ∉ l.map (·.1)→fO kt x v l=l++ [(x,v)]
 |[],_=>rfl
 |p::l,h=>by
  rw[pH]
  have h1:¬kt.beq x p.1=true:=fun e=>h (by rw[beq_eq kt _ _ hc e];simp)
  rw[if_neg h1,mf hc fun e=>h (by simp[e])]
  rfl
def bl.L0.aB:bl.L0.D→Prop:=fun(_,_,_,m,_,_,rest)=>((m++rest).map (·.1)).Nodup
noncomputable def bl.L0.F:bl.L0.D→bl.L0.Y:=fun(_,_,_,m,_,_,rest)=>kS (m++rest)
def bl.aB:bl.D→Prop:=fun(n,a,s)=>n≤s.length∧s.length≤1000000∧(a.map (·.1)).Nodup
noncomputable def bl.F:bl.D→bl.Y:=fun(n,a,s)=>(n,a,s,(s.take n).length,kS a,s.take n)
noncomputable def bl.G:dY:=fg (P:=Tryz.prog) [dQ.sg]
noncomputable def bl.L0.E:=bQ.cC bl.L0.st bl.L0.aB bl.L0.add bl.L0.F bl.L0.out
noncomputable def bl.L0.call:bl.L0.D→Option bl.L0.X:=dm bl.L0.E bl.L0.st
noncomputable def bl.an:eI:= {bK:=[13],loops:=j4 [(3,{bm:=[3,18],sites:=[6,11,13,18],Hs:=[18]})],outs:=j3 [(3,{bm:=[3],sites:=[6,11,13],FU:=[(.new 6 0)]},{bm:=[2]})],fJ:=kT [(3,bl.L0.E)]}
noncomputable def bl.A:= @cY Tryz.prog bl.G bl.an 0 Tryz.f39 _ bl.st
abbrev bl.Ok:=cZ @bl.A bl.aB bl.add bl.F bl.out
noncomputable def bl.L0.R:= @bV Tryz.prog bl.G bl.an 0 Tryz.f39 0 _ bl.L0.st
abbrev bl.L0.Ok:=ez Tryz.prog bl.G bl.an 0 Tryz.f39 0 bl.L0.st bl.L0.aB bl.L0.add bl.L0.F bl.L0.out
theorem bl.L0.run:bM bl.L0.call bl.L0.aB bl.L0.add bl.L0.F:=eF (eD [.n,.d (.slice (.pair cJ gF)),.d (.slice eO),.d (.slice (.pair cJ gF)),.d (.slice eO),.n,.d (.slice (.pair cJ gF))] fun _=>by kernel_rfl)
theorem bl.L0.aD:FG @bl.L0.R bl.L0.st bl.L0.aB bl.L0.add bl.L0.F bl.L0.bw bl.L0.Ok:=Hb
theorem bl.L0.step{R:Type}(o0L:Nat)(o1_2:(List (db×eX)))(o2_2:(List eg))(n6:(List (db×eX)))(n11:(List eg))(n13L:Nat)(n18:(List (db×eX)))(kn:AS→Option R)(kx:Exit→AS→Option R):bl.L0.R (o0L,o1_2,o2_2,n6,n11,n13L,n18) kn kx=
  aK (decide (0 < (List.length n18))) (
   Cl (List.length n18) fun j1=>
   kn (bl.L0.st (o0L,o1_2,o2_2,(fO cJ (kF cJ gF n18 j1).1 (kF cJ gF n18 j1).2 n6),n11,n13L,(List.eraseIdx n18 j1)))) (
   kx (bl.L0.bw ((o0L,o1_2,o2_2,n11,n13L),(kS n6))).1 (bl.L0.bw ((o0L,o1_2,o2_2,n11,n13L),(kS n6))).2):=by kernel_rfl
theorem bl.eq{R:Type}(o0baL:Nat)(o1:(List (db×eX)))(o2:(List eg))(k:bg→Option R):bl.A (o0baL,o1,o2) k=
 al (dQ.call (o0baL,o2)) fun x1=>
 al (bl.L0.call (o0baL,o1,x1.1,([]:List (db×eX)),x1.2.2,x1.2.1,o1)) fun x3=>
 k (bl.out (x3.1.1,x3.1.2.1,x3.1.2.2.1,x3.1.2.2.2.2,x3.2,x3.1.2.2.2.1)):=by kernel_rfl
theorem gr:cJ.comp=true:=rfl
theorem bl.L0.ok:bl.L0.Ok:=by
 refine bl.L0.aD (fun(_,_,_,_,_,_,rest)=>rest.length) ?_
 rintro⟨n,a,s,m,u,k0,rest⟩ hn
 have hn:((m++rest).map (·.1)).Nodup:=hn
 by_cases h:0 < rest.length
 ·left
  have e1:∀j,j < rest.length→fO cJ (kF cJ gF rest j).1 (kF cJ gF rest j).2 m=m++ [kF cJ gF rest j]:=fun j hj=>by
   rw[mf gr]
   intro hm
   rw[List.map_append,List.nodup_append]at hn
   exact hn.2.2 _ hm _ (List.mem_map.2 ⟨_,List.getElem_mem hj,by rw[sQ hj]⟩) rfl
  have e2:∀j,j < rest.length→(m++ [kF cJ gF rest j]++rest.eraseIdx j).Perm (m++rest):=fun j hj=>by
   rw[List.append_assoc,sQ hj]
   exact List.Perm.append_left _ (pz hj).symm
  refine⟨rest.length,fun j=>(n,a,s,fO cJ (kF cJ gF rest j).1 (kF cJ gF rest j).2 m,u,k0,rest.eraseIdx j),h,fun j hj=>⟨?_,?_,?_⟩,fun kn kx=> ?_⟩
  ·show((fO cJ (kF cJ gF rest j).1 (kF cJ gF rest j).2 m++rest.eraseIdx j).map (·.1)).Nodup
   rw[e1 j hj]
   exact(((e2 j hj).map _).nodup_iff).2 hn
  ·show(rest.eraseIdx j).length < rest.length
   rw[List.length_eraseIdx,if_pos hj];omega
  ·simp only[bl.L0.add,bl.L0.F,e1 j hj]
   rw[Bu (e2 j hj)]
  ·rw[bl.L0.step,aY h,ai]
 ·right
  obtain rfl:rest=[]:=List.eq_nil_of_length_eq_zero (by omega)
  intro T kn kx
  rw[bl.L0.step,bq h,ao]
  simp only[bl.L0.add,bl.L0.F,List.append_nil]
theorem bl.ok:bl.Ok:=by
 rintro⟨n,a,s⟩ ⟨h1,h2,h3⟩
 have h1:n≤s.length:=h1
 have h2:s.length≤1000000:=h2
 rw[bl.eq,dQ.run (d:=(n,s)) ⟨h1,h2⟩]
 simp only[ab,dQ.add,dQ.F]
 rw[bl.L0.run (d:=(n,a,s,[],s.take n,(s.take n).length,a)) h3]
 simp only[ab,bl.L0.add,bl.L0.F,bl.add,bl.F,List.nil_append]
noncomputable def bl.E:=Entry.cC [none] bl.st bl.aB bl.add bl.F bl.out
noncomputable def bl.call:bl.D→Option bl.X:=bS bl.E bl.st
theorem bl.run:bM bl.call bl.aB bl.add bl.F:=dh (dd [.n,.d (.slice (.pair cJ gF)),.d (.slice eO)] fun _=>by kernel_rfl)
noncomputable def bl.sg:SG Tryz.prog:=⟨39,aX,bl.E,.fn 1 (by kernel_rfl) bl.ok (And.intro (.cC bl.L0.ok (by kernel_rfl)) trivial)⟩
set_option synthInstance.maxSize 5000
abbrev cz.L0.D:=fx×Nat×Nat×Int×Int×Int×(List iw)
def cz.L0.st:cz.L0.D→AS:=fun(o_2,lL,t10L,t11,t12,n2,n9)=>⟨([.undef,.eC eP o_2,.ptr (.new 2 0) 0 [] 0,.bJ (.new 9 0) 0 [] 0 0 lL]++bh 6 ([.bJ (.new 9 0) 0 [] 0 0 t10L,.d ti t11,.d ti t12]++bh 17 [])),[],([[],[],[.obj 0 false (.pr (.d ti n2) (.pr (.pr (.cV) (.d .unit ())) (.d .unit ())))]]++bI 6 ([[.obj 0 false (.vec 29 gA n9)]]++bI 20 []))⟩
abbrev cz.L0.Y0:=(List iw)×(List iw)
abbrev cz.L0.X0:=(fx×Int)×((List iw)×(List iw))
def cz.L0.bw:cz.L0.X0→Exit×AS:=fun x=>(.exit 0,⟨([.undef,.eC eP x.1.1,.ptr (.new 2 0) 0 [] 0,.d (.slice gA) x.2.1]++bh 26 []),[],([[],[],[.obj 0 false (.pr (.d ti x.1.2) (.pr (.pr (.cV) (.d .unit ())) (.d .unit ())))]]++bI 6 ([[.obj 0 true (.vec 29 gA x.2.2)]]++bI 20 []))⟩)
abbrev cz.L0.X:=cz.L0.X0
abbrev cz.L0.Y:=cz.L0.Y0
def cz.L0.out:cz.L0.X→Out (Exit×AS):=fun x=> .ok (cz.L0.bw x)
def cz.L0.add:cz.L0.D→cz.L0.Y→cz.L0.X:=fun(o_2,lL,t10L,t11,t12,n2,n9) y=>((o_2,n2),y)
abbrev cz.D:=fx
def cz.st:cz.D→SA:=fun o=>([.d eP o],[])
abbrev cz.Y:=fx
abbrev cz.X:=fx
def cz.out:cz.X→bg:=fun x=>⟨.d eP x,[],[]⟩
def cz.add:cz.D→cz.Y→cz.X:=fun o y=>y
def H0(l:Lk):Prop:=l.1.length≤1000∧∀b∈l.1,b.1.length≤1000000
def cz.L0.aB:cz.L0.D→Prop:=fun(_,n,m,t,i,_,l)=>(l.length≤1000∧∀b∈l,b.1.length≤1000000)∧∃k:Nat,k≤l.length∧i=k∧n=l.length∧m=l.length∧t=l.length
def cz.L0.F:cz.L0.D→cz.L0.Y:=fun(_,_,_,_,_,_,l)=>(l,l)
def cz.aB:cz.D→Prop:=fun o=>H0 o.2.1
def cz.F:cz.D→cz.Y:=fun o=>o
noncomputable def cz.G:dY:=fg (P:=Tryz.prog) [fa.sg,cH.sg]
noncomputable def cz.L0.E:=bQ.cC cz.L0.st cz.L0.aB cz.L0.add cz.L0.F cz.L0.out
noncomputable def cz.L0.call:cz.L0.D→Option cz.L0.X:=dm cz.L0.E cz.L0.st
noncomputable def cz.an:eI:= {loops:=j4 [(3,{bm:=[1,2,3,10,11,12],sites:=[2,9]})],outs:=j3 [(3,{bm:=[1,2,3],sites:=[2,9],data:=[(3,(.slice gA))]},{bm:=[2]})],fJ:=kT [(3,cz.L0.E)],res:=[some eP]}
noncomputable def cz.A:= @cY Tryz.prog cz.G cz.an 0 Tryz.f78 _ cz.st
abbrev cz.Ok:=cZ @cz.A cz.aB cz.add cz.F cz.out
noncomputable def cz.L0.R:= @bV Tryz.prog cz.G cz.an 0 Tryz.f78 0 _ cz.L0.st
abbrev cz.L0.Ok:=ez Tryz.prog cz.G cz.an 0 Tryz.f78 0 cz.L0.st cz.L0.aB cz.L0.add cz.L0.F cz.L0.out
theorem cz.L0.run:bM cz.L0.call cz.L0.aB cz.L0.add cz.L0.F:=eF (eD [.d eP,.n,.n,.d ti,.d ti,.d ti,.d (.slice gA)] fun _=>by kernel_rfl)
theorem cz.L0.aD:fP @cz.L0.R cz.L0.st cz.L0.aB cz.L0.add cz.L0.F cz.L0.bw cz.L0.Ok:=fR
theorem cz.L0.step{R:Type}(o_2:fx)(lL:Nat)(t10L:Nat)(t11:Int)(t12:Int)(n2:Int)(n9:(List iw))(kn:AS→Option R)(kx:Exit→AS→Option R):cz.L0.R (o_2,lL,t10L,t11,t12,n2,n9) kn kx=
  aK ((fZ t12 t11)) (
   aK (eH t12 ((t10L:Nat):Int)) (
   aK (decide ((0+(Int.toNat t12)) < (List.length n9))) (
   aK (decide ((((0+(Int.toNat t12))*4)+0)=(0+((Int.toNat t12)*4)))) (
   al (cH.call (nth gA n9 (0+(Int.toNat t12))).1) fun x1=>
   aK (eH t12 ((lL:Nat):Int)) (
   aK (decide ((0+(Int.toNat t12)) < (List.length n9))) (
   aK (decide ((((0+(Int.toNat t12))*4)+0)=((0+((Int.toNat t12)*4))+0))) (
   aK (decide ((0+(Int.toNat t12)) < (List.length n9))) (
   kn (cz.L0.st (o_2,lL,t10L,t11,(bR .i64 t12 (1:Int)),n2,(List.set n9 (0+(Int.toNat t12)) (x1,(nth gA n9 (0+(Int.toNat t12))).2))))) none) none) none) none) none) none) none) (
   aK (decide (0=0∧(0+lL)≤(List.length n9))) (
   kx (cz.L0.bw ((o_2,n2),((cut n9 0 lL),n9))).1 (cz.L0.bw ((o_2,n2),((cut n9 0 lL),n9))).2) none):=by kernel_rfl
theorem cz.eq{R:Type}(o:fx)(k:bg→Option R):cz.A o k=
 al (fa.call o.2.1.1) fun x1=>
 al (cz.L0.call (o,x1.1,x1.1,((x1.1:Nat):Int),(0:Int),(0:Int),x1.2)) fun x3=>
 k (cz.out (x3.1.1.1,((x3.2.1,()),()))):=by kernel_rfl
theorem cz.L0.ok:cz.L0.Ok:=by
 refine cz.L0.aD (fun(_,_,_,_,i,_,l)=>l.length - i.toNat) ?_
 rintro⟨o,n,m,t,i,u,l⟩ ⟨⟨hlen,hx⟩,k,hk,rfl,rfl,rfl,rfl⟩
 have hlen:l.length≤1000:=hlen
 have hk:k≤l.length:=hk
 by_cases h:k < l.length
 ·left
  have n1:nth gA l k=l[k]:=cG (t:=gA) h
  have hs:l.set k l[k]=l:=List.set_getElem_self h
  have e:=hx _ (List.getElem_mem h)
  refine⟨(o,l.length,l.length,(l.length:Int),((k+1:Nat):Int),u,l),⟨⟨hlen,hx⟩,k+1,by omega,rfl,rfl,rfl,rfl⟩,by simp only[Int.toNat_natCast];omega,rfl,fun kn kx=> ?_⟩
  rw[cz.L0.step,bu (by omega),bz (by omega) (by omega)]
  simp only[Int.toNat_natCast,Nat.zero_add,Nat.add_zero,ai,aY h,decide_true,n1]
  rw[cH.run (d:=l[k].1) e]
  simp only[ab,cH.add,cH.F]
  rw[N.kO (by omega)]
  exact congrArg (fun z=>kn (cz.L0.st (_,_,_,_,_,_,z))) hs
 ·right
  obtain rfl:k=l.length:=by omega
  intro R kn kx
  rw[cz.L0.step,bk (by omega),ao,aY (by omega),ai,e7 rfl]
  rfl
theorem cz.ok:cz.Ok:=by
 rintro⟨a,⟨l,u⟩,v⟩ ⟨h1,h2⟩
 have h1:l.length≤1000:=h1
 rw[cz.eq,fa.run (d:=l) (by show l.length≤_;omega)]
 simp only[ab,fa.add,fa.F]
 rw[cz.L0.run (d:=((a,(l,u),v),l.length,l.length,(l.length:Int),0,0,l)) ⟨⟨h1,h2⟩,0,Nat.zero_le _,rfl,rfl,rfl,rfl⟩]
 rfl
noncomputable def cz.E:=Entry.cC [some eP] cz.st cz.aB cz.add cz.F cz.out
noncomputable def cz.call:cz.D→Option cz.X:=bS cz.E cz.st
theorem cz.run:bM cz.call cz.aB cz.add cz.F:=dh (dd [.d eP] fun _=>by kernel_rfl)
noncomputable def cz.sg:SG Tryz.prog:=⟨78,aX,cz.E,.fn 1 (by kernel_rfl) cz.ok (And.intro (.cC cz.L0.ok (by kernel_rfl)) trivial)⟩
abbrev bo.L0.D:=Int×(List fx)×Int×Int×(List (db×eX))
def bo.L0.st:bo.L0.D→AS:=fun(sum,t13,t14,t15,n10)=>⟨([.undef,.undef,.undef,.ptr (.new 12 0) 0 [] 0,.d ti sum]++bh 8 ([.d (.slice eP) t13,.d ti t14,.d ti t15]++bh 35 [])),[],(bI 10 ([[.obj 0 false (.mp cJ gF n10)],[],[.obj 0 false (.pr (.eN (.new 10 0) 0) (.pr (.cV) (.d .unit ())))]]++bI 38 []))⟩
abbrev bo.L0.Y0:=Unit
abbrev bo.L0.X0:=Unit
def bo.L0.bw:bo.L0.X0→Exit×AS:=fun x=>(.ret,⟨([.undef,.undef,.jM]++bh 48 []),[],(List.replicate 51 [])⟩)
abbrev bo.L0.Y1:=(List (db×eX))
abbrev bo.L0.X1:=(List (db×eX))
def bo.L0.fq:bo.L0.X1→Exit×AS:=fun x=>(.exit 0,⟨([.undef,.undef,.undef,.ptr (.new 12 0) 0 [] 0]++bh 47 []),[],(bI 10 ([[.obj 0 false (.mp cJ gF x)],[],[.obj 0 false (.pr (.eN (.new 10 0) 0) (.pr (.cV) (.d .unit ())))]]++bI 38 []))⟩)
abbrev bo.L0.X:=(bo.L0.X0)⊕(bo.L0.X1)
abbrev bo.L0.Y:=(bo.L0.Y0)⊕(bo.L0.Y1)
def bo.L0.out:bo.L0.X→Out (Exit×AS):=fun x=> .br x.isLeft (.get x.getLeft? fun a=> .ok (bo.L0.bw a)) (.get x.getRight? fun b=> .ok (bo.L0.fq b))
def bo.L0.add:bo.L0.D→bo.L0.Y→bo.L0.X:=fun(sum,t13,t14,t15,n10) y=>match y with | .inl y=> .inl y | .inr z=> .inr (z)
abbrev bo.D:=(List fx)
def bo.st:bo.D→SA:=fun outs=>([.d (.slice eP) outs],[])
abbrev bo.Y:=(Unit)⊕((List (db×eX))×(List eg))
abbrev bo.X:=(Unit)⊕((List (db×eX))×(List eg))
def bo.out:bo.X→bg:=fun x=>match x with | .inl x=>⟨.jM,[],[]⟩ | .inr x=>⟨.ptr (.new 0 0) 0 [] 0,[],[.obj 0 false (.pr (.eN (.new 0 1) 0) (.pr (.bJ (.new 0 2) 0 [] 0 0 0) (.d .unit ()))),.obj 0 false (.mp cJ gF x.1),.obj 0 false (.vec 161 eO x.2)]⟩
def bo.add:bo.D→bo.Y→bo.X:=fun outs y=>match y with | .inl y=> .inl y | .inr y=> .inr y
def rP(k:Nat)(o:fx):db×eX:=((List.replicate 32 (0:Int),((k:Int),())),(o,((0:Int),())))
def nj(sum:Int)(o:fx):Bool:=jE o.2.1 && decide (0≤o.1∧o.1≤1125899906842624 - sum)
def sy(sum:Int)(k:Nat):List fx→Option (List (db×eX))
 |[]=>some []
 |o::l=>match nj sum o with | true=>(sy (sum+o.1) (k+1) l).map (rP k o:: ·) | false=>none
def wU(outs:List fx):Option (List (db×eX)):=if outs.length≤256 then sy 0 0 outs else none
def zf(o:fx):Prop:=Ck o.2.1∧o.2.1.1.length≤9223372036854775807∧o.1≤9223372036854775807
def bo.L0.aB:bo.L0.D→Prop:=fun(sum,outs,n,i,a)=>(∀o∈outs,zf o)∧outs.length≤256∧0≤sum∧sum≤1125899906842624∧∃k:Nat,k≤outs.length∧i=k∧n=outs.length∧∀p∈a,p.1.2.1 < (k:Int)
def bo.L0.F:bo.L0.D→bo.L0.Y:=fun(sum,outs,_,i,a)=>match sy sum i.toNat (outs.drop i.toNat) with | none=> .inl () | some r=> .inr (a++r)
def bo.aB:bo.D→Prop:=fun outs=>∀o∈outs,zf o
def bo.F:bo.D→bo.Y:=fun outs=>match wU outs with | none=> .inl () | some r=> .inr (r,[])
noncomputable def bo.G:dY:=fg (P:=Tryz.prog) [aM.sg,cz.sg]
noncomputable def bo.L0.E:=bQ.cC bo.L0.st bo.L0.aB bo.L0.add bo.L0.F bo.L0.out
noncomputable def bo.L0.call:bo.L0.D→Option bo.L0.X:=dm bo.L0.E bo.L0.st
noncomputable def bo.an:eI:= {bK:=[12],loops:=j4 [(5,{bm:=[3,4,13,14,15],sites:=[10,12]})],outs:=j3 [(5,{bm:=[3],sites:=[10,12]},{bm:=[2]})],fJ:=kT [(5,bo.L0.E)],iA:=[⟨2,[.snd,.fst],0,148⟩]}
noncomputable def bo.A:= @cY Tryz.prog bo.G bo.an 0 Tryz.f27 _ bo.st
abbrev bo.Ok:=cZ @bo.A bo.aB bo.add bo.F bo.out
noncomputable def bo.L0.R:= @bV Tryz.prog bo.G bo.an 0 Tryz.f27 0 _ bo.L0.st
abbrev bo.L0.Ok:=ez Tryz.prog bo.G bo.an 0 Tryz.f27 0 bo.L0.st bo.L0.aB bo.L0.add bo.L0.F bo.L0.out
theorem bo.L0.run:bM bo.L0.call bo.L0.aB bo.L0.add bo.L0.F:=eF (eD [.d ti,.d (.slice eP),.d ti,.d ti,.d (.slice (.pair cJ gF))] fun _=>by kernel_rfl)
theorem bo.L0.aD:kP @bo.L0.R bo.L0.st bo.L0.aB bo.L0.add bo.L0.F bo.L0.out bo.L0.Ok:=lp
theorem bo.L0.step{R:Type}(sum:Int)(t13:(List fx))(t14:Int)(t15:Int)(n10:(List (db×eX)))(kn:AS→Option R)(kx:Exit→AS→Option R):bo.L0.R (sum,t13,t14,t15,n10) kn kx=
  aK ((fZ t15 t14)) (
   aK (eH t15 (((List.length t13):Nat):Int)) (
   al (aM.call (nth eP t13 (Int.toNat t15)).2.1) fun x1=>
   aK ((!x1)) (
    kx (bo.L0.bw ()).1 (bo.L0.bw ()).2) (
    aK ((fZ (nth eP t13 (Int.toNat t15)).1 (0:Int))) (
     kx (bo.L0.bw ()).1 (bo.L0.bw ()).2) (
     aK ((mJ (nth eP t13 (Int.toNat t15)).1 (cQ .i64 (1125899906842624:Int) sum))) (
      kx (bo.L0.bw ()).1 (bo.L0.bw ()).2) (
      al (cz.call (nth eP t13 (Int.toNat t15))) fun x2=>
      kn (bo.L0.st ((bR .i64 sum (nth eP t13 (Int.toNat t15)).1),t13,t14,(bR .i64 t15 (1:Int)),(fO cJ ((List.replicate 32 (0:Int)),(t15,())) (x2,((0:Int),())) n10))))))) none) (
   kx (bo.L0.fq n10).1 (bo.L0.fq n10).2):=by kernel_rfl
theorem bo.eq{R:Type}(outs:(List fx))(k:bg→Option R):bo.A outs k=
  aK ((mJ (((List.length outs):Nat):Int) (256:Int))) (
   k (bo.out (.inl ()))) (
   al (bo.L0.call ((0:Int),outs,(((List.length outs):Nat):Int),(0:Int),([]:List (db×eX)))) fun x3=>
   aK (x3.isLeft) (
    al (x3.getLeft?) fun a4=>
    k (bo.out (.inl ()))) (
    al (x3.getRight?) fun b5=>
    k (bo.out (.inr (b5,([]:List eg)))))):=by kernel_rfl
theorem bo.L0.ok:bo.L0.Ok:=by
 refine bo.L0.aD (fun(_,outs,_,i,_)=>outs.length - i.toNat) ?_
 rintro⟨sum,outs,n,i,a⟩ ⟨hg,hl,h0,h1,k,hk,rfl,rfl,hf⟩
 have h0:0≤sum:=h0
 have h1:sum≤1125899906842624:=h1
 have hl:outs.length≤256:=hl
 have hk:k≤outs.length:=hk
 by_cases h:k < outs.length
 ·obtain⟨g1,g2,g3⟩:=hg _ (List.getElem_mem h)
  have n1:nth eP outs k=outs[k]:=cG (t:=eP) h
  have hd:outs.drop k=outs[k]::outs.drop (k+1):=List.drop_eq_getElem_cons h
  have hs:∀ {R:Type} (kn:AS→Option R) (kx:Exit→AS→Option R),bo.L0.R (sum,outs,(outs.length:Int),(k:Int),a) kn kx=
    aK (!(jE outs[k].2.1)) (kx (bo.L0.bw ()).1 (bo.L0.bw ()).2) (aK (fZ outs[k].1 0) (kx (bo.L0.bw ()).1 (bo.L0.bw ()).2) (aK (mJ outs[k].1 (1125899906842624 - sum)) (kx (bo.L0.bw ()).1 (bo.L0.bw ()).2)
     (al (cz.call outs[k]) fun x2=>kn (bo.L0.st ((bR .i64 sum outs[k].1),outs,(outs.length:Int),(bR .i64 (k:Int) (1:Int)),(fO cJ ((List.replicate 32 (0:Int)),((k:Int),())) (x2,((0:Int),())) a)))))):=fun kn kx=>by
   rw[bo.L0.step,bu (by omega),ai,bz (by omega) (by omega),ai,Int.toNat_natCast,n1,aM.run (d:=outs[k].2.1) ⟨g1,g2⟩,eR (by omega) (by omega)]
   rfl
  by_cases hok:nj sum outs[k]=true
  ·left
   have hok':=hok
   unfold nj at hok'
   simp only[Bool.and_eq_true,decide_eq_true_eq]at hok'
   obtain⟨k1,k2,k3⟩:=hok'
   have hlk:=tM k1
   refine⟨(sum+outs[k].1,outs,(outs.length:Int),((k+1:Nat):Int),a++ [rP k outs[k]]),⟨hg,hl,by show 0≤sum+outs[k].1;omega,by show sum+outs[k].1≤_;omega,k+1,by omega,rfl,rfl,fun p hp=> ?_⟩,by simp only[Int.toNat_natCast];omega,?_,fun kn kx=> ?_⟩
   ·rcases List.mem_append.1 hp with hp | hp
    ·have:=hf p hp;omega
    ·rw[List.mem_singleton.1 hp];show(k:Int) < _;omega
   ·simp only[bo.L0.add,bo.L0.F,Int.toNat_natCast,hd,sy,hok]
    cases sy (sum+outs[k].1) (k+1) (outs.drop (k+1)) with
    |none=>rfl
    |some r=>simp only[Option.map_some,List.append_assoc,List.singleton_append]
   ·rw[hs,k1,Bool.not_true,ao,bk (by omega),ao,cW (by omega),ao,cz.run (d:=outs[k]) ⟨by omega,fun b hb=>by have:=hlk.2 b hb;omega⟩]
    simp only[ab,cz.add,cz.F]
    rw[fY (by omega) (by omega),N.kO (by omega),mf gr]
    ·rfl
    ·intro hm
     obtain⟨p,hp,he⟩:=List.mem_map.1 hm
     have:=hf p hp
     have he:p.1=_:=he
     rw[he]at this
     have this:(k:Int) < k:=this
     omega
  ·right
   have hok2:nj sum outs[k]=false:=by simpa using hok
   refine⟨bo.L0.bw (),?_,fun kn kx=> ?_⟩
   rotate_left
   ·rw[hs]
    unfold nj at hok2
    cases k1:jE outs[k].2.1 with
    |false=>rw[Bool.not_false,ai]
    |true=>
     rw[k1]at hok2
     simp only[Bool.true_and,decide_eq_false_iff_not]at hok2
     rw[Bool.not_true,ao]
     by_cases k2:outs[k].1 < 0
     ·rw[bu k2,ai]
     ·rw[bk k2,ao,dx (by omega),ai]
   ·simp only[bo.L0.add,bo.L0.F,Int.toNat_natCast,hd,sy,hok2]
    rfl
 ·right
  obtain rfl:k=outs.length:=by omega
  refine⟨bo.L0.fq a,?_,fun kn kx=> ?_⟩
  rotate_left
  ·rw[bo.L0.step,bk (by omega),ao]
  ·simp only[bo.L0.add,bo.L0.F,Int.toNat_natCast,List.drop_length,sy,List.append_nil]
   rfl
theorem bo.ok:bo.Ok:=by
 intro outs hg
 rw[bo.eq]
 simp only[bo.add,bo.F,wU]
 by_cases h:outs.length≤256
 ·rw[cW (by omega),ao,bo.L0.run (d:=(0,outs,(outs.length:Int),0,[])) ⟨hg,h,by decide,by decide,0,Nat.zero_le _,rfl,rfl,fun p hp=>by cases hp⟩,if_pos h]
  simp only[ab,bo.L0.add,bo.L0.F,Int.toNat_zero,List.drop_zero]
  cases sy 0 0 outs with
  |none=>rfl
  |some r=>rfl
 ·rw[dx (by omega),ai,if_neg h]
noncomputable def bo.E:=Entry.EP [some (.slice eP)] bo.st bo.aB bo.add bo.F bo.out
noncomputable def bo.call:bo.D→Option bo.X:=bS bo.E bo.st
theorem bo.run:bM bo.call bo.aB bo.add bo.F:=FE (dd [.d (.slice eP)] fun _=>by kernel_rfl)
noncomputable def bo.sg:SG Tryz.prog:=⟨27,aX,bo.E,.IS (.fn 1 (by kernel_rfl) bo.ok (And.intro (.cC bo.L0.ok (by kernel_rfl)) trivial))⟩
end Go.Ab
