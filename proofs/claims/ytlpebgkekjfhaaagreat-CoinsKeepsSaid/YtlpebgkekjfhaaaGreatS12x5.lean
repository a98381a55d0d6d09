/-
  Made short by a program of mine (wip/tools/mini.py).
-/
import Derived.Test.YtlpebgkekjfhaaaGreatS12x4
import Derived.Shelf.SlSortCmp.NoneTotal
import Derived.Test.YtlpebgkekjfhaaaGreatProg
set_option linter.unusedVariables false
set_option linter.unusedSimpArgs false
namespace Go.Ab
open Go.Proofs
set_option maxRecDepth 100000
set_option linter.unusedVariables false
set_option linter.unusedSimpArgs false
set_option synthInstance.maxSize 5000
def lq(o:List Int)(ks:List Int):List Int:=ks.foldl (fun o p=>o++ik p) o
def FY(o:List Int)(b:iA):List Int:=eL (eL (lq (eL o b.1.length) b.1) b.2.1) b.2.2.1++ik b.2.2.2.1
def zi(l:Lk):List Int:=if jJ l then l.1.foldl FY (eL [] l.1.length) else []
theorem rB:∀(ks:List Int) (o:List Int),(lq o ks).length=o.length+8*ks.length
 |[],o=>rfl
 |k::ks,o=>by
  show(lq (o++ik k) ks).length=_
  rw[rB ks,List.length_append,bY,List.length_cons];omega
theorem AF(o:List Int)(b:iA)(h:b.1.length≤12):(FY o b).length≤o.length+200:=by
 unfold FY
 have h1:=fq o b.1.length
 have h2:=rB b.1 (eL o b.1.length)
 have h3:=fq (lq (eL o b.1.length) b.1) b.2.1
 have h4:=fq (eL (lq (eL o b.1.length) b.1) b.2.1) b.2.2.1
 rw[List.length_append,bY];omega
def En(n:Int):Prop:=n≤9223372036854775807
def HU(b:iA):Prop:=b.1.length≤12∧En b.2.1∧En b.2.2.1
theorem FZ{b:iA}(h:o3 b=true):HU b:=by
 unfold o3 sC at h
 simp only[Bool.and_eq_true,decide_eq_true_eq]at h
 obtain⟨h1,_,h2,h3,_⟩:=h
 exact⟨h1,by unfold En;omega,by unfold En;omega⟩
theorem zP(o:List Int)(ks:List Int)(k:Nat)(h:k < ks.length):lq o (ks.drop k)=lq (o++ik ks[k]) (ks.drop (k+1)):=by rw[List.drop_eq_getElem_cons h];rfl
abbrev aG.L0.D:=Bs×(List iA)×Int×Int
def aG.L0.st:aG.L0.D→AS:=fun(outv,t16,t17,t18)=>⟨([.undef,.undef,.undef,.d tB outv]++ba 12 ([.d (.slice gG) t16,.d ti t17,.d ti t18]++ba 31 [])),[],(List.replicate 50 [])⟩
abbrev aG.L0.Y0:=Bs
abbrev aG.L0.X0:=Bs
def aG.L0.bj:aG.L0.X0→Exit×AS:=fun x=>(.exit 0,⟨([.undef,.undef,.undef,.d tB x]++ba 46 []),[],(List.replicate 50 [])⟩)
abbrev aG.L0.X:=aG.L0.X0
abbrev aG.L0.Y:=aG.L0.Y0
def aG.L0.out:aG.L0.X→Out (Exit×AS):=fun x=> .ok (aG.L0.bj x)
def aG.L0.add:aG.L0.D→aG.L0.Y→aG.L0.X:=fun(outv,t16,t17,t18) y=>y
abbrev aG.L1.D:=Bs×(List iA)×Int×Int×Bs×Int×Int×iA
def aG.L1.st:aG.L1.D→AS:=fun(outv_2,t16_2,t17_2,t18_2,t28,t29,t30,n5)=>⟨([.undef,.undef,.undef,.d tB outv_2,.undef,.ptr (.new 5 0) 0 [] 0]++ba 10 ([.d (.slice gG) t16_2,.d ti t17_2,.d ti t18_2]++ba 9 ([.d tU t28,.d ti t29,.d ti t30]++ba 19 []))),[],(bE 5 ([[.obj 0 false (.d gG n5)]]++bE 44 []))⟩
abbrev aG.L1.Y0:=Bs
abbrev aG.L1.X0:=((List iA)×Int×Int×iA)×(Bs)
def aG.L1.bj:aG.L1.X0→Exit×AS:=fun x=>(.exit 2,⟨([.undef,.undef,.undef,.d tB x.2,.undef,.ptr (.new 5 0) 0 [] 0]++ba 10 ([.d (.slice gG) x.1.1,.d ti x.1.2.1,.d ti x.1.2.2.1]++ba 31 [])),[],(bE 5 ([[.obj 0 false (.d gG x.1.2.2.2)]]++bE 44 []))⟩)
abbrev aG.L1.X:=aG.L1.X0
abbrev aG.L1.Y:=aG.L1.Y0
def aG.L1.out:aG.L1.X→Out (Exit×AS):=fun x=> .ok (aG.L1.bj x)
def aG.L1.add:aG.L1.D→aG.L1.Y→aG.L1.X:=fun(outv_2,t16_2,t17_2,t18_2,t28,t29,t30,n5) y=>((t16_2,t17_2,t18_2,n5),y)
abbrev aG.D:=Lk
def aG.st:aG.D→SA:=fun l=>([.d o8 l],[])
abbrev aG.Y:=Bs
abbrev aG.X:=Bs
def aG.out:aG.X→bk:=fun x=>⟨.d tB x,[],[]⟩
def aG.add:aG.D→aG.Y→aG.X:=fun l y=>y
def aG.L1.aC:aG.L1.D→Prop:=fun(o,bs,n,i,ks,m,j,b)=>ks.length≤12∧o.length+8*ks.length≤80000000+8*j.toNat∧m=ks.length∧∃k:Nat,k≤ks.length∧j=k
def aG.L1.F:aG.L1.D→aG.L1.Y:=fun(o,bs,n,i,ks,m,j,b)=>lq o (ks.drop j.toNat)
def aG.L0.aC:aG.L0.D→Prop:=fun(o,bs,n,i)=>(∀b∈bs,HU b)∧bs.length≤4∧o.length≤1000+200*i.toNat∧n=bs.length∧∃k:Nat,k≤bs.length∧i=k
def aG.L0.F:aG.L0.D→aG.L0.Y:=fun(o,bs,n,i)=>(bs.drop i.toNat).foldl FY o
def aG.aC:aG.D→Prop:=fun l=>Cm l∧l.1.length≤9223372036854775807
def aG.F:aG.D→aG.Y:=fun l=>zi l
noncomputable def aG.G:dZ:=fh (P:=Tryz.prog) [aN.sg,dG.sg,dx.sg]
noncomputable def aG.L0.E:=bP.cq aG.L0.st aG.L0.aC aG.L0.add aG.L0.F aG.L0.out
noncomputable def aG.L0.call:aG.L0.D→Option aG.L0.X:=cX aG.L0.E aG.L0.st
noncomputable def aG.L1.E:=bP.cq aG.L1.st aG.L1.aC aG.L1.add aG.L1.F aG.L1.out
noncomputable def aG.L1.call:aG.L1.D→Option aG.L1.X:=cX aG.L1.E aG.L1.st
noncomputable def aG.an:eO:= {loops:=j7 [(5,{bm:=[3,16,17,18]}),(9,{bm:=[3,5,16,17,18,28,29,30],sites:=[5]})],outs:=j6 [(5,{bm:=[3]},{bm:=[2]}),(9,{bm:=[3,5,16,17,18],sites:=[5]},{bm:=[2]})],fJ:=kW [(5,aG.L0.E),(9,aG.L1.E)],res:=[some tB]}
noncomputable def aG.A:= @cZ Tryz.prog aG.G aG.an 0 Tryz.f146 _ aG.st
abbrev aG.Ok:=da @aG.A aG.aC aG.add aG.F aG.out
noncomputable def aG.L0.R:= @bX Tryz.prog aG.G aG.an 0 Tryz.f146 0 _ aG.L0.st
abbrev aG.L0.Ok:=ej Tryz.prog aG.G aG.an 0 Tryz.f146 0 aG.L0.st aG.L0.aC aG.L0.add aG.L0.F aG.L0.out
noncomputable def aG.L1.R:= @bX Tryz.prog aG.G aG.an 0 Tryz.f146 1 _ aG.L1.st
abbrev aG.L1.Ok:=ej Tryz.prog aG.G aG.an 0 Tryz.f146 1 aG.L1.st aG.L1.aC aG.L1.add aG.L1.F aG.L1.out
theorem aG.L0.run:bK aG.L0.call aG.L0.aC aG.L0.add aG.L0.F:=eG (eC [.d tB,.d (.slice gG),.d ti,.d ti] fun _=>by kernel_rfl)
theorem aG.L0.aD:fN @aG.L0.R aG.L0.st aG.L0.aC aG.L0.add aG.L0.F aG.L0.bj aG.L0.Ok:=fU
theorem aG.L0.step{R:Type}(outv:Bs)(t16:(List iA))(t17:Int)(t18:Int)(kn:AS→Option R)(kx:Exit→AS→Option R):aG.L0.R (outv,t16,t17,t18) kn kx=
  aJ ((fX t18 t17)) (
   aJ (eJ t18 (((List.length t16):Nat):Int)) (
   ah (dG.call (outv,(((List.length (nth gG t16 (Int.toNat t18)).1):Nat):Int))) fun x1=>
   ah (aG.L1.call (x1,t16,t17,t18,(nth gG t16 (Int.toNat t18)).1,(((List.length (nth gG t16 (Int.toNat t18)).1):Nat):Int),(0:Int),(nth gG t16 (Int.toNat t18)))) fun x2=>
   ah (dG.call (x2.2,x2.1.2.2.2.2.1)) fun x3=>
   ah (dG.call (x3,x2.1.2.2.2.2.2.1)) fun x4=>
   ah (dx.call (x4,x2.1.2.2.2.2.2.2.1)) fun x5=>
   kn (aG.L0.st (x5,x2.1.1,x2.1.2.1,(bN .i64 x2.1.2.2.1 (1:Int))))) none) (
   kx (aG.L0.bj outv).1 (aG.L0.bj outv).2):=by kernel_rfl
theorem aG.L1.run:bK aG.L1.call aG.L1.aC aG.L1.add aG.L1.F:=eG (eC [.d tB,.d (.slice gG),.d ti,.d ti,.d tU,.d ti,.d ti,.d gG] fun _=>by kernel_rfl)
theorem aG.L1.aD:fN @aG.L1.R aG.L1.st aG.L1.aC aG.L1.add aG.L1.F aG.L1.bj aG.L1.Ok:=fU
theorem aG.L1.step{R:Type}(outv_2:Bs)(t16_2:(List iA))(t17_2:Int)(t18_2:Int)(t28:Bs)(t29:Int)(t30:Int)(n5:iA)(kn:AS→Option R)(kx:Exit→AS→Option R):aG.L1.R (outv_2,t16_2,t17_2,t18_2,t28,t29,t30,n5) kn kx=
  aJ ((fX t30 t29)) (
   aJ (eJ t30 (((List.length t28):Nat):Int)) (
   ah (dx.call (outv_2,(nth tu t28 (Int.toNat t30)))) fun x1=>
   kn (aG.L1.st (x1,t16_2,t17_2,t18_2,t28,t29,(bN .i64 t30 (1:Int)),n5))) none) (
   kx (aG.L1.bj ((t16_2,t17_2,t18_2,n5),outv_2)).1 (aG.L1.bj ((t16_2,t17_2,t18_2,n5),outv_2)).2):=by kernel_rfl
theorem aG.eq{R:Type}(l:Lk)(k:bk→Option R):aG.A l k=
  ah (aN.call l) fun x1=>
  aJ ((!x1)) (
   k (aG.out ([]:List Int))) (
   ah (dG.call (([]:List Int),(((List.length l.1):Nat):Int))) fun x2=>
   ah (aG.L0.call (x2,l.1,(((List.length l.1):Nat):Int),(0:Int))) fun x9=>
   k (aG.out x9)):=by kernel_rfl
theorem aG.L1.ok:aG.L1.Ok:=by
 refine aG.L1.aD (fun(o,bs,n,i,ks,m,j,b)=>ks.length - j.toNat) ?_
 rintro⟨o,bs,n,i,ks,m,j,b⟩ ⟨hk12,hl,rfl,k,hk,rfl⟩
 have hk12:ks.length≤12:=hk12
 have hk:k≤ks.length:=hk
 have hl:o.length+8*ks.length≤80000000+8*(k:Int).toNat:=hl
 rw[Int.toNat_natCast]at hl
 by_cases h:k < ks.length
 ·left
  have n1:nth (.int .u64) ks k=ks[k]:=cm (t:= .int .u64) h
  refine⟨(o++ik ks[k],bs,n,i,ks,ks.length,((k+1:Nat):Int),b),⟨hk12,by rw[List.length_append,bY,Int.toNat_natCast];omega,rfl,k+1,by omega,rfl⟩,by simp only[Int.toNat_natCast];omega,?_,fun kn kx=> ?_⟩
  ·simp only[aG.L1.add,aG.L1.F,Int.toNat_natCast]
   rw[zP _ _ _ h]
  ·rw[aG.L1.step]
   simp(disch:=omega) only[↓S1,↓if_pos,↓if_neg,if_pos,if_neg,if_true,if_false,S2,n1]
   rw[dx.run (d:=(o,ks[k])) (by show o.length≤90000000;omega)]
   rfl
 ·right
  obtain rfl:k=ks.length:=by omega
  intro R kn kx
  rw[aG.L1.step]
  simp(disch:=omega) only[↓S1,↓if_pos,↓if_neg,if_pos,if_neg,if_true,if_false,S2,aG.L1.add,aG.L1.F,List.drop_length]
  rfl
theorem aG.L0.ok:aG.L0.Ok:=by
 refine aG.L0.aD (fun(o,bs,n,i)=>bs.length - i.toNat) ?_
 rintro⟨o,bs,n,i⟩ ⟨hb,h4,hl,rfl,k,hk,rfl⟩
 have h4:bs.length≤4:=h4
 have hk:k≤bs.length:=hk
 have hl:o.length≤1000+200*(k:Int).toNat:=hl
 rw[Int.toNat_natCast]at hl
 by_cases h:k < bs.length
 ·left
  have hx:=hb _ (List.getElem_mem h)
  have n1:nth (.pair (.slice (.int .u64)) (.pair (.int .i64) (.pair (.int .i64) (.pair (.int .u64) .unit)))) bs k=bs[k]:=cm (t:=(.pair (.slice (.int .u64)) (.pair (.int .i64) (.pair (.int .i64) (.pair (.int .u64) .unit))))) h
  have e0:=AF o bs[k] hx.1
  refine⟨(FY o bs[k],bs,bs.length,((k+1:Nat):Int)),⟨hb,h4,by rw[Int.toNat_natCast];omega,rfl,k+1,by omega,rfl⟩,by simp only[Int.toNat_natCast];omega,?_,fun kn kx=> ?_⟩
  ·simp only[aG.L0.add,aG.L0.F,Int.toNat_natCast]
   rw[List.drop_eq_getElem_cons h]
   rfl
  ·rw[aG.L0.step,bq (by omega),bt (by omega) (by omega),Int.toNat_natCast,n1]
   obtain⟨⟨ks,af,dl,sc,u⟩,hbk⟩:∃b,bs[k]=b:=⟨_,rfl⟩
   rw[hbk]at hx e0 ⊢
   obtain⟨h12,ha,hd⟩:=hx
   have h12:ks.length≤12:=h12
   have ha:af≤9223372036854775807:=ha
   have hd:dl≤9223372036854775807:=hd
   have l1:=fq o ks.length
   have l2:=rB ks (eL o ks.length)
   have l3:=fq (lq (eL o ks.length) ks) af
   have l4:=fq (eL (lq (eL o ks.length) ks) af) dl
   simp only[ag]
   rw[dG.run (d:=(o,(ks.length:Int))) ⟨by show o.length≤90000000;omega,by show(ks.length:Int)≤9223372036854775807;omega⟩]
   simp only[aa,dG.add,dG.F]
   rw[aG.L1.run (d:=(eL o ks.length,bs,bs.length,k,ks,ks.length,0,(ks,af,dl,sc,u))) ⟨h12,by show(eL o ks.length).length+8*ks.length≤_;omega,rfl,0,by omega,rfl⟩]
   simp only[aa,aG.L1.add,aG.L1.F,Int.toNat_zero,List.drop_zero]
   rw[dG.run (d:=(lq (eL o ks.length) ks,af)) ⟨by show(lq (eL o ks.length) ks).length≤90000000;omega,ha⟩]
   simp only[aa,dG.add,dG.F]
   rw[dG.run (d:=(eL (lq (eL o ks.length) ks) af,dl)) ⟨by show(eL (lq (eL o ks.length) ks) af).length≤90000000;omega,hd⟩]
   simp only[aa,dG.add,dG.F]
   rw[dx.run (d:=(eL (eL (lq (eL o ks.length) ks) af) dl,sc)) (by show(eL (eL (lq (eL o ks.length) ks) af) dl).length≤90000000;omega)]
   simp only[aa,dx.add,dx.F]
   rw[N.j4 (by omega)]
   rfl
 ·right
  obtain rfl:k=bs.length:=by omega
  intro R kn kx
  rw[aG.L0.step]
  simp(disch:=omega) only[↓S1,↓if_pos,↓if_neg,if_pos,if_neg,if_true,if_false,S2,aG.L0.add,aG.L0.F,List.drop_length]
  rfl
theorem Dk{l:Lk}(h:jJ l=true):(∀b∈l.1,HU b)∧0 < l.1.length∧l.1.length≤4:=by
 unfold jJ at h
 simp only[Bool.and_eq_true,List.all_eq_true,decide_eq_true_eq]at h
 exact⟨fun b hb=>FZ (h.1 b hb),h.2⟩
theorem aG.ok:aG.Ok:=by
 rintro l ⟨hl,hb⟩
 have hl:Cm l:=hl
 rw[aG.eq,aN.run (d:=l) ⟨hl,hb⟩]
 simp only[aa,aN.add,aN.F,aG.add,aG.F,zi]
 cases hok:jJ l
 ·rfl
 ·obtain⟨h1,h2,h3⟩:=Dk hok
  have l1:=fq [] l.1.length
  have l0:([]:List Int).length=0:=rfl
  simp only[Bool.not_true,ai,if_true]
  rw[dG.run (d:=([],(l.1.length:Int))) ⟨by show([]:List Int).length≤90000000;omega,by show(l.1.length:Int)≤9223372036854775807;omega⟩]
  simp only[aa,dG.add,dG.F]
  rw[aG.L0.run (d:=(eL [] l.1.length,l.1,l.1.length,0)) ⟨h1,h3,by show(eL [] l.1.length).length≤_;omega,rfl,0,by omega,rfl⟩]
  rfl
theorem wQ(l:Lk):(zi l).length≤1000:=by
 unfold zi
 split
 ·rename_i h
  obtain⟨h1,h2,h3⟩:=Dk h
  have key:∀(bs:List iA) (o:List Int),(∀b∈bs,HU b)→(bs.foldl FY o).length≤o.length+200*bs.length:=by
   intro bs
   induction bs with
   |nil=>intro o _;exact Nat.le_refl _
   |cons b bs ih=>
    intro o hb
    have e1:=ih (FY o b) fun x hx=>hb x (List.mem_cons_of_mem _ hx)
    have e2:=AF o b (hb b List.mem_cons_self).1
    rw[List.foldl_cons,List.length_cons];omega
  have e:=key l.1 (eL [] l.1.length) h1
  have e2:=fq [] l.1.length
  have l0:([]:List Int).length=0:=rfl
  omega
 ·exact Nat.zero_le _
noncomputable def aG.E:=Entry.cq [some o8] aG.st aG.aC aG.add aG.F aG.out
noncomputable def aG.call:aG.D→Option aG.X:=bT aG.E aG.st
theorem aG.run:bK aG.call aG.aC aG.add aG.F:=dh (de [.d o8] fun _=>by kernel_rfl)
noncomputable def aG.sg:SG Tryz.prog:=⟨146,aY,aG.E,.fn 2 (by kernel_rfl) aG.ok (And.intro (.cq aG.L0.ok (by kernel_rfl)) (And.intro (.cq aG.L1.ok (by kernel_rfl)) trivial))⟩
set_option synthInstance.maxSize 5000
abbrev ek.D:=Bs×Bs
def ek.st:ek.D→SA:=fun(b,h)=>([.d tB b,.d tH h],[])
abbrev ek.Y:=Bs
abbrev ek.X:=Bs
def ek.out:ek.X→bk:=fun x=>⟨.d tB x,[],[]⟩
def ek.add:ek.D→ek.Y→ek.X:=fun(b,h) y=>y
def ek.aC:ek.D→Prop:=fun(b,h)=>b.length+h.length≤100000000∧h.length=32
def ek.F:ek.D→ek.Y:=fun(b,h)=>b++h
noncomputable def ek.G:dZ:=fh (P:=Tryz.prog) [dA.sg]
noncomputable def ek.an:eO:= {}
noncomputable def ek.A:= @cZ Tryz.prog ek.G ek.an 0 Tryz.f124 _ ek.st
abbrev ek.Ok:=da @ek.A ek.aC ek.add ek.F ek.out
theorem ek.eq{R:Type}(b:Bs)(h:Bs)(k:bk→Option R):ek.A (b,h) k=
 ah (dA.call (b,(cut h 0 32))) fun x1=>
 k (ek.out x1):=by kernel_rfl
theorem ek.ok:ek.Ok:=by
 rintro⟨b,h⟩ ⟨h1,h2⟩
 have h1:b.length+h.length≤100000000:=h1
 have h2:h.length=32:=h2
 rw[ek.eq,fc h2,dA.run (d:=(b,h)) h1]
 rfl
noncomputable def ek.E:=Entry.cq [some tB,some tH] ek.st ek.aC ek.add ek.F ek.out
noncomputable def ek.call:ek.D→Option ek.X:=bT ek.E ek.st
theorem ek.run:bK ek.call ek.aC ek.add ek.F:=dh (de [.d tB,.d tB] fun _=>by kernel_rfl)
noncomputable def ek.sg:SG Tryz.prog:=⟨124,aY,ek.E,.fn 0 (by kernel_rfl) ek.ok trivial⟩
abbrev eg.D:=Bs×Bs
def eg.st:eg.D→SA:=fun(b,c)=>([.d tB b,.d tB c],[])
abbrev eg.Y:=Bs
abbrev eg.X:=Bs
def eg.out:eg.X→bk:=fun x=>⟨.d tB x,[],[]⟩
def eg.add:eg.D→eg.Y→eg.X:=fun(b,c) y=>y
def eg.aC:eg.D→Prop:=fun(b,c)=>b.length+c.length≤90000000
def eg.F:eg.D→eg.Y:=fun(b,c)=>b++(mg c.length++c)
noncomputable def eg.G:dZ:=fh (P:=Tryz.prog) [cG.sg,ay.sg]
noncomputable def eg.an:eO:= {res:=[some tB]}
noncomputable def eg.A:= @cZ Tryz.prog eg.G eg.an 0 Tryz.f145 _ eg.st
abbrev eg.Ok:=da @eg.A eg.aC eg.add eg.F eg.out
theorem eg.eq{R:Type}(b:Bs)(c:Bs)(k:bk→Option R):eg.A (b,c) k=
 ah (cG.call (((List.length c):Nat):Int)) fun x1=>
 ah (ay.call [b,x1,c]) fun x2=>
 k (eg.out x2):=by kernel_rfl
theorem eg.ok:eg.Ok:=by
 rintro⟨b,c⟩ h
 have h:b.length+c.length≤90000000:=h
 have hl:=qM c.length
 rw[eg.eq,cG.run (d:=(c.length:Int)) ⟨by omega,by omega⟩]
 simp only[aa,cG.add,cG.F]
 rw[ay.run (d:=[b,mg c.length,c]) ⟨by show [b,mg c.length,c].length≤_;simp,by show jP [b,mg c.length,c]≤_;simp only[jP,List.flatten_cons,List.flatten_nil,List.append_nil,List.length_append];omega⟩]
 simp only[aa,ay.add,ay.F,eg.add,eg.F,List.flatten_cons,List.flatten_nil,List.append_nil]
noncomputable def eg.E:=Entry.cq [some tB,some tB] eg.st eg.aC eg.add eg.F eg.out
noncomputable def eg.call:eg.D→Option eg.X:=bT eg.E eg.st
theorem eg.run:bK eg.call eg.aC eg.add eg.F:=dh (de [.d tB,.d tB] fun _=>by kernel_rfl)
noncomputable def eg.sg:SG Tryz.prog:=⟨145,aY,eg.E,.fn 0 (by kernel_rfl) eg.ok trivial⟩
def uL(b:List Int)(x:fZ):List Int:=eL (b++x.1.1) x.1.2.1
def u7(b:List Int)(o:fu):List Int:=eL b o.1++(mg (zi o.2.1).length++zi o.2.1)
def l5(t:eT):List Int:=eL (t.2.1.foldl u7 (eL (t.1.foldl uL (eL [] t.1.length)) t.2.1.length)) t.2.2.1
def w9(b:List Int)(s:Sg):List Int:=b++ik s.1++ik s.2.1
def Eg(b:List Int)(x:fZ):List Int:=x.2.1.2.1.foldl w9 (eL (eL b x.2.1.1) x.2.1.2.1.length)++ik x.2.1.2.2.1
def IZ(t:eT):List Int:=if gD t then t.1.foldl Eg (l5 t) else []
def mG(t:eT):List Int:=if gD t then tag (bA (⟨#[116,120]⟩:ByteArray)) [l5 t] else List.replicate 32 0
def IM(x:fZ):Prop:=Sm x.1.1∧we x.2.1∧x.2.1.2.1.length≤9223372036854775807
def nR(t:eT):Prop:=HX t∧(∀x∈t.1,IM x)∧t.2.2.1≤9223372036854775807
theorem mR:∀(l:List fZ) (m:List (cR×Bool)),qk m l=true→∀x∈l,tz x=true
 |[],_,_,x,hx=>by cases hx
 |y::l,m,h,x,hx=>by
  rw[qk,Bool.and_eq_true,Bool.and_eq_true]at h
  rcases List.mem_cons.1 hx with rfl | hx
  ·exact h.1.2
  ·exact mR l _ h.2 x hx
theorem kk:∀(l:List fu) (s:Int),nw s l=true→∀o∈l,(0≤o.1∧o.1≤1125899906842624)∧jJ o.2.1=true
 |[],_,_,o,ho=>by cases ho
 |y::l,s,h,o,ho=>by
  rw[nw,Bool.and_eq_true,Bool.and_eq_true]at h
  rcases List.mem_cons.1 ho with rfl | ho
  ·have h1:=h.1.1
   unfold pW og at h1
   simp only[Bool.and_eq_true,decide_eq_true_eq]at h1
   exact⟨h1.2.1,h.1.2⟩
  ·exact kk l _ h.2 o ho
theorem wM{x:fZ}(h:tz x=true):0≤x.1.2.1∧x.1.2.1 < 64∧0≤x.2.1.1∧x.2.1.1 < 4∧x.2.1.2.1.length≤12:=by
 unfold tz nQ at h
 simp only[Bool.and_eq_true,decide_eq_true_eq]at h
 exact⟨h.1.1,h.1.2,h.2.1.1,h.2.1.2,h.2.2⟩
theorem iM{t:eT}(h:gD t=true):(1≤t.1.length∧t.1.length≤64∧t.2.1.length≤64∧0≤t.2.2.1)∧qk [] t.1=true∧nw 0 t.2.1=true:=by
 unfold gD xj at h
 simp only[Bool.and_eq_true,decide_eq_true_eq]at h
 exact h
theorem AQ(b:List Int)(x:fZ):(uL b x).length≤b.length+x.1.1.length+11:=by
 have:=fq (b++x.1.1) x.1.2.1
 rw[List.length_append]at this
 exact this
theorem yK(b:List Int)(o:fu):(u7 b o).length≤b.length+1022:=by
 have h1:=fq b o.1
 have h2:=qM (zi o.2.1).length
 have h3:=wQ o.2.1
 unfold u7
 rw[List.length_append,List.length_append]
 omega
theorem yX(b:List Int)(s:Sg):(w9 b s).length=b.length+16:=by
 unfold w9
 rw[List.length_append,List.length_append,bY,bY]
abbrev aH.L0.D:=eT×Bs×(List fZ)×Int×Int
def aH.L0.st:aH.L0.D→AS:=fun(t_2,b,t13,t14,t15)=>⟨([.undef,.eI gf t_2,.undef,.d tB b]++ba 9 ([.d (.slice fy) t13,.d ti t14,.d ti t15]++ba 38 [])),[],(List.replicate 54 [])⟩
abbrev aH.L0.Y0:=Bs
abbrev aH.L0.X0:=(eT)×(Bs)
def aH.L0.bj:aH.L0.X0→Exit×AS:=fun x=>(.exit 0,⟨([.undef,.eI gf x.1,.undef,.d tB x.2]++ba 50 []),[],(List.replicate 54 [])⟩)
abbrev aH.L0.X:=aH.L0.X0
abbrev aH.L0.Y:=aH.L0.Y0
def aH.L0.out:aH.L0.X→Out (Exit×AS):=fun x=> .ok (aH.L0.bj x)
def aH.L0.add:aH.L0.D→aH.L0.Y→aH.L0.X:=fun(t_2,b,t13,t14,t15) y=>(t_2,y)
abbrev aH.L1.D:=eT×Bs×(List fu)×Int×Int
def aH.L1.st:aH.L1.D→AS:=fun(t_3,b_2,t35,t36,t37)=>⟨([.undef,.eI gf t_3,.undef,.d tB b_2]++ba 31 ([.d (.slice eN) t35,.d ti t36,.d ti t37]++ba 16 [])),[],(List.replicate 54 [])⟩
abbrev aH.L1.Y0:=Bs
abbrev aH.L1.X0:=(eT)×(Bs)
def aH.L1.bj:aH.L1.X0→Exit×AS:=fun x=>(.exit 2,⟨([.undef,.eI gf x.1,.undef,.d tB x.2]++ba 50 []),[],(List.replicate 54 [])⟩)
abbrev aH.L1.X:=aH.L1.X0
abbrev aH.L1.Y:=aH.L1.Y0
def aH.L1.out:aH.L1.X→Out (Exit×AS):=fun x=> .ok (aH.L1.bj x)
def aH.L1.add:aH.L1.D→aH.L1.Y→aH.L1.X:=fun(t_3,b_2,t35,t36,t37) y=>(t_3,y)
abbrev aH.D:=eT
def aH.st:aH.D→SA:=fun t=>([.d gf t],[])
abbrev aH.Y:=Bs
abbrev aH.X:=Bs
def aH.out:aH.X→bk:=fun x=>⟨.d tB x,[],[]⟩
def aH.add:aH.D→aH.Y→aH.X:=fun t y=>y
def aH.L0.aC:aH.L0.D→Prop:=fun(t,b,l,n,i)=>(l).length≤1000000000∧∃k:Nat,k≤(l).length∧i=k∧n=(l).length∧(l.length≤64)∧(∀x∈l,x.1.1.length=32∧x.1.2.1≤9223372036854775807)∧(b.length≤100+50*k)
def aH.L0.F:aH.L0.D→aH.L0.Y:=fun(t,b,l,n,i)=>(List.drop (Int.toNat i) l).foldl uL b
def aH.L1.aC:aH.L1.D→Prop:=fun(t,b,l,n,i)=>(l).length≤1000000000∧∃k:Nat,k≤(l).length∧i=k∧n=(l).length∧(l.length≤64)∧(∀o∈l,o.1≤9223372036854775807∧FO o.2.1)∧(b.length≤4000+1100*k)
def aH.L1.F:aH.L1.D→aH.L1.Y:=fun(t,b,l,n,i)=>(List.drop (Int.toNat i) l).foldl u7 b
def aH.aC:aH.D→Prop:=fun t=>gD t=true∧nR t
def aH.F:aH.D→aH.Y:=fun t=>l5 t
noncomputable def aH.G:dZ:=fh (P:=Tryz.prog) [dG.sg,ek.sg,aG.sg,eg.sg]
noncomputable def aH.L0.E:=bP.cq aH.L0.st aH.L0.aC aH.L0.add aH.L0.F aH.L0.out
noncomputable def aH.L0.call:aH.L0.D→Option aH.L0.X:=cX aH.L0.E aH.L0.st
noncomputable def aH.L1.E:=bP.cq aH.L1.st aH.L1.aC aH.L1.add aH.L1.F aH.L1.out
noncomputable def aH.L1.call:aH.L1.D→Option aH.L1.X:=cX aH.L1.E aH.L1.st
noncomputable def aH.an:eO:= {loops:=j7 [(3,{bm:=[1,3,13,14,15]}),(9,{bm:=[1,3,35,36,37]})],outs:=j6 [(3,{bm:=[1,3]},{bm:=[2]}),(9,{bm:=[1,3]},{bm:=[2]})],fJ:=kW [(3,aH.L0.E),(9,aH.L1.E)],res:=[some tB]}
noncomputable def aH.A:= @cZ Tryz.prog aH.G aH.an 0 Tryz.f73 _ aH.st
abbrev aH.Ok:=da @aH.A aH.aC aH.add aH.F aH.out
noncomputable def aH.L0.R:= @bX Tryz.prog aH.G aH.an 0 Tryz.f73 0 _ aH.L0.st
abbrev aH.L0.Ok:=ej Tryz.prog aH.G aH.an 0 Tryz.f73 0 aH.L0.st aH.L0.aC aH.L0.add aH.L0.F aH.L0.out
noncomputable def aH.L1.R:= @bX Tryz.prog aH.G aH.an 0 Tryz.f73 1 _ aH.L1.st
abbrev aH.L1.Ok:=ej Tryz.prog aH.G aH.an 0 Tryz.f73 1 aH.L1.st aH.L1.aC aH.L1.add aH.L1.F aH.L1.out
theorem aH.L0.run:bK aH.L0.call aH.L0.aC aH.L0.add aH.L0.F:=eG (eC [.d gf,.d tB,.d (.slice fy),.d ti,.d ti] fun _=>by kernel_rfl)
theorem aH.L0.aD:fN @aH.L0.R aH.L0.st aH.L0.aC aH.L0.add aH.L0.F aH.L0.bj aH.L0.Ok:=fU
theorem aH.L0.step{R:Type}(t_2:eT)(b:Bs)(t13:(List fZ))(t14:Int)(t15:Int)(kn:AS→Option R)(kx:Exit→AS→Option R):aH.L0.R (t_2,b,t13,t14,t15) kn kx=
  aJ ((fX t15 t14)) (
   aJ (eJ t15 (((List.length t13):Nat):Int)) (
   ah (ek.call (b,(nth fy t13 (Int.toNat t15)).1.1)) fun x1=>
   ah (dG.call (x1,(nth fy t13 (Int.toNat t15)).1.2.1)) fun x2=>
   kn (aH.L0.st (t_2,x2,t13,t14,(bN .i64 t15 (1:Int))))) none) (
   kx (aH.L0.bj (t_2,b)).1 (aH.L0.bj (t_2,b)).2):=by kernel_rfl
theorem aH.L1.run:bK aH.L1.call aH.L1.aC aH.L1.add aH.L1.F:=eG (eC [.d gf,.d tB,.d (.slice eN),.d ti,.d ti] fun _=>by kernel_rfl)
theorem aH.L1.aD:fN @aH.L1.R aH.L1.st aH.L1.aC aH.L1.add aH.L1.F aH.L1.bj aH.L1.Ok:=fU
theorem aH.L1.step{R:Type}(t_3:eT)(b_2:Bs)(t35:(List fu))(t36:Int)(t37:Int)(kn:AS→Option R)(kx:Exit→AS→Option R):aH.L1.R (t_3,b_2,t35,t36,t37) kn kx=
  aJ ((fX t37 t36)) (
   aJ (eJ t37 (((List.length t35):Nat):Int)) (
   ah (dG.call (b_2,(nth eN t35 (Int.toNat t37)).1)) fun x1=>
   ah (aG.call (nth eN t35 (Int.toNat t37)).2.1) fun x2=>
   ah (eg.call (x1,x2)) fun x3=>
   kn (aH.L1.st (t_3,x3,t35,t36,(bN .i64 t37 (1:Int))))) none) (
   kx (aH.L1.bj (t_3,b_2)).1 (aH.L1.bj (t_3,b_2)).2):=by kernel_rfl
theorem aH.eq{R:Type}(t:eT)(k:bk→Option R):aH.A t k=
 ah (dG.call (([]:List Int),(((List.length t.1):Nat):Int))) fun x1=>
 ah (aH.L0.call (t,x1,t.1,(((List.length t.1):Nat):Int),(0:Int))) fun x4=>
 ah (dG.call (x4.2,(((List.length x4.1.2.1):Nat):Int))) fun x5=>
 ah (aH.L1.call (x4.1,x5,x4.1.2.1,(((List.length x4.1.2.1):Nat):Int),(0:Int))) fun x9=>
 ah (dG.call (x9.2,x9.1.2.2.1)) fun x10=>
 k (aH.out x10):=by kernel_rfl
theorem aH.L0.ok:aH.L0.Ok:=by
 refine aH.L0.aD (fun(t,b,l,n,i)=>(l).length - Int.toNat i) ?_
 rintro⟨t,b,l,n,i⟩ ⟨hlen,k,hk,rfl,rfl,h64,hx,hb⟩
 have hlen:(l).length≤1000000000:=hlen
 have hk:k≤(l).length:=hk
 have h64:l.length≤64:=h64
 have hx:∀x∈l,x.1.1.length=32∧x.1.2.1≤9223372036854775807:=hx
 have hb:b.length≤100+50*k:=hb
 by_cases h:k < (l).length
 ·left
  have n1:nth fy l k=l[k]:=cm (t:=fy) h
  have hd:List.drop k l=l[k]::List.drop (k+1) l:=List.drop_eq_getElem_cons h
  refine⟨(t,(uL b l[k]),l,((l).length:Int),((k+1:Nat):Int)),⟨hlen,k+1,by omega,rfl,rfl,h64,hx,by have:=AQ b l[k];have:=(hx _ (List.getElem_mem h)).1;omega⟩,by simp only[Int.toNat_natCast];omega,?_,fun kn kx=> ?_⟩
  ·simp only[aH.L0.add,aH.L0.F,Int.toNat_natCast,hd,List.foldl_cons]
  ·rw[aH.L0.step,bq (by omega),bt (by omega) (by omega),Int.toNat_natCast,n1]
   simp only[ag]
   have e:=hx _ (List.getElem_mem h)
   have e2:(b++l[k].1.1).length=b.length+l[k].1.1.length:=List.length_append
   rw[ek.run (d:=(b,l[k].1.1)) ⟨by show b.length+l[k].1.1.length≤_;omega,e.1⟩]
   simp only[aa,ek.add,ek.F]
   rw[dG.run (d:=(b++l[k].1.1,l[k].1.2.1)) ⟨by show(b++l[k].1.1).length≤_;omega,e.2⟩]
   simp only[aa,dG.add,dG.F]
   rw[N.j4 (by omega)]
   rfl
 ·right
  obtain rfl:k=(l).length:=by omega
  intro R kn kx
  rw[aH.L0.step,bg (by omega),ai]
  simp only[aH.L0.add,aH.L0.F,Int.toNat_natCast,List.drop_length,List.foldl_nil]
theorem aH.L1.ok:aH.L1.Ok:=by
 refine aH.L1.aD (fun(t,b,l,n,i)=>(l).length - Int.toNat i) ?_
 rintro⟨t,b,l,n,i⟩ ⟨hlen,k,hk,rfl,rfl,h64,hx,hb⟩
 have hlen:(l).length≤1000000000:=hlen
 have hk:k≤(l).length:=hk
 have h64:l.length≤64:=h64
 have hx:∀o∈l,o.1≤9223372036854775807∧FO o.2.1:=hx
 have hb:b.length≤4000+1100*k:=hb
 by_cases h:k < (l).length
 ·left
  have n1:nth eN l k=l[k]:=cm (t:=eN) h
  have hd:List.drop k l=l[k]::List.drop (k+1) l:=List.drop_eq_getElem_cons h
  refine⟨(t,(u7 b l[k]),l,((l).length:Int),((k+1:Nat):Int)),⟨hlen,k+1,by omega,rfl,rfl,h64,hx,by have:=yK b l[k];omega⟩,by simp only[Int.toNat_natCast];omega,?_,fun kn kx=> ?_⟩
  ·simp only[aH.L1.add,aH.L1.F,Int.toNat_natCast,hd,List.foldl_cons]
  ·rw[aH.L1.step,bq (by omega),bt (by omega) (by omega),Int.toNat_natCast,n1]
   simp only[ag]
   have e:=hx _ (List.getElem_mem h)
   have e1:=fq b l[k].1
   have e2:=wQ l[k].2.1
   rw[dG.run (d:=(b,l[k].1)) ⟨by show b.length≤_;omega,e.1⟩]
   simp only[aa,dG.add,dG.F]
   rw[aG.run (d:=l[k].2.1) e.2]
   simp only[aa,aG.add,aG.F]
   rw[eg.run (d:=(eL b l[k].1,zi l[k].2.1)) (by show(eL b l[k].1).length+(zi l[k].2.1).length≤_;omega)]
   simp only[aa,eg.add,eg.F]
   rw[N.j4 (by omega)]
   rfl
 ·right
  obtain rfl:k=(l).length:=by omega
  intro R kn kx
  rw[aH.L1.step,bg (by omega),ai]
  simp only[aH.L1.add,aH.L1.F,Int.toNat_natCast,List.drop_length,List.foldl_nil]
theorem wO:∀(l:List fZ) (b:List Int),(∀x∈l,x.1.1.length=32)→(l.foldl uL b).length≤b.length+43*l.length
 |[],b,_=>Nat.le_refl _
 |x::l,b,h=>by
  have h1:=AQ b x
  have h2:=h x List.mem_cons_self
  have h3:=wO l (uL b x) fun y hy=>h y (List.mem_cons_of_mem _ hy)
  rw[List.foldl_cons,List.length_cons]
  omega
theorem tY:∀(l:List fu) (b:List Int),(l.foldl u7 b).length≤b.length+1022*l.length
 |[],b=>Nat.le_refl _
 |x::l,b=>by
  have h1:=yK b x
  have h3:=tY l (u7 b x)
  rw[List.foldl_cons,List.length_cons]
  omega
theorem ua{t:eT}(hok:gD t=true)(hv:nR t):(l5 t).length≤70000:=by
 obtain⟨⟨_,a2,a3,_⟩,_,_⟩:=iM hok
 have h1:=wO t.1 (eL [] t.1.length) fun x hx=>(hv.2.1 x hx).1.1
 have h2:=fq [] t.1.length
 have h3:=fq (t.1.foldl uL (eL [] t.1.length)) t.2.1.length
 have h4:=tY t.2.1 (eL (t.1.foldl uL (eL [] t.1.length)) t.2.1.length)
 have h5:=fq (t.2.1.foldl u7 (eL (t.1.foldl uL (eL [] t.1.length)) t.2.1.length)) t.2.2.1
 have h0:([]:List Int).length=0:=rfl
 unfold l5
 omega
theorem aH.ok:aH.Ok:=by
 rintro t ⟨hok,hv⟩
 have hv:nR t:=hv
 obtain⟨⟨_,a2,a3,_⟩,b1,b2⟩:=iM hok
 have h0:([]:List Int).length=0:=rfl
 have l0:=fq [] t.1.length
 have l1:=wO t.1 (eL [] t.1.length) fun x hx=>(hv.2.1 x hx).1.1
 have l2:=fq (t.1.foldl uL (eL [] t.1.length)) t.2.1.length
 have l3:=tY t.2.1 (eL (t.1.foldl uL (eL [] t.1.length)) t.2.1.length)
 rw[aH.eq,dG.run (d:=([],(t.1.length:Int))) ⟨by show([]:List Int).length≤_;omega,by show(t.1.length:Int)≤_;omega⟩]
 simp only[aa,dG.add,dG.F]
 rw[aH.L0.run (d:=(t,eL [] t.1.length,t.1,t.1.length,0)) ⟨by show t.1.length≤_;omega,0,Nat.zero_le _,rfl,rfl,a2,fun x hx=>⟨(hv.2.1 x hx).1.1,by have:=wM (mR _ _ b1 x hx);omega⟩,by show(eL [] t.1.length).length≤_;omega⟩]
 simp only[aa,aH.L0.add,aH.L0.F,Int.toNat_zero,List.drop_zero]
 rw[dG.run (d:=(t.1.foldl uL (eL [] t.1.length),(t.2.1.length:Int))) ⟨by show(t.1.foldl uL (eL [] t.1.length)).length≤_;omega,by show(t.2.1.length:Int)≤_;omega⟩]
 simp only[aa,dG.add,dG.F]
 rw[aH.L1.run (d:=(t,eL (t.1.foldl uL (eL [] t.1.length)) t.2.1.length,t.2.1,t.2.1.length,0)) ⟨by show t.2.1.length≤_;omega,0,Nat.zero_le _,rfl,rfl,a3,fun o ho=>⟨by have:=(kk _ _ b2 o ho).1;omega,hv.1.1 o ho⟩,by show(eL (t.1.foldl uL (eL [] t.1.length)) t.2.1.length).length≤_;omega⟩]
 simp only[aa,aH.L1.add,aH.L1.F,Int.toNat_zero,List.drop_zero]
 rw[dG.run (d:=(t.2.1.foldl u7 (eL (t.1.foldl uL (eL [] t.1.length)) t.2.1.length),t.2.2.1)) ⟨by show(t.2.1.foldl u7 (eL (t.1.foldl uL (eL [] t.1.length)) t.2.1.length)).length≤_;omega,hv.2.2⟩]
 rfl
noncomputable def aH.E:=Entry.cq [some gf] aH.st aH.aC aH.add aH.F aH.out
noncomputable def aH.call:aH.D→Option aH.X:=bT aH.E aH.st
theorem aH.run:bK aH.call aH.aC aH.add aH.F:=dh (de [.d gf] fun _=>by kernel_rfl)
noncomputable def aH.sg:SG Tryz.prog:=⟨73,aY,aH.E,.fn 2 (by kernel_rfl) aH.ok (And.intro (.cq aH.L0.ok (by kernel_rfl)) (And.intro (.cq aH.L1.ok (by kernel_rfl)) trivial))⟩
set_option synthInstance.maxSize 5000
def Cq(t:eT):Prop:=(t.1.length≤1000000000∧∀x∈t.1,x.2.1.2.1.length≤1000000000)∧t.2.1.length≤1000000000∧∀x∈t.2.1,x.2.1.1.length≤1000000000∧∀b∈x.2.1.1,b.1.length≤1000000000
def rT(n:Int)(x:fZ):Int:=n+(10+8*x.2.1.2.1.length)+(if x.2.1.2.2.1=0 then 0 else 4)
def Ef(t:eT):Int:=if gD t then t.1.foldl rT (10+8*t.2.1.length) else 0
def dJ(t:eT):List cR:=if gD t then t.1.map (·.1) else []
def nL(id:List Int)(k n:Nat):List cR:=(List.range' k n).map fun i:Nat=>(id,((i:Int),()))
def eZ(t:eT):List cR:=if gD t then nL (mG t) 0 t.2.1.length else []
abbrev tid.D:=eT
def tid.st:tid.D→SA:=fun t=>([.d gf t],[])
abbrev tid.Y:=Bs
abbrev tid.X:=Bs
def tid.out:tid.X→bk:=fun x=>⟨.d tH x,[],[]⟩
def tid.add:tid.D→tid.Y→tid.X:=fun t y=>y
def tid.aC:tid.D→Prop:=fun t=>nR t
def tid.F:tid.D→tid.Y:=fun t=>mG t
noncomputable def tid.G:dZ:=fh (P:=Tryz.prog) [ax.sg,aH.sg,ck.sg]
noncomputable def tid.an:eO:= {}
noncomputable def tid.A:= @cZ Tryz.prog tid.G tid.an 0 Tryz.f18 _ tid.st
abbrev tid.Ok:=da @tid.A tid.aC tid.add tid.F tid.out
theorem tid.eq{R:Type}(t:eT)(k:bk→Option R):tid.A t k=
  ah (ax.call t) fun x1=>
  aJ ((!x1)) (
   k (tid.out (List.replicate 32 (0:Int)))) (
   ah (aH.call t) fun x2=>
   ah (ck.call ((⟨#[116,120]⟩:ByteArray),[x2])) fun x3=>
   k (tid.out x3)):=by kernel_rfl
theorem tid.ok:tid.Ok:=by
 intro t hv
 have hv:nR t:=hv
 rw[tid.eq,ax.run (d:=t) hv.1]
 simp only[aa,ax.add,ax.F,tid.add,tid.F,mG]
 cases hok:gD t
 ·rfl
 ·have hl:=ua hok hv
  rw[aH.run (d:=t) ⟨hok,hv⟩]
  simp only[Bool.not_true,ai,if_true,aa,aH.add,aH.F]
  rw[ck.run (d:=((⟨#[116,120]⟩:ByteArray),[l5 t])) (D5 (by decide) (by omega))]
  rfl
noncomputable def tid.E:=Entry.cq [some gf] tid.st tid.aC tid.add tid.F tid.out
noncomputable def tid.call:tid.D→Option tid.X:=bT tid.E tid.st
theorem tid.run:bK tid.call tid.aC tid.add tid.F:=dh (de [.d gf] fun _=>by kernel_rfl)
noncomputable def tid.sg:SG Tryz.prog:=⟨18,aY,tid.E,.fn 0 (by kernel_rfl) tid.ok trivial⟩
abbrev aT.L0.D:=Int×(List fZ)×Int×Int
def aT.L0.st:aT.L0.D→AS:=fun(n,t15,t16,t17)=>⟨([.undef,.undef,.undef,.d ti n]++ba 11 ([.d (.slice fy) t15,.d ti t16,.d ti t17]++ba 19 [])),[],(List.replicate 37 [])⟩
abbrev aT.L0.Y0:=Int
abbrev aT.L0.X0:=Int
def aT.L0.bj:aT.L0.X0→Exit×AS:=fun x=>(.exit 0,⟨([.undef,.undef,.undef,.d ti x]++ba 33 []),[],(List.replicate 37 [])⟩)
abbrev aT.L0.X:=aT.L0.X0
abbrev aT.L0.Y:=aT.L0.Y0
def aT.L0.out:aT.L0.X→Out (Exit×AS):=fun x=> .ok (aT.L0.bj x)
def aT.L0.add:aT.L0.D→aT.L0.Y→aT.L0.X:=fun(n,t15,t16,t17) y=>y
abbrev aT.D:=eT
def aT.st:aT.D→SA:=fun t=>([.d gf t],[])
abbrev aT.Y:=Int
abbrev aT.X:=Int
def aT.out:aT.X→bk:=fun x=>⟨.d ti x,[],[]⟩
def aT.add:aT.D→aT.Y→aT.X:=fun t y=>y
def aT.L0.aC:aT.L0.D→Prop:=fun(n,l,m,i)=>(l).length≤1000000000∧∃k:Nat,k≤(l).length∧i=k∧m=(l).length∧(l.length≤64)∧(∀x∈l,x.2.1.2.1.length≤12)∧(0≤n)∧(n≤1000+200*(k:Int))
def aT.L0.F:aT.L0.D→aT.L0.Y:=fun(n,l,m,i)=>(List.drop (Int.toNat i) l).foldl rT n
def aT.aC:aT.D→Prop:=fun t=>nR t
def aT.F:aT.D→aT.Y:=fun t=>Ef t
noncomputable def aT.G:dZ:=fh (P:=Tryz.prog) [ax.sg]
noncomputable def aT.L0.E:=bP.cq aT.L0.st aT.L0.aC aT.L0.add aT.L0.F aT.L0.out
noncomputable def aT.L0.call:aT.L0.D→Option aT.L0.X:=cX aT.L0.E aT.L0.st
noncomputable def aT.an:eO:= {loops:=j7 [(5,{bm:=[3,15,16,17]})],outs:=j6 [(5,{bm:=[3]},{bm:=[2]})],fJ:=kW [(5,aT.L0.E)]}
noncomputable def aT.A:= @cZ Tryz.prog aT.G aT.an 0 Tryz.f278 _ aT.st
abbrev aT.Ok:=da @aT.A aT.aC aT.add aT.F aT.out
noncomputable def aT.L0.R:= @bX Tryz.prog aT.G aT.an 0 Tryz.f278 0 _ aT.L0.st
abbrev aT.L0.Ok:=ej Tryz.prog aT.G aT.an 0 Tryz.f278 0 aT.L0.st aT.L0.aC aT.L0.add aT.L0.F aT.L0.out
theorem aT.L0.run:bK aT.L0.call aT.L0.aC aT.L0.add aT.L0.F:=eG (eC [.d ti,.d (.slice fy),.d ti,.d ti] fun _=>by kernel_rfl)
theorem aT.L0.aD:fN @aT.L0.R aT.L0.st aT.L0.aC aT.L0.add aT.L0.F aT.L0.bj aT.L0.Ok:=fU
theorem aT.L0.step{R:Type}(n:Int)(t15:(List fZ))(t16:Int)(t17:Int)(kn:AS→Option R)(kx:Exit→AS→Option R):aT.L0.R (n,t15,t16,t17) kn kx=
  aJ ((fX t17 t16)) (
   aJ (eJ t17 (((List.length t15):Nat):Int)) (
   aJ ((jO (nth fy t15 (Int.toNat t17)).2.1.2.2.1 (0:Int))) (
    kn (aT.L0.st ((bN .i64 (bN .i64 n (bN .i64 (10:Int) (fi .i64 (8:Int) (((List.length (nth fy t15 (Int.toNat t17)).2.1.2.1):Nat):Int)))) (4:Int)),t15,t16,(bN .i64 t17 (1:Int))))) (
    kn (aT.L0.st ((bN .i64 n (bN .i64 (10:Int) (fi .i64 (8:Int) (((List.length (nth fy t15 (Int.toNat t17)).2.1.2.1):Nat):Int)))),t15,t16,(bN .i64 t17 (1:Int)))))) none) (
   kx (aT.L0.bj n).1 (aT.L0.bj n).2):=by kernel_rfl
theorem aT.eq{R:Type}(t:eT)(k:bk→Option R):aT.A t k=
  ah (ax.call t) fun x1=>
  aJ ((!x1)) (
   k (aT.out (0:Int))) (
   ah (aT.L0.call ((bN .i64 (10:Int) (fi .i64 (8:Int) (((List.length t.2.1):Nat):Int))),t.1,(((List.length t.1):Nat):Int),(0:Int))) fun x2=>
   k (aT.out x2)):=by kernel_rfl
theorem aT.L0.ok:aT.L0.Ok:=by
 refine aT.L0.aD (fun(n,l,m,i)=>(l).length - Int.toNat i) ?_
 rintro⟨n,l,m,i⟩ ⟨hlen,k,hk,rfl,rfl,h64,hx,h0,h1⟩
 have hlen:(l).length≤1000000000:=hlen
 have hk:k≤(l).length:=hk
 have h64:l.length≤64:=h64
 have hx:∀x∈l,x.2.1.2.1.length≤12:=hx
 have h0:0≤n:=h0
 have h1:n≤1000+200*(k:Int):=h1
 by_cases h:k < (l).length
 ·left
  have n1:nth fy l k=l[k]:=cm (t:=fy) h
  have hd:List.drop k l=l[k]::List.drop (k+1) l:=List.drop_eq_getElem_cons h
  refine⟨((rT n l[k]),l,((l).length:Int),((k+1:Nat):Int)),⟨hlen,k+1,by omega,rfl,rfl,h64,hx,by unfold rT;split <;> omega,by have:=hx _ (List.getElem_mem h);unfold rT;split <;> omega⟩,by simp only[Int.toNat_natCast];omega,?_,fun kn kx=> ?_⟩
  ·simp only[aT.L0.add,aT.L0.F,Int.toNat_natCast,hd,List.foldl_cons]
  ·rw[aT.L0.step,bq (by omega),bt (by omega) (by omega),Int.toNat_natCast,n1]
   simp only[ag]
   have e:=hx _ (List.getElem_mem h)
   rw[N.HD (by omega)]
   have e2:bN .i64 10 ((8*l[k].2.1.2.1.length:Nat):Int)=10+8*(l[k].2.1.2.1.length:Int):=by rw[fK (by omega) (by omega)];omega
   rw[e2,fK (x:=n) (by omega) (by omega),N.j4 (by omega)]
   unfold rT
   by_cases hs:l[k].2.1.2.2.1=0
   ·rw[bU hs,ai,if_pos hs,Int.add_zero]
   ·rw[dO hs,ag,if_neg hs,fK (by omega) (by omega)]
 ·right
  obtain rfl:k=(l).length:=by omega
  intro R kn kx
  rw[aT.L0.step,bg (by omega),ai]
  simp only[aT.L0.add,aT.L0.F,Int.toNat_natCast,List.drop_length,List.foldl_nil]
theorem aT.ok:aT.Ok:=by
 intro t hv
 have hv:nR t:=hv
 rw[aT.eq,ax.run (d:=t) hv.1]
 simp only[aa,ax.add,ax.F,aT.add,aT.F,Ef]
 cases hok:gD t
 ·rfl
 ·obtain⟨⟨_,a2,a3,_⟩,b1,b2⟩:=iM hok
  rw[N.HD (by omega),fK (by omega) (by omega),aT.L0.run (d:=(10+((8*t.2.1.length:Nat):Int),t.1,t.1.length,0)) ⟨by show t.1.length≤_;omega,0,Nat.zero_le _,rfl,rfl,a2,fun x hx=>(wM (mR _ _ b1 x hx)).2.2.2.2,by show(0:Int)≤10+((8*t.2.1.length:Nat):Int);omega,by show 10+((8*t.2.1.length:Nat):Int)≤_;omega⟩]
  simp only[aa,aT.L0.add,aT.L0.F,Int.toNat_zero,List.drop_zero,Bool.not_true,ai,if_true,Int.natCast_mul]
  rfl
noncomputable def aT.E:=Entry.cq [some gf] aT.st aT.aC aT.add aT.F aT.out
noncomputable def aT.call:aT.D→Option aT.X:=bT aT.E aT.st
theorem aT.run:bK aT.call aT.aC aT.add aT.F:=dh (de [.d gf] fun _=>by kernel_rfl)
noncomputable def aT.sg:SG Tryz.prog:=⟨278,aY,aT.E,.fn 1 (by kernel_rfl) aT.ok (And.intro (.cq aT.L0.ok (by kernel_rfl)) trivial)⟩
abbrev aL.L0.D:=Bs×(List fZ)×Int×Int
def aL.L0.st:aL.L0.D→AS:=fun(b,t14,t15,t16)=>⟨([.undef,.undef,.undef,.d tB b]++ba 10 ([.d (.slice fy) t14,.d ti t15,.d ti t16]++ba 36 [])),[],(List.replicate 53 [])⟩
abbrev aL.L0.Y0:=Bs
abbrev aL.L0.X0:=Bs
def aL.L0.bj:aL.L0.X0→Exit×AS:=fun x=>(.exit 0,⟨([.undef,.undef,.undef,.d tB x]++ba 49 []),[],(List.replicate 53 [])⟩)
abbrev aL.L0.X:=aL.L0.X0
abbrev aL.L0.Y:=aL.L0.Y0
def aL.L0.out:aL.L0.X→Out (Exit×AS):=fun x=> .ok (aL.L0.bj x)
def aL.L0.add:aL.L0.D→aL.L0.Y→aL.L0.X:=fun(b,t14,t15,t16) y=>y
abbrev aL.L1.D:=Bs×(List fZ)×Int×Int×(List Sg)×Int×Int×fZ
def aL.L1.st:aL.L1.D→AS:=fun(b_2,t14_2,t15_2,t16_2,t32,t33,t34,n5)=>⟨([.undef,.undef,.undef,.d tB b_2,.undef,.ptr (.new 5 0) 0 [] 0]++ba 8 ([.d (.slice fy) t14_2,.d ti t15_2,.d ti t16_2]++ba 15 ([.d (.slice nP) t32,.d ti t33,.d ti t34]++ba 18 []))),[],(bE 5 ([[.obj 0 false (.d fy n5)]]++bE 47 []))⟩
abbrev aL.L1.Y0:=Bs
abbrev aL.L1.X0:=((List fZ)×Int×Int×fZ)×(Bs)
def aL.L1.bj:aL.L1.X0→Exit×AS:=fun x=>(.exit 2,⟨([.undef,.undef,.undef,.d tB x.2,.undef,.ptr (.new 5 0) 0 [] 0]++ba 8 ([.d (.slice fy) x.1.1,.d ti x.1.2.1,.d ti x.1.2.2.1]++ba 36 [])),[],(bE 5 ([[.obj 0 false (.d fy x.1.2.2.2)]]++bE 47 []))⟩)
abbrev aL.L1.X:=aL.L1.X0
abbrev aL.L1.Y:=aL.L1.Y0
def aL.L1.out:aL.L1.X→Out (Exit×AS):=fun x=> .ok (aL.L1.bj x)
def aL.L1.add:aL.L1.D→aL.L1.Y→aL.L1.X:=fun(b_2,t14_2,t15_2,t16_2,t32,t33,t34,n5) y=>((t14_2,t15_2,t16_2,n5),y)
abbrev aL.D:=eT
def aL.st:aL.D→SA:=fun t=>([.d gf t],[])
abbrev aL.Y:=Bs
abbrev aL.X:=Bs
def aL.out:aL.X→bk:=fun x=>⟨.d tB x,[],[]⟩
def aL.add:aL.D→aL.Y→aL.X:=fun t y=>y
def aL.L1.aC:aL.L1.D→Prop:=fun(b,l1,n1v,i1,l,n,i,x)=>(l).length≤1000000000∧∃k:Nat,k≤(l).length∧i=k∧n=(l).length∧(l.length≤12)∧(b.length≤80000000+16*k)
def aL.L1.F:aL.L1.D→aL.L1.Y:=fun(b,l1,n1v,i1,l,n,i,x)=>(List.drop (Int.toNat i) l).foldl w9 b
def aL.L0.aC:aL.L0.D→Prop:=fun(b,l,n,i)=>(l).length≤1000000000∧∃k:Nat,k≤(l).length∧i=k∧n=(l).length∧(l.length≤64)∧(∀x∈l,x.2.1.2.1.length≤12∧x.2.1.1≤9223372036854775807)∧(b.length≤100000+1000*k)
def aL.L0.F:aL.L0.D→aL.L0.Y:=fun(b,l,n,i)=>(List.drop (Int.toNat i) l).foldl Eg b
theorem um:∀(l:List Sg) (b:List Int),(l.foldl w9 b).length=b.length+16*l.length
 |[],b=>rfl
 |x::l,b=>by
  have h1:=yX b x
  have h3:=um l (w9 b x)
  rw[List.foldl_cons,List.length_cons]
  omega
theorem Eh(b:List Int)(x:fZ)(h:x.2.1.2.1.length≤12):(Eg b x).length≤b.length+300:=by
 have e1:=fq b x.2.1.1
 have e2:=fq (eL b x.2.1.1) x.2.1.2.1.length
 have e3:=um x.2.1.2.1 (eL (eL b x.2.1.1) x.2.1.2.1.length)
 unfold Eg
 rw[List.length_append,bY]
 omega
def aL.aC:aL.D→Prop:=fun t=>nR t
def aL.F:aL.D→aL.Y:=fun t=>IZ t
noncomputable def aL.G:dZ:=fh (P:=Tryz.prog) [ax.sg,aH.sg,dG.sg,dx.sg]
noncomputable def aL.L0.E:=bP.cq aL.L0.st aL.L0.aC aL.L0.add aL.L0.F aL.L0.out
noncomputable def aL.L0.call:aL.L0.D→Option aL.L0.X:=cX aL.L0.E aL.L0.st
noncomputable def aL.L1.E:=bP.cq aL.L1.st aL.L1.aC aL.L1.add aL.L1.F aL.L1.out
noncomputable def aL.L1.call:aL.L1.D→Option aL.L1.X:=cX aL.L1.E aL.L1.st
noncomputable def aL.an:eO:= {loops:=j7 [(5,{bm:=[3,14,15,16]}),(9,{bm:=[3,5,14,15,16,32,33,34],sites:=[5]})],outs:=j6 [(5,{bm:=[3]},{bm:=[2]}),(9,{bm:=[3,5,14,15,16],sites:=[5]},{bm:=[2]})],fJ:=kW [(5,aL.L0.E),(9,aL.L1.E)],res:=[some tB]}
noncomputable def aL.A:= @cZ Tryz.prog aL.G aL.an 0 Tryz.f127 _ aL.st
abbrev aL.Ok:=da @aL.A aL.aC aL.add aL.F aL.out
noncomputable def aL.L0.R:= @bX Tryz.prog aL.G aL.an 0 Tryz.f127 0 _ aL.L0.st
abbrev aL.L0.Ok:=ej Tryz.prog aL.G aL.an 0 Tryz.f127 0 aL.L0.st aL.L0.aC aL.L0.add aL.L0.F aL.L0.out
noncomputable def aL.L1.R:= @bX Tryz.prog aL.G aL.an 0 Tryz.f127 1 _ aL.L1.st
abbrev aL.L1.Ok:=ej Tryz.prog aL.G aL.an 0 Tryz.f127 1 aL.L1.st aL.L1.aC aL.L1.add aL.L1.F aL.L1.out
theorem aL.L0.run:bK aL.L0.call aL.L0.aC aL.L0.add aL.L0.F:=eG (eC [.d tB,.d (.slice fy),.d ti,.d ti] fun _=>by kernel_rfl)
theorem aL.L0.aD:fN @aL.L0.R aL.L0.st aL.L0.aC aL.L0.add aL.L0.F aL.L0.bj aL.L0.Ok:=fU
theorem aL.L0.step{R:Type}(b:Bs)(t14:(List fZ))(t15:Int)(t16:Int)(kn:AS→Option R)(kx:Exit→AS→Option R):aL.L0.R (b,t14,t15,t16) kn kx=
  aJ ((fX t16 t15)) (
   aJ (eJ t16 (((List.length t14):Nat):Int)) (
   ah (dG.call (b,(nth fy t14 (Int.toNat t16)).2.1.1)) fun x1=>
   ah (dG.call (x1,(((List.length (nth fy t14 (Int.toNat t16)).2.1.2.1):Nat):Int))) fun x2=>
   ah (aL.L1.call (x2,t14,t15,t16,(nth fy t14 (Int.toNat t16)).2.1.2.1,(((List.length (nth fy t14 (Int.toNat t16)).2.1.2.1):Nat):Int),(0:Int),(nth fy t14 (Int.toNat t16)))) fun x3=>
   ah (dx.call (x3.2,x3.1.2.2.2.2.1.2.2.1)) fun x4=>
   kn (aL.L0.st (x4,x3.1.1,x3.1.2.1,(bN .i64 x3.1.2.2.1 (1:Int))))) none) (
   kx (aL.L0.bj b).1 (aL.L0.bj b).2):=by kernel_rfl
theorem aL.L1.run:bK aL.L1.call aL.L1.aC aL.L1.add aL.L1.F:=eG (eC [.d tB,.d (.slice fy),.d ti,.d ti,.d (.slice nP),.d ti,.d ti,.d fy] fun _=>by kernel_rfl)
theorem aL.L1.aD:fN @aL.L1.R aL.L1.st aL.L1.aC aL.L1.add aL.L1.F aL.L1.bj aL.L1.Ok:=fU
theorem aL.L1.step{R:Type}(b_2:Bs)(t14_2:(List fZ))(t15_2:Int)(t16_2:Int)(t32:(List Sg))(t33:Int)(t34:Int)(n5:fZ)(kn:AS→Option R)(kx:Exit→AS→Option R):aL.L1.R (b_2,t14_2,t15_2,t16_2,t32,t33,t34,n5) kn kx=
  aJ ((fX t34 t33)) (
   aJ (eJ t34 (((List.length t32):Nat):Int)) (
   ah (dx.call (b_2,(nth nP t32 (Int.toNat t34)).1)) fun x1=>
   ah (dx.call (x1,(nth nP t32 (Int.toNat t34)).2.1)) fun x2=>
   kn (aL.L1.st (x2,t14_2,t15_2,t16_2,t32,t33,(bN .i64 t34 (1:Int)),n5))) none) (
   kx (aL.L1.bj ((t14_2,t15_2,t16_2,n5),b_2)).1 (aL.L1.bj ((t14_2,t15_2,t16_2,n5),b_2)).2):=by kernel_rfl
theorem aL.eq{R:Type}(t:eT)(k:bk→Option R):aL.A t k=
  ah (ax.call t) fun x1=>
  aJ ((!x1)) (
   k (aL.out ([]:List Int))) (
   ah (aH.call t) fun x2=>
   ah (aL.L0.call (x2,t.1,(((List.length t.1):Nat):Int),(0:Int))) fun x9=>
   k (aL.out x9)):=by kernel_rfl
theorem aL.L1.ok:aL.L1.Ok:=by
 refine aL.L1.aD (fun(b,l1,n1v,i1,l,n,i,x)=>(l).length - Int.toNat i) ?_
 rintro⟨b,l1,n1v,i1,l,n,i,x⟩ ⟨hlen,k,hk,rfl,rfl,h12,hb⟩
 have hlen:(l).length≤1000000000:=hlen
 have hk:k≤(l).length:=hk
 have h12:l.length≤12:=h12
 have hb:b.length≤80000000+16*k:=hb
 by_cases h:k < (l).length
 ·left
  have n1:nth nP l k=l[k]:=cm (t:=nP) h
  have hd:List.drop k l=l[k]::List.drop (k+1) l:=List.drop_eq_getElem_cons h
  refine⟨((w9 b l[k]),l1,n1v,i1,l,((l).length:Int),((k+1:Nat):Int),x),⟨hlen,k+1,by omega,rfl,rfl,h12,by have:=yX b l[k];omega⟩,by simp only[Int.toNat_natCast];omega,?_,fun kn kx=> ?_⟩
  ·simp only[aL.L1.add,aL.L1.F,Int.toNat_natCast,hd,List.foldl_cons]
  ·rw[aL.L1.step,bq (by omega),bt (by omega) (by omega),Int.toNat_natCast,n1]
   simp only[ag]
   rw[dx.run (d:=(b,l[k].1)) (by show b.length≤_;omega)]
   simp only[aa,dx.add,dx.F]
   rw[dx.run (d:=(b++ik l[k].1,l[k].2.1)) (by show(b++ik l[k].1).length≤_;rw[List.length_append,bY];omega)]
   simp only[aa,dx.add,dx.F]
   rw[N.j4 (by omega)]
   rfl
 ·right
  obtain rfl:k=(l).length:=by omega
  intro R kn kx
  rw[aL.L1.step,bg (by omega),ai]
  simp only[aL.L1.add,aL.L1.F,Int.toNat_natCast,List.drop_length,List.foldl_nil]
theorem aL.L0.ok:aL.L0.Ok:=by
 refine aL.L0.aD (fun(b,l,n,i)=>(l).length - Int.toNat i) ?_
 rintro⟨b,l,n,i⟩ ⟨hlen,k,hk,rfl,rfl,h64,hx,hb⟩
 have hlen:(l).length≤1000000000:=hlen
 have hk:k≤(l).length:=hk
 have h64:l.length≤64:=h64
 have hx:∀x∈l,x.2.1.2.1.length≤12∧x.2.1.1≤9223372036854775807:=hx
 have hb:b.length≤100000+1000*k:=hb
 by_cases h:k < (l).length
 ·left
  have n1:nth fy l k=l[k]:=cm (t:=fy) h
  have hd:List.drop k l=l[k]::List.drop (k+1) l:=List.drop_eq_getElem_cons h
  refine⟨((Eg b l[k]),l,((l).length:Int),((k+1:Nat):Int)),⟨hlen,k+1,by omega,rfl,rfl,h64,hx,by have:=Eh b l[k] (hx _ (List.getElem_mem h)).1;omega⟩,by simp only[Int.toNat_natCast];omega,?_,fun kn kx=> ?_⟩
  ·simp only[aL.L0.add,aL.L0.F,Int.toNat_natCast,hd,List.foldl_cons]
  ·rw[aL.L0.step,bq (by omega),bt (by omega) (by omega),Int.toNat_natCast,n1]
   simp only[ag]
   have e:=hx _ (List.getElem_mem h)
   have e1:=fq b l[k].2.1.1
   have e2:=fq (eL b l[k].2.1.1) l[k].2.1.2.1.length
   have e3:=um l[k].2.1.2.1 (eL (eL b l[k].2.1.1) l[k].2.1.2.1.length)
   rw[dG.run (d:=(b,l[k].2.1.1)) ⟨by show b.length≤_;omega,e.2⟩]
   simp only[aa,dG.add,dG.F]
   rw[dG.run (d:=(eL b l[k].2.1.1,(l[k].2.1.2.1.length:Int))) ⟨by show(eL b l[k].2.1.1).length≤_;omega,by show(l[k].2.1.2.1.length:Int)≤_;omega⟩]
   simp only[aa,dG.add,dG.F]
   rw[aL.L1.run (d:=(eL (eL b l[k].2.1.1) l[k].2.1.2.1.length,l,l.length,k,l[k].2.1.2.1,l[k].2.1.2.1.length,0,l[k])) ⟨by show l[k].2.1.2.1.length≤_;omega,0,Nat.zero_le _,rfl,rfl,e.1,by show(eL (eL b l[k].2.1.1) l[k].2.1.2.1.length).length≤_;omega⟩]
   simp only[aa,aL.L1.add,aL.L1.F,Int.toNat_zero,List.drop_zero]
   rw[dx.run (d:=(l[k].2.1.2.1.foldl w9 (eL (eL b l[k].2.1.1) l[k].2.1.2.1.length),l[k].2.1.2.2.1)) (by show(l[k].2.1.2.1.foldl w9 (eL (eL b l[k].2.1.1) l[k].2.1.2.1.length)).length≤_;omega)]
   simp only[aa,dx.add,dx.F]
   rw[N.j4 (by omega)]
   rfl
 ·right
  obtain rfl:k=(l).length:=by omega
  intro R kn kx
  rw[aL.L0.step,bg (by omega),ai]
  simp only[aL.L0.add,aL.L0.F,Int.toNat_natCast,List.drop_length,List.foldl_nil]
theorem aL.ok:aL.Ok:=by
 intro t hv
 have hv:nR t:=hv
 rw[aL.eq,ax.run (d:=t) hv.1]
 simp only[aa,ax.add,ax.F,aL.add,aL.F,IZ]
 cases hok:gD t
 ·rfl
 ·obtain⟨⟨_,a2,a3,_⟩,b1,b2⟩:=iM hok
  have hl:=ua hok hv
  rw[aH.run (d:=t) ⟨hok,hv⟩]
  simp only[Bool.not_true,ai,if_true,aa,aH.add,aH.F]
  rw[aL.L0.run (d:=(l5 t,t.1,t.1.length,0)) ⟨by show t.1.length≤_;omega,0,Nat.zero_le _,rfl,rfl,a2,fun x hx=>by have:=wM (mR _ _ b1 x hx);exact⟨this.2.2.2.2,by omega⟩,by show(l5 t).length≤_;omega⟩]
  rfl
noncomputable def aL.E:=Entry.cq [some gf] aL.st aL.aC aL.add aL.F aL.out
noncomputable def aL.call:aL.D→Option aL.X:=bT aL.E aL.st
theorem aL.run:bK aL.call aL.aC aL.add aL.F:=dh (de [.d gf] fun _=>by kernel_rfl)
noncomputable def aL.sg:SG Tryz.prog:=⟨127,aY,aL.E,.fn 2 (by kernel_rfl) aL.ok (And.intro (.cq aL.L0.ok (by kernel_rfl)) (And.intro (.cq aL.L1.ok (by kernel_rfl)) trivial))⟩
abbrev aO.L0.D:=Nat×(List fZ)×Int×Int×(List cR)
def aO.L0.st:aO.L0.D→AS:=fun(lL,t9,t10,t11,n19)=>⟨([.undef,.undef,.bI (.new 19 0) 0 [] 0 0 lL]++ba 6 ([.d (.slice fy) t9,.d ti t10,.d ti t11]++ba 10 [])),[],(bE 19 [[.obj 0 false (.vec 47 cj n19)],[],[]])⟩
abbrev aO.L0.Y0:=Nat×(List cR)
abbrev aO.L0.X0:=Nat×(List cR)
def aO.L0.bj:aO.L0.X0→Exit×AS:=fun x=>(.exit 0,⟨([.undef,.undef,.bI (.new 19 0) 0 [] 0 0 x.1]++ba 19 []),[],(bE 19 [[.obj 0 false (.vec 47 cj x.2)],[],[]])⟩)
abbrev aO.L0.X:=aO.L0.X0
abbrev aO.L0.Y:=aO.L0.Y0
def aO.L0.out:aO.L0.X→Out (Exit×AS):=fun x=> .ok (aO.L0.bj x)
def aO.L0.add:aO.L0.D→aO.L0.Y→aO.L0.X:=fun(lL,t9,t10,t11,n19) y=>y
abbrev aO.D:=eT
def aO.st:aO.D→SA:=fun t=>([.d gf t],[])
abbrev aO.Y:=(List cR)
abbrev aO.X:=(List cR)
def aO.out:aO.X→bk:=fun x=>⟨.d (.slice cj) x,[],[]⟩
def aO.add:aO.D→aO.Y→aO.X:=fun t y=>y
def aO.L0.aC:aO.L0.D→Prop:=fun(L,l,n,i,r)=>(l).length≤1000000∧∃k:Nat,k≤(l).length∧i=k∧n=(l).length∧L=(r).length∧(r).length≤1000000+k
def aO.L0.F:aO.L0.D→aO.L0.Y:=fun(L,l,n,i,r)=>(L+(List.drop (Int.toNat i) l).length,r++(List.drop (Int.toNat i) l).map (fun x:fZ=>x.1))
def aO.aC:aO.D→Prop:=fun t=>HX t
def aO.F:aO.D→aO.Y:=fun t=>dJ t
noncomputable def aO.G:dZ:=fh (P:=Tryz.prog) [ax.sg]
noncomputable def aO.L0.E:=bP.cq aO.L0.st aO.L0.aC aO.L0.add aO.L0.F aO.L0.out
noncomputable def aO.L0.call:aO.L0.D→Option aO.L0.X:=cX aO.L0.E aO.L0.st
noncomputable def aO.an:eO:= {loops:=j7 [(4,{bm:=[2,9,10,11],sites:=[19],ij:=[⟨2,[],19,58⟩]})],outs:=j6 [(4,{bm:=[2],sites:=[19]},{bm:=[2]})],fJ:=kW [(4,aO.L0.E)],res:=[some (.slice cj)]}
noncomputable def aO.A:= @cZ Tryz.prog aO.G aO.an 0 Tryz.f32 _ aO.st
abbrev aO.Ok:=da @aO.A aO.aC aO.add aO.F aO.out
noncomputable def aO.L0.R:= @bX Tryz.prog aO.G aO.an 0 Tryz.f32 0 _ aO.L0.st
abbrev aO.L0.Ok:=ej Tryz.prog aO.G aO.an 0 Tryz.f32 0 aO.L0.st aO.L0.aC aO.L0.add aO.L0.F aO.L0.out
theorem aO.L0.run:bK aO.L0.call aO.L0.aC aO.L0.add aO.L0.F:=eG (eC [.n,.d (.slice fy),.d ti,.d ti,.d (.slice cj)] fun _=>by kernel_rfl)
theorem aO.L0.aD:fN @aO.L0.R aO.L0.st aO.L0.aC aO.L0.add aO.L0.F aO.L0.bj aO.L0.Ok:=fU
theorem aO.L0.step{R:Type}(lL:Nat)(t9:(List fZ))(t10:Int)(t11:Int)(n19:(List cR))(kn:AS→Option R)(kx:Exit→AS→Option R):aO.L0.R (lL,t9,t10,t11,n19) kn kx=
  aJ ((fX t11 t10)) (
   aJ (eJ t11 (((List.length t9):Nat):Int)) (
   aJ (decide (lL≤(List.length n19))) (
   aJ (dq (lL+1) 40) (
   kn (aO.L0.st ((lL+1),t9,t10,(bN .i64 t11 (1:Int)),((List.take lL n19)++ [(nth fy t9 (Int.toNat t11)).1])))) none) none) none) (
   kx (aO.L0.bj (lL,n19)).1 (aO.L0.bj (lL,n19)).2):=by kernel_rfl
theorem aO.eq{R:Type}(t:eT)(k:bk→Option R):aO.A t k=
  ah (ax.call t) fun x1=>
  aJ ((!x1)) (
   k (aO.out ([]:List cR))) (
   ah (aO.L0.call (0,t.1,(((List.length t.1):Nat):Int),(0:Int),([]:List cR))) fun x2=>
   aJ (decide (0=0∧(0+x2.1)≤(List.length x2.2))) (
   k (aO.out (cut x2.2 0 x2.1))) none):=by kernel_rfl
theorem aO.L0.ok:aO.L0.Ok:=by
 refine aO.L0.aD (fun(L,l,n,i,r)=>(l).length - Int.toNat i) ?_
 rintro⟨L,l,n,i,r⟩ ⟨hlen,k,hk,rfl,rfl,rfl,hrow⟩
 have hlen:(l).length≤1000000:=hlen
 have hk:k≤(l).length:=hk
 have hrow:(r).length≤1000000+k:=hrow
 by_cases h:k < (l).length
 ·left
  have n1:nth fy l k=l[k]:=cm (t:=fy) h
  have hd:List.drop k l=l[k]::List.drop (k+1) l:=List.drop_eq_getElem_cons h
  refine⟨((r).length+1,l,((l).length:Int),((k+1:Nat):Int),r++ [(fun x:fZ=>x.1) l[k]]),⟨hlen,k+1,by omega,rfl,rfl,by rw[List.length_append];rfl,by rw[List.length_append];show(r).length+1≤_;omega⟩,by simp only[Int.toNat_natCast];omega,?_,fun kn kx=> ?_⟩
  ·simp only[aO.L0.add,aO.L0.F,Int.toNat_natCast,hd,List.map_cons,List.length_cons,List.append_assoc,List.singleton_append]
   rw[show ∀a c:Nat,a+1+c=a+(c+1) from fun a c=>by omega]
  ·rw[aO.L0.step,bq (by omega),bt (show(0:Int)≤(k:Int) by omega) (by omega),Int.toNat_natCast,n1]
   simp only[ag]
   rw[aX (Nat.le_refl _),ed (by omega) (by omega),N.j4 (by omega),List.take_length]
   rfl
 ·right
  obtain rfl:k=(l).length:=by omega
  intro R kn kx
  rw[aO.L0.step,bg (by omega),ai]
  simp only[aO.L0.add,aO.L0.F,Int.toNat_natCast,List.drop_length,List.map_nil,List.append_nil,List.length_nil,Nat.add_zero]
theorem aO.ok:aO.Ok:=by
 intro t hv
 have hv:HX t:=hv
 rw[aO.eq,ax.run (d:=t) hv]
 simp only[aa,ax.add,ax.F,aO.add,aO.F,dJ]
 cases hok:gD t
 ·rfl
 ·obtain⟨⟨_,a2,a3,_⟩,b1,b2⟩:=iM hok
  rw[aO.L0.run (d:=(0,t.1,t.1.length,0,[])) ⟨by show t.1.length≤_;omega,0,Nat.zero_le _,rfl,rfl,rfl,Nat.zero_le _⟩]
  simp only[Bool.not_true,ai,if_true,aa,aO.L0.add,aO.L0.F,Int.toNat_zero,List.drop_zero,List.nil_append,Nat.zero_add]
  rw[aX ⟨by trivial,by rw[List.length_map];exact Nat.le_refl _⟩,ag,fc (by rw[List.length_map])]
noncomputable def aO.E:=Entry.cq [some gf] aO.st aO.aC aO.add aO.F aO.out
noncomputable def aO.call:aO.D→Option aO.X:=bT aO.E aO.st
theorem aO.run:bK aO.call aO.aC aO.add aO.F:=dh (de [.d gf] fun _=>by kernel_rfl)
noncomputable def aO.sg:SG Tryz.prog:=⟨32,aY,aO.E,.fn 1 (by kernel_rfl) aO.ok (And.intro (.cq aO.L0.ok (by kernel_rfl)) trivial)⟩
abbrev bD.L0.D:=Nat×Int×Int×Bs×(List cR)
def bD.L0.st:bD.L0.D→AS:=fun(lL,t12,t13,n3,n21)=>⟨([.undef,.undef,.bI (.new 21 0) 0 [] 0 0 lL,.ptr (.new 3 0) 0 [] 0]++ba 8 ([.d ti t12,.d ti t13]++ba 10 [])),[],([[],[],[],[.obj 0 false (.d tH n3)]]++bE 17 [[.obj 0 false (.vec 47 cj n21)],[],[]])⟩
abbrev bD.L0.Y0:=Nat×(List cR)
abbrev bD.L0.X0:=Nat×(List cR)
def bD.L0.bj:bD.L0.X0→Exit×AS:=fun x=>(.exit 0,⟨([.undef,.undef,.bI (.new 21 0) 0 [] 0 0 x.1]++ba 21 []),[],(bE 21 [[.obj 0 false (.vec 47 cj x.2)],[],[]])⟩)
abbrev bD.L0.X:=bD.L0.X0
abbrev bD.L0.Y:=bD.L0.Y0
def bD.L0.out:bD.L0.X→Out (Exit×AS):=fun x=> .ok (bD.L0.bj x)
def bD.L0.add:bD.L0.D→bD.L0.Y→bD.L0.X:=fun(lL,t12,t13,n3,n21) y=>y
abbrev bD.D:=eT
def bD.st:bD.D→SA:=fun t=>([.d gf t],[])
abbrev bD.Y:=(List cR)
abbrev bD.X:=(List cR)
def bD.out:bD.X→bk:=fun x=>⟨.d (.slice cj) x,[],[]⟩
def bD.add:bD.D→bD.Y→bD.X:=fun t y=>y
def bD.L0.aC:bD.L0.D→Prop:=fun(L,n,i,id,r)=>∃k m:Nat,k≤m∧i=k∧n=m∧m≤1000∧L=r.length∧L=k
def bD.L0.F:bD.L0.D→bD.L0.Y:=fun(L,n,i,id,r)=>(L+(n - i).toNat,r++nL id i.toNat (n - i).toNat)
def bD.aC:bD.D→Prop:=fun t=>nR t
def bD.F:bD.D→bD.Y:=fun t=>eZ t
noncomputable def bD.G:dZ:=fh (P:=Tryz.prog) [tid.sg,ax.sg]
noncomputable def bD.L0.E:=bP.cq bD.L0.st bD.L0.aC bD.L0.add bD.L0.F bD.L0.out
noncomputable def bD.L0.call:bD.L0.D→Option bD.L0.X:=cX bD.L0.E bD.L0.st
noncomputable def bD.an:eO:= {loops:=j7 [(5,{bm:=[2,3,12,13],sites:=[3,21],ij:=[⟨2,[],21,58⟩]})],outs:=j6 [(5,{bm:=[2],sites:=[21]},{bm:=[2]})],fJ:=kW [(5,bD.L0.E)],res:=[some (.slice cj)]}
noncomputable def bD.A:= @cZ Tryz.prog bD.G bD.an 0 Tryz.f33 _ bD.st
abbrev bD.Ok:=da @bD.A bD.aC bD.add bD.F bD.out
noncomputable def bD.L0.R:= @bX Tryz.prog bD.G bD.an 0 Tryz.f33 0 _ bD.L0.st
abbrev bD.L0.Ok:=ej Tryz.prog bD.G bD.an 0 Tryz.f33 0 bD.L0.st bD.L0.aC bD.L0.add bD.L0.F bD.L0.out
theorem bD.L0.run:bK bD.L0.call bD.L0.aC bD.L0.add bD.L0.F:=eG (eC [.n,.d ti,.d ti,.d tB,.d (.slice cj)] fun _=>by kernel_rfl)
theorem bD.L0.aD:fN @bD.L0.R bD.L0.st bD.L0.aC bD.L0.add bD.L0.F bD.L0.bj bD.L0.Ok:=fU
theorem bD.L0.step{R:Type}(lL:Nat)(t12:Int)(t13:Int)(n3:Bs)(n21:(List cR))(kn:AS→Option R)(kx:Exit→AS→Option R):bD.L0.R (lL,t12,t13,n3,n21) kn kx=
  aJ ((fX t13 t12)) (
   aJ (decide (lL≤(List.length n21))) (
   aJ (dq (lL+1) 40) (
   kn (bD.L0.st ((lL+1),t12,(bN .i64 t13 (1:Int)),n3,((List.take lL n21)++ [(n3,(t13,()))])))) none) none) (
   kx (bD.L0.bj (lL,n21)).1 (bD.L0.bj (lL,n21)).2):=by kernel_rfl
theorem bD.eq{R:Type}(t:eT)(k:bk→Option R):bD.A t k=
  ah (tid.call t) fun x1=>
  ah (ax.call t) fun x2=>
  aJ ((!x2)) (
   k (bD.out ([]:List cR))) (
   ah (bD.L0.call (0,(((List.length t.2.1):Nat):Int),(0:Int),x1,([]:List cR))) fun x3=>
   aJ (decide (0=0∧(0+x3.1)≤(List.length x3.2))) (
   k (bD.out (cut x3.2 0 x3.1))) none):=by kernel_rfl
theorem BU(id:List Int)(k n:Nat):(nL id k n).length=n:=by simp[nL]
theorem zT(id:List Int)(k n:Nat):nL id k (n+1)=(id,((k:Int),()))::nL id (k+1) n:=by
 unfold nL
 rw[List.range'_succ,List.map_cons]
theorem bD.L0.ok:bD.L0.Ok:=by
 refine bD.L0.aD (fun(L,n,i,id,r)=>(n - i).toNat) ?_
 rintro⟨L,n,i,id,r⟩ ⟨k,m,hk,rfl,rfl,hm,rfl,hrk⟩
 have hrk:r.length=k:=hrk
 by_cases h:k < m
 ·left
  have e1:((m:Int) - (k:Int)).toNat=(m - (k+1))+1:=by omega
  have e2:((m:Int) - ((k+1:Nat):Int)).toNat=m - (k+1):=by omega
  refine⟨(r.length+1,(m:Int),((k+1:Nat):Int),id,r++ [(id,((k:Int),()))]),⟨k+1,m,by omega,rfl,rfl,hm,by rw[List.length_append];rfl,by show r.length+1=_;omega⟩,by show((m:Int) - ((k+1:Nat):Int)).toNat < ((m:Int) - (k:Int)).toNat;omega,?_,fun kn kx=> ?_⟩
  ·simp only[bD.L0.add,bD.L0.F,e1,e2,Int.toNat_natCast,zT,List.append_assoc,List.singleton_append]
   rw[show r.length+1+(m - (k+1))=r.length+(m - (k+1)+1) by omega]
  ·rw[bD.L0.step,bq (by omega),aX (Nat.le_refl _),ed (by omega) (by omega),N.j4 (by omega),List.take_length]
   rfl
 ·right
  obtain rfl:k=m:=by omega
  intro R kn kx
  rw[bD.L0.step,bg (by omega),ai]
  simp only[bD.L0.add,bD.L0.F,Int.sub_self,Int.toNat_zero,Nat.add_zero]
  rw[show nL id (k:Int).toNat 0=[] from rfl,List.append_nil]
theorem bD.ok:bD.Ok:=by
 intro t hv
 have hv:nR t:=hv
 rw[bD.eq,tid.run (d:=t) hv,ax.run (d:=t) hv.1]
 simp only[aa,tid.add,tid.F,ax.add,ax.F,bD.add,bD.F,eZ]
 cases hok:gD t
 ·rfl
 ·obtain⟨⟨_,a2,a3,_⟩,b1,b2⟩:=iM hok
  have hl:=BU (mG t) 0 t.2.1.length
  rw[bD.L0.run (d:=(0,t.2.1.length,0,mG t,[])) ⟨0,t.2.1.length,Nat.zero_le _,rfl,rfl,by omega,rfl,rfl⟩]
  simp only[Bool.not_true,ai,if_true,aa,bD.L0.add,bD.L0.F,Int.sub_zero,Int.toNat_natCast,Int.toNat_zero,List.nil_append,Nat.zero_add]
  rw[aX ⟨by trivial,by rw[hl];exact Nat.le_refl _⟩,ag,fc hl]
noncomputable def bD.E:=Entry.cq [some gf] bD.st bD.aC bD.add bD.F bD.out
noncomputable def bD.call:bD.D→Option bD.X:=bT bD.E bD.st
theorem bD.run:bK bD.call bD.aC bD.add bD.F:=dh (de [.d gf] fun _=>by kernel_rfl)
noncomputable def bD.sg:SG Tryz.prog:=⟨33,aY,bD.E,.fn 1 (by kernel_rfl) bD.ok (And.intro (.cq bD.L0.ok (by kernel_rfl)) trivial)⟩
set_option synthInstance.maxSize 5000
abbrev fv.D:=(List fZ)
def fv.st:fv.D→SA:=fun sv=>([.d (.slice fy) sv],[])
abbrev fv.Y:=Nat×(List fZ)
abbrev fv.X:=Nat×(List fZ)
def fv.out:fv.X→bk:=fun x=>⟨.bI (.new 0 0) 0 [] 0 0 x.1,[],[.obj 0 false (.vec 52 fy x.2)]⟩
def fv.add:fv.D→fv.Y→fv.X:=fun sv y=>y
def fv.aC:fv.D→Prop:=fun l=>l.length≤1000000
def fv.F:fv.D→fv.Y:=fun l=>(l.length,l)
noncomputable def fv.G:dZ:=fh (P:=Tryz.prog) []
noncomputable def fv.an:eO:= {bO:=[5],ij:=[⟨2,[],5,38⟩]}
noncomputable def fv.A:= @cZ Tryz.prog fv.G fv.an 0 Tryz.f138 _ fv.st
abbrev fv.Ok:=da @fv.A fv.aC fv.add fv.F fv.out
theorem fv.eq{R:Type}(sv:(List fZ))(k:bk→Option R):fv.A sv k=
  aJ (decide (0 < (List.length sv))) (
   aJ (dq (0+(List.length sv)) 80) (
   k (fv.out ((0+(List.length sv)),((List.take 0 (List.replicate 0 (((List.replicate 32 (0:Int)),((0:Int),())),(((0:Int),(([]:List Sg),((0:Int),()))),()))))++sv)))) none) (
   nd (
    k (fv.out (0,([]:List fZ)))) (
    aJ (dq (0+(List.length sv)) 80) (
    k (fv.out ((0+(List.length sv)),((List.take 0 (List.replicate 0 (((List.replicate 32 (0:Int)),((0:Int),())),(((0:Int),(([]:List Sg),((0:Int),()))),()))))++sv)))) none)):=by kernel_rfl
theorem fv.ok:fv.Ok:=by
 intro l hl
 have hl:l.length≤1000000:=hl
 have hr:dq l.length 80=true:=ed (by omega) (by omega)
 rw[fv.eq]
 simp only[Nat.zero_add,hr,ag,List.take_zero,List.nil_append,fv.add,fv.F]
 by_cases h:0 < l.length
 ·simp only[aX h,ag]
 ·have:l=[]:=List.eq_nil_of_length_eq_zero (by omega)
  subst this
  simp only[List.length_nil,nu,bz (Nat.lt_irrefl 0),ai]
noncomputable def fv.E:=Entry.cq [some (.slice fy)] fv.st fv.aC fv.add fv.F fv.out
noncomputable def fv.call:fv.D→Option fv.X:=bT fv.E fv.st
theorem fv.run:bK fv.call fv.aC fv.add fv.F:=dh (de [.d (.slice fy)] fun _=>by kernel_rfl)
noncomputable def fv.sg:SG Tryz.prog:=⟨138,aY,fv.E,.fn 0 (by kernel_rfl) fv.ok trivial⟩
abbrev dS.D:=(List fu)
def dS.st:dS.D→SA:=fun sv=>([.d (.slice eN) sv],[])
abbrev dS.Y:=Nat×(List fu)
abbrev dS.X:=Nat×(List fu)
def dS.out:dS.X→bk:=fun x=>⟨.bI (.new 0 0) 0 [] 0 0 x.1,[],[.obj 0 false (.vec 36 eN x.2)]⟩
def dS.add:dS.D→dS.Y→dS.X:=fun sv y=>y
def dS.aC:dS.D→Prop:=fun l=>l.length≤1000000
def dS.F:dS.D→dS.Y:=fun l=>(l.length,l)
noncomputable def dS.G:dZ:=fh (P:=Tryz.prog) []
noncomputable def dS.an:eO:= {bO:=[5],ij:=[⟨2,[],5,37⟩]}
noncomputable def dS.A:= @cZ Tryz.prog dS.G dS.an 0 Tryz.f139 _ dS.st
abbrev dS.Ok:=da @dS.A dS.aC dS.add dS.F dS.out
theorem dS.eq{R:Type}(sv:(List fu))(k:bk→Option R):dS.A sv k=
  aJ (decide (0 < (List.length sv))) (
   aJ (dq (0+(List.length sv)) 32) (
   k (dS.out ((0+(List.length sv)),((List.take 0 (List.replicate 0 ((0:Int),((([]:List iA),()),()))))++sv)))) none) (
   nd (
    k (dS.out (0,([]:List fu)))) (
    aJ (dq (0+(List.length sv)) 32) (
    k (dS.out ((0+(List.length sv)),((List.take 0 (List.replicate 0 ((0:Int),((([]:List iA),()),()))))++sv)))) none)):=by kernel_rfl
theorem dS.ok:dS.Ok:=by
 intro l hl
 have hl:l.length≤1000000:=hl
 have hr:dq l.length 32=true:=ed (by omega) (by omega)
 rw[dS.eq]
 simp only[Nat.zero_add,hr,ag,List.take_zero,List.nil_append,dS.add,dS.F]
 by_cases h:0 < l.length
 ·simp only[aX h,ag]
 ·have:l=[]:=List.eq_nil_of_length_eq_zero (by omega)
  subst this
  simp only[List.length_nil,nu,bz (Nat.lt_irrefl 0),ai]
noncomputable def dS.E:=Entry.cq [some (.slice eN)] dS.st dS.aC dS.add dS.F dS.out
noncomputable def dS.call:dS.D→Option dS.X:=bT dS.E dS.st
theorem dS.run:bK dS.call dS.aC dS.add dS.F:=dh (de [.d (.slice eN)] fun _=>by kernel_rfl)
noncomputable def dS.sg:SG Tryz.prog:=⟨139,aY,dS.E,.fn 0 (by kernel_rfl) dS.ok trivial⟩
abbrev fe.D:=(List iA)
def fe.st:fe.D→SA:=fun sv=>([.d (.slice gG) sv],[])
abbrev fe.Y:=Nat×(List iA)
abbrev fe.X:=Nat×(List iA)
def fe.out:fe.X→bk:=fun x=>⟨.bI (.new 0 0) 0 [] 0 0 x.1,[],[.obj 0 false (.vec 29 gG x.2)]⟩
def fe.add:fe.D→fe.Y→fe.X:=fun sv y=>y
def fe.aC:fe.D→Prop:=fun l=>l.length≤1000000
def fe.F:fe.D→fe.Y:=fun l=>(l.length,l)
noncomputable def fe.G:dZ:=fh (P:=Tryz.prog) []
noncomputable def fe.an:eO:= {bO:=[5],ij:=[⟨2,[],5,32⟩]}
noncomputable def fe.A:= @cZ Tryz.prog fe.G fe.an 0 Tryz.f141 _ fe.st
abbrev fe.Ok:=da @fe.A fe.aC fe.add fe.F fe.out
theorem fe.eq{R:Type}(sv:(List iA))(k:bk→Option R):fe.A sv k=
  aJ (decide (0 < (List.length sv))) (
   aJ (dq (0+(List.length sv)) 48) (
   k (fe.out ((0+(List.length sv)),((List.take 0 (List.replicate 0 (([]:List Int),((0:Int),((0:Int),((0:Int),()))))))++sv)))) none) (
   nd (
    k (fe.out (0,([]:List iA)))) (
    aJ (dq (0+(List.length sv)) 48) (
    k (fe.out ((0+(List.length sv)),((List.take 0 (List.replicate 0 (([]:List Int),((0:Int),((0:Int),((0:Int),()))))))++sv)))) none)):=by kernel_rfl
theorem fe.ok:fe.Ok:=by
 intro l hl
 have hl:l.length≤1000000:=hl
 have hr:dq l.length 48=true:=ed (by omega) (by omega)
 rw[fe.eq]
 simp only[Nat.zero_add,hr,ag,List.take_zero,List.nil_append,fe.add,fe.F]
 by_cases h:0 < l.length
 ·simp only[aX h,ag]
 ·have:l=[]:=List.eq_nil_of_length_eq_zero (by omega)
  subst this
  simp only[List.length_nil,nu,bz (Nat.lt_irrefl 0),ai]
noncomputable def fe.E:=Entry.cq [some (.slice gG)] fe.st fe.aC fe.add fe.F fe.out
noncomputable def fe.call:fe.D→Option fe.X:=bT fe.E fe.st
theorem fe.run:bK fe.call fe.aC fe.add fe.F:=dh (de [.d (.slice gG)] fun _=>by kernel_rfl)
noncomputable def fe.sg:SG Tryz.prog:=⟨141,aY,fe.E,.fn 0 (by kernel_rfl) fe.ok trivial⟩
abbrev dT.D:=(List Sg)
def dT.st:dT.D→SA:=fun sv=>([.d (.slice nP) sv],[])
abbrev dT.Y:=(List Sg)
abbrev dT.X:=(List Sg)
def dT.out:dT.X→bk:=fun x=>⟨.d (.slice nP) x,[],[]⟩
def dT.add:dT.D→dT.Y→dT.X:=fun sv y=>y
def dT.aC:dT.D→Prop:=fun l=>l.length≤1000000
def dT.F:dT.D→dT.Y:=fun l=>l
noncomputable def dT.G:dZ:=fh (P:=Tryz.prog) []
noncomputable def dT.an:eO:= {bO:=[5],res:=[some (.slice nP)]}
noncomputable def dT.A:= @cZ Tryz.prog dT.G dT.an 0 Tryz.f140 _ dT.st
abbrev dT.Ok:=da @dT.A dT.aC dT.add dT.F dT.out
theorem dT.eq{R:Type}(sv:(List Sg))(k:bk→Option R):dT.A sv k=
  aJ (decide (0 < (List.length sv))) (
   aJ (dq (0+(List.length sv)) 16) (
   aJ (decide (0=0∧(0+(0+(List.length sv)))≤(List.length ((List.take 0 (List.replicate 0 ((0:Int),((0:Int),()))))++sv)))) (
   k (dT.out (cut ((List.take 0 (List.replicate 0 ((0:Int),((0:Int),()))))++sv) 0 (0+(List.length sv))))) none) none) (
   nd (
    k (dT.out ([]:List Sg))) (
    aJ (dq (0+(List.length sv)) 16) (
    aJ (decide (0=0∧(0+(0+(List.length sv)))≤(List.length ((List.take 0 (List.replicate 0 ((0:Int),((0:Int),()))))++sv)))) (
    k (dT.out (cut ((List.take 0 (List.replicate 0 ((0:Int),((0:Int),()))))++sv) 0 (0+(List.length sv))))) none) none)):=by kernel_rfl
theorem dT.ok:dT.Ok:=by
 intro l hl
 have hl:l.length≤1000000:=hl
 have hr:dq l.length 16=true:=ed (by omega) (by omega)
 rw[dT.eq]
 simp only[Nat.zero_add,hr,ag,List.take_zero,List.nil_append,Nat.le_refl,and_self,decide_true,fc,dT.add,dT.F]
 by_cases h:0 < l.length
 ·simp only[aX h,ag]
 ·have:l=[]:=List.eq_nil_of_length_eq_zero (by omega)
  subst this
  simp only[List.length_nil,nu,bz (Nat.lt_irrefl 0),ai]
noncomputable def dT.E:=Entry.cq [some (.slice nP)] dT.st dT.aC dT.add dT.F dT.out
noncomputable def dT.call:dT.D→Option dT.X:=bT dT.E dT.st
theorem dT.run:bK dT.call dT.aC dT.add dT.F:=dh (de [.d (.slice nP)] fun _=>by kernel_rfl)
noncomputable def dT.sg:SG Tryz.prog:=⟨140,aY,dT.E,.fn 0 (by kernel_rfl) dT.ok trivial⟩
abbrev al.L0.D:=Int×Int×Nat×Nat×(Int×Unit)×(Int×Unit)×(List fZ)×(List fu)
def al.L0.st:al.L0.D→AS:=fun(t17,t18,n1L,n1L_2,n1,n2,n9,n12)=>⟨([.undef,.ptr (.new 1 0) 0 [] 0,.ptr (.new 2 0) 0 [] 0]++ba 14 ([.d ti t17,.d ti t18]++ba 56 [])),[],([[],[.obj 0 false (.pr (.bI (.new 9 0) 0 [] 0 0 n1L) (.pr (.bI (.new 12 0) 0 [] 0 0 n1L_2) (.d (.pair ti .unit) n1)))],[.obj 0 false (.pr (.cY) (.pr (.cY) (.d (.pair ti .unit) n2)))]]++bE 6 ([[.obj 0 false (.vec 52 fy n9)],[],[],[.obj 0 false (.vec 36 eN n12)]]++bE 62 []))⟩
abbrev al.L0.Y0:=(List fZ)
abbrev al.L0.X0:=(Nat×Nat×(Int×Unit)×(Int×Unit)×(List fu))×((List fZ))
def al.L0.bj:al.L0.X0→Exit×AS:=fun x=>(.exit 0,⟨([.undef,.ptr (.new 1 0) 0 [] 0,.ptr (.new 2 0) 0 [] 0]++ba 72 []),[],([[],[.obj 0 false (.pr (.bI (.new 9 0) 0 [] 0 0 x.1.1) (.pr (.bI (.new 12 0) 0 [] 0 0 x.1.2.1) (.d (.pair ti .unit) x.1.2.2.1)))],[.obj 0 false (.pr (.cY) (.pr (.cY) (.d (.pair ti .unit) x.1.2.2.2.1)))]]++bE 6 ([[.obj 0 false (.vec 52 fy x.2)],[],[],[.obj 0 false (.vec 36 eN x.1.2.2.2.2)]]++bE 62 []))⟩)
abbrev al.L0.X:=al.L0.X0
abbrev al.L0.Y:=al.L0.Y0
def al.L0.out:al.L0.X→Out (Exit×AS):=fun x=> .ok (al.L0.bj x)
def al.L0.add:al.L0.D→al.L0.Y→al.L0.X:=fun(t17,t18,n1L,n1L_2,n1,n2,n9,n12) y=>((n1L,n1L_2,n1,n2,n12),y)
abbrev al.L1.D:=Int×Int×Nat×Nat×(Int×Unit)×(Int×Unit)×(List fZ)×(List fu)
def al.L1.st:al.L1.D→AS:=fun(t38,t39,n1L_3,n1L_4,n1_2,n2_2,n9_2,n12_2)=>⟨([.undef,.ptr (.new 1 0) 0 [] 0,.ptr (.new 2 0) 0 [] 0]++ba 35 ([.d ti t38,.d ti t39]++ba 35 [])),[],([[],[.obj 0 false (.pr (.bI (.new 9 0) 0 [] 0 0 n1L_3) (.pr (.bI (.new 12 0) 0 [] 0 0 n1L_4) (.d (.pair ti .unit) n1_2)))],[.obj 0 false (.pr (.cY) (.pr (.cY) (.d (.pair ti .unit) n2_2)))]]++bE 6 ([[.obj 0 false (.vec 52 fy n9_2)],[],[],[.obj 0 false (.vec 36 eN n12_2)]]++bE 62 []))⟩
abbrev al.L1.Y0:=Nat×Nat×(Int×Unit)×(Int×Unit)×(List fZ)×(List fu)
abbrev al.L1.X0:=Nat×Nat×(Int×Unit)×(Int×Unit)×(List fZ)×(List fu)
def al.L1.bj:al.L1.X0→Exit×AS:=fun x=>(.exit 2,⟨([.undef,.ptr (.new 1 0) 0 [] 0,.ptr (.new 2 0) 0 [] 0]++ba 72 []),[],([[],[.obj 0 false (.pr (.bI (.new 9 0) 0 [] 0 0 x.1) (.pr (.bI (.new 12 0) 0 [] 0 0 x.2.1) (.d (.pair ti .unit) x.2.2.1)))],[.obj 0 false (.pr (.cY) (.pr (.cY) (.d (.pair ti .unit) x.2.2.2.1)))]]++bE 6 ([[.obj 0 false (.vec 52 fy x.2.2.2.2.1)],[],[],[.obj 0 false (.vec 36 eN x.2.2.2.2.2)]]++bE 62 []))⟩)
abbrev al.L1.X:=al.L1.X0
abbrev al.L1.Y:=al.L1.Y0
def al.L1.out:al.L1.X→Out (Exit×AS):=fun x=> .ok (al.L1.bj x)
def al.L1.add:al.L1.D→al.L1.Y→al.L1.X:=fun(t38,t39,n1L_3,n1L_4,n1_2,n2_2,n9_2,n12_2) y=>y
abbrev al.L2.D:=Int×Nat×Int×Int×Int×Int×Nat×Nat×(Int×Unit)×(Int×Unit)×(List fZ)×(List fu)×(List iA)
def al.L2.st:al.L2.D→AS:=fun(kv,lL,t38_2,t39_2,t51,t52,n1L_5,n1L_6,n1_3,n2_3,n9_3,n12_3,n49)=>⟨([.undef,.ptr (.new 1 0) 0 [] 0,.ptr (.new 2 0) 0 [] 0,.undef,.d ti kv,.bI (.new 49 0) 0 [] 0 0 lL]++ba 32 ([.d ti t38_2,.d ti t39_2]++ba 11 ([.d ti t51,.d ti t52]++ba 22 []))),[],([[],[.obj 0 false (.pr (.bI (.new 9 0) 0 [] 0 0 n1L_5) (.pr (.bI (.new 12 0) 0 [] 0 0 n1L_6) (.d (.pair ti .unit) n1_3)))],[.obj 0 false (.pr (.cY) (.pr (.cY) (.d (.pair ti .unit) n2_3)))]]++bE 6 ([[.obj 0 false (.vec 52 fy n9_3)],[],[],[.obj 0 false (.vec 36 eN n12_3)]]++bE 36 ([[.obj 0 false (.vec 29 gG n49)]]++bE 25 [])))⟩
abbrev al.L2.Y0:=(List iA)×(List iA)
abbrev al.L2.X0:=(Int×Int×Int×Nat×Nat×(Int×Unit)×(Int×Unit)×(List fZ)×(List fu))×((List iA)×(List iA))
def al.L2.bj:al.L2.X0→Exit×AS:=fun x=>(.exit 4,⟨([.undef,.ptr (.new 1 0) 0 [] 0,.ptr (.new 2 0) 0 [] 0,.undef,.d ti x.1.1,.d (.slice gG) x.2.1]++ba 32 ([.d ti x.1.2.1,.d ti x.1.2.2.1]++ba 35 [])),[],([[],[.obj 0 false (.pr (.bI (.new 9 0) 0 [] 0 0 x.1.2.2.2.1) (.pr (.bI (.new 12 0) 0 [] 0 0 x.1.2.2.2.2.1) (.d (.pair ti .unit) x.1.2.2.2.2.2.1)))],[.obj 0 false (.pr (.cY) (.pr (.cY) (.d (.pair ti .unit) x.1.2.2.2.2.2.2.1)))]]++bE 6 ([[.obj 0 false (.vec 52 fy x.1.2.2.2.2.2.2.2.1)],[],[],[.obj 0 false (.vec 36 eN x.1.2.2.2.2.2.2.2.2)]]++bE 36 ([[.obj 0 true (.vec 29 gG x.2.2)]]++bE 25 [])))⟩)
abbrev al.L2.X:=al.L2.X0
abbrev al.L2.Y:=al.L2.Y0
def al.L2.out:al.L2.X→Out (Exit×AS):=fun x=> .ok (al.L2.bj x)
def al.L2.add:al.L2.D→al.L2.Y→al.L2.X:=fun(kv,lL,t38_2,t39_2,t51,t52,n1L_5,n1L_6,n1_3,n2_3,n9_3,n12_3,n49) y=>((kv,t38_2,t39_2,n1L_5,n1L_6,n1_3,n2_3,n9_3,n12_3),y)
abbrev al.D:=eT
def al.st:al.D→SA:=fun t=>([.d gf t],[])
abbrev al.Y:=Nat×((List fu)×(Int×Unit))×(List fZ)
abbrev al.X:=Nat×((List fu)×(Int×Unit))×(List fZ)
def al.out:al.X→bk:=fun x=>⟨.pr (.bI (.new 0 0) 0 [] 0 0 x.1) (.d (.pair (.slice eN) (.pair ti .unit)) x.2.1),[],[.obj 0 false (.vec 52 fy x.2.2)]⟩
def al.add:al.D→al.Y→al.X:=fun t y=>y
def al.L0.aC:al.L0.D→Prop:=fun(m,i,L,L2,u,v,l,os)=>(l.length≤1000∧∀x∈l,x.2.1.2.1.length≤1000000)∧∃k:Nat,k≤l.length∧i=k∧m=l.length∧L=l.length
def al.L0.F:al.L0.D→al.L0.Y:=fun(m,i,L,L2,u,v,l,os)=>l
def al.L2.aC:al.L2.D→Prop:=fun(kv,L,m1,i1,m,i,L5,L6,u,v,ls,os,bs)=>(bs.length≤1000∧∀x∈bs,x.1.length≤1000000)∧∃k:Nat,k≤bs.length∧i=k∧m=bs.length∧L=bs.length
def al.L2.F:al.L2.D→al.L2.Y:=fun(kv,L,m1,i1,m,i,L5,L6,u,v,ls,os,bs)=>(bs,bs)
def al.L1.aC:al.L1.D→Prop:=fun(m,i,L3,L,u,v,ls,os)=>(os.length≤1000∧∀x∈os,x.2.1.1.length≤1000∧∀b∈x.2.1.1,b.1.length≤1000000)∧∃k:Nat,k≤os.length∧i=k∧m=os.length∧L=os.length
def al.L1.F:al.L1.D→al.L1.Y:=fun(m,i,L3,L,u,v,ls,os)=>(L3,L,u,v,ls,os)
def al.aC:al.D→Prop:=fun t=>gD t=true
def al.F:al.D→al.Y:=fun t=>(t.1.length,(t.2.1,t.2.2),t.1)
noncomputable def al.G:dZ:=fh (P:=Tryz.prog) [fv.sg,dS.sg,dT.sg,fe.sg,cK.sg]
noncomputable def al.L0.E:=bP.cq al.L0.st al.L0.aC al.L0.add al.L0.F al.L0.out
noncomputable def al.L0.call:al.L0.D→Option al.L0.X:=cX al.L0.E al.L0.st
noncomputable def al.L1.E:=bP.cq al.L1.st al.L1.aC al.L1.add al.L1.F al.L1.out
noncomputable def al.L1.call:al.L1.D→Option al.L1.X:=cX al.L1.E al.L1.st
noncomputable def al.L2.E:=bP.cq al.L2.st al.L2.aC al.L2.add al.L2.F al.L2.out
noncomputable def al.L2.call:al.L2.D→Option al.L2.X:=cX al.L2.E al.L2.st
noncomputable def al.an:eO:= {bO:=[1],loops:=j7 [(3,{bm:=[1,2,17,18],sites:=[1,2,9,12]}),(8,{bm:=[1,2,38,39],sites:=[1,2,9,12]}),(12,{bm:=[1,2,4,5,38,39,51,52],sites:=[1,2,9,12,49]})],outs:=j6 [(3,{bm:=[1,2],sites:=[1,2,9,12]},{bm:=[2]}),(8,{bm:=[1,2],sites:=[1,2,9,12]},{bm:=[2]}),(12,{bm:=[1,2,4,5,38,39],sites:=[1,2,9,12,49],data:=[(5,(.slice gG))]},{bm:=[2]})],fJ:=kW [(3,al.L0.E),(8,al.L1.E),(12,al.L2.E)],uS:=[⟨2,[.snd,.fst],(.slice eN)⟩]}
noncomputable def al.A:= @cZ Tryz.prog al.G al.an 0 Tryz.f70 _ al.st
abbrev al.Ok:=da @al.A al.aC al.add al.F al.out
noncomputable def al.L0.R:= @bX Tryz.prog al.G al.an 0 Tryz.f70 0 _ al.L0.st
abbrev al.L0.Ok:=ej Tryz.prog al.G al.an 0 Tryz.f70 0 al.L0.st al.L0.aC al.L0.add al.L0.F al.L0.out
noncomputable def al.L1.R:= @bX Tryz.prog al.G al.an 0 Tryz.f70 1 _ al.L1.st
abbrev al.L1.Ok:=ej Tryz.prog al.G al.an 0 Tryz.f70 1 al.L1.st al.L1.aC al.L1.add al.L1.F al.L1.out
noncomputable def al.L2.R:= @bX Tryz.prog al.G al.an 0 Tryz.f70 2 _ al.L2.st
abbrev al.L2.Ok:=ej Tryz.prog al.G al.an 0 Tryz.f70 2 al.L2.st al.L2.aC al.L2.add al.L2.F al.L2.out
theorem al.L0.run:bK al.L0.call al.L0.aC al.L0.add al.L0.F:=eG (eC [.d ti,.d ti,.n,.n,.d (.pair ti .unit),.d (.pair ti .unit),.d (.slice fy),.d (.slice eN)] fun _=>by kernel_rfl)
theorem al.L0.aD:fN @al.L0.R al.L0.st al.L0.aC al.L0.add al.L0.F al.L0.bj al.L0.Ok:=fU
theorem al.L0.step{R:Type}(t17:Int)(t18:Int)(n1L:Nat)(n1L_2:Nat)(n1:(Int×Unit))(n2:(Int×Unit))(n9:(List fZ))(n12:(List fu))(kn:AS→Option R)(kx:Exit→AS→Option R):al.L0.R (t17,t18,n1L,n1L_2,n1,n2,n9,n12) kn kx=
  aJ ((fX t18 t17)) (
   aJ (eJ t18 ((n1L:Nat):Int)) (
   aJ (decide ((0+(Int.toNat t18)) < (List.length n9))) (
   aJ (decide ((((0+(Int.toNat t18))*36)+34)=(((0+((Int.toNat t18)*36))+33)+1))) (
   ah (dT.call (nth fy n9 (0+(Int.toNat t18))).2.1.2.1) fun x1=>
   aJ (eJ t18 ((n1L:Nat):Int)) (
   aJ (decide ((0+(Int.toNat t18)) < (List.length n9))) (
   aJ (decide ((((0+(Int.toNat t18))*36)+34)=(((0+((Int.toNat t18)*36))+33)+1))) (
   aJ (decide ((0+(Int.toNat t18)) < (List.length n9))) (
   kn (al.L0.st (t17,(bN .i64 t18 (1:Int)),n1L,n1L_2,n1,n2,(List.set n9 (0+(Int.toNat t18)) ((nth fy n9 (0+(Int.toNat t18))).1,(((nth fy n9 (0+(Int.toNat t18))).2.1.1,(x1,(nth fy n9 (0+(Int.toNat t18))).2.1.2.2)),(nth fy n9 (0+(Int.toNat t18))).2.2))),n12))) none) none) none) none) none) none) none) (
   kx (al.L0.bj ((n1L,n1L_2,n1,n2,n12),n9)).1 (al.L0.bj ((n1L,n1L_2,n1,n2,n12),n9)).2):=by kernel_rfl
theorem al.L1.run:bK al.L1.call al.L1.aC al.L1.add al.L1.F:=eG (eC [.d ti,.d ti,.n,.n,.d (.pair ti .unit),.d (.pair ti .unit),.d (.slice fy),.d (.slice eN)] fun _=>by kernel_rfl)
theorem al.L1.aD:fN @al.L1.R al.L1.st al.L1.aC al.L1.add al.L1.F al.L1.bj al.L1.Ok:=fU
theorem al.L1.step{R:Type}(t38:Int)(t39:Int)(n1L_3:Nat)(n1L_4:Nat)(n1_2:(Int×Unit))(n2_2:(Int×Unit))(n9_2:(List fZ))(n12_2:(List fu))(kn:AS→Option R)(kx:Exit→AS→Option R):al.L1.R (t38,t39,n1L_3,n1L_4,n1_2,n2_2,n9_2,n12_2) kn kx=
  aJ ((fX t39 t38)) (
   aJ (eJ t39 ((n1L_4:Nat):Int)) (
   aJ (decide ((0+(Int.toNat t39)) < (List.length n12_2))) (
   aJ (decide ((((0+(Int.toNat t39))*2)+1)=(((0+((Int.toNat t39)*2))+1)+0))) (
   ah (fe.call (nth eN n12_2 (0+(Int.toNat t39))).2.1.1) fun x1=>
   ah (al.L2.call (t39,x1.1,t38,t39,((x1.1:Nat):Int),(0:Int),n1L_3,n1L_4,n1_2,n2_2,n9_2,n12_2,x1.2)) fun x2=>
   aJ (eJ x2.1.1 ((x2.1.2.2.2.2.1:Nat):Int)) (
   aJ (decide ((0+(Int.toNat x2.1.1)) < (List.length x2.1.2.2.2.2.2.2.2.2))) (
   aJ (decide ((((0+(Int.toNat x2.1.1))*2)+1)=(((0+((Int.toNat x2.1.1)*2))+1)+0))) (
   aJ (decide ((0+(Int.toNat x2.1.1)) < (List.length x2.1.2.2.2.2.2.2.2.2))) (
   kn (al.L1.st (x2.1.2.1,(bN .i64 x2.1.2.2.1 (1:Int)),x2.1.2.2.2.1,x2.1.2.2.2.2.1,x2.1.2.2.2.2.2.1,x2.1.2.2.2.2.2.2.1,x2.1.2.2.2.2.2.2.2.1,(List.set x2.1.2.2.2.2.2.2.2.2 (0+(Int.toNat x2.1.1)) ((nth eN x2.1.2.2.2.2.2.2.2.2 (0+(Int.toNat x2.1.1))).1,((x2.2.1,(nth eN x2.1.2.2.2.2.2.2.2.2 (0+(Int.toNat x2.1.1))).2.1.2),(nth eN x2.1.2.2.2.2.2.2.2.2 (0+(Int.toNat x2.1.1))).2.2)))))) none) none) none) none) none) none) none) (
   kx (al.L1.bj (n1L_3,n1L_4,n1_2,n2_2,n9_2,n12_2)).1 (al.L1.bj (n1L_3,n1L_4,n1_2,n2_2,n9_2,n12_2)).2):=by kernel_rfl
theorem al.L2.run:bK al.L2.call al.L2.aC al.L2.add al.L2.F:=eG (eC [.d ti,.n,.d ti,.d ti,.d ti,.d ti,.n,.n,.d (.pair ti .unit),.d (.pair ti .unit),.d (.slice fy),.d (.slice eN),.d (.slice gG)] fun _=>by kernel_rfl)
theorem al.L2.aD:fN @al.L2.R al.L2.st al.L2.aC al.L2.add al.L2.F al.L2.bj al.L2.Ok:=fU
theorem al.L2.step{R:Type}(kv:Int)(lL:Nat)(t38_2:Int)(t39_2:Int)(t51:Int)(t52:Int)(n1L_5:Nat)(n1L_6:Nat)(n1_3:(Int×Unit))(n2_3:(Int×Unit))(n9_3:(List fZ))(n12_3:(List fu))(n49:(List iA))(kn:AS→Option R)(kx:Exit→AS→Option R):al.L2.R (kv,lL,t38_2,t39_2,t51,t52,n1L_5,n1L_6,n1_3,n2_3,n9_3,n12_3,n49) kn kx=
  aJ ((fX t52 t51)) (
   aJ (eJ t52 ((lL:Nat):Int)) (
   aJ (decide ((0+(Int.toNat t52)) < (List.length n49))) (
   aJ (decide ((((0+(Int.toNat t52))*4)+0)=((0+((Int.toNat t52)*4))+0))) (
   ah (cK.call (nth gG n49 (0+(Int.toNat t52))).1) fun x1=>
   aJ (eJ t52 ((lL:Nat):Int)) (
   aJ (decide ((0+(Int.toNat t52)) < (List.length n49))) (
   aJ (decide ((((0+(Int.toNat t52))*4)+0)=((0+((Int.toNat t52)*4))+0))) (
   aJ (decide ((0+(Int.toNat t52)) < (List.length n49))) (
   kn (al.L2.st (kv,lL,t38_2,t39_2,t51,(bN .i64 t52 (1:Int)),n1L_5,n1L_6,n1_3,n2_3,n9_3,n12_3,(List.set n49 (0+(Int.toNat t52)) (x1,(nth gG n49 (0+(Int.toNat t52))).2))))) none) none) none) none) none) none) none) (
   aJ (decide (0=0∧(0+lL)≤(List.length n49))) (
   kx (al.L2.bj ((kv,t38_2,t39_2,n1L_5,n1L_6,n1_3,n2_3,n9_3,n12_3),((cut n49 0 lL),n49))).1 (al.L2.bj ((kv,t38_2,t39_2,n1L_5,n1L_6,n1_3,n2_3,n9_3,n12_3),((cut n49 0 lL),n49))).2) none):=by kernel_rfl
theorem al.eq{R:Type}(t:eT)(k:bk→Option R):al.A t k=
 ah (fv.call t.1) fun x1=>
 ah (dS.call t.2.1) fun x2=>
 ah (al.L0.call (((x1.1:Nat):Int),(0:Int),x1.1,x2.1,t.2.2,((0:Int),()),x1.2,x2.2)) fun x4=>
 ah (al.L1.call (((x4.1.2.1:Nat):Int),(0:Int),x4.1.1,x4.1.2.1,x4.1.2.2.1,x4.1.2.2.2.1,x4.2,x4.1.2.2.2.2)) fun x8=>
 aJ (decide (0=0∧(0+x8.2.1)≤(List.length x8.2.2.2.2.2))) (
 k (al.out (x8.1,((cut x8.2.2.2.2.2 0 x8.2.1),x8.2.2.1),x8.2.2.2.2.1))) none:=by kernel_rfl
theorem al.L0.ok:al.L0.Ok:=by
 refine al.L0.aD (fun(m,i,L,L2,u,v,l,os)=>l.length - Int.toNat i) ?_
 rintro⟨m,i,L,L2,u,v,l,os⟩ ⟨⟨hlen,hx⟩,k,hk,rfl,rfl,rfl⟩
 have hlen:l.length≤1000:=hlen
 have hk:k≤l.length:=hk
 by_cases h:k < l.length
 ·left
  have n1:nth fy l k=l[k]:=cm (t:=fy) h
  have hs:l.set k l[k]=l:=List.set_getElem_self h
  have e:=hx _ (List.getElem_mem h)
  refine⟨((l.length:Int),((k+1:Nat):Int),l.length,L2,u,v,l,os),⟨⟨hlen,hx⟩,k+1,by omega,rfl,rfl,rfl⟩,by simp only[Int.toNat_natCast];omega,rfl,fun kn kx=> ?_⟩
  rw[al.L0.step,bq (by omega),bt (by omega) (by omega)]
  simp only[Int.toNat_natCast,Nat.zero_add,Nat.add_zero,Nat.add_assoc,Nat.reduceAdd,ag,aX h,decide_true,n1]
  rw[dT.run (d:=l[k].2.1.2.1) e]
  simp only[aa,dT.add,dT.F]
  rw[N.j4 (by omega)]
  exact congrArg (fun z=>kn (al.L0.st (_,_,_,_,_,_,z,_))) hs
 ·right
  obtain rfl:k=l.length:=by omega
  intro R kn kx
  rw[al.L0.step,bg (by omega),ai]
  rfl
theorem al.L2.ok:al.L2.Ok:=by
 refine al.L2.aD (fun(kv,L,m1,i1,m,i,L5,L6,u,v,ls,os,bs)=>bs.length - Int.toNat i) ?_
 rintro⟨kv,L,m1,i1,m,i,L5,L6,u,v,ls,os,bs⟩ ⟨⟨hlen,hx⟩,k,hk,rfl,rfl,rfl⟩
 have hlen:bs.length≤1000:=hlen
 have hk:k≤bs.length:=hk
 by_cases h:k < bs.length
 ·left
  have n1:nth gG bs k=bs[k]:=cm (t:=gG) h
  have hs:bs.set k bs[k]=bs:=List.set_getElem_self h
  have e:=hx _ (List.getElem_mem h)
  refine⟨(kv,bs.length,m1,i1,(bs.length:Int),((k+1:Nat):Int),L5,L6,u,v,ls,os,bs),⟨⟨hlen,hx⟩,k+1,by omega,rfl,rfl,rfl⟩,by simp only[Int.toNat_natCast];omega,rfl,fun kn kx=> ?_⟩
  rw[al.L2.step,bq (by omega),bt (by omega) (by omega)]
  simp only[Int.toNat_natCast,Nat.zero_add,Nat.add_zero,Nat.add_assoc,Nat.reduceAdd,ag,aX h,decide_true,n1]
  rw[cK.run (d:=bs[k].1) e]
  simp only[aa,cK.add,cK.F]
  rw[N.j4 (by omega)]
  exact congrArg (fun z=>kn (al.L2.st (_,_,_,_,_,_,_,_,_,_,_,_,z))) hs
 ·right
  obtain rfl:k=bs.length:=by omega
  intro R kn kx
  rw[al.L2.step,bg (by omega),ai]
  simp only[Nat.zero_add,Nat.le_refl,and_self,decide_true,ag,fc]
  rfl
theorem al.L1.ok:al.L1.Ok:=by
 refine al.L1.aD (fun(m,i,L3,L,u,v,ls,os)=>os.length - Int.toNat i) ?_
 rintro⟨m,i,L3,L,u,v,ls,os⟩ ⟨⟨hlen,hx⟩,k,hk,rfl,rfl,rfl⟩
 have hlen:os.length≤1000:=hlen
 have hk:k≤os.length:=hk
 by_cases h:k < os.length
 ·left
  have n1:nth eN os k=os[k]:=cm (t:=eN) h
  have hs:os.set k os[k]=os:=List.set_getElem_self h
  have e:=hx _ (List.getElem_mem h)
  refine⟨((os.length:Int),((k+1:Nat):Int),L3,os.length,u,v,ls,os),⟨⟨hlen,hx⟩,k+1,by omega,rfl,rfl,rfl⟩,by simp only[Int.toNat_natCast];omega,rfl,fun kn kx=> ?_⟩
  rw[al.L1.step,bq (by omega),bt (by omega) (by omega)]
  simp only[Int.toNat_natCast,Nat.zero_add,Nat.add_zero,Nat.add_assoc,Nat.reduceAdd,ag,aX h,decide_true,n1]
  rw[fe.run (d:=os[k].2.1.1) (by show os[k].2.1.1.length≤_;have:=e.1;omega)]
  simp only[aa,fe.add,fe.F]
  rw[al.L2.run (d:=((k:Int),os[k].2.1.1.length,(os.length:Int),(k:Int),(os[k].2.1.1.length:Int),0,L3,os.length,u,v,ls,os,os[k].2.1.1)) ⟨e,0,Nat.zero_le _,rfl,rfl,rfl⟩]
  simp only[aa,al.L2.add,al.L2.F,Int.toNat_natCast,n1,ag,aX h,bt (show(0:Int)≤(k:Int) by omega) (show(k:Int) < (os.length:Int) by omega)]
  rw[N.j4 (by omega)]
  exact congrArg (fun z=>kn (al.L1.st (_,_,_,_,_,_,_,z))) hs
 ·right
  obtain rfl:k=os.length:=by omega
  intro R kn kx
  rw[al.L1.step,bg (by omega),ai]
  rfl
theorem tN{l:Lk}(h:jJ l=true):l.1.length≤4∧∀b∈l.1,b.1.length≤12:=by
 unfold jJ at h
 simp only[Bool.and_eq_true,List.all_eq_true,decide_eq_true_eq]at h
 refine⟨h.2.2,fun b hb=> ?_⟩
 have:=h.1 b hb
 unfold o3 at this
 simp only[Bool.and_eq_true,decide_eq_true_eq]at this
 exact this.1
theorem al.ok:al.Ok:=by
 rintro⟨is,os,nt,u⟩ hok
 obtain⟨⟨_,a2,a3,_⟩,b1,b2⟩:=iM hok
 have a2:is.length≤64:=a2
 have a3:os.length≤64:=a3
 rw[al.eq,fv.run (d:=is) (by show is.length≤_;omega),dS.run (d:=os) (by show os.length≤_;omega)]
 simp only[aa,fv.add,fv.F,dS.add,dS.F]
 rw[al.L0.run (d:=(is.length,0,is.length,os.length,(nt,u),(0,()),is,os)) ⟨⟨by show is.length≤_;omega,fun x hx=>by have:=(wM (mR _ _ b1 x hx)).2.2.2.2;omega⟩,0,Nat.zero_le _,rfl,rfl,rfl⟩]
 simp only[aa,al.L0.add,al.L0.F]
 rw[al.L1.run (d:=(os.length,0,is.length,os.length,(nt,u),(0,()),is,os)) ⟨⟨by show os.length≤_;omega,fun x hx=>by
  have:=tN (kk _ _ b2 x hx).2
  exact⟨by omega,fun b hb=>by have:=this.2 b hb;omega⟩⟩,0,Nat.zero_le _,rfl,rfl,rfl⟩]
 simp only[aa,al.L1.add,al.L1.F,Nat.zero_add,Nat.le_refl,and_self,decide_true,ag,fc]
 rfl
noncomputable def al.E:=Entry.cq [some gf] al.st al.aC al.add al.F al.out
noncomputable def al.call:al.D→Option al.X:=bT al.E al.st
theorem al.run:bK al.call al.aC al.add al.F:=dh (de [.d gf] fun _=>by kernel_rfl)
noncomputable def al.sg:SG Tryz.prog:=⟨70,aY,al.E,.fn 3 (by kernel_rfl) al.ok (And.intro (.cq al.L0.ok (by kernel_rfl)) (And.intro (.cq al.L1.ok (by kernel_rfl)) (And.intro (.cq al.L2.ok (by kernel_rfl)) trivial)))⟩
set_option synthInstance.maxSize 5000
theorem qE(x:Int)(m:Int):∀k:Nat,(x%m)^k%m=x^k%m
 | 0=>by rw[Int.pow_zero,Int.pow_zero]
 |k+1=>by rw[Int.pow_succ,Int.pow_succ,Int.mul_emod,qE x m k,Int.emod_emod_of_dvd _ (Int.dvd_refl m),←Int.mul_emod]
theorem GN(a:Int)(k:Nat):(a*a)^k=a^(2*k):=by
 rw[Int.pow_mul,Int.pow_succ,Int.pow_succ,Int.pow_zero,Int.one_mul]
theorem DI:∀(f:Nat) (a:Int) (n:Nat) (out:Int),n < 2^f→Pn out→A8 f a n out=out*a^n%4611686018427377339
 | 0,a,n,out,h,ho=>by
  obtain rfl:n=0:=by omega
  rw[mU,Int.pow_zero,Int.mul_one,Int.emod_eq_of_lt ho.1 ho.2]
 |f+1,a,n,out,h,ho=>by
  have e:(2:Nat)^(f+1)=2^f*2:=Nat.pow_succ 2 f
  rw[A8]
  split
  ·rename_i h0
   subst h0
   rw[Int.pow_zero,Int.mul_one,Int.emod_eq_of_lt ho.1 ho.2]
  ·have hp:Pn (if n%2=1 then j8 out a else out):=by
    split
    ·exact mm _ _
    ·exact ho
   rw[DI f _ _ _ (by omega) hp,Int.mul_emod]
   have e1:(j8 a a)^(n / 2)%4611686018427377339=a^(2*(n / 2))%4611686018427377339:=by
    unfold j8
    rw[qE,GN]
   have e2:(if n%2=1 then j8 out a else out)%4611686018427377339=(out*a^(n%2))%4611686018427377339:=by
    split
    ·rename_i h1
     rw[h1,Int.pow_succ,Int.pow_zero,Int.one_mul]
     exact Int.emod_emod_of_dvd _ (Int.dvd_refl _)
    ·have h1:n%2=0:=by omega
     rw[h1,Int.pow_zero,Int.mul_one]
   rw[e1,e2,←Int.mul_emod,Int.mul_assoc,←Int.pow_add]
   have e3:n%2+2*(n / 2)=n:=by omega
   rw[e3]
theorem ub(a:Int)(n:Nat)(h:n < 18446744073709551616):pw a n=a^n%4611686018427377339:=by
 unfold pw
 rw[DI 64 a n 1 h ⟨by omega,by omega⟩,Int.one_mul]
theorem one_pow(k:Nat):(1:Int)^k=1:=Int.one_pow
theorem DK(a:Int)(k q:Nat)(hk:k < 18446744073709551616)(hq:q < 18446744073709551616)(h:pw a q=1):pw (pw a k) q=1:=by
 rw[ub _ _ hq]at h
 rw[ub _ _ hq,ub _ _ hk,qE,←Int.pow_mul,Nat.mul_comm,Int.pow_mul,←qE,h,one_pow]
 rfl
theorem vB:pw 4 2305843009213688669=1:=by decide+kernel
theorem B5:pw 1 2305843009213688669=1:=by decide+kernel
theorem ET:mA 4=true:=by rw[mA,vB];rfl
theorem qm:mA 1=true:=by rw[mA,B5];rfl
theorem E0:yB 1=1:=by
 have e:pw 1 2305843009213688668=1:=by decide+kernel
 rw[yB,tk,qm]
 exact e
theorem w6{a:Int}(h:Pn a)(q:Nat)(hq:0 < q)(hq2:q < 18446744073709551616)(hp:pw a q=1):0 < a:=by
 rcases Int.lt_or_eq_of_le h.1 with h0 | h0
 ·exact h0
 ·subst h0
  rw[ub _ _ hq2,Int.zero_pow (by omega)]at hp
  cases hp
theorem Gj{a:Int}(h:Pn a)(hp:pw a 2305843009213688669=1):mA a=true:=by
 have h0:=w6 h 2305843009213688669 (by decide) (by decide) hp
 rw[mA,hp,decide_eq_true ⟨h0,h.2⟩];rfl
theorem BN{a:Int}(h:mA a=true):pw a 2305843009213688669=1∧Pn a:=by
 rw[mA,Bool.and_eq_true,decide_eq_true_eq,decide_eq_true_eq]at h
 exact⟨h.2,by omega,h.1.2⟩
theorem Gk{a:Int}(h:mA a=true)(k:Nat)(hk:k < 18446744073709551616):mA (pw a k)=true:=
 Gj (yS _ _) (DK a k _ hk (by decide) (BN h).1)
theorem Gl(a:Int):mA (tk a)=true:=by
 unfold tk
 cases h:mA a
 ·exact qm
 ·exact h
theorem BO(p k:Int):mA (nC p k)=true:=Gk (Gl p) _ (by omega)
theorem uB{a:Int}(h:mA a=true):tk a=a:=by rw[tk,h];rfl
theorem tI(k:Int):mA (fb k)=true:=BO 4 k
theorem yA{a:Int}(h:Pn a):j8 a 1=a:=by rw[j8,Int.mul_one,Int.emod_eq_of_lt h.1 h.2]
set_option synthInstance.maxSize 5000
def pm(m:Nat):Nat→Nat→Nat→Nat→Nat
 | 0,_,_,out=>out%m
 |f+1,a,n,out=>if n=0 then out%m else pm m f (a*a%m) (n / 2) (if n%2=1 then out*a%m else out)
theorem FL(m:Nat):∀(f a n out:Nat),n < 2^f→pm m f a n out=out*a^n%m
 | 0,a,n,out,h=>by
  obtain rfl:n=0:=by omega
  rw[pm,Nat.pow_zero,Nat.mul_one]
 |f+1,a,n,out,h=>by
  have e:(2:Nat)^(f+1)=2^f*2:=Nat.pow_succ (n:=2) (m:=f)
  rw[pm]
  split
  ·rename_i h0
   subst h0
   rw[Nat.pow_zero,Nat.mul_one]
  ·rw[FL m f _ _ _ (by omega),Nat.mul_mod]
   have e1:(a*a%m)^(n / 2)%m=a^(2*(n / 2))%m:=by
    rw[←Nat.pow_mod,Nat.pow_mul,Nat.pow_two]
   have e2:(if n%2=1 then out*a%m else out)%m=(out*a^(n%2))%m:=by
    split
    ·rename_i h1
     rw[h1,Nat.pow_one,Nat.mod_mod]
    ·have h1:n%2=0:=by omega
     rw[h1,Nat.pow_zero,Nat.mul_one]
   rw[e1,e2,←Nat.mul_mod,Nat.mul_assoc,←Nat.pow_add]
   have e3:n%2+2*(n / 2)=n:=by omega
   rw[e3]
theorem C6:∀(r q:Nat) (f:Nat→Nat),(∀i,i < q→f i < r)→(∀i j,i < j→j < q→f i≠f j)→q≤r
 | 0,q,f,h,_=>by
  rcases Nat.eq_zero_or_pos q with h0 | h0
  ·omega
  ·exact absurd (h 0 h0) (Nat.not_lt_zero _)
 |r+1,q,f,h,g=>by
  by_cases hx:∃i,i < q∧f i=r
  ·obtain⟨i,hi,hr⟩:=hx
   have e:=C6 r (q - 1) (fun j=>if j < i then f j else f (j+1)) (fun j hj=>by
    by_cases h1:j < i
    ·have a:=h j (by omega)
     have b:=g j i h1 hi
     simp only[h1,if_true]
     omega
    ·have a:=h (j+1) (by omega)
     have b:=g i (j+1) (by omega) (by omega)
     simp only[h1,if_false]
     omega) (fun j k hjk hk=>by
    by_cases h1:j < i
    ·by_cases h2:k < i
     ·simp only[h1,h2,if_true]
      exact g j k hjk (by omega)
     ·simp only[h1,h2,if_true,if_false]
      exact g j (k+1) (by omega) (by omega)
    ·have h2:¬k < i:=by omega
     simp only[h1,h2,if_false]
     exact g (j+1) (k+1) (by omega) (by omega))
   omega
  ·have e:=C6 r q f (fun i hi=>by
    have a:=h i hi
    have b:f i≠r:=fun x=>hx ⟨i,hi,x⟩
    omega) g
   omega
theorem A6(a m:Nat)(h1:1%m=1):∀i j:Nat,a^i%m=1→a^j%m=1→a^(Nat.gcd i j)%m=1:=by
 intro i
 induction i using Nat.strongRecOn with
 |ind i ih=>
  intro j hi hj
  rcases Nat.eq_zero_or_pos i with h0 | h0
  ·subst h0;rw[Nat.gcd_zero_left];exact hj
  ·rw[Nat.gcd_rec]
   refine ih (j%i) (Nat.mod_lt _ h0) i ?_ hi
   have e:a^j=(a^i)^(j / i)*a^(j%i):=by rw[←Nat.pow_mul,←Nat.pow_add,Nat.div_add_mod]
   rw[e,Nat.mul_mod,Nat.pow_mod,hi,Nat.one_pow,h1,Nat.one_mul,Nat.mod_mod]at hj
   exact hj
def Cp(n:Nat):Prop:=∀d,d∣n→d=1∨d=n
theorem A7{n k:Nat}(h:Cp n)(h0:0 < k)(hk:k < n):Nat.gcd k n=1:=by
 rcases h _ (Nat.gcd_dvd_right k n) with h1 | h1
 ·exact h1
 ·have:=Nat.le_of_dvd h0 (Nat.gcd_dvd_left k n);omega
theorem yE{n:Nat}(hn:1 < n)(h:∀r,1 < r→r*r≤n→¬r∣n):Cp n:=by
 intro d hd
 obtain⟨e,he⟩:=hd
 have hd0:0 < d:=Nat.pos_of_ne_zero (by intro x;rw[x,Nat.zero_mul]at he;omega)
 have he0:0 < e:=Nat.pos_of_ne_zero (by intro x;rw[x,Nat.mul_zero]at he;omega)
 by_cases h1:d=1
 ·exact .inl h1
 by_cases h2:e=1
 ·right;rw[he,h2,Nat.mul_one]
 exfalso
 rcases Nat.le_total d e with hle | hle
 ·exact h d (by omega) (by rw[he];exact Nat.mul_le_mul_left d hle) ⟨e,he⟩
 ·exact h e (by omega) (by rw[he];exact Nat.mul_le_mul_right e hle) ⟨d,by rw[he,Nat.mul_comm]⟩
theorem Gy{n q b:Nat}(hn:1 < n)(hq:Cp q)(hq1:1 < q)(hqq:n < q*q)(hb:b^q%n=1)(hg:Nat.gcd (b - 1) n=1)(hb0:0 < b):Cp n:=by
 refine yE hn fun r hr hrr hrn=> ?_
 have h1r:1%r=1:=Nat.mod_eq_of_lt hr
 have hbr:b^q%r=1:=by
  have:=Nat.mod_mod_of_dvd (b^q) hrn
  rw[←this,hb,h1r]
 have hne:b%r≠1:=by
  intro hx
  have hd:r∣b - 1:=by have e:=Nat.dvd_sub_mod (n:=r) b;rw[hx]at e;exact e
  have:=Nat.dvd_gcd hd hrn
  rw[hg]at this
  have:=Nat.le_of_dvd (by omega) this
  omega
 have key:q≤r:=by
  refine C6 r q (fun i=>b^i%r) (fun i _=>Nat.mod_lt _ (by omega)) fun i j hij hj he=> ?_
  have e1:b^(j - i)%r=1:=by
   have x1:b^(q - i)*b^i%r=b^(q - i)*b^j%r:=by rw[Nat.mul_mod,he,←Nat.mul_mod]
   rw[←Nat.pow_add,←Nat.pow_add,show q - i+i=q by omega,show q - i+j=q+(j - i) by omega,Nat.pow_add,Nat.mul_mod,hbr,Nat.one_mul,Nat.mod_mod]at x1
   exact x1.symm
  have e2:=A6 b r h1r (j - i) q e1 hbr
  rw[A7 hq (by omega) (by omega),Nat.pow_one]at e2
  exact hne e2
 have:q*q≤r*r:=Nat.mul_le_mul key key
 omega
def Dv(n:Nat):Nat→Bool
 | 0=>true
 |k+1=>n%(k+2) !=0 && Dv n k
theorem yD(n:Nat):∀k,Dv n k=true→∀d,1 < d→d≤k+1→¬d∣n
 | 0,_,d,h1,h2=>by omega
 |k+1,h,d,h1,h2=>by
  rw[Dv,Bool.and_eq_true]at h
  by_cases hd:d=k+2
  ·intro hx
   have:=Nat.mod_eq_zero_of_dvd hx
   rw[hd]at this
   rw[this]at h
   exact absurd h.1 (by decide)
  ·exact yD n k h.2 d h1 (by omega)
theorem It:Cp 7930907:=by
 refine yE (by decide) fun r hr hrr=>yD 7930907 2820 (by decide+kernel) r hr ?_
 apply Nat.le_of_not_lt
 intro h
 have:2822*2822≤r*r:=Nat.mul_le_mul (by omega) (by omega)
 omega
theorem qF{n q:Nat}(a e:Nat)(hq:Cp q)(hq1:1 < q)(hn:1 < n)(hqq:n < q*q)(he:e < 2^64)(hq2:q < 2^64)(h1:pm n 64 (pm n 64 a e 1) q 1=1)(h2:Nat.gcd (pm n 64 a e 1 - 1) n=1)(h3:0 < pm n 64 a e 1):Cp n:=by
 generalize pm n 64 a e 1=b at*
 rw[FL _ _ _ _ _ hq2,Nat.one_mul]at h1
 exact Gy hn hq hq1 hqq h1 h2 h3
theorem Is:Cp 11864636873:=qF (q:=7930907) 2 1496 It (by decide) (by decide) (by decide) (by decide) (by decide) (by decide+kernel) (by decide+kernel) (by decide+kernel)
theorem Ir:Cp 1732236983459:=qF (q:=11864636873) 2 146 Is (by decide) (by decide) (by decide) (by decide) (by decide) (by decide+kernel) (by decide+kernel) (by decide+kernel)
theorem Iq:Cp 249442125618097:=qF (q:=1732236983459) 2 144 Ir (by decide) (by decide) (by decide) (by decide) (by decide) (by decide+kernel) (by decide+kernel) (by decide+kernel)
theorem Iu:Cp 2305843009213688669:=qF (q:=249442125618097) 2 9244 Iq (by decide) (by decide) (by decide) (by decide) (by decide) (by decide+kernel) (by decide+kernel) (by decide+kernel)
def gP(n:Nat):Int:=((4^n%4611686018427377339:Nat):Int)
theorem u9(a m q:Nat)(h1:1%m=1)(h:a^q%m=1)(n:Nat):a^(n%q)%m=a^n%m:=by
 have e:a^n=(a^q)^(n / q)*a^(n%q):=by rw[←Nat.pow_mul,←Nat.pow_add,Nat.div_add_mod]
 rw[e,Nat.mul_mod,Nat.pow_mod (a^q),h,Nat.one_pow,h1,Nat.one_mul,Nat.mod_mod]
theorem Fy:∀q:Nat,q=2305843009213688669→4^q%4611686018427377339=1:=by
 intro q hq
 have h:=vB
 rw[ub _ _ (by decide)]at h
 rw[←hq]at h
 have e:(((4^q%4611686018427377339:Nat)):Int)=1:=by
  rw[Int.natCast_emod,Int.natCast_pow]
  exact h
 omega
theorem wI(n:Nat):gP (n%2305843009213688669)=gP n:=by
 unfold gP
 obtain⟨q,hq⟩:∃q:Nat,q=2305843009213688669:=⟨_,rfl⟩
 rw[←hq,u9 4 4611686018427377339 q (by decide) (Fy q hq)]
theorem Hu(n:Nat)(h:n < 18446744073709551616):pw 4 n=gP n:=by
 rw[ub _ _ h]
 unfold gP
 rw[Int.natCast_emod,Int.natCast_pow]
 rfl
theorem C2(k:Int)(h:0≤k):(k%2305843009213688669).toNat=k.toNat%2305843009213688669:=by omega
theorem sJ(k:Int)(h:0≤k):fb k=gP k.toNat:=by
 show pw (tk 4) _=_
 rw[uB ET,Hu _ (by omega),C2 k h,wI]
theorem EG(n:Nat):gP n=fb n:=by rw[sJ _ (by omega),Int.toNat_natCast]
theorem tr(n:Nat):mA (gP n)=true:=by rw[EG];exact tI _
theorem zN(a b:Nat):j8 (gP a) (gP b)=gP (a+b):=by
 unfold j8 gP
 rw[←Int.natCast_mul,Nat.pow_add]
 have e:(4611686018427377339:Int)=((4611686018427377339:Nat):Int):=rfl
 rw[e,←Int.natCast_emod,←Nat.mul_mod]
theorem C3(a:Nat)(c:Int)(h:0≤c):nC (gP a) c=gP (a*c.toNat):=by
 show pw (tk (gP a)) _=_
 rw[uB (tr a),ub _ _ (by omega),C2 c h]
 obtain⟨b,hb⟩:∃b:Nat,b=c.toNat:=⟨_,rfl⟩
 rw[←hb]
 obtain⟨d,hd⟩:∃d:Nat,d=b%2305843009213688669:=⟨_,rfl⟩
 have hx:gP (a*b)=gP (a*d):=by rw[←wI (a*b),←wI (a*d),Nat.mul_mod a b,Nat.mul_mod a d,hd,Nat.mod_mod]
 rw[hx,←hd]
 unfold gP
 have e:(4611686018427377339:Int)=((4611686018427377339:Nat):Int):=rfl
 rw[e,←Int.natCast_pow,←Int.natCast_emod,←Nat.pow_mod,←Nat.pow_mul]
theorem AL:gP 0=1:=by decide
theorem Ht{n:Nat}(h:0 < n)(hn:n < 2305843009213688669):gP n≠1:=by
 intro he
 unfold gP at he
 have he:4^n%4611686018427377339=1:=by omega
 obtain⟨q,hq⟩:∃q:Nat,q=2305843009213688669:=⟨_,rfl⟩
 have e:=A6 4 4611686018427377339 (by decide) n q he (Fy q hq)
 rw[A7 (by rw[hq];exact Iu) h (by omega)]at e
 exact absurd e (by decide)
theorem Fh(k:Int)(m:List Int)(h0:0 < k)(hq:k < 2305843009213688669):lQ (fb k) m 1 (im k m)=true:=by
 obtain⟨kn,hk⟩:∃kn:Nat,kn=k.toNat:=⟨_,rfl⟩
 have hb:fb k=gP kn:=by rw[hk];exact sJ k (by omega)
 have hn:=tp (D4 zW [ik k,m])
 unfold im Dw
 rw[if_pos ⟨hq,by omega⟩]
 obtain⟨n,hne⟩:∃n,qg (D4 zW [ik k,m])=n:=⟨_,rfl⟩
 rw[hne]at hn ⊢
 unfold wi
 have hr:sI [fb n,1]=gP n.toNat:=by
  show j8 (j8 1 (tk (fb n))) (tk 1)=_
  rw[uB (tI n),uB qm,yA (mm _ _),sJ n (by omega),←AL,zN,Nat.zero_add]
 rw[hr,hb]
 have hc:=s9 (gP n.toNat) (gP kn) m
 obtain⟨c,hce⟩:∃c,nI (gP n.toNat) (gP kn) m=c:=⟨_,rfl⟩
 rw[hce]at hc ⊢
 have ha:=Ax n (wW c k)
 have h1:=hc.1
 have h2:=ha.1
 have h3:=ha.2
 unfold lQ
 rw[if_neg (by
  intro h
  rcases h with h | h | h | h | h
  ·exact Ht (by omega) (by omega) h
  ·rw[tr]at h;cases h
  ·rw[qm]at h;cases h
  ·have h:mA (gP n.toNat)=false:=h
   rw[tr]at h;cases h
  ·exact h h3)]
 have e:fb (zm n (wW c k))=sI [gP n.toNat,nC (gP kn) c,yB 1]:=by
  show _=j8 (j8 (j8 1 (tk (gP n.toNat))) (tk (nC (gP kn) c))) (tk (yB 1))
  rw[E0,uB qm,yA (mm _ _),uB (tr _),C3 _ _ h1,uB (tr _)]
  rw[show(j8 1 (gP n.toNat))=gP n.toNat by rw[←AL,zN,Nat.zero_add]]
  rw[zN,sJ _ h2]
  have hx:(zm n (wW c k)).toNat=(n.toNat+kn*c.toNat)%2305843009213688669:=by
   unfold zm wW Dx
   have g1:c%2305843009213688669=c:=Int.emod_eq_of_lt h1 hc.2
   have g2:k%2305843009213688669=k:=Int.emod_eq_of_lt (by omega) hq
   have g3:n%2305843009213688669=n:=Int.emod_eq_of_lt (by omega) hn.2
   rw[g1,g2,g3,Int.emod_emod_of_dvd _ (Int.dvd_refl _)]
   have g4:((kn*c.toNat:Nat):Int)=c*k:=by
    rw[Int.natCast_mul,hk,Int.toNat_of_nonneg (by omega),Int.toNat_of_nonneg h1,Int.mul_comm]
   have g5:0≤c*k:=by rw[←g4];exact Int.natCast_nonneg _
   obtain⟨z,hz⟩:∃z,c*k=z:=⟨_,rfl⟩
   rw[hz]at g4 g5 ⊢
   obtain⟨zn,hzn⟩:∃zn,kn*c.toNat=zn:=⟨_,rfl⟩
   rw[hzn]at g4 ⊢
   omega
  rw[hx,wI]
 show decide (fb (zm n (wW c k))=sI [gP n.toNat,nC (gP kn) (nI (gP n.toNat) (gP kn) m),yB 1])=true
 rw[hce]
 exact decide_eq_true e
set_option synthInstance.maxSize 5000
def wK{α:Type}(p:α→Bool):List α→Int→Int⊕Unit
 |[],_=> .inr ()
 |x::xs,i=>if p x then .inl i else wK p xs (i+1)
def EO{α:Type}(p:α→Bool)(l:List α):Int:=match wK p l 0 with | .inl i=>i | .inr _=> -1
theorem yh{α:Type}(p:α→Bool):∀(l:List α) (i:Int),0≤i→(match wK p l i with | .inl i=>decide (i≥0) | .inr _=>false)=l.any p
 |[],_,_=>rfl
 |x::l,i,h=>by
  rw[wK,List.any_cons]
  cases hp:p x
  ·simp only[Bool.false_eq_true,if_false,Bool.false_or]
   exact yh p l (i+1) (by omega)
  ·simp[h]
theorem C9{α:Type}(p:α→Bool)(l:List α):nS (EO p l) 0=l.any p:=by
 have:=yh p l 0 (by omega)
 unfold EO nS
 cases h:wK p l 0
 ·rw[h]at this;exact this
 ·rw[h]at this;rw[←this];rfl
def p9(k:Int):Bool:=decide (¬(k < 2305843009213688669∧k≠0))
def oF(t:eT)(i br:Int)(ks:List Int):Bool:=gD t && (decide (0≤i∧i < t.1.length∧0≤br∧br < 4∧ks.length≤12) && !(ks.any p9))
def DS(t:eT)(i br:Int)(ks:List Int)(sc:Int):eT×Int:=
 if oF t i br ks then((t.1.set i.toNat ((nth fy t.1 i.toNat).1,(br,ks.map (fun k=>im k (mG t)),sc,()),()),t.2),0) else(([],[],0,()),1)
theorem Ar{t:eT}:Sm (mG t):=by
 unfold mG
 split
 ·exact Aj _ _
 ·exact⟨by rw[List.length_replicate],fun x hx=>by obtain rfl:=(List.mem_replicate.1 hx).2;exact⟨by decide,by decide⟩⟩
abbrev ei.D:=Int
def ei.st:ei.D→SA:=fun kv=>([.d tu kv],[])
abbrev ei.Y:=Bool
abbrev ei.X:=Bool
def ei.out:ei.X→bk:=fun x=>⟨.d .bool x,[],[]⟩
def ei.add:ei.D→ei.Y→ei.X:=fun kv y=>y
def ei.aC:ei.D→Prop:=fun _=>True
def ei.F:ei.D→ei.Y:=fun k=>p9 k
noncomputable def ei.G:dZ:=fh (P:=Tryz.prog) [cQ.sg]
noncomputable def ei.an:eO:= {}
noncomputable def ei.A:= @cZ Tryz.prog ei.G ei.an 0 Tryz.f64 _ ei.st
abbrev ei.Ok:=da @ei.A ei.aC ei.add ei.F ei.out
theorem ei.eq{R:Type}(kv:Int)(k:bk→Option R):ei.A kv k=
  aJ ((jB kv (0:Int))) (
   k (ei.out true)) (
   ah (cQ.call kv) fun x1=>
   k (ei.out (!x1))):=by kernel_rfl
theorem ei.ok:ei.Ok:=by
 intro(k:Int) _
 rw[ei.eq,cQ.run (d:=k) trivial]
 simp only[ei.add,ei.F,p9,aa,cQ.add,cQ.F]
 by_cases h:k=0
 ·rw[il h,ag,aX (by omega)]
 ·rw[iR h,ai]
  by_cases h2:k < 2305843009213688669
  ·rw[bq h2,bz (by omega)];rfl
  ·rw[bg h2,aX (by omega)];rfl
noncomputable def ei.E:=Entry.cq [some tu] ei.st ei.aC ei.add ei.F ei.out
noncomputable def ei.call:ei.D→Option ei.X:=bT ei.E ei.st
theorem ei.run:bK ei.call ei.aC ei.add ei.F:=dh (de [.d tu] fun _=>by kernel_rfl)
noncomputable def ei.sg:SG Tryz.prog:=⟨64,aY,ei.E,.fn 0 (by kernel_rfl) ei.ok trivial⟩
abbrev aW.L0.D:=Bs×Int×Int
def aW.L0.st:aW.L0.D→AS:=fun(sv_2,t7,t8)=>⟨([.d tU sv_2,.fn 64 (.nil)]++ba 5 ([.d ti t7,.d ti t8]++ba 10 [])),[],(List.replicate 19 [])⟩
abbrev aW.L0.Y0:=Int
abbrev aW.L0.X0:=Int
def aW.L0.bj:aW.L0.X0→Exit×AS:=fun x=>(.ret,⟨(ba 4 ([.d ti x]++ba 14 [])),[],(List.replicate 19 [])⟩)
abbrev aW.L0.Y1:=Unit
abbrev aW.L0.X1:=Unit
def aW.L0.e7:aW.L0.X1→Exit×AS:=fun x=>(.exit 0,⟨(ba 19 []),[],(List.replicate 19 [])⟩)
abbrev aW.L0.X:=(aW.L0.X0)⊕(aW.L0.X1)
abbrev aW.L0.Y:=(aW.L0.Y0)⊕(aW.L0.Y1)
def aW.L0.out:aW.L0.X→Out (Exit×AS):=fun x=> .br x.isLeft (.get x.getLeft? fun a=> .ok (aW.L0.bj a)) (.get x.getRight? fun b=> .ok (aW.L0.e7 b))
def aW.L0.add:aW.L0.D→aW.L0.Y→aW.L0.X:=fun(sv_2,t7,t8) y=>match y with | .inl y=> .inl y | .inr z=> .inr (z)
abbrev aW.D:=Bs
def aW.st:aW.D→SA:=fun sv=>([.d tU sv,.fn 64 (.nil)],[])
abbrev aW.Y:=Int
abbrev aW.X:=Int
def aW.out:aW.X→bk:=fun x=>⟨.d ti x,[],[]⟩
def aW.add:aW.D→aW.Y→aW.X:=fun sv y=>y
def aW.L0.aC:aW.L0.D→Prop:=fun(l,n,i)=>(∀x∈l,True)∧l.length≤1000000000∧n=l.length∧∃k:Nat,k≤l.length∧i=k
def aW.L0.F:aW.L0.D→aW.L0.Y:=fun(l,n,i)=>wK p9 (l.drop i.toNat) i
def aW.aC:aW.D→Prop:=fun l=>(∀x∈l,True)∧l.length≤1000000000
def aW.F:aW.D→aW.Y:=fun l=>EO p9 l
noncomputable def aW.G:dZ:=fh (P:=Tryz.prog) [ei.sg]
noncomputable def aW.L0.E:=bP.cq aW.L0.st aW.L0.aC aW.L0.add aW.L0.F aW.L0.out
noncomputable def aW.L0.call:aW.L0.D→Option aW.L0.X:=cX aW.L0.E aW.L0.st
noncomputable def aW.an:eO:= {loops:=j7 [(2,{bm:=[0,1,7,8]})],outs:=j6 [(2,{},{bm:=[4]})],fJ:=kW [(2,aW.L0.E)]}
noncomputable def aW.A:= @cZ Tryz.prog aW.G aW.an 0 Tryz.f133 _ aW.st
abbrev aW.Ok:=da @aW.A aW.aC aW.add aW.F aW.out
noncomputable def aW.L0.R:= @bX Tryz.prog aW.G aW.an 0 Tryz.f133 0 _ aW.L0.st
abbrev aW.L0.Ok:=ej Tryz.prog aW.G aW.an 0 Tryz.f133 0 aW.L0.st aW.L0.aC aW.L0.add aW.L0.F aW.L0.out
theorem aW.L0.run:bK aW.L0.call aW.L0.aC aW.L0.add aW.L0.F:=eG (eC [.d tU,.d ti,.d ti] fun _=>by kernel_rfl)
theorem aW.L0.aD:j5 @aW.L0.R aW.L0.st aW.L0.aC aW.L0.add aW.L0.F aW.L0.out aW.L0.Ok:=kf
theorem aW.L0.step{R:Type}(sv_2:Bs)(t7:Int)(t8:Int)(kn:AS→Option R)(kx:Exit→AS→Option R):aW.L0.R (sv_2,t7,t8) kn kx=
  aJ ((fX t8 t7)) (
   aJ (eJ t8 (((List.length sv_2):Nat):Int)) (
   ah (ei.call (nth tu sv_2 (Int.toNat t8))) fun x1=>
   aJ (x1) (
    kx (aW.L0.bj t8).1 (aW.L0.bj t8).2) (
    kn (aW.L0.st (sv_2,t7,(bN .i64 t8 (1:Int)))))) none) (
   kx (aW.L0.e7 ()).1 (aW.L0.e7 ()).2):=by kernel_rfl
theorem aW.eq{R:Type}(sv:Bs)(k:bk→Option R):aW.A sv k=
  ah (aW.L0.call (sv,(((List.length sv):Nat):Int),(0:Int))) fun x2=>
  aJ (x2.isLeft) (
   ah (x2.getLeft?) fun a3=>
   k (aW.out a3)) (
   ah (x2.getRight?) fun b4=>
   k (aW.out (-1:Int))):=by kernel_rfl
theorem aW.L0.ok:aW.L0.Ok:=by
 refine aW.L0.aD (fun(l,n,i)=>l.length - i.toNat) ?_
 rintro⟨l,n,i⟩ ⟨hl,hb,rfl,k,hk,rfl⟩
 have hb:l.length≤1000000000:=hb
 have hk:k≤l.length:=hk
 by_cases h:k < l.length
 ·have hx:=hl _ (List.getElem_mem h)
  have n1:nth tu l k=l[k]:=cm (t:=tu) h
  have hd:wK p9 (l.drop k) k=if p9 l[k] then .inl (k:Int) else wK p9 (l.drop (k+1)) ((k+1:Nat):Int):=by rw[List.drop_eq_getElem_cons h];rfl
  have step:∀ {R:Type} (kn:AS→Option R) (kx:Exit→AS→Option R),aW.L0.R (l,(l.length:Int),(k:Int)) kn kx=aJ (p9 l[k]) (kx (aW.L0.bj (k:Int)).1 (aW.L0.bj (k:Int)).2) (kn (aW.L0.st (l,(l.length:Int),((k+1:Nat):Int)))):=by
   intro R kn kx
   rw[aW.L0.step,bq (by omega),bt (by omega) (by omega),Int.toNat_natCast,n1,ei.run (d:=l[k]) hx,N.j4 (by omega)]
   rfl
  cases hp:p9 l[k]
  ·left
   refine⟨(l,l.length,((k+1:Nat):Int)),⟨hl,hb,rfl,k+1,by omega,rfl⟩,by simp only[Int.toNat_natCast];omega,?_,fun kn kx=> ?_⟩
   ·simp only[aW.L0.add,aW.L0.F,Int.toNat_natCast,hd,hp,Bool.false_eq_true,if_false]
   ·rw[step,hp,ai]
  ·right
   refine⟨aW.L0.bj (k:Int),?_,fun kn kx=> ?_⟩
   ·simp only[aW.L0.add,aW.L0.F,Int.toNat_natCast,hd,hp,if_true]
    rfl
   ·rw[step,hp,ag]
 ·right
  obtain rfl:k=l.length:=by omega
  refine⟨aW.L0.e7 (),?_,fun kn kx=> ?_⟩
  ·simp only[aW.L0.add,aW.L0.F,Int.toNat_natCast,List.drop_length]
   rfl
  ·rw[aW.L0.step,bg (by omega),ai]
theorem aW.ok:aW.Ok:=by
 rintro l ⟨hl,hb⟩
 rw[aW.eq,aW.L0.run (d:=(l,l.length,0)) ⟨hl,hb,rfl,0,by omega,rfl⟩]
 simp only[aa,aW.L0.add,aW.L0.F,Int.toNat_zero,List.drop_zero,aW.add,aW.F,EO]
 cases wK p9 l 0 <;> rfl
noncomputable def aW.E:=Entry.cq [some tU,none] aW.st aW.aC aW.add aW.F aW.out
noncomputable def aW.call:aW.D→Option aW.X:=bT aW.E aW.st
theorem aW.run:bK aW.call aW.aC aW.add aW.F:=dh (de [.d tU] fun _=>by kernel_rfl)
noncomputable def aW.sg:SG Tryz.prog:=⟨133,aY,aW.E,.fn 1 (by kernel_rfl) aW.ok (And.intro (.cq aW.L0.ok (by kernel_rfl)) trivial)⟩
abbrev bR.D:=Bs
def bR.st:bR.D→SA:=fun sv=>([.d tU sv,.fn 64 (.nil)],[])
abbrev bR.Y:=Bool
abbrev bR.X:=Bool
def bR.out:bR.X→bk:=fun x=>⟨.d .bool x,[],[]⟩
def bR.add:bR.D→bR.Y→bR.X:=fun sv y=>y
def bR.aC:bR.D→Prop:=fun l=>(∀x∈l,True)∧l.length≤1000000000
def bR.F:bR.D→bR.Y:=fun l=>l.any p9
noncomputable def bR.G:dZ:=fh (P:=Tryz.prog) [aW.sg]
noncomputable def bR.an:eO:= {}
noncomputable def bR.A:= @cZ Tryz.prog bR.G bR.an 0 Tryz.f68 _ bR.st
abbrev bR.Ok:=da @bR.A bR.aC bR.add bR.F bR.out
theorem bR.eq{R:Type}(sv:Bs)(k:bk→Option R):bR.A sv k=
 ah (aW.call sv) fun x1=>
 k (bR.out (nS x1 (0:Int))):=by kernel_rfl
theorem bR.ok:bR.Ok:=by
 rintro l ⟨hl,hb⟩
 rw[bR.eq,aW.run (d:=l) ⟨hl,hb⟩]
 simp only[aa,aW.add,aW.F,C9]
 rfl
noncomputable def bR.E:=Entry.cq [some tU,none] bR.st bR.aC bR.add bR.F bR.out
noncomputable def bR.call:bR.D→Option bR.X:=bT bR.E bR.st
theorem bR.run:bK bR.call bR.aC bR.add bR.F:=dh (de [.d tU] fun _=>by kernel_rfl)
noncomputable def bR.sg:SG Tryz.prog:=⟨68,aY,bR.E,.fn 0 (by kernel_rfl) bR.ok trivial⟩
abbrev bG.L0.D:=Int×Bs×Int×Int×eT×(Int×Unit)×Int×Nat×(Int×Unit)×Bs×(List Sg)
def bG.L0.st:bG.L0.D→AS:=fun(inv_2,t52,t53,t54,n5,n10,n13,n13L,n13_2,n14,n64)=>⟨([.undef,.d ti inv_2,.undef,.undef,.undef,.ptr (.new 5 0) 0 [] 0]++ba 4 ([.ptr (.new 10 0) 0 [] 0,.undef,.undef,.ptr (.new 13 0) 0 [] 0,.ptr (.new 14 0) 0 [] 0]++ba 37 ([.d tU t52,.d ti t53,.d ti t54]++ba 21 []))),[],(bE 5 ([[.obj 0 false (.d gf n5)]]++bE 4 ([[.obj 0 false (.pr (.cY) (.pr (.cY) (.d (.pair ti .unit) n10)))],[],[],[.obj 0 false (.pr (.d ti n13) (.pr (.bI (.new 64 0) 0 [] 0 0 n13L) (.d (.pair tu .unit) n13_2)))],[.obj 0 false (.d tH n14)]]++bE 49 ([[.obj 0 false (.vec 135 nP n64)]]++bE 11 []))))⟩
abbrev bG.L0.Y0:=oY×(List Sg)
abbrev bG.L0.X0:=(Int×eT×(Int×Unit))×(oY×(List Sg))
def bG.L0.bj:bG.L0.X0→Exit×AS:=fun x=>(.exit 0,⟨([.undef,.d ti x.1.1,.undef,.undef,.undef,.ptr (.new 5 0) 0 [] 0]++ba 4 ([.ptr (.new 10 0) 0 [] 0,.undef,.undef,.ptr (.new 13 0) 0 [] 0]++ba 62 [])),[],(bE 5 ([[.obj 0 false (.d gf x.1.2.1)]]++bE 4 ([[.obj 0 false (.pr (.cY) (.pr (.cY) (.d (.pair ti .unit) x.1.2.2)))],[],[],[.obj 0 false (.d vV x.2.1)]]++bE 50 ([[.obj 0 true (.vec 135 nP x.2.2)]]++bE 11 []))))⟩)
abbrev bG.L0.X:=bG.L0.X0
abbrev bG.L0.Y:=bG.L0.Y0
def bG.L0.out:bG.L0.X→Out (Exit×AS):=fun x=> .ok (bG.L0.bj x)
def bG.L0.add:bG.L0.D→bG.L0.Y→bG.L0.X:=fun(inv_2,t52,t53,t54,n5,n10,n13,n13L,n13_2,n14,n64) y=>((inv_2,n5,n10),y)
abbrev bG.D:=eT×Int×Int×Bs×Int
def bG.st:bG.D→SA:=fun(t,inv,branch,keys,secret)=>([.d gf t,.d ti inv,.d ti branch,.d tU keys,.d tu secret],[])
abbrev bG.Y:=eT×Int
abbrev bG.X:=eT×Int
def bG.out:bG.X→bk:=fun x=>⟨.cons (.d gf x.1) (.cons (.d ti x.2) (.nil)),[],[]⟩
def bG.add:bG.D→bG.Y→bG.X:=fun(t,inv,branch,keys,secret) y=>y
def bG.L0.aC:bG.L0.D→Prop:=fun(i0,l,n,i,t,e,br,L,sc,id,r)=>l.length≤1000∧(∀x∈l,jd x)∧Sm id∧∃k:Nat,k≤l.length∧i=k∧n=l.length∧L=r.length∧r.length≤1000+k
def bG.L0.F:bG.L0.D→bG.L0.Y:=fun(i0,l,n,i,t,e,br,L,sc,id,r)=>((br,r++(l.drop i.toNat).map (fun k=>im k id),sc),r++(l.drop i.toNat).map (fun k=>im k id))
def bG.aC:bG.D→Prop:=fun(t,i,br,ks,sc)=>nR t∧(∀x∈ks,jd x)∧ks.length≤1000000000
def bG.F:bG.D→bG.Y:=fun(t,i,br,ks,sc)=>DS t i br ks sc
noncomputable def bG.G:dZ:=fh (P:=Tryz.prog) [ax.sg,ff.sg,bR.sg,tid.sg,dY.sg,al.sg]
noncomputable def bG.L0.E:=bP.cq bG.L0.st bG.L0.aC bG.L0.add bG.L0.F bG.L0.out
noncomputable def bG.L0.call:bG.L0.D→Option bG.L0.X:=cX bG.L0.E bG.L0.st
noncomputable def bG.an:eO:= {bO:=[5],loops:=j7 [(7,{bm:=[1,5,10,13,14,52,53,54],sites:=[5,10,13,14,64],ij:=[⟨13,[.snd,.fst],64,48⟩]})],outs:=j6 [(7,{bm:=[1,5,10,13],sites:=[5,10,13,64],uS:=[⟨13,[.snd,.fst],(.slice nP)⟩]},{bm:=[10,11]})],fJ:=kW [(7,bG.L0.E)],res:=[some gf,none]}
noncomputable def bG.A:= @cZ Tryz.prog bG.G bG.an 0 Tryz.f16 _ bG.st
abbrev bG.Ok:=da @bG.A bG.aC bG.add bG.F bG.out
noncomputable def bG.L0.R:= @bX Tryz.prog bG.G bG.an 0 Tryz.f16 0 _ bG.L0.st
abbrev bG.L0.Ok:=ej Tryz.prog bG.G bG.an 0 Tryz.f16 0 bG.L0.st bG.L0.aC bG.L0.add bG.L0.F bG.L0.out
theorem bG.L0.run:bK bG.L0.call bG.L0.aC bG.L0.add bG.L0.F:=eG (eC [.d ti,.d tU,.d ti,.d ti,.d gf,.d (.pair ti .unit),.d ti,.n,.d (.pair tu .unit),.d tB,.d (.slice nP)] fun _=>by kernel_rfl)
theorem bG.L0.aD:fN @bG.L0.R bG.L0.st bG.L0.aC bG.L0.add bG.L0.F bG.L0.bj bG.L0.Ok:=fU
theorem bG.L0.step{R:Type}(inv_2:Int)(t52:Bs)(t53:Int)(t54:Int)(n5:eT)(n10:(Int×Unit))(n13:Int)(n13L:Nat)(n13_2:(Int×Unit))(n14:Bs)(n64:(List Sg))(kn:AS→Option R)(kx:Exit→AS→Option R):bG.L0.R (inv_2,t52,t53,t54,n5,n10,n13,n13L,n13_2,n14,n64) kn kx=
  aJ ((fX t54 t53)) (
   aJ (eJ t54 (((List.length t52):Nat):Int)) (
   ah (dY.call ((nth tu t52 (Int.toNat t54)),n14)) fun x4=>
   aJ (decide (n13L≤(List.length n64))) (
   aJ (dq (n13L+1) 16) (
   kn (bG.L0.st (inv_2,t52,t53,(bN .i64 t54 (1:Int)),n5,n10,n13,(n13L+1),n13_2,n14,((List.take n13L n64)++ [x4])))) none) none) none) (
   aJ (decide (0=0∧(0+n13L)≤(List.length n64))) (
   kx (bG.L0.bj ((inv_2,n5,n10),((n13,((cut n64 0 n13L),n13_2)),n64))).1 (bG.L0.bj ((inv_2,n5,n10),((n13,((cut n64 0 n13L),n13_2)),n64))).2) none):=by kernel_rfl
theorem bG.eq{R:Type}(t:eT)(inv:Int)(branch:Int)(keys:Bs)(secret:Int)(k:bk→Option R):bG.A (t,inv,branch,keys,secret) k=
  ah (ax.call t) fun x10=>
  aJ ((!x10)) (
   k (bG.out ((([]:List fZ),(([]:List fu),((0:Int),()))),(1:Int)))) (
   aJ ((fX inv (0:Int))) (
    k (bG.out ((([]:List fZ),(([]:List fu),((0:Int),()))),(1:Int)))) (
    aJ ((nS inv (((List.length t.1):Nat):Int))) (
     k (bG.out ((([]:List fZ),(([]:List fu),((0:Int),()))),(1:Int)))) (
     ah (ff.call (branch,(([]:List Sg),(secret,())))) fun x11=>
     aJ ((!x11)) (
      k (bG.out ((([]:List fZ),(([]:List fu),((0:Int),()))),(1:Int)))) (
      aJ ((mP (((List.length keys):Nat):Int) (12:Int))) (
       k (bG.out ((([]:List fZ),(([]:List fu),((0:Int),()))),(1:Int)))) (
       ah (bR.call keys) fun x12=>
       aJ (x12) (
        k (bG.out ((([]:List fZ),(([]:List fu),((0:Int),()))),(1:Int)))) (
        ah (tid.call t) fun x16=>
        ah (bG.L0.call (inv,keys,(((List.length keys):Nat):Int),(0:Int),t,((0:Int),()),branch,0,(secret,()),x16,([]:List Sg))) fun x26=>
        ah (al.call x26.1.2.1) fun x30=>
        aJ (eJ x26.1.1 ((x30.1:Nat):Int)) (
        aJ (decide ((0+(Int.toNat x26.1.1)) < (List.length x30.2.2))) (
        aJ (decide ((((0+(Int.toNat x26.1.1))*36)+33)=((0+((Int.toNat x26.1.1)*36))+33))) (
        aJ (decide ((0+(Int.toNat x26.1.1)) < (List.length x30.2.2))) (
        aJ (decide (0=0∧(0+x30.1)≤(List.length (List.set x30.2.2 (0+(Int.toNat x26.1.1)) ((nth fy x30.2.2 (0+(Int.toNat x26.1.1))).1,(x26.2.1,(nth fy x30.2.2 (0+(Int.toNat x26.1.1))).2.2)))))) (
        k (bG.out (((cut (List.set x30.2.2 (0+(Int.toNat x26.1.1)) ((nth fy x30.2.2 (0+(Int.toNat x26.1.1))).1,(x26.2.1,(nth fy x30.2.2 (0+(Int.toNat x26.1.1))).2.2))) 0 x30.1),x30.2.1),(0:Int)))) none) none) none) none) none)))))):=by kernel_rfl
theorem bG.L0.ok:bG.L0.Ok:=by
 refine bG.L0.aD (fun(i0,l,n,i,t,e,br,L,sc,id,r)=>l.length - i.toNat) ?_
 rintro⟨i0,l,n,i,t,e,br,L,sc,id,r⟩ ⟨hlen,hu,hm,k,hk,rfl,rfl,rfl,hr⟩
 have hlen:l.length≤1000:=hlen
 have hk:k≤l.length:=hk
 have hr:r.length≤1000+k:=hr
 by_cases h:k < l.length
 ·left
  have n1:nth tu l k=l[k]:=cm (t:=tu) h
  have hd:List.drop k l=l[k]::List.drop (k+1) l:=List.drop_eq_getElem_cons h
  refine⟨(i0,l,l.length,((k+1:Nat):Int),t,e,br,r.length+1,sc,id,r++ [im l[k] id]),⟨hlen,hu,hm,k+1,by omega,rfl,rfl,by rw[List.length_append];rfl,by rw[List.length_append];show r.length+1≤_;omega⟩,by simp only[Int.toNat_natCast];omega,?_,fun kn kx=> ?_⟩
  ·simp only[bG.L0.add,bG.L0.F,Int.toNat_natCast,hd,List.map_cons,List.append_assoc,List.singleton_append]
  ·rw[bG.L0.step,bq (by omega),bt (by omega) (by omega),Int.toNat_natCast,n1,dY.run (d:=(l[k],id)) ⟨hu _ (List.getElem_mem h),hm⟩]
   simp only[ag,aa,dY.add,dY.F]
   rw[aX (Nat.le_refl _),ed (by omega) (by omega),N.j4 (by omega),List.take_length]
   rfl
 ·right
  obtain rfl:k=l.length:=by omega
  intro R kn kx
  rw[bG.L0.step,bg (by omega),ai]
  simp only[bG.L0.add,bG.L0.F,Int.toNat_natCast,List.drop_length,List.map_nil,List.append_nil,Nat.zero_add,Nat.le_refl,and_self,decide_true,ag,fc]
theorem bG.ok:bG.Ok:=by
 rintro⟨⟨is,os,nt,u⟩,i,br,ks,sc⟩ ⟨hv,hu,hl⟩
 have hv:nR (is,os,nt,u):=hv
 have hl:ks.length≤1000000000:=hl
 rw[bG.eq,ax.run (d:=(is,os,nt,u)) hv.1]
 simp only[aa,ax.add,ax.F,bG.add,bG.F,DS,oF]
 rcases Bool.eq_false_or_eq_true (gD (is,os,nt,u)) with hok | hok
 rotate_left
 ·simp only[hok];rfl
 obtain⟨⟨_,a2,a3,_⟩,b1,b2⟩:=iM hok
 have a2:is.length≤64:=a2
 simp only[hok,Bool.not_true,ai,Bool.true_and]
 by_cases h1:i < 0
 ·rw[bq h1,ag,bz (by omega)];rfl
 rw[bg h1,ai]
 by_cases h2:i≥(is.length:Int)
 ·rw[gl h2,ag,bz (by omega)];rfl
 rw[eX h2,ai,ff.run (d:=(br,([],(sc,())))) trivial]
 simp only[aa,ff.add,ff.F,nQ]
 by_cases h3:0≤br∧br < 4
 ·rw[aX h3]
  by_cases h4:ks.length > 12
  ·rw[dy (by omega),bz (p:=0≤i∧i < (is.length:Int)∧0≤br∧br < 4∧ks.length≤12) (by omega)];rfl
  ·rw[db (by omega),aX (p:=0≤i∧i < (is.length:Int)∧0≤br∧br < 4∧ks.length≤12) (by omega),bR.run (d:=ks) ⟨fun _ _=>trivial,hl⟩]
   simp only[aa,bR.add,bR.F]
   rcases Bool.eq_false_or_eq_true (ks.any p9) with hb | hb
   rotate_left
   ·simp only[hb]
    obtain⟨k,rfl⟩:∃k:Nat,i=k:=⟨i.toNat,by omega⟩
    have hk:k < is.length:=by omega
    simp only[show(([]:List Sg).length≤12)=True from eq_true (Nat.zero_le _),decide_true,Bool.and_self,Bool.not_true,Bool.not_false,ai,Bool.true_and,if_true]
    rw[tid.run (d:=(is,os,nt,u)) hv]
    simp only[aa,tid.add,tid.F]
    rw[bG.L0.run (d:=((k:Int),ks,ks.length,0,(is,os,nt,u),(0,()),br,0,(sc,()),mG (is,os,nt,u),[])) ⟨by show ks.length≤_;omega,hu,Ar,0,Nat.zero_le _,rfl,rfl,rfl,Nat.zero_le _⟩]
    simp only[aa,bG.L0.add,bG.L0.F,Int.toNat_zero,List.drop_zero,List.nil_append]
    rw[al.run (d:=(is,os,nt,u)) hok]
    simp only[aa,al.add,al.F,Int.toNat_natCast,Nat.zero_add,Nat.add_zero,bt (show(0:Int)≤(k:Int) by omega) (show(k:Int) < (is.length:Int) by omega),ag,aX hk,decide_true,List.length_set,Nat.le_refl,and_self]
    rw[fc (by rw[List.length_set])]
   ·simp only[hb];rfl
 ·rw[bz h3,bz (p:=0≤i∧i < (is.length:Int)∧0≤br∧br < 4∧ks.length≤12) (by omega)];rfl
noncomputable def bG.E:=Entry.cq [some gf,some ti,some ti,some tU,some tu] bG.st bG.aC bG.add bG.F bG.out
noncomputable def bG.call:bG.D→Option bG.X:=bT bG.E bG.st
theorem bG.run:bK bG.call bG.aC bG.add bG.F:=dh (de [.d gf,.d ti,.d ti,.d tU,.d tu] fun _=>by kernel_rfl)
noncomputable def bG.sg:SG Tryz.prog:=⟨16,aY,bG.E,.fn 1 (by kernel_rfl) bG.ok (And.intro (.cq bG.L0.ok (by kernel_rfl)) trivial)⟩
set_option synthInstance.maxSize 5000
abbrev cd.L0.D:=Bs×Bs×Int×Int
def cd.L0.st:cd.L0.D→AS:=fun(s1_2,s2_2,t12,t13)=>⟨([.d tB s1_2,.d tB s2_2]++ba 10 ([.d ti t12,.d ti t13]++ba 12 [])),[],(List.replicate 26 [])⟩
abbrev cd.L0.Y0:=Unit
abbrev cd.L0.X0:=Unit
def cd.L0.bj:cd.L0.X0→Exit×AS:=fun x=>(.ret,⟨(ba 4 ([.d .bool false]++ba 21 [])),[],(List.replicate 26 [])⟩)
abbrev cd.L0.Y1:=Unit
abbrev cd.L0.X1:=Unit
def cd.L0.e7:cd.L0.X1→Exit×AS:=fun x=>(.exit 0,⟨(ba 26 []),[],(List.replicate 26 [])⟩)
abbrev cd.L0.X:=(cd.L0.X0)⊕(cd.L0.X1)
abbrev cd.L0.Y:=(cd.L0.Y0)⊕(cd.L0.Y1)
def cd.L0.out:cd.L0.X→Out (Exit×AS):=fun x=> .br x.isLeft (.get x.getLeft? fun a=> .ok (cd.L0.bj a)) (.get x.getRight? fun b=> .ok (cd.L0.e7 b))
def cd.L0.add:cd.L0.D→cd.L0.Y→cd.L0.X:=fun(s1_2,s2_2,t12,t13) y=>match y with | .inl y=> .inl y | .inr z=> .inr (z)
abbrev cd.D:=Bs×Bs
def cd.st:cd.D→SA:=fun(s1,s2)=>([.d tB s1,.d tB s2],[])
abbrev cd.Y:=Bool
abbrev cd.X:=Bool
def cd.out:cd.X→bk:=fun x=>⟨.d .bool x,[],[]⟩
def cd.add:cd.D→cd.Y→cd.X:=fun(s1,s2) y=>y
def cd.L0.aC:cd.L0.D→Prop:=fun(a,b,m,i)=>a.length≤1000000000∧a.length=b.length∧m=a.length∧∃k:Nat,k≤a.length∧i=k
def cd.L0.F:cd.L0.D→cd.L0.Y:=fun(a,b,m,i)=>if a.drop i.toNat=b.drop i.toNat then .inr () else .inl ()
def cd.aC:cd.D→Prop:=fun(a,b)=>a.length≤1000000000
def cd.F:cd.D→cd.Y:=fun(a,b)=>decide (a=b)
noncomputable def cd.G:dZ:=fh (P:=Tryz.prog) []
noncomputable def cd.L0.E:=bP.cq cd.L0.st cd.L0.aC cd.L0.add cd.L0.F cd.L0.out
noncomputable def cd.L0.call:cd.L0.D→Option cd.L0.X:=cX cd.L0.E cd.L0.st
noncomputable def cd.an:eO:= {loops:=j7 [(4,{bm:=[0,1,12,13]})],outs:=j6 [(4,{},{bm:=[4]})],fJ:=kW [(4,cd.L0.E)]}
noncomputable def cd.A:= @cZ Tryz.prog cd.G cd.an 0 Tryz.f241 _ cd.st
abbrev cd.Ok:=da @cd.A cd.aC cd.add cd.F cd.out
noncomputable def cd.L0.R:= @bX Tryz.prog cd.G cd.an 0 Tryz.f241 0 _ cd.L0.st
abbrev cd.L0.Ok:=ej Tryz.prog cd.G cd.an 0 Tryz.f241 0 cd.L0.st cd.L0.aC cd.L0.add cd.L0.F cd.L0.out
theorem cd.L0.run:bK cd.L0.call cd.L0.aC cd.L0.add cd.L0.F:=eG (eC [.d tB,.d tB,.d ti,.d ti] fun _=>by kernel_rfl)
theorem cd.L0.aD:j5 @cd.L0.R cd.L0.st cd.L0.aC cd.L0.add cd.L0.F cd.L0.out cd.L0.Ok:=kf
theorem cd.L0.step{R:Type}(s1_2:Bs)(s2_2:Bs)(t12:Int)(t13:Int)(kn:AS→Option R)(kx:Exit→AS→Option R):cd.L0.R (s1_2,s2_2,t12,t13) kn kx=
  aJ ((fX t13 t12)) (
   aJ (eJ t13 (((List.length s1_2):Nat):Int)) (
   aJ (eJ t13 (((List.length s2_2):Nat):Int)) (
   aJ ((jO (nth tb s1_2 (Int.toNat t13)) (nth tb s2_2 (Int.toNat t13)))) (
    kx (cd.L0.bj ()).1 (cd.L0.bj ()).2) (
    kn (cd.L0.st (s1_2,s2_2,t12,(bN .i64 t13 (1:Int)))))) none) none) (
   kx (cd.L0.e7 ()).1 (cd.L0.e7 ()).2):=by kernel_rfl
theorem cd.eq{R:Type}(s1:Bs)(s2:Bs)(k:bk→Option R):cd.A (s1,s2) k=
  aJ ((jO (((List.length s1):Nat):Int) (((List.length s2):Nat):Int))) (
   k (cd.out false)) (
   ah (cd.L0.call (s1,s2,(((List.length s1):Nat):Int),(0:Int))) fun x1=>
   aJ (x1.isLeft) (
    ah (x1.getLeft?) fun a2=>
    k (cd.out false)) (
    ah (x1.getRight?) fun b3=>
    k (cd.out true))):=by kernel_rfl
theorem cd.L0.ok:cd.L0.Ok:=by
 refine cd.L0.aD (fun(a,b,m,i)=>a.length - i.toNat) ?_
 rintro⟨a,b,m,i⟩ ⟨hl,hab,rfl,k,hk,rfl⟩
 have hl:a.length≤1000000000:=hl
 have hab:a.length=b.length:=hab
 have hk:k≤a.length:=hk
 by_cases h:k < a.length
 ·have h2:k < b.length:=by omega
  have n1:nth (.int .u8) a k=a[k]:=cm (t:=(.int .u8)) h
  have n2:nth (.int .u8) b k=b[k]:=cm (t:=(.int .u8)) h2
  have hd:(a.drop k=b.drop k)=(a[k]=b[k]∧a.drop (k+1)=b.drop (k+1)):=by rw[List.drop_eq_getElem_cons h,List.drop_eq_getElem_cons h2,List.cons.injEq]
  have step:∀ {R:Type} (kn:AS→Option R) (kx:Exit→AS→Option R),cd.L0.R (a,b,(a.length:Int),(k:Int)) kn kx=if a[k]=b[k] then kn (cd.L0.st (a,b,(a.length:Int),((k+1:Nat):Int))) else kx (cd.L0.bj ()).1 (cd.L0.bj ()).2:=by
   intro R kn kx
   rw[cd.L0.step,bq (by omega),bt (by omega) (by omega),bt (by omega) (by omega),Int.toNat_natCast,n1,n2,N.j4 (by omega)]
   simp only[ag]
   by_cases hx:a[k]=b[k]
   ·rw[bU hx,if_pos hx];rfl
   ·rw[dO hx,if_neg hx];rfl
  by_cases hx:a[k]=b[k]
  ·left
   refine⟨(a,b,(a.length:Int),((k+1:Nat):Int)),⟨hl,hab,rfl,k+1,by omega,rfl⟩,by simp only[Int.toNat_natCast];omega,?_,fun kn kx=> ?_⟩
   ·simp only[cd.L0.add,cd.L0.F,Int.toNat_natCast,hd,hx,true_and]
   ·rw[step,if_pos hx]
  ·right
   refine⟨cd.L0.bj (),?_,fun kn kx=> ?_⟩
   ·simp only[cd.L0.add,cd.L0.F,Int.toNat_natCast,hd,hx,false_and,if_false]
    rfl
   ·rw[step,if_neg hx]
 ·right
  obtain rfl:k=a.length:=by omega
  refine⟨cd.L0.e7 (),?_,fun kn kx=> ?_⟩
  ·simp only[cd.L0.add,cd.L0.F,Int.toNat_natCast,List.drop_length]
   rw[hab,List.drop_length,if_pos rfl]
   rfl
  ·rw[cd.L0.step,bg (by omega),ai]
theorem cd.ok:cd.Ok:=by
 rintro⟨a,b⟩ hl
 have hl:a.length≤1000000000:=hl
 rw[cd.eq]
 simp only[cd.add,cd.F]
 by_cases h:a.length=b.length
 ·rw[bU (by omega),ai,cd.L0.run (d:=(a,b,(a.length:Int),0)) ⟨hl,h,rfl,0,Nat.zero_le _,rfl⟩]
  simp only[aa,cd.L0.add,cd.L0.F,Int.toNat_zero,List.drop_zero]
  by_cases hx:a=b
  ·rw[if_pos hx,aX hx];rfl
  ·rw[if_neg hx,bz hx];rfl
 ·rw[dO (by omega),bz (fun x=>h (by rw[x]))];rfl
noncomputable def cd.E:=Entry.cq [some tB,some tB] cd.st cd.aC cd.add cd.F cd.out
noncomputable def cd.call:cd.D→Option cd.X:=bT cd.E cd.st
theorem cd.run:bK cd.call cd.aC cd.add cd.F:=dh (de [.d tB,.d tB] fun _=>by kernel_rfl)
noncomputable def cd.sg:SG Tryz.prog:=⟨241,aY,cd.E,.fn 1 (by kernel_rfl) cd.ok (And.intro (.cq cd.L0.ok (by kernel_rfl)) trivial)⟩
set_option synthInstance.maxSize 5000
theorem qs{α:Type}{f:α→α→Bool}(hf:∀x,f x x=true):∀l:List α,gN f l l=true
 |[]=>rfl
 |x::l=>by rw[ot,hf,qs hf l];rfl
theorem qb:∀(t:Ty) (x:t.den),t.comp=true→t.beq x x=true
 | .int _,x,_=>by simp[Ty.beq]
 | .bool,x,_=>by simp[Ty.beq]
 | .str,x,_=>by simp[Ty.beq]
 | .unit,_,_=>rfl
 | .pair a b,x,h=>by
  simp only[Ty.comp,Bool.and_eq_true]at h
  simp only[Ty.beq,qb a x.1 h.1,qb b x.2 h.2,Bool.and_self]
 | .arr _ t,l,h=>qs (fun x=>qb t x h) l
 | .slice _,_,h=>by cases h
 | .fw _,_,h=>by cases h
theorem AB(t:Ty)(hc:t.comp=true)(x y:t.den) [Decidable (x=y)]:t.beq x y=decide (x=y):=by
 by_cases h:x=y
 ·subst h;rw[aX rfl,qb t x hc]
 ·rw[bz h]
  cases hb:t.beq x y
  ·rfl
  ·exact absurd (beq_eq t x y hc hb) h
theorem FW(x y:Sg):Ty.beq nP x y=decide (x=y):= @AB nP rfl x y (inferInstanceAs (Decidable (x=y)))
theorem FV(x y:cR):Ty.beq cj x y=decide (x=y):= @AB cj rfl x y (inferInstanceAs (Decidable (x=y)))
set_option synthInstance.maxSize 5000
def lI(x:fZ):Bool:=decide (x.2.1.2.1.length≤14)
def lH(b:iA):Bool:=decide (b.1.length≤14)
def jZ(o:fu):Bool:=decide (o.2.1.1.length≤6) && o.2.1.1.all lH
def DY(t:eT):Bool:=decide (t.1.length≤66∧t.2.1.length≤66) && (t.1.all lI && t.2.1.all jZ)
abbrev ab.L0.D:=eT×Int
def ab.L0.st:ab.L0.D→AS:=fun(t_2,i)=>⟨([.undef,.eI gf t_2,.undef,.d ti i]++ba 69 []),[],(List.replicate 73 [])⟩
abbrev ab.L0.Y0:=Unit
abbrev ab.L0.X0:=Unit
def ab.L0.bj:ab.L0.X0→Exit×AS:=fun x=>(.ret,⟨([.undef,.undef,.d .bool false]++ba 70 []),[],(List.replicate 73 [])⟩)
abbrev ab.L0.Y1:=Unit
abbrev ab.L0.X1:=eT
def ab.L0.e7:ab.L0.X1→Exit×AS:=fun x=>(.exit 0,⟨([.undef,.eI gf x]++ba 71 []),[],(List.replicate 73 [])⟩)
abbrev ab.L0.X:=(ab.L0.X0)⊕(ab.L0.X1)
abbrev ab.L0.Y:=(ab.L0.Y0)⊕(ab.L0.Y1)
def ab.L0.out:ab.L0.X→Out (Exit×AS):=fun x=> .br x.isLeft (.get x.getLeft? fun a=> .ok (ab.L0.bj a)) (.get x.getRight? fun b=> .ok (ab.L0.e7 b))
def ab.L0.add:ab.L0.D→ab.L0.Y→ab.L0.X:=fun(t_2,i) y=>match y with | .inl y=> .inl y | .inr z=> .inr (t_2)
abbrev ab.L1.D:=eT×Int
def ab.L1.st:ab.L1.D→AS:=fun(t_3,i_2)=>⟨([.undef,.eI gf t_3,.undef,.undef,.d ti i_2]++ba 68 []),[],(List.replicate 73 [])⟩
abbrev ab.L1.Y0:=Unit
abbrev ab.L1.X0:=Unit
def ab.L1.bj:ab.L1.X0→Exit×AS:=fun x=>(.ret,⟨([.undef,.undef,.d .bool false]++ba 70 []),[],(List.replicate 73 [])⟩)
abbrev ab.L1.Y1:=Unit
abbrev ab.L1.X1:=Unit
def ab.L1.e7:ab.L1.X1→Exit×AS:=fun x=>(.exit 2,⟨(ba 73 []),[],(List.replicate 73 [])⟩)
abbrev ab.L1.X:=(ab.L1.X0)⊕(ab.L1.X1)
abbrev ab.L1.Y:=(ab.L1.Y0)⊕(ab.L1.Y1)
def ab.L1.out:ab.L1.X→Out (Exit×AS):=fun x=> .br x.isLeft (.get x.getLeft? fun a=> .ok (ab.L1.bj a)) (.get x.getRight? fun b=> .ok (ab.L1.e7 b))
def ab.L1.add:ab.L1.D→ab.L1.Y→ab.L1.X:=fun(t_3,i_2) y=>match y with | .inl y=> .inl y | .inr z=> .inr (z)
abbrev ab.L2.D:=eT×Int×Int
def ab.L2.st:ab.L2.D→AS:=fun(t_4,i_3,kv)=>⟨([.undef,.eI gf t_4,.undef,.undef,.d ti i_3,.d ti kv]++ba 67 []),[],(List.replicate 73 [])⟩
abbrev ab.L2.Y0:=Unit
abbrev ab.L2.X0:=Unit
def ab.L2.bj:ab.L2.X0→Exit×AS:=fun x=>(.ret,⟨([.undef,.undef,.d .bool false]++ba 70 []),[],(List.replicate 73 [])⟩)
abbrev ab.L2.Y1:=Unit
abbrev ab.L2.X1:=eT×Int
def ab.L2.e7:ab.L2.X1→Exit×AS:=fun x=>(.exit 4,⟨([.undef,.eI gf x.1,.undef,.undef,.d ti x.2]++ba 68 []),[],(List.replicate 73 [])⟩)
abbrev ab.L2.X:=(ab.L2.X0)⊕(ab.L2.X1)
abbrev ab.L2.Y:=(ab.L2.Y0)⊕(ab.L2.Y1)
def ab.L2.out:ab.L2.X→Out (Exit×AS):=fun x=> .br x.isLeft (.get x.getLeft? fun a=> .ok (ab.L2.bj a)) (.get x.getRight? fun b=> .ok (ab.L2.e7 b))
def ab.L2.add:ab.L2.D→ab.L2.Y→ab.L2.X:=fun(t_4,i_3,kv) y=>match y with | .inl y=> .inl y | .inr z=> .inr ((t_4,i_3))
abbrev ab.D:=eT
def ab.st:ab.D→SA:=fun t=>([.d gf t],[])
abbrev ab.Y:=Bool
abbrev ab.X:=Bool
def ab.out:ab.X→bk:=fun x=>⟨.d .bool x,[],[]⟩
def ab.add:ab.D→ab.Y→ab.X:=fun t y=>y
def ab.L0.aC:ab.L0.D→Prop:=fun(t,i)=>t.1.length≤1000000000∧∃k:Nat,k≤t.1.length∧i=k
def ab.L0.F:ab.L0.D→ab.L0.Y:=fun(t,i)=>if(List.drop (Int.toNat i) t.1).all lI then .inr () else .inl ()
def ab.L2.aC:ab.L2.D→Prop:=fun(t,j,i)=>(nth eN t.2.1 (Int.toNat j)).2.1.1.length≤1000000000∧∃k:Nat,k≤(nth eN t.2.1 (Int.toNat j)).2.1.1.length∧i=k∧(0≤j∧j < (t.2.1.length:Int))
def ab.L2.F:ab.L2.D→ab.L2.Y:=fun(t,j,i)=>if(List.drop (Int.toNat i) (nth eN t.2.1 (Int.toNat j)).2.1.1).all lH then .inr () else .inl ()
def ab.L1.aC:ab.L1.D→Prop:=fun(t,i)=>t.2.1.length≤1000000000∧∃k:Nat,k≤t.2.1.length∧i=k
def ab.L1.F:ab.L1.D→ab.L1.Y:=fun(t,i)=>if(List.drop (Int.toNat i) t.2.1).all jZ then .inr () else .inl ()
def ab.aC:ab.D→Prop:=fun _=>True
def ab.F:ab.D→ab.Y:=fun t=>DY t
noncomputable def ab.G:dZ:=fh (P:=Tryz.prog) []
noncomputable def ab.L0.E:=bP.cq ab.L0.st ab.L0.aC ab.L0.add ab.L0.F ab.L0.out
noncomputable def ab.L0.call:ab.L0.D→Option ab.L0.X:=cX ab.L0.E ab.L0.st
noncomputable def ab.L1.E:=bP.cq ab.L1.st ab.L1.aC ab.L1.add ab.L1.F ab.L1.out
noncomputable def ab.L1.call:ab.L1.D→Option ab.L1.X:=cX ab.L1.E ab.L1.st
noncomputable def ab.L2.E:=bP.cq ab.L2.st ab.L2.aC ab.L2.add ab.L2.F ab.L2.out
noncomputable def ab.L2.call:ab.L2.D→Option ab.L2.X:=cX ab.L2.E ab.L2.st
noncomputable def ab.an:eO:= {loops:=j7 [(4,{bm:=[1,3]}),(9,{bm:=[1,4]}),(14,{bm:=[1,4,5]})],outs:=j6 [(4,{bm:=[1]},{bm:=[2]}),(9,{},{bm:=[2]}),(14,{bm:=[1,4]},{bm:=[2]})],fJ:=kW [(4,ab.L0.E),(9,ab.L1.E),(14,ab.L2.E)]}
noncomputable def ab.A:= @cZ Tryz.prog ab.G ab.an 0 Tryz.f49 _ ab.st
abbrev ab.Ok:=da @ab.A ab.aC ab.add ab.F ab.out
noncomputable def ab.L0.R:= @bX Tryz.prog ab.G ab.an 0 Tryz.f49 0 _ ab.L0.st
abbrev ab.L0.Ok:=ej Tryz.prog ab.G ab.an 0 Tryz.f49 0 ab.L0.st ab.L0.aC ab.L0.add ab.L0.F ab.L0.out
noncomputable def ab.L1.R:= @bX Tryz.prog ab.G ab.an 0 Tryz.f49 1 _ ab.L1.st
abbrev ab.L1.Ok:=ej Tryz.prog ab.G ab.an 0 Tryz.f49 1 ab.L1.st ab.L1.aC ab.L1.add ab.L1.F ab.L1.out
noncomputable def ab.L2.R:= @bX Tryz.prog ab.G ab.an 0 Tryz.f49 2 _ ab.L2.st
abbrev ab.L2.Ok:=ej Tryz.prog ab.G ab.an 0 Tryz.f49 2 ab.L2.st ab.L2.aC ab.L2.add ab.L2.F ab.L2.out
theorem ab.L0.run:bK ab.L0.call ab.L0.aC ab.L0.add ab.L0.F:=eG (eC [.d gf,.d ti] fun _=>by kernel_rfl)
theorem ab.L0.aD:j5 @ab.L0.R ab.L0.st ab.L0.aC ab.L0.add ab.L0.F ab.L0.out ab.L0.Ok:=kf
theorem ab.L0.step{R:Type}(t_2:eT)(i:Int)(kn:AS→Option R)(kx:Exit→AS→Option R):ab.L0.R (t_2,i) kn kx=
  aJ ((fX i (((List.length t_2.1):Nat):Int))) (
   aJ (eJ i (((List.length t_2.1):Nat):Int)) (
   aJ ((mP (((List.length (nth fy t_2.1 (Int.toNat i)).2.1.2.1):Nat):Int) (14:Int))) (
    kx (ab.L0.bj ()).1 (ab.L0.bj ()).2) (
    kn (ab.L0.st (t_2,(bN .i64 i (1:Int)))))) none) (
   kx (ab.L0.e7 t_2).1 (ab.L0.e7 t_2).2):=by kernel_rfl
theorem ab.L1.run:bK ab.L1.call ab.L1.aC ab.L1.add ab.L1.F:=eG (eC [.d gf,.d ti] fun _=>by kernel_rfl)
theorem ab.L1.aD:j5 @ab.L1.R ab.L1.st ab.L1.aC ab.L1.add ab.L1.F ab.L1.out ab.L1.Ok:=kf
theorem ab.L1.step{R:Type}(t_3:eT)(i_2:Int)(kn:AS→Option R)(kx:Exit→AS→Option R):ab.L1.R (t_3,i_2) kn kx=
  aJ ((fX i_2 (((List.length t_3.2.1):Nat):Int))) (
   aJ (eJ i_2 (((List.length t_3.2.1):Nat):Int)) (
   aJ ((mP (((List.length (nth eN t_3.2.1 (Int.toNat i_2)).2.1.1):Nat):Int) (6:Int))) (
    kx (ab.L1.bj ()).1 (ab.L1.bj ()).2) (
    ah (ab.L2.call (t_3,i_2,(0:Int))) fun x1=>
    aJ (x1.isLeft) (
     ah (x1.getLeft?) fun a2=>
     kx (ab.L1.bj ()).1 (ab.L1.bj ()).2) (
     ah (x1.getRight?) fun b3=>
     kn (ab.L1.st (b3.1,(bN .i64 b3.2 (1:Int))))))) none) (
   kx (ab.L1.e7 ()).1 (ab.L1.e7 ()).2):=by kernel_rfl
theorem ab.L2.run:bK ab.L2.call ab.L2.aC ab.L2.add ab.L2.F:=eG (eC [.d gf,.d ti,.d ti] fun _=>by kernel_rfl)
theorem ab.L2.aD:j5 @ab.L2.R ab.L2.st ab.L2.aC ab.L2.add ab.L2.F ab.L2.out ab.L2.Ok:=kf
theorem ab.L2.step{R:Type}(t_4:eT)(i_3:Int)(kv:Int)(kn:AS→Option R)(kx:Exit→AS→Option R):ab.L2.R (t_4,i_3,kv) kn kx=
  aJ (eJ i_3 (((List.length t_4.2.1):Nat):Int)) (
  aJ ((fX kv (((List.length (nth eN t_4.2.1 (Int.toNat i_3)).2.1.1):Nat):Int))) (
   aJ (eJ i_3 (((List.length t_4.2.1):Nat):Int)) (
   aJ (eJ kv (((List.length (nth eN t_4.2.1 (Int.toNat i_3)).2.1.1):Nat):Int)) (
   aJ ((mP (((List.length (nth gG (nth eN t_4.2.1 (Int.toNat i_3)).2.1.1 (Int.toNat kv)).1):Nat):Int) (14:Int))) (
    kx (ab.L2.bj ()).1 (ab.L2.bj ()).2) (
    kn (ab.L2.st (t_4,i_3,(bN .i64 kv (1:Int)))))) none) none) (
   kx (ab.L2.e7 (t_4,i_3)).1 (ab.L2.e7 (t_4,i_3)).2)) none:=by kernel_rfl
theorem ab.eq{R:Type}(t:eT)(k:bk→Option R):ab.A t k=
  aJ ((mP (((List.length t.1):Nat):Int) (66:Int))) (
   k (ab.out false)) (
   aJ ((mP (((List.length t.2.1):Nat):Int) (66:Int))) (
    k (ab.out false)) (
    ah (ab.L0.call (t,(0:Int))) fun x1=>
    aJ (x1.isLeft) (
     ah (x1.getLeft?) fun a2=>
     k (ab.out false)) (
     ah (x1.getRight?) fun b3=>
     ah (ab.L1.call (b3,(0:Int))) fun x7=>
     aJ (x7.isLeft) (
      ah (x7.getLeft?) fun a8=>
      k (ab.out false)) (
      ah (x7.getRight?) fun b9=>
      k (ab.out true))))):=by kernel_rfl
theorem ab.L0.ok:ab.L0.Ok:=by
 refine ab.L0.aD (fun(t,i)=>t.1.length - Int.toNat i) ?_
 rintro⟨t,i⟩ ⟨hlen,k,hk,rfl⟩
 have hlen:t.1.length≤1000000000:=hlen
 have hk:k≤t.1.length:=hk
 by_cases h:k < t.1.length
 ·have n1:nth fy t.1 k=t.1[k]:=cm (t:=fy) h
  have hd:(List.drop k t.1).all lI=(lI t.1[k] && (List.drop (k+1) t.1).all lI):=by rw[List.drop_eq_getElem_cons h,List.all_cons]
  have step:∀ {R:Type} (kn:AS→Option R) (kx:Exit→AS→Option R),ab.L0.R (t,(k:Int)) kn kx=aJ (lI t.1[k]) (kn (ab.L0.st (t,((k+1:Nat):Int)))) (kx (ab.L0.bj ()).1 (ab.L0.bj ()).2):=by
   intro R kn kx
   rw[ab.L0.step,bq (by omega),bt (show(0:Int)≤(k:Int) by omega) (by omega),Int.toNat_natCast,n1]
   simp only[ag]
   rw[N.j4 (by omega)]
   unfold lI
   by_cases hs:t.1[k].2.1.2.1.length≤14
   ·rw[db (by omega),aX hs];rfl
   ·rw[dy (by omega),bz hs];rfl
  cases hp:lI t.1[k]
  ·right
   refine⟨ab.L0.bj (),?_,fun kn kx=> ?_⟩
   ·simp only[ab.L0.add,ab.L0.F,Int.toNat_natCast,hd,hp,Bool.false_and,Bool.false_eq_true,if_false]
    rfl
   ·rw[step,hp,ai]
  ·left
   refine⟨(t,((k+1:Nat):Int)),⟨hlen,k+1,by omega,rfl⟩,by simp only[Int.toNat_natCast];omega,?_,fun kn kx=> ?_⟩
   ·simp only[ab.L0.add,ab.L0.F,Int.toNat_natCast,hd,hp,Bool.true_and]
   ·rw[step,hp,ag]
 ·right
  obtain rfl:k=t.1.length:=by omega
  refine⟨ab.L0.e7 t,?_,fun kn kx=> ?_⟩
  ·simp only[ab.L0.add,ab.L0.F,Int.toNat_natCast,List.drop_length]
   rfl
  ·rw[ab.L0.step,bg (by omega),ai]
theorem ab.L2.ok:ab.L2.Ok:=by
 refine ab.L2.aD (fun(t,j,i)=>(nth eN t.2.1 (Int.toNat j)).2.1.1.length - Int.toNat i) ?_
 rintro⟨t,j,i⟩ ⟨hlen,k,hk,rfl,hj⟩
 have hlen:(nth eN t.2.1 (Int.toNat j)).2.1.1.length≤1000000000:=hlen
 have hk:k≤(nth eN t.2.1 (Int.toNat j)).2.1.1.length:=hk
 have hj:0≤j∧j < (t.2.1.length:Int):=hj
 by_cases h:k < (nth eN t.2.1 (Int.toNat j)).2.1.1.length
 ·have n1:nth gG (nth eN t.2.1 (Int.toNat j)).2.1.1 k=(nth eN t.2.1 (Int.toNat j)).2.1.1[k]:=cm (t:=gG) h
  have hd:(List.drop k (nth eN t.2.1 (Int.toNat j)).2.1.1).all lH=(lH (nth eN t.2.1 (Int.toNat j)).2.1.1[k] && (List.drop (k+1) (nth eN t.2.1 (Int.toNat j)).2.1.1).all lH):=by rw[List.drop_eq_getElem_cons h,List.all_cons]
  have step:∀ {R:Type} (kn:AS→Option R) (kx:Exit→AS→Option R),ab.L2.R (t,j,(k:Int)) kn kx=aJ (lH (nth eN t.2.1 (Int.toNat j)).2.1.1[k]) (kn (ab.L2.st (t,j,((k+1:Nat):Int)))) (kx (ab.L2.bj ()).1 (ab.L2.bj ()).2):=by
   intro R kn kx
   rw[ab.L2.step,bt hj.1 hj.2,ag,bq (by omega),bt (show(0:Int)≤(k:Int) by omega) (by omega),Int.toNat_natCast,n1]
   simp only[ag]
   rw[N.j4 (by omega)]
   unfold lH
   by_cases hs:(nth eN t.2.1 (Int.toNat j)).2.1.1[k].1.length≤14
   ·rw[db (by omega),aX hs];rfl
   ·rw[dy (by omega),bz hs];rfl
  cases hp:lH (nth eN t.2.1 (Int.toNat j)).2.1.1[k]
  ·right
   refine⟨ab.L2.bj (),?_,fun kn kx=> ?_⟩
   ·simp only[ab.L2.add,ab.L2.F,Int.toNat_natCast,hd,hp,Bool.false_and,Bool.false_eq_true,if_false]
    rfl
   ·rw[step,hp,ai]
  ·left
   refine⟨(t,j,((k+1:Nat):Int)),⟨hlen,k+1,by omega,rfl,hj⟩,by simp only[Int.toNat_natCast];omega,?_,fun kn kx=> ?_⟩
   ·simp only[ab.L2.add,ab.L2.F,Int.toNat_natCast,hd,hp,Bool.true_and]
   ·rw[step,hp,ag]
 ·right
  obtain rfl:k=(nth eN t.2.1 (Int.toNat j)).2.1.1.length:=by omega
  refine⟨ab.L2.e7 (t,j),?_,fun kn kx=> ?_⟩
  ·simp only[ab.L2.add,ab.L2.F,Int.toNat_natCast,List.drop_length]
   rfl
  ·rw[ab.L2.step,bt hj.1 hj.2,ag,bg (by omega),ai]
theorem ab.L1.ok:ab.L1.Ok:=by
 refine ab.L1.aD (fun(t,i)=>t.2.1.length - Int.toNat i) ?_
 rintro⟨t,i⟩ ⟨hlen,k,hk,rfl⟩
 have hlen:t.2.1.length≤1000000000:=hlen
 have hk:k≤t.2.1.length:=hk
 by_cases h:k < t.2.1.length
 ·have n1:nth eN t.2.1 k=t.2.1[k]:=cm (t:=eN) h
  have hd:(List.drop k t.2.1).all jZ=(jZ t.2.1[k] && (List.drop (k+1) t.2.1).all jZ):=by rw[List.drop_eq_getElem_cons h,List.all_cons]
  have step:∀ {R:Type} (kn:AS→Option R) (kx:Exit→AS→Option R),ab.L1.R (t,(k:Int)) kn kx=aJ (jZ t.2.1[k]) (kn (ab.L1.st (t,((k+1:Nat):Int)))) (kx (ab.L1.bj ()).1 (ab.L1.bj ()).2):=by
   intro R kn kx
   rw[ab.L1.step,bq (by omega),bt (show(0:Int)≤(k:Int) by omega) (by omega),Int.toNat_natCast,n1]
   simp only[ag]
   unfold jZ
   by_cases hs:t.2.1[k].2.1.1.length≤6
   ·rw[db (by omega),aX hs,ai,ab.L2.run (d:=(t,(k:Int),0)) ⟨by rw[Int.toNat_natCast,n1];show t.2.1[k].2.1.1.length≤_;omega,0,Nat.zero_le _,rfl,by show(0:Int)≤(k:Int);omega,by show(k:Int) < (t.2.1.length:Int);omega⟩]
    simp only[aa,ab.L2.add,ab.L2.F,Int.toNat_natCast,n1,Int.toNat_zero,List.drop_zero,Bool.true_and]
    cases t.2.1[k].2.1.1.all lH
    ·rfl
    ·simp only[if_true,Sum.isLeft_inr,Sum.getRight?_inr,ai,aa,ag]
     rw[N.j4 (by omega)]
   ·rw[dy (by omega),bz hs];rfl
  cases hp:jZ t.2.1[k]
  ·right
   refine⟨ab.L1.bj (),?_,fun kn kx=> ?_⟩
   ·simp only[ab.L1.add,ab.L1.F,Int.toNat_natCast,hd,hp,Bool.false_and,Bool.false_eq_true,if_false]
    rfl
   ·rw[step,hp,ai]
  ·left
   refine⟨(t,((k+1:Nat):Int)),⟨hlen,k+1,by omega,rfl⟩,by simp only[Int.toNat_natCast];omega,?_,fun kn kx=> ?_⟩
   ·simp only[ab.L1.add,ab.L1.F,Int.toNat_natCast,hd,hp,Bool.true_and]
   ·rw[step,hp,ag]
 ·right
  obtain rfl:k=t.2.1.length:=by omega
  refine⟨ab.L1.e7 (),?_,fun kn kx=> ?_⟩
  ·simp only[ab.L1.add,ab.L1.F,Int.toNat_natCast,List.drop_length]
   rfl
  ·rw[ab.L1.step,bg (by omega),ai]
theorem ab.ok:ab.Ok:=by
 intro t _
 rw[ab.eq]
 simp only[ab.add,ab.F,DY]
 by_cases h1:t.1.length≤66
 ·by_cases h2:t.2.1.length≤66
  ·rw[db (by omega),db (by omega),ai,ai,aX ⟨h1,h2⟩,ab.L0.run (d:=(t,0)) ⟨by show t.1.length≤_;omega,0,Nat.zero_le _,rfl⟩]
   simp only[aa,ab.L0.add,ab.L0.F,Int.toNat_zero,List.drop_zero,Bool.true_and]
   cases t.1.all lI
   ·rfl
   ·simp only[if_true,Sum.isLeft_inr,Sum.getRight?_inr,ai,aa,Bool.true_and]
    rw[ab.L1.run (d:=(t,0)) ⟨by show t.2.1.length≤_;omega,0,Nat.zero_le _,rfl⟩]
    simp only[aa,ab.L1.add,ab.L1.F,Int.toNat_zero,List.drop_zero]
    cases t.2.1.all jZ <;> rfl
  ·rw[db (by omega),dy (by omega),bz (fun x=>h2 x.2)];rfl
 ·rw[dy (by omega),bz (fun x=>h1 x.1)];rfl
noncomputable def ab.E:=Entry.cq [some gf] ab.st ab.aC ab.add ab.F ab.out
noncomputable def ab.call:ab.D→Option ab.X:=bT ab.E ab.st
theorem ab.run:bK ab.call ab.aC ab.add ab.F:=dh (de [.d gf] fun _=>by kernel_rfl)
noncomputable def ab.sg:SG Tryz.prog:=⟨49,aY,ab.E,.fn 3 (by kernel_rfl) ab.ok (And.intro (.cq ab.L0.ok (by kernel_rfl)) (And.intro (.cq ab.L1.ok (by kernel_rfl)) (And.intro (.cq ab.L2.ok (by kernel_rfl)) trivial)))⟩
abbrev aU.L0.D:=oY×oY×Int
def aU.L0.st:aU.L0.D→AS:=fun(a_2,b_2,i)=>⟨([.undef,.undef,.eI vV a_2,.eI vV b_2,.undef,.d ti i]++ba 39 []),[],(List.replicate 45 [])⟩
abbrev aU.L0.Y0:=Unit
abbrev aU.L0.X0:=Unit
def aU.L0.bj:aU.L0.X0→Exit×AS:=fun x=>(.ret,⟨(ba 4 ([.d .bool false]++ba 40 [])),[],(List.replicate 45 [])⟩)
abbrev aU.L0.Y1:=Unit
abbrev aU.L0.X1:=Unit
def aU.L0.e7:aU.L0.X1→Exit×AS:=fun x=>(.exit 0,⟨(ba 45 []),[],(List.replicate 45 [])⟩)
abbrev aU.L0.X:=(aU.L0.X0)⊕(aU.L0.X1)
abbrev aU.L0.Y:=(aU.L0.Y0)⊕(aU.L0.Y1)
def aU.L0.out:aU.L0.X→Out (Exit×AS):=fun x=> .br x.isLeft (.get x.getLeft? fun a=> .ok (aU.L0.bj a)) (.get x.getRight? fun b=> .ok (aU.L0.e7 b))
def aU.L0.add:aU.L0.D→aU.L0.Y→aU.L0.X:=fun(a_2,b_2,i) y=>match y with | .inl y=> .inl y | .inr z=> .inr (z)
abbrev aU.D:=oY×oY
def aU.st:aU.D→SA:=fun(a,b)=>([.d vV a,.d vV b],[])
abbrev aU.Y:=Bool
abbrev aU.X:=Bool
def aU.out:aU.X→bk:=fun x=>⟨.d .bool x,[],[]⟩
def aU.add:aU.D→aU.Y→aU.X:=fun(a,b) y=>y
def aU.L0.aC:aU.L0.D→Prop:=fun(a,b,i)=>a.2.1.length≤1000000000∧a.2.1.length=b.2.1.length∧∃k:Nat,k≤a.2.1.length∧i=k
def aU.L0.F:aU.L0.D→aU.L0.Y:=fun(a,b,i)=>if List.drop (Int.toNat i) a.2.1=List.drop (Int.toNat i) b.2.1 then .inr () else .inl ()
def aU.aC:aU.D→Prop:=fun(a,b)=>a.2.1.length≤1000000000
def aU.F:aU.D→aU.Y:=fun(a,b)=>decide (a=b)
noncomputable def aU.G:dZ:=fh (P:=Tryz.prog) []
noncomputable def aU.L0.E:=bP.cq aU.L0.st aU.L0.aC aU.L0.add aU.L0.F aU.L0.out
noncomputable def aU.L0.call:aU.L0.D→Option aU.L0.X:=cX aU.L0.E aU.L0.st
noncomputable def aU.an:eO:= {loops:=j7 [(4,{bm:=[2,3,5]})],outs:=j6 [(4,{},{bm:=[4]})],fJ:=kW [(4,aU.L0.E)]}
noncomputable def aU.A:= @cZ Tryz.prog aU.G aU.an 0 Tryz.f120 _ aU.st
abbrev aU.Ok:=da @aU.A aU.aC aU.add aU.F aU.out
noncomputable def aU.L0.R:= @bX Tryz.prog aU.G aU.an 0 Tryz.f120 0 _ aU.L0.st
abbrev aU.L0.Ok:=ej Tryz.prog aU.G aU.an 0 Tryz.f120 0 aU.L0.st aU.L0.aC aU.L0.add aU.L0.F aU.L0.out
theorem aU.L0.run:bK aU.L0.call aU.L0.aC aU.L0.add aU.L0.F:=eG (eC [.d vV,.d vV,.d ti] fun _=>by kernel_rfl)
theorem aU.L0.aD:j5 @aU.L0.R aU.L0.st aU.L0.aC aU.L0.add aU.L0.F aU.L0.out aU.L0.Ok:=kf
theorem aU.L0.step{R:Type}(a_2:oY)(b_2:oY)(i:Int)(kn:AS→Option R)(kx:Exit→AS→Option R):aU.L0.R (a_2,b_2,i) kn kx=
  aJ ((fX i (((List.length a_2.2.1):Nat):Int))) (
   aJ (eJ i (((List.length a_2.2.1):Nat):Int)) (
   aJ (eJ i (((List.length b_2.2.1):Nat):Int)) (
   aJ ((!(Ty.beq nP (nth nP a_2.2.1 (Int.toNat i)) (nth nP b_2.2.1 (Int.toNat i))))) (
    kx (aU.L0.bj ()).1 (aU.L0.bj ()).2) (
    kn (aU.L0.st (a_2,b_2,(bN .i64 i (1:Int)))))) none) none) (
   kx (aU.L0.e7 ()).1 (aU.L0.e7 ()).2):=by kernel_rfl
theorem aU.eq{R:Type}(a:oY)(b:oY)(k:bk→Option R):aU.A (a,b) k=
  aJ ((jO a.1 b.1)) (
   k (aU.out false)) (
   aJ ((jO a.2.2.1 b.2.2.1)) (
    k (aU.out false)) (
    aJ ((jO (((List.length a.2.1):Nat):Int) (((List.length b.2.1):Nat):Int))) (
     k (aU.out false)) (
     ah (aU.L0.call (a,b,(0:Int))) fun x1=>
     aJ (x1.isLeft) (
      ah (x1.getLeft?) fun a2=>
      k (aU.out false)) (
      ah (x1.getRight?) fun b3=>
      k (aU.out true))))):=by kernel_rfl
theorem aU.L0.ok:aU.L0.Ok:=by
 refine aU.L0.aD (fun(a,b,i)=>a.2.1.length - Int.toNat i) ?_
 rintro⟨a,b,i⟩ ⟨hlen,hab,k,hk,rfl⟩
 have hlen:a.2.1.length≤1000000000:=hlen
 have hab:a.2.1.length=b.2.1.length:=hab
 have hk:k≤a.2.1.length:=hk
 by_cases h:k < a.2.1.length
 ·have h2:k < b.2.1.length:=by omega
  have n1:nth nP a.2.1 k=a.2.1[k]:=cm (t:=nP) h
  have n2:nth nP b.2.1 k=b.2.1[k]:=cm (t:=nP) h2
  have hd:(List.drop k a.2.1=List.drop k b.2.1)=(a.2.1[k]=b.2.1[k]∧List.drop (k+1) a.2.1=List.drop (k+1) b.2.1):=by rw[List.drop_eq_getElem_cons h,List.drop_eq_getElem_cons h2,List.cons.injEq]
  have step:∀ {R:Type} (kn:AS→Option R) (kx:Exit→AS→Option R),aU.L0.R (a,b,(k:Int)) kn kx=if a.2.1[k]=b.2.1[k] then kn (aU.L0.st (a,b,((k+1:Nat):Int))) else kx (aU.L0.bj ()).1 (aU.L0.bj ()).2:=by
   intro R kn kx
   rw[aU.L0.step,bq (by omega),bt (by omega) (by omega),bt (by omega) (by omega),Int.toNat_natCast,n1,n2]
   simp only[ag]
   rw[FW,N.j4 (by omega)]
   by_cases hx:a.2.1[k]=b.2.1[k]
   ·rw[aX hx,if_pos hx];rfl
   ·rw[bz hx,if_neg hx];rfl
  by_cases hx:a.2.1[k]=b.2.1[k]
  ·left
   refine⟨(a,b,((k+1:Nat):Int)),⟨hlen,hab,k+1,by omega,rfl⟩,by simp only[Int.toNat_natCast];omega,?_,fun kn kx=> ?_⟩
   ·simp only[aU.L0.add,aU.L0.F,Int.toNat_natCast,hd,hx,true_and]
   ·rw[step,if_pos hx]
  ·right
   refine⟨aU.L0.bj (),?_,fun kn kx=> ?_⟩
   ·simp only[aU.L0.add,aU.L0.F,Int.toNat_natCast,hd,hx,false_and,if_false]
    rfl
   ·rw[step,if_neg hx]
 ·right
  obtain rfl:k=a.2.1.length:=by omega
  refine⟨aU.L0.e7 (),?_,fun kn kx=> ?_⟩
  ·simp only[aU.L0.add,aU.L0.F,Int.toNat_natCast,List.drop_length]
   rw[hab,List.drop_length,if_pos rfl]
   rfl
  ·rw[aU.L0.step,bg (by omega),ai]
theorem aU.ok:aU.Ok:=by
 rintro⟨⟨b1,s1,c1,u1⟩,⟨b2,s2,c2,u2⟩⟩ h
 have h:s1.length≤1000000000:=h
 rw[aU.eq]
 simp only[aU.add,aU.F]
 by_cases e1:b1=b2
 ·by_cases e2:c1=c2
  ·by_cases e3:s1.length=s2.length
   ·rw[bU e1,bU e2,bU (by omega),aU.L0.run (d:=((b1,s1,c1,u1),(b2,s2,c2,u2),0)) ⟨h,e3,0,Nat.zero_le _,rfl⟩]
    simp only[aa,aU.L0.add,aU.L0.F,Int.toNat_zero,List.drop_zero,ai]
    by_cases e4:s1=s2
    ·rw[if_pos e4,aX (by rw[e1,e2,e4])];rfl
    ·rw[if_neg e4,bz (by rintro⟨⟩;exact e4 rfl)];rfl
   ·rw[bU e1,bU e2,dO (by omega),bz (by rintro⟨⟩;exact e3 rfl)];rfl
  ·rw[bU e1,dO e2,bz (by rintro⟨⟩;exact e2 rfl)];rfl
 ·rw[dO e1,bz (by rintro⟨⟩;exact e1 rfl)];rfl
noncomputable def aU.E:=Entry.cq [some vV,some vV] aU.st aU.aC aU.add aU.F aU.out
noncomputable def aU.call:aU.D→Option aU.X:=bT aU.E aU.st
theorem aU.run:bK aU.call aU.aC aU.add aU.F:=dh (de [.d vV,.d vV] fun _=>by kernel_rfl)
noncomputable def aU.sg:SG Tryz.prog:=⟨120,aY,aU.E,.fn 1 (by kernel_rfl) aU.ok (And.intro (.cq aU.L0.ok (by kernel_rfl)) trivial)⟩
abbrev ao.L0.D:=Lk×Lk×Int
def ao.L0.st:ao.L0.D→AS:=fun(a_2,b_2,i)=>⟨([.undef,.undef,.eI o8 a_2,.eI o8 b_2,.undef,.d ti i]++ba 73 []),[],(List.replicate 79 [])⟩
abbrev ao.L0.Y0:=Unit
abbrev ao.L0.X0:=Unit
def ao.L0.bj:ao.L0.X0→Exit×AS:=fun x=>(.ret,⟨(ba 4 ([.d .bool false]++ba 74 [])),[],(List.replicate 79 [])⟩)
abbrev ao.L0.Y1:=Unit
abbrev ao.L0.X1:=Unit
def ao.L0.e7:ao.L0.X1→Exit×AS:=fun x=>(.exit 0,⟨(ba 79 []),[],(List.replicate 79 [])⟩)
abbrev ao.L0.X:=(ao.L0.X0)⊕(ao.L0.X1)
abbrev ao.L0.Y:=(ao.L0.Y0)⊕(ao.L0.Y1)
def ao.L0.out:ao.L0.X→Out (Exit×AS):=fun x=> .br x.isLeft (.get x.getLeft? fun a=> .ok (ao.L0.bj a)) (.get x.getRight? fun b=> .ok (ao.L0.e7 b))
def ao.L0.add:ao.L0.D→ao.L0.Y→ao.L0.X:=fun(a_2,b_2,i) y=>match y with | .inl y=> .inl y | .inr z=> .inr (z)
abbrev ao.L1.D:=Lk×Lk×Int×Int×iA×iA
def ao.L1.st:ao.L1.D→AS:=fun(a_3,b_3,i_2,kv,n6,n7)=>⟨([.undef,.undef,.eI o8 a_3,.eI o8 b_3,.undef,.d ti i_2,.ptr (.new 6 0) 0 [] 0,.ptr (.new 7 0) 0 [] 0,.d ti kv]++ba 70 []),[],(bE 6 ([[.obj 0 false (.d gG n6)],[.obj 0 false (.d gG n7)]]++bE 71 []))⟩
abbrev ao.L1.Y0:=Unit
abbrev ao.L1.X0:=Unit
def ao.L1.bj:ao.L1.X0→Exit×AS:=fun x=>(.ret,⟨(ba 4 ([.d .bool false]++ba 74 [])),[],(List.replicate 79 [])⟩)
abbrev ao.L1.Y1:=Unit
abbrev ao.L1.X1:=Lk×Lk×Int
def ao.L1.e7:ao.L1.X1→Exit×AS:=fun x=>(.exit 2,⟨([.undef,.undef,.eI o8 x.1,.eI o8 x.2.1,.undef,.d ti x.2.2]++ba 73 []),[],(List.replicate 79 [])⟩)
abbrev ao.L1.X:=(ao.L1.X0)⊕(ao.L1.X1)
abbrev ao.L1.Y:=(ao.L1.Y0)⊕(ao.L1.Y1)
def ao.L1.out:ao.L1.X→Out (Exit×AS):=fun x=> .br x.isLeft (.get x.getLeft? fun a=> .ok (ao.L1.bj a)) (.get x.getRight? fun b=> .ok (ao.L1.e7 b))
def ao.L1.add:ao.L1.D→ao.L1.Y→ao.L1.X:=fun(a_3,b_3,i_2,kv,n6,n7) y=>match y with | .inl y=> .inl y | .inr z=> .inr ((a_3,b_3,i_2))
abbrev ao.D:=Lk×Lk
def ao.st:ao.D→SA:=fun(a,b)=>([.d o8 a,.d o8 b],[])
abbrev ao.Y:=Bool
abbrev ao.X:=Bool
def ao.out:ao.X→bk:=fun x=>⟨.d .bool x,[],[]⟩
def ao.add:ao.D→ao.Y→ao.X:=fun(a,b) y=>y
def ao.L1.aC:ao.L1.D→Prop:=fun(a,b,j,i,x,y)=>x.1.length≤1000000000∧x.1.length=y.1.length∧∃k:Nat,k≤x.1.length∧i=k
def ao.L1.F:ao.L1.D→ao.L1.Y:=fun(a,b,j,i,x,y)=>if List.drop (Int.toNat i) x.1=List.drop (Int.toNat i) y.1 then .inr () else .inl ()
def ao.L0.aC:ao.L0.D→Prop:=fun(a,b,i)=>a.1.length≤1000000000∧a.1.length=b.1.length∧(∀x∈a.1,x.1.length≤1000000000)∧∃k:Nat,k≤a.1.length∧i=k
def ao.L0.F:ao.L0.D→ao.L0.Y:=fun(a,b,i)=>if List.drop (Int.toNat i) a.1=List.drop (Int.toNat i) b.1 then .inr () else .inl ()
def ao.aC:ao.D→Prop:=fun(a,b)=>a.1.length≤1000000000∧∀x∈a.1,x.1.length≤1000000000
def ao.F:ao.D→ao.Y:=fun(a,b)=>decide (a.1=b.1)
noncomputable def ao.G:dZ:=fh (P:=Tryz.prog) []
noncomputable def ao.L0.E:=bP.cq ao.L0.st ao.L0.aC ao.L0.add ao.L0.F ao.L0.out
noncomputable def ao.L0.call:ao.L0.D→Option ao.L0.X:=cX ao.L0.E ao.L0.st
noncomputable def ao.L1.E:=bP.cq ao.L1.st ao.L1.aC ao.L1.add ao.L1.F ao.L1.out
noncomputable def ao.L1.call:ao.L1.D→Option ao.L1.X:=cX ao.L1.E ao.L1.st
noncomputable def ao.an:eO:= {loops:=j7 [(4,{bm:=[2,3,5]}),(11,{bm:=[2,3,5,6,7,8],sites:=[6,7]})],outs:=j6 [(4,{},{bm:=[4]}),(11,{bm:=[2,3,5]},{bm:=[4]})],fJ:=kW [(4,ao.L0.E),(11,ao.L1.E)]}
noncomputable def ao.A:= @cZ Tryz.prog ao.G ao.an 0 Tryz.f121 _ ao.st
abbrev ao.Ok:=da @ao.A ao.aC ao.add ao.F ao.out
noncomputable def ao.L0.R:= @bX Tryz.prog ao.G ao.an 0 Tryz.f121 0 _ ao.L0.st
abbrev ao.L0.Ok:=ej Tryz.prog ao.G ao.an 0 Tryz.f121 0 ao.L0.st ao.L0.aC ao.L0.add ao.L0.F ao.L0.out
noncomputable def ao.L1.R:= @bX Tryz.prog ao.G ao.an 0 Tryz.f121 1 _ ao.L1.st
abbrev ao.L1.Ok:=ej Tryz.prog ao.G ao.an 0 Tryz.f121 1 ao.L1.st ao.L1.aC ao.L1.add ao.L1.F ao.L1.out
theorem ao.L0.run:bK ao.L0.call ao.L0.aC ao.L0.add ao.L0.F:=eG (eC [.d o8,.d o8,.d ti] fun _=>by kernel_rfl)
theorem ao.L0.aD:j5 @ao.L0.R ao.L0.st ao.L0.aC ao.L0.add ao.L0.F ao.L0.out ao.L0.Ok:=kf
theorem ao.L0.step{R:Type}(a_2:Lk)(b_2:Lk)(i:Int)(kn:AS→Option R)(kx:Exit→AS→Option R):ao.L0.R (a_2,b_2,i) kn kx=
  aJ ((fX i (((List.length a_2.1):Nat):Int))) (
   aJ (eJ i (((List.length a_2.1):Nat):Int)) (
   aJ (eJ i (((List.length b_2.1):Nat):Int)) (
   aJ ((jO (nth gG a_2.1 (Int.toNat i)).2.1 (nth gG b_2.1 (Int.toNat i)).2.1)) (
    kx (ao.L0.bj ()).1 (ao.L0.bj ()).2) (
    aJ ((jO (nth gG a_2.1 (Int.toNat i)).2.2.1 (nth gG b_2.1 (Int.toNat i)).2.2.1)) (
     kx (ao.L0.bj ()).1 (ao.L0.bj ()).2) (
     aJ ((jO (nth gG a_2.1 (Int.toNat i)).2.2.2.1 (nth gG b_2.1 (Int.toNat i)).2.2.2.1)) (
      kx (ao.L0.bj ()).1 (ao.L0.bj ()).2) (
      aJ ((jO (((List.length (nth gG a_2.1 (Int.toNat i)).1):Nat):Int) (((List.length (nth gG b_2.1 (Int.toNat i)).1):Nat):Int))) (
       kx (ao.L0.bj ()).1 (ao.L0.bj ()).2) (
       ah (ao.L1.call (a_2,b_2,i,(0:Int),(nth gG a_2.1 (Int.toNat i)),(nth gG b_2.1 (Int.toNat i)))) fun x1=>
       aJ (x1.isLeft) (
        ah (x1.getLeft?) fun a2=>
        kx (ao.L0.bj ()).1 (ao.L0.bj ()).2) (
        ah (x1.getRight?) fun b3=>
        kn (ao.L0.st (b3.1,b3.2.1,(bN .i64 b3.2.2 (1:Int)))))))))) none) none) (
   kx (ao.L0.e7 ()).1 (ao.L0.e7 ()).2):=by kernel_rfl
theorem ao.L1.run:bK ao.L1.call ao.L1.aC ao.L1.add ao.L1.F:=eG (eC [.d o8,.d o8,.d ti,.d ti,.d gG,.d gG] fun _=>by kernel_rfl)
theorem ao.L1.aD:j5 @ao.L1.R ao.L1.st ao.L1.aC ao.L1.add ao.L1.F ao.L1.out ao.L1.Ok:=kf
theorem ao.L1.step{R:Type}(a_3:Lk)(b_3:Lk)(i_2:Int)(kv:Int)(n6:iA)(n7:iA)(kn:AS→Option R)(kx:Exit→AS→Option R):ao.L1.R (a_3,b_3,i_2,kv,n6,n7) kn kx=
  aJ ((fX kv (((List.length n6.1):Nat):Int))) (
   aJ (eJ kv (((List.length n6.1):Nat):Int)) (
   aJ (eJ kv (((List.length n7.1):Nat):Int)) (
   aJ ((jO (nth tu n6.1 (Int.toNat kv)) (nth tu n7.1 (Int.toNat kv)))) (
    kx (ao.L1.bj ()).1 (ao.L1.bj ()).2) (
    kn (ao.L1.st (a_3,b_3,i_2,(bN .i64 kv (1:Int)),n6,n7)))) none) none) (
   kx (ao.L1.e7 (a_3,b_3,i_2)).1 (ao.L1.e7 (a_3,b_3,i_2)).2):=by kernel_rfl
theorem ao.eq{R:Type}(a:Lk)(b:Lk)(k:bk→Option R):ao.A (a,b) k=
  aJ ((jO (((List.length a.1):Nat):Int) (((List.length b.1):Nat):Int))) (
   k (ao.out false)) (
   ah (ao.L0.call (a,b,(0:Int))) fun x4=>
   aJ (x4.isLeft) (
    ah (x4.getLeft?) fun a5=>
    k (ao.out false)) (
    ah (x4.getRight?) fun b6=>
    k (ao.out true))):=by kernel_rfl
theorem ao.L1.ok:ao.L1.Ok:=by
 refine ao.L1.aD (fun(a,b,j,i,x,y)=>x.1.length - Int.toNat i) ?_
 rintro⟨a,b,j,i,x,y⟩ ⟨hlen,hab,k,hk,rfl⟩
 have hlen:x.1.length≤1000000000:=hlen
 have hab:x.1.length=y.1.length:=hab
 have hk:k≤x.1.length:=hk
 by_cases h:k < x.1.length
 ·have h2:k < y.1.length:=by omega
  have n1:nth tu x.1 k=x.1[k]:=cm (t:=tu) h
  have n2:nth tu y.1 k=y.1[k]:=cm (t:=tu) h2
  have hd:(List.drop k x.1=List.drop k y.1)=(x.1[k]=y.1[k]∧List.drop (k+1) x.1=List.drop (k+1) y.1):=by rw[List.drop_eq_getElem_cons h,List.drop_eq_getElem_cons h2,List.cons.injEq]
  have step:∀ {R:Type} (kn:AS→Option R) (kx:Exit→AS→Option R),ao.L1.R (a,b,j,(k:Int),x,y) kn kx=if x.1[k]=y.1[k] then kn (ao.L1.st (a,b,j,((k+1:Nat):Int),x,y)) else kx (ao.L1.bj ()).1 (ao.L1.bj ()).2:=by
   intro R kn kx
   rw[ao.L1.step,bq (by omega),bt (by omega) (by omega),bt (by omega) (by omega),Int.toNat_natCast,n1,n2]
   simp only[ag]
   rw[N.j4 (by omega)]
   by_cases hx:x.1[k]=y.1[k]
   ·rw[bU hx,if_pos hx];rfl
   ·rw[dO hx,if_neg hx];rfl
  by_cases hx:x.1[k]=y.1[k]
  ·left
   refine⟨(a,b,j,((k+1:Nat):Int),x,y),⟨hlen,hab,k+1,by omega,rfl⟩,by simp only[Int.toNat_natCast];omega,?_,fun kn kx=> ?_⟩
   ·simp only[ao.L1.add,ao.L1.F,Int.toNat_natCast,hd,hx,true_and]
   ·rw[step,if_pos hx]
  ·right
   refine⟨ao.L1.bj (),?_,fun kn kx=> ?_⟩
   ·simp only[ao.L1.add,ao.L1.F,Int.toNat_natCast,hd,hx,false_and,if_false]
    rfl
   ·rw[step,if_neg hx]
 ·right
  obtain rfl:k=x.1.length:=by omega
  refine⟨ao.L1.e7 (a,b,j),?_,fun kn kx=> ?_⟩
  ·simp only[ao.L1.add,ao.L1.F,Int.toNat_natCast,List.drop_length]
   rw[hab,List.drop_length,if_pos rfl]
   rfl
  ·rw[ao.L1.step,bg (by omega),ai]
theorem ao.L0.ok:ao.L0.Ok:=by
 refine ao.L0.aD (fun(a,b,i)=>a.1.length - Int.toNat i) ?_
 rintro⟨a,b,i⟩ ⟨hlen,hab,hs,k,hk,rfl⟩
 have hlen:a.1.length≤1000000000:=hlen
 have hab:a.1.length=b.1.length:=hab
 have hk:k≤a.1.length:=hk
 have hs:∀x∈a.1,x.1.length≤1000000000:=hs
 by_cases h:k < a.1.length
 ·have h2:k < b.1.length:=by omega
  have n1:nth gG a.1 k=a.1[k]:=cm (t:=gG) h
  have n2:nth gG b.1 k=b.1[k]:=cm (t:=gG) h2
  have hd:(List.drop k a.1=List.drop k b.1)=(a.1[k]=b.1[k]∧List.drop (k+1) a.1=List.drop (k+1) b.1):=by rw[List.drop_eq_getElem_cons h,List.drop_eq_getElem_cons h2,List.cons.injEq]
  have step:∀ {R:Type} (kn:AS→Option R) (kx:Exit→AS→Option R),ao.L0.R (a,b,(k:Int)) kn kx=if a.1[k]=b.1[k] then kn (ao.L0.st (a,b,((k+1:Nat):Int))) else kx (ao.L0.bj ()).1 (ao.L0.bj ()).2:=by
   intro R kn kx
   rw[ao.L0.step,bq (by omega),bt (by omega) (by omega),bt (by omega) (by omega),Int.toNat_natCast,n1,n2]
   simp only[ag]
   have hsk:=hs _ (List.getElem_mem h)
   obtain⟨⟨k1,a1,d1,s1,u1⟩,e1⟩:∃x,a.1[k]=x:=⟨_,rfl⟩
   obtain⟨⟨k2,a2,d2,s2,u2⟩,e2⟩:∃x,b.1[k]=x:=⟨_,rfl⟩
   rw[e1]at hsk ⊢
   rw[e2]
   dsimp only
   have hsk:k1.length≤1000000000:=hsk
   by_cases q2:a1=a2
   ·by_cases q3:d1=d2
    ·by_cases q4:s1=s2
     ·by_cases q1:k1.length=k2.length
      ·rw[bU q2,bU q3,bU q4,bU (by omega),ao.L1.run (d:=(a,b,(k:Int),0,(k1,a1,d1,s1,u1),(k2,a2,d2,s2,u2))) ⟨hsk,q1,0,Nat.zero_le _,rfl⟩]
       simp only[ai,aa,ao.L1.add,ao.L1.F,Int.toNat_zero,List.drop_zero]
       by_cases q5:k1=k2
       ·rw[if_pos q5,if_pos (by rw[q5,q2,q3,q4])]
        simp only[Sum.isLeft_inr,Sum.getRight?_inr,ai,aa]
        rw[N.j4 (by omega)]
       ·rw[if_neg q5,if_neg (by rintro⟨⟩;exact q5 rfl)]
        rfl
      ·rw[bU q2,bU q3,bU q4,dO (by omega),if_neg (by rintro⟨⟩;exact q1 rfl)];rfl
     ·rw[bU q2,bU q3,dO q4,if_neg (by rintro⟨⟩;exact q4 rfl)];rfl
    ·rw[bU q2,dO q3,if_neg (by rintro⟨⟩;exact q3 rfl)];rfl
   ·rw[dO q2,if_neg (by rintro⟨⟩;exact q2 rfl)];rfl
  by_cases hx:a.1[k]=b.1[k]
  ·left
   refine⟨(a,b,((k+1:Nat):Int)),⟨hlen,hab,hs,k+1,by omega,rfl⟩,by simp only[Int.toNat_natCast];omega,?_,fun kn kx=> ?_⟩
   ·simp only[ao.L0.add,ao.L0.F,Int.toNat_natCast,hd,hx,true_and]
   ·rw[step,if_pos hx]
  ·right
   refine⟨ao.L0.bj (),?_,fun kn kx=> ?_⟩
   ·simp only[ao.L0.add,ao.L0.F,Int.toNat_natCast,hd,hx,false_and,if_false]
    rfl
   ·rw[step,if_neg hx]
 ·right
  obtain rfl:k=a.1.length:=by omega
  refine⟨ao.L0.e7 (),?_,fun kn kx=> ?_⟩
  ·simp only[ao.L0.add,ao.L0.F,Int.toNat_natCast,List.drop_length]
   rw[hab,List.drop_length,if_pos rfl]
   rfl
  ·rw[ao.L0.step,bg (by omega),ai]
theorem ao.ok:ao.Ok:=by
 rintro⟨a,b⟩ ⟨h,hs⟩
 have h:a.1.length≤1000000000:=h
 rw[ao.eq]
 simp only[ao.add,ao.F]
 by_cases e3:a.1.length=b.1.length
 ·rw[bU (by omega),ao.L0.run (d:=(a,b,0)) ⟨h,e3,hs,0,Nat.zero_le _,rfl⟩]
  simp only[aa,ao.L0.add,ao.L0.F,Int.toNat_zero,List.drop_zero,ai]
  by_cases e4:a.1=b.1
  ·rw[if_pos e4,aX e4];rfl
  ·rw[if_neg e4,bz e4];rfl
 ·rw[dO (by omega),bz (fun x=>e3 (by rw[x]))];rfl
noncomputable def ao.E:=Entry.cq [some o8,some o8] ao.st ao.aC ao.add ao.F ao.out
noncomputable def ao.call:ao.D→Option ao.X:=bT ao.E ao.st
theorem ao.run:bK ao.call ao.aC ao.add ao.F:=dh (de [.d o8,.d o8] fun _=>by kernel_rfl)
noncomputable def ao.sg:SG Tryz.prog:=⟨121,aY,ao.E,.fn 2 (by kernel_rfl) ao.ok (And.intro (.cq ao.L0.ok (by kernel_rfl)) (And.intro (.cq ao.L1.ok (by kernel_rfl)) trivial))⟩
abbrev au.L0.D:=eT×eT×Int
def au.L0.st:au.L0.D→AS:=fun(a_2,b_2,i)=>⟨([.undef,.undef,.eI gf a_2,.eI gf b_2,.undef,.d ti i]++ba 96 []),[],(List.replicate 102 [])⟩
abbrev au.L0.Y0:=Unit
abbrev au.L0.X0:=Unit
def au.L0.bj:au.L0.X0→Exit×AS:=fun x=>(.ret,⟨(ba 4 ([.d .bool false]++ba 97 [])),[],(List.replicate 102 [])⟩)
abbrev au.L0.Y1:=Unit
abbrev au.L0.X1:=eT×eT
def au.L0.e7:au.L0.X1→Exit×AS:=fun x=>(.exit 0,⟨([.undef,.undef,.eI gf x.1,.eI gf x.2]++ba 98 []),[],(List.replicate 102 [])⟩)
abbrev au.L0.X:=(au.L0.X0)⊕(au.L0.X1)
abbrev au.L0.Y:=(au.L0.Y0)⊕(au.L0.Y1)
def au.L0.out:au.L0.X→Out (Exit×AS):=fun x=> .br x.isLeft (.get x.getLeft? fun a=> .ok (au.L0.bj a)) (.get x.getRight? fun b=> .ok (au.L0.e7 b))
def au.L0.add:au.L0.D→au.L0.Y→au.L0.X:=fun(a_2,b_2,i) y=>match y with | .inl y=> .inl y | .inr z=> .inr ((a_2,b_2))
abbrev au.L1.D:=eT×eT×Int
def au.L1.st:au.L1.D→AS:=fun(a_3,b_3,i_2)=>⟨([.undef,.undef,.eI gf a_3,.eI gf b_3,.undef,.undef,.d ti i_2]++ba 95 []),[],(List.replicate 102 [])⟩
abbrev au.L1.Y0:=Unit
abbrev au.L1.X0:=Unit
def au.L1.bj:au.L1.X0→Exit×AS:=fun x=>(.ret,⟨(ba 4 ([.d .bool false]++ba 97 [])),[],(List.replicate 102 [])⟩)
abbrev au.L1.Y1:=Unit
abbrev au.L1.X1:=Unit
def au.L1.e7:au.L1.X1→Exit×AS:=fun x=>(.exit 2,⟨(ba 102 []),[],(List.replicate 102 [])⟩)
abbrev au.L1.X:=(au.L1.X0)⊕(au.L1.X1)
abbrev au.L1.Y:=(au.L1.Y0)⊕(au.L1.Y1)
def au.L1.out:au.L1.X→Out (Exit×AS):=fun x=> .br x.isLeft (.get x.getLeft? fun a=> .ok (au.L1.bj a)) (.get x.getRight? fun b=> .ok (au.L1.e7 b))
def au.L1.add:au.L1.D→au.L1.Y→au.L1.X:=fun(a_3,b_3,i_2) y=>match y with | .inl y=> .inl y | .inr z=> .inr (z)
abbrev au.D:=eT×eT
def au.st:au.D→SA:=fun(a,b)=>([.d gf a,.d gf b],[])
abbrev au.Y:=Bool
abbrev au.X:=Bool
def au.out:au.X→bk:=fun x=>⟨.d .bool x,[],[]⟩
def au.add:au.D→au.Y→au.X:=fun(a,b) y=>y
def au.L0.aC:au.L0.D→Prop:=fun(a,b,i)=>a.1.length≤1000000000∧a.1.length=b.1.length∧(∀x∈a.1,x.2.1.2.1.length≤1000000000)∧∃k:Nat,k≤a.1.length∧i=k
def au.L0.F:au.L0.D→au.L0.Y:=fun(a,b,i)=>if List.drop (Int.toNat i) a.1=List.drop (Int.toNat i) b.1 then .inr () else .inl ()
def au.L1.aC:au.L1.D→Prop:=fun(a,b,i)=>a.2.1.length≤1000000000∧a.2.1.length=b.2.1.length∧(∀x∈a.2.1,x.2.1.1.length≤1000000000∧∀b∈x.2.1.1,b.1.length≤1000000000)∧∃k:Nat,k≤a.2.1.length∧i=k
def au.L1.F:au.L1.D→au.L1.Y:=fun(a,b,i)=>if List.drop (Int.toNat i) a.2.1=List.drop (Int.toNat i) b.2.1 then .inr () else .inl ()
def au.aC:au.D→Prop:=fun(a,b)=>Cq a
def au.F:au.D→au.Y:=fun(a,b)=>decide (a=b)
noncomputable def au.G:dZ:=fh (P:=Tryz.prog) [aU.sg,ao.sg]
noncomputable def au.L0.E:=bP.cq au.L0.st au.L0.aC au.L0.add au.L0.F au.L0.out
noncomputable def au.L0.call:au.L0.D→Option au.L0.X:=cX au.L0.E au.L0.st
noncomputable def au.L1.E:=bP.cq au.L1.st au.L1.aC au.L1.add au.L1.F au.L1.out
noncomputable def au.L1.call:au.L1.D→Option au.L1.X:=cX au.L1.E au.L1.st
noncomputable def au.an:eO:= {loops:=j7 [(4,{bm:=[2,3,5]}),(9,{bm:=[2,3,6]})],outs:=j6 [(4,{bm:=[2,3]},{bm:=[4]}),(9,{},{bm:=[4]})],fJ:=kW [(4,au.L0.E),(9,au.L1.E)]}
noncomputable def au.A:= @cZ Tryz.prog au.G au.an 0 Tryz.f54 _ au.st
abbrev au.Ok:=da @au.A au.aC au.add au.F au.out
noncomputable def au.L0.R:= @bX Tryz.prog au.G au.an 0 Tryz.f54 0 _ au.L0.st
abbrev au.L0.Ok:=ej Tryz.prog au.G au.an 0 Tryz.f54 0 au.L0.st au.L0.aC au.L0.add au.L0.F au.L0.out
noncomputable def au.L1.R:= @bX Tryz.prog au.G au.an 0 Tryz.f54 1 _ au.L1.st
abbrev au.L1.Ok:=ej Tryz.prog au.G au.an 0 Tryz.f54 1 au.L1.st au.L1.aC au.L1.add au.L1.F au.L1.out
theorem au.L0.run:bK au.L0.call au.L0.aC au.L0.add au.L0.F:=eG (eC [.d gf,.d gf,.d ti] fun _=>by kernel_rfl)
theorem au.L0.aD:j5 @au.L0.R au.L0.st au.L0.aC au.L0.add au.L0.F au.L0.out au.L0.Ok:=kf
theorem au.L0.step{R:Type}(a_2:eT)(b_2:eT)(i:Int)(kn:AS→Option R)(kx:Exit→AS→Option R):au.L0.R (a_2,b_2,i) kn kx=
  aJ ((fX i (((List.length a_2.1):Nat):Int))) (
   aJ (eJ i (((List.length a_2.1):Nat):Int)) (
   aJ (eJ i (((List.length b_2.1):Nat):Int)) (
   aJ ((!(Ty.beq cj (nth fy a_2.1 (Int.toNat i)).1 (nth fy b_2.1 (Int.toNat i)).1))) (
    kx (au.L0.bj ()).1 (au.L0.bj ()).2) (
    aJ (eJ i (((List.length a_2.1):Nat):Int)) (
    aJ (eJ i (((List.length b_2.1):Nat):Int)) (
    ah (aU.call ((nth fy a_2.1 (Int.toNat i)).2.1,(nth fy b_2.1 (Int.toNat i)).2.1)) fun x1=>
    aJ ((!x1)) (
     kx (au.L0.bj ()).1 (au.L0.bj ()).2) (
     kn (au.L0.st (a_2,b_2,(bN .i64 i (1:Int)))))) none) none)) none) none) (
   kx (au.L0.e7 (a_2,b_2)).1 (au.L0.e7 (a_2,b_2)).2):=by kernel_rfl
theorem au.L1.run:bK au.L1.call au.L1.aC au.L1.add au.L1.F:=eG (eC [.d gf,.d gf,.d ti] fun _=>by kernel_rfl)
theorem au.L1.aD:j5 @au.L1.R au.L1.st au.L1.aC au.L1.add au.L1.F au.L1.out au.L1.Ok:=kf
theorem au.L1.step{R:Type}(a_3:eT)(b_3:eT)(i_2:Int)(kn:AS→Option R)(kx:Exit→AS→Option R):au.L1.R (a_3,b_3,i_2) kn kx=
  aJ ((fX i_2 (((List.length a_3.2.1):Nat):Int))) (
   aJ (eJ i_2 (((List.length a_3.2.1):Nat):Int)) (
   aJ (eJ i_2 (((List.length b_3.2.1):Nat):Int)) (
   aJ ((jO (nth eN a_3.2.1 (Int.toNat i_2)).1 (nth eN b_3.2.1 (Int.toNat i_2)).1)) (
    kx (au.L1.bj ()).1 (au.L1.bj ()).2) (
    aJ (eJ i_2 (((List.length a_3.2.1):Nat):Int)) (
    aJ (eJ i_2 (((List.length b_3.2.1):Nat):Int)) (
    ah (ao.call ((nth eN a_3.2.1 (Int.toNat i_2)).2.1,(nth eN b_3.2.1 (Int.toNat i_2)).2.1)) fun x1=>
    aJ ((!x1)) (
     kx (au.L1.bj ()).1 (au.L1.bj ()).2) (
     kn (au.L1.st (a_3,b_3,(bN .i64 i_2 (1:Int)))))) none) none)) none) none) (
   kx (au.L1.e7 ()).1 (au.L1.e7 ()).2):=by kernel_rfl
theorem au.eq{R:Type}(a:eT)(b:eT)(k:bk→Option R):au.A (a,b) k=
  aJ ((jO a.2.2.1 b.2.2.1)) (
   k (au.out false)) (
   aJ ((jO (((List.length a.1):Nat):Int) (((List.length b.1):Nat):Int))) (
    k (au.out false)) (
    aJ ((jO (((List.length a.2.1):Nat):Int) (((List.length b.2.1):Nat):Int))) (
     k (au.out false)) (
     ah (au.L0.call (a,b,(0:Int))) fun x2=>
     aJ (x2.isLeft) (
      ah (x2.getLeft?) fun a3=>
      k (au.out false)) (
      ah (x2.getRight?) fun b4=>
      ah (au.L1.call (b4.1,b4.2,(0:Int))) fun x6=>
      aJ (x6.isLeft) (
       ah (x6.getLeft?) fun a7=>
       k (au.out false)) (
       ah (x6.getRight?) fun b8=>
       k (au.out true)))))):=by kernel_rfl
theorem au.L0.ok:au.L0.Ok:=by
 refine au.L0.aD (fun(a,b,i)=>a.1.length - Int.toNat i) ?_
 rintro⟨a,b,i⟩ ⟨hlen,hab,hs,k,hk,rfl⟩
 have hlen:a.1.length≤1000000000:=hlen
 have hab:a.1.length=b.1.length:=hab
 have hk:k≤a.1.length:=hk
 have hs:∀x∈a.1,x.2.1.2.1.length≤1000000000:=hs
 by_cases h:k < a.1.length
 ·have h2:k < b.1.length:=by omega
  have n1:nth fy a.1 k=a.1[k]:=cm (t:=fy) h
  have n2:nth fy b.1 k=b.1[k]:=cm (t:=fy) h2
  have hd:(List.drop k a.1=List.drop k b.1)=(a.1[k]=b.1[k]∧List.drop (k+1) a.1=List.drop (k+1) b.1):=by rw[List.drop_eq_getElem_cons h,List.drop_eq_getElem_cons h2,List.cons.injEq]
  have step:∀ {R:Type} (kn:AS→Option R) (kx:Exit→AS→Option R),au.L0.R (a,b,(k:Int)) kn kx=if a.1[k]=b.1[k] then kn (au.L0.st (a,b,((k+1:Nat):Int))) else kx (au.L0.bj ()).1 (au.L0.bj ()).2:=by
   intro R kn kx
   rw[au.L0.step,bq (by omega),bt (by omega) (by omega),bt (by omega) (by omega),Int.toNat_natCast,n1,n2]
   simp only[ag]
   have e:=hs _ (List.getElem_mem h)
   rw[FV,N.j4 (by omega),aU.run (d:=(a.1[k].2.1,b.1[k].2.1)) e]
   simp only[aa,aU.add,aU.F]
   obtain⟨⟨f1,w1,u1⟩,e1⟩:∃x,a.1[k]=x:=⟨_,rfl⟩
   obtain⟨⟨f2,w2,u2⟩,e2⟩:∃x,b.1[k]=x:=⟨_,rfl⟩
   rw[e1,e2]
   by_cases q1:f1=f2
   ·by_cases q2:w1=w2
    ·rw[aX q1,aX q2,if_pos (by rw[q1,q2])];rfl
    ·rw[aX q1,bz q2,if_neg (by rintro⟨⟩;exact q2 rfl)];rfl
   ·rw[bz q1,if_neg (by rintro⟨⟩;exact q1 rfl)];rfl
  by_cases hx:a.1[k]=b.1[k]
  ·left
   refine⟨(a,b,((k+1:Nat):Int)),⟨hlen,hab,hs,k+1,by omega,rfl⟩,by simp only[Int.toNat_natCast];omega,?_,fun kn kx=> ?_⟩
   ·simp only[au.L0.add,au.L0.F,Int.toNat_natCast,hd,hx,true_and]
   ·rw[step,if_pos hx]
  ·right
   refine⟨au.L0.bj (),?_,fun kn kx=> ?_⟩
   ·simp only[au.L0.add,au.L0.F,Int.toNat_natCast,hd,hx,false_and,if_false]
    rfl
   ·rw[step,if_neg hx]
 ·right
  obtain rfl:k=a.1.length:=by omega
  refine⟨au.L0.e7 (a,b),?_,fun kn kx=> ?_⟩
  ·simp only[au.L0.add,au.L0.F,Int.toNat_natCast,List.drop_length]
   rw[hab,List.drop_length,if_pos rfl]
   rfl
  ·rw[au.L0.step,bg (by omega),ai]
theorem au.L1.ok:au.L1.Ok:=by
 refine au.L1.aD (fun(a,b,i)=>a.2.1.length - Int.toNat i) ?_
 rintro⟨a,b,i⟩ ⟨hlen,hab,hs,k,hk,rfl⟩
 have hlen:a.2.1.length≤1000000000:=hlen
 have hab:a.2.1.length=b.2.1.length:=hab
 have hk:k≤a.2.1.length:=hk
 have hs:∀x∈a.2.1,x.2.1.1.length≤1000000000∧∀b∈x.2.1.1,b.1.length≤1000000000:=hs
 by_cases h:k < a.2.1.length
 ·have h2:k < b.2.1.length:=by omega
  have n1:nth eN a.2.1 k=a.2.1[k]:=cm (t:=eN) h
  have n2:nth eN b.2.1 k=b.2.1[k]:=cm (t:=eN) h2
  have hd:(List.drop k a.2.1=List.drop k b.2.1)=(a.2.1[k]=b.2.1[k]∧List.drop (k+1) a.2.1=List.drop (k+1) b.2.1):=by rw[List.drop_eq_getElem_cons h,List.drop_eq_getElem_cons h2,List.cons.injEq]
  have step:∀ {R:Type} (kn:AS→Option R) (kx:Exit→AS→Option R),au.L1.R (a,b,(k:Int)) kn kx=if a.2.1[k]=b.2.1[k] then kn (au.L1.st (a,b,((k+1:Nat):Int))) else kx (au.L1.bj ()).1 (au.L1.bj ()).2:=by
   intro R kn kx
   rw[au.L1.step,bq (by omega),bt (by omega) (by omega),bt (by omega) (by omega),Int.toNat_natCast,n1,n2]
   simp only[ag]
   have e:=hs _ (List.getElem_mem h)
   rw[N.j4 (by omega),ao.run (d:=(a.2.1[k].2.1,b.2.1[k].2.1)) e]
   simp only[aa,ao.add,ao.F]
   obtain⟨⟨n1,⟨l1,v1⟩,u1⟩,e1⟩:∃x,a.2.1[k]=x:=⟨_,rfl⟩
   obtain⟨⟨n2,⟨l2,v2⟩,u2⟩,e2⟩:∃x,b.2.1[k]=x:=⟨_,rfl⟩
   rw[e1,e2]
   by_cases q1:n1=n2
   ·by_cases q2:l1=l2
    ·rw[bU q1,aX q2,if_pos (by rw[q1,q2])];rfl
    ·rw[bU q1,bz q2,if_neg (by rintro⟨⟩;exact q2 rfl)];rfl
   ·rw[dO q1,if_neg (by rintro⟨⟩;exact q1 rfl)];rfl
  by_cases hx:a.2.1[k]=b.2.1[k]
  ·left
   refine⟨(a,b,((k+1:Nat):Int)),⟨hlen,hab,hs,k+1,by omega,rfl⟩,by simp only[Int.toNat_natCast];omega,?_,fun kn kx=> ?_⟩
   ·simp only[au.L1.add,au.L1.F,Int.toNat_natCast,hd,hx,true_and]
   ·rw[step,if_pos hx]
  ·right
   refine⟨au.L1.bj (),?_,fun kn kx=> ?_⟩
   ·simp only[au.L1.add,au.L1.F,Int.toNat_natCast,hd,hx,false_and,if_false]
    rfl
   ·rw[step,if_neg hx]
 ·right
  obtain rfl:k=a.2.1.length:=by omega
  refine⟨au.L1.e7 (),?_,fun kn kx=> ?_⟩
  ·simp only[au.L1.add,au.L1.F,Int.toNat_natCast,List.drop_length]
   rw[hab,List.drop_length,if_pos rfl]
   rfl
  ·rw[au.L1.step,bg (by omega),ai]
theorem au.ok:au.Ok:=by
 rintro⟨⟨i1,o1,n1,u1⟩,⟨i2,o2,n2,u2⟩⟩ h
 have h:Cq (i1,o1,n1,u1):=h
 have hi:i1.length≤1000000000:=h.1.1
 have ho:o1.length≤1000000000:=h.2.1
 rw[au.eq]
 simp only[au.add,au.F]
 by_cases e1:n1=n2
 ·by_cases e2:i1.length=i2.length
  ·by_cases e3:o1.length=o2.length
   ·rw[bU e1,bU (by omega),bU (by omega),au.L0.run (d:=((i1,o1,n1,u1),(i2,o2,n2,u2),0)) ⟨hi,e2,h.1.2,0,Nat.zero_le _,rfl⟩]
    simp only[aa,au.L0.add,au.L0.F,Int.toNat_zero,List.drop_zero,ai]
    by_cases e4:i1=i2
    ·rw[if_pos e4]
     simp only[Sum.isLeft_inr,Sum.getRight?_inr,ai,aa]
     rw[au.L1.run (d:=((i1,o1,n1,u1),(i2,o2,n2,u2),0)) ⟨ho,e3,h.2.2,0,Nat.zero_le _,rfl⟩]
     simp only[aa,au.L1.add,au.L1.F,Int.toNat_zero,List.drop_zero]
     by_cases e5:o1=o2
     ·rw[if_pos e5,aX (by rw[e1,e4,e5])];rfl
     ·rw[if_neg e5,bz (by rintro⟨⟩;exact e5 rfl)];rfl
    ·rw[if_neg e4,bz (by rintro⟨⟩;exact e4 rfl)];rfl
   ·rw[bU e1,bU (by omega),dO (by omega),bz (by rintro⟨⟩;exact e3 rfl)];rfl
  ·rw[bU e1,dO (by omega),bz (by rintro⟨⟩;exact e2 rfl)];rfl
 ·rw[dO e1,bz (by rintro⟨⟩;exact e1 rfl)];rfl
noncomputable def au.E:=Entry.cq [some gf,some gf] au.st au.aC au.add au.F au.out
noncomputable def au.call:au.D→Option au.X:=bT au.E au.st
theorem au.run:bK au.call au.aC au.add au.F:=dh (de [.d gf,.d gf] fun _=>by kernel_rfl)
noncomputable def au.sg:SG Tryz.prog:=⟨54,aY,au.E,.fn 2 (by kernel_rfl) au.ok (And.intro (.cq au.L0.ok (by kernel_rfl)) (And.intro (.cq au.L1.ok (by kernel_rfl)) trivial))⟩
set_option synthInstance.maxSize 5000
abbrev aj.L0.D:=eT×Int×(Int×Unit)×Nat×(Int×Unit)×(List fZ)
def aj.L0.st:aj.L0.D→AS:=fun(t_2,i,n2,n3L,n3,n36)=>⟨([.undef,.eI gf t_2,.ptr (.new 2 0) 0 [] 0,.ptr (.new 3 0) 0 [] 0,.d ti i]++ba 89 []),[],([[],[],[.obj 0 false (.pr (.cY) (.pr (.cY) (.d (.pair ti .unit) n2)))],[.obj 0 false (.pr (.bI (.new 36 0) 0 [] 0 0 n3L) (.pr (.cY) (.d (.pair ti .unit) n3)))]]++bE 32 ([[.obj 0 false (.vec 52 fy n36)]]++bE 57 []))⟩
abbrev aj.L0.Y0:=Nat×(List fZ)
abbrev aj.L0.X0:=(eT×(Int×Unit)×(Int×Unit))×(Nat×(List fZ))
def aj.L0.bj:aj.L0.X0→Exit×AS:=fun x=>(.exit 0,⟨([.undef,.eI gf x.1.1,.ptr (.new 2 0) 0 [] 0,.ptr (.new 3 0) 0 [] 0]++ba 90 []),[],([[],[],[.obj 0 false (.pr (.cY) (.pr (.cY) (.d (.pair ti .unit) x.1.2.1)))],[.obj 0 false (.pr (.bI (.new 36 0) 0 [] 0 0 x.2.1) (.pr (.cY) (.d (.pair ti .unit) x.1.2.2)))]]++bE 32 ([[.obj 0 false (.vec 52 fy x.2.2)]]++bE 57 []))⟩)
abbrev aj.L0.X:=aj.L0.X0
abbrev aj.L0.Y:=aj.L0.Y0
def aj.L0.out:aj.L0.X→Out (Exit×AS):=fun x=> .ok (aj.L0.bj x)
def aj.L0.add:aj.L0.D→aj.L0.Y→aj.L0.X:=fun(t_2,i,n2,n3L,n3,n36) y=>((t_2,n2,n3),y)
abbrev aj.L1.D:=eT×Int×(Int×Unit)×Nat×Nat×(Int×Unit)×(List fZ)×(List fu)
def aj.L1.st:aj.L1.D→AS:=fun(t_3,i_2,n2_2,n3L_2,n3L_3,n3_2,n36_2,n91)=>⟨([.undef,.eI gf t_3,.ptr (.new 2 0) 0 [] 0,.ptr (.new 3 0) 0 [] 0,.undef,.undef,.d ti i_2]++ba 87 []),[],([[],[],[.obj 0 false (.pr (.cY) (.pr (.cY) (.d (.pair ti .unit) n2_2)))],[.obj 0 false (.pr (.bI (.new 36 0) 0 [] 0 0 n3L_2) (.pr (.bI (.new 91 0) 0 [] 0 0 n3L_3) (.d (.pair ti .unit) n3_2)))]]++bE 32 ([[.obj 0 false (.vec 52 fy n36_2)]]++bE 54 [[.obj 0 false (.vec 36 eN n91)],[],[]]))⟩
abbrev aj.L1.Y0:=(Int×Unit)×Nat×Nat×(Int×Unit)×(List fZ)×(List fu)
abbrev aj.L1.X0:=(Int×Unit)×Nat×Nat×(Int×Unit)×(List fZ)×(List fu)
def aj.L1.bj:aj.L1.X0→Exit×AS:=fun x=>(.exit 2,⟨([.undef,.undef,.ptr (.new 2 0) 0 [] 0,.ptr (.new 3 0) 0 [] 0]++ba 90 []),[],([[],[],[.obj 0 false (.pr (.cY) (.pr (.cY) (.d (.pair ti .unit) x.1)))],[.obj 0 false (.pr (.bI (.new 36 0) 0 [] 0 0 x.2.1) (.pr (.bI (.new 91 0) 0 [] 0 0 x.2.2.1) (.d (.pair ti .unit) x.2.2.2.1)))]]++bE 32 ([[.obj 0 false (.vec 52 fy x.2.2.2.2.1)]]++bE 54 [[.obj 0 false (.vec 36 eN x.2.2.2.2.2)],[],[]]))⟩)
abbrev aj.L1.X:=aj.L1.X0
abbrev aj.L1.Y:=aj.L1.Y0
def aj.L1.out:aj.L1.X→Out (Exit×AS):=fun x=> .ok (aj.L1.bj x)
def aj.L1.add:aj.L1.D→aj.L1.Y→aj.L1.X:=fun(t_3,i_2,n2_2,n3L_2,n3L_3,n3_2,n36_2,n91) y=>y
abbrev aj.L2.D:=eT×Int×Int×(Int×Unit)×Nat×Nat×(Int×Unit)×Int×Nat×(List fZ)×(List iA)×(List fu)
def aj.L2.st:aj.L2.D→AS:=fun(t_4,i_3,kv,n2_3,n3L_4,n3L_5,n3_3,n7,n7L,n36_3,n84,n91_2)=>⟨([.undef,.eI gf t_4,.ptr (.new 2 0) 0 [] 0,.ptr (.new 3 0) 0 [] 0,.undef,.undef,.d ti i_3,.ptr (.new 7 0) 0 [] 0,.d ti kv]++ba 85 []),[],([[],[],[.obj 0 false (.pr (.cY) (.pr (.cY) (.d (.pair ti .unit) n2_3)))],[.obj 0 false (.pr (.bI (.new 36 0) 0 [] 0 0 n3L_4) (.pr (.bI (.new 91 0) 0 [] 0 0 n3L_5) (.d (.pair ti .unit) n3_3)))],[],[],[],[.obj 0 false (.pr (.d ti n7) (.pr (.pr (.bI (.new 84 0) 0 [] 0 0 n7L) (.d .unit ())) (.d .unit ())))]]++bE 28 ([[.obj 0 false (.vec 52 fy n36_3)]]++bE 47 ([[.obj 0 false (.vec 29 gG n84)]]++bE 6 [[.obj 0 false (.vec 36 eN n91_2)],[],[]])))⟩
abbrev aj.L2.Y0:=Nat×(List iA)
abbrev aj.L2.X0:=(eT×Int×(Int×Unit)×Nat×Nat×(Int×Unit)×Int×(List fZ)×(List fu))×(Nat×(List iA))
def aj.L2.bj:aj.L2.X0→Exit×AS:=fun x=>(.exit 4,⟨([.undef,.eI gf x.1.1,.ptr (.new 2 0) 0 [] 0,.ptr (.new 3 0) 0 [] 0,.undef,.undef,.d ti x.1.2.1,.ptr (.new 7 0) 0 [] 0]++ba 86 []),[],([[],[],[.obj 0 false (.pr (.cY) (.pr (.cY) (.d (.pair ti .unit) x.1.2.2.1)))],[.obj 0 false (.pr (.bI (.new 36 0) 0 [] 0 0 x.1.2.2.2.1) (.pr (.bI (.new 91 0) 0 [] 0 0 x.1.2.2.2.2.1) (.d (.pair ti .unit) x.1.2.2.2.2.2.1)))],[],[],[],[.obj 0 false (.pr (.d ti x.1.2.2.2.2.2.2.1) (.pr (.pr (.bI (.new 84 0) 0 [] 0 0 x.2.1) (.d .unit ())) (.d .unit ())))]]++bE 28 ([[.obj 0 false (.vec 52 fy x.1.2.2.2.2.2.2.2.1)]]++bE 47 ([[.obj 0 false (.vec 29 gG x.2.2)]]++bE 6 [[.obj 0 false (.vec 36 eN x.1.2.2.2.2.2.2.2.2)],[],[]])))⟩)
abbrev aj.L2.X:=aj.L2.X0
abbrev aj.L2.Y:=aj.L2.Y0
def aj.L2.out:aj.L2.X→Out (Exit×AS):=fun x=> .ok (aj.L2.bj x)
def aj.L2.add:aj.L2.D→aj.L2.Y→aj.L2.X:=fun(t_4,i_3,kv,n2_3,n3L_4,n3L_5,n3_3,n7,n7L,n36_3,n84,n91_2) y=>((t_4,i_3,n2_3,n3L_4,n3L_5,n3_3,n7,n36_3,n91_2),y)
abbrev aj.D:=eT
def aj.st:aj.D→SA:=fun t=>([.d gf t],[])
abbrev aj.Y:=Nat×Nat×(Int×Unit)×(List fZ)×(List fu)
abbrev aj.X:=Nat×Nat×(Int×Unit)×(List fZ)×(List fu)
def aj.out:aj.X→bk:=fun x=>⟨.pr (.bI (.new 0 0) 0 [] 0 0 x.1) (.pr (.bI (.new 0 1) 0 [] 0 0 x.2.1) (.d (.pair ti .unit) x.2.2.1)),[],[.obj 0 false (.vec 52 fy x.2.2.2.1),.obj 0 false (.vec 36 eN x.2.2.2.2)]⟩
def aj.add:aj.D→aj.Y→aj.X:=fun t y=>y
def aj.L0.aC:aj.L0.D→Prop:=fun(t,i,u,L,v,r)=>(t.1).length≤1000000∧∃k:Nat,k≤(t.1).length∧i=k∧L=(r).length∧(r).length≤1000000+k∧(∀x∈t.1,x.2.1.2.1.length≤1000000)
def aj.L0.F:aj.L0.D→aj.L0.Y:=fun(t,i,u,L,v,r)=>(L+(List.drop (Int.toNat i) t.1).length,r++(List.drop (Int.toNat i) t.1).map (fun x:fZ=>x))
def aj.L2.aC:aj.L2.D→Prop:=fun(t,j,i,u,L4,L5,v,am,L,is,r,os)=>((nth eN t.2.1 (Int.toNat j)).2.1.1).length≤1000000∧∃k:Nat,k≤((nth eN t.2.1 (Int.toNat j)).2.1.1).length∧i=k∧L=(r).length∧(r).length≤1000000+k∧(0≤j∧j < (t.2.1.length:Int))∧(∀x∈(nth eN t.2.1 (Int.toNat j)).2.1.1,x.1.length≤1000000)
def aj.L2.F:aj.L2.D→aj.L2.Y:=fun(t,j,i,u,L4,L5,v,am,L,is,r,os)=>(L+(List.drop (Int.toNat i) (nth eN t.2.1 (Int.toNat j)).2.1.1).length,r++(List.drop (Int.toNat i) (nth eN t.2.1 (Int.toNat j)).2.1.1).map (fun x:iA=>x))
def aj.L1.aC:aj.L1.D→Prop:=fun(t,i,u,L3,L,v,is,r)=>(t.2.1.length≤1000∧∀x∈t.2.1,x.2.1.1.length≤1000∧∀b∈x.2.1.1,b.1.length≤1000000)∧∃k:Nat,k≤t.2.1.length∧i=k∧L=r.length∧r.length=k
def aj.L1.F:aj.L1.D→aj.L1.Y:=fun(t,i,u,L3,L,v,is,r)=>(u,L3,L+(t.2.1.drop i.toNat).length,v,is,r++t.2.1.drop i.toNat)
def Hb(t:eT):Prop:=(t.1.length≤1000∧∀x∈t.1,x.2.1.2.1.length≤1000000)∧t.2.1.length≤1000∧∀x∈t.2.1,x.2.1.1.length≤1000∧∀b∈x.2.1.1,b.1.length≤1000000
def aj.aC:aj.D→Prop:=fun t=>Hb t
def aj.F:aj.D→aj.Y:=fun t=>(t.1.length,t.2.1.length,(t.2.2.1,()),t.1,t.2.1)
noncomputable def aj.G:dZ:=fh (P:=Tryz.prog) []
noncomputable def aj.L0.E:=bP.cq aj.L0.st aj.L0.aC aj.L0.add aj.L0.F aj.L0.out
noncomputable def aj.L0.call:aj.L0.D→Option aj.L0.X:=cX aj.L0.E aj.L0.st
noncomputable def aj.L1.E:=bP.cq aj.L1.st aj.L1.aC aj.L1.add aj.L1.F aj.L1.out
noncomputable def aj.L1.call:aj.L1.D→Option aj.L1.X:=cX aj.L1.E aj.L1.st
noncomputable def aj.L2.E:=bP.cq aj.L2.st aj.L2.aC aj.L2.add aj.L2.F aj.L2.out
noncomputable def aj.L2.call:aj.L2.D→Option aj.L2.X:=cX aj.L2.E aj.L2.st
noncomputable def aj.an:eO:= {bO:=[25,74],loops:=j7 [(3,{bm:=[1,2,3,4],sites:=[2,3,36],ij:=[⟨3,[.fst],36,38⟩]}),(9,{bm:=[1,2,3,6],sites:=[2,3,36,91],ij:=[⟨3,[.snd,.fst],91,37⟩]}),(13,{bm:=[1,2,3,6,7,8],sites:=[2,3,7,36,84,91],ij:=[⟨7,[.snd,.fst,.fst],84,32⟩]})],outs:=j6 [(3,{bm:=[1,2,3],sites:=[2,3,36]},{bm:=[2]}),(9,{bm:=[2,3],sites:=[2,3,36,91]},{bm:=[2]}),(13,{bm:=[1,2,3,6,7],sites:=[2,3,7,36,84,91]},{bm:=[2]})],fJ:=kW [(3,aj.L0.E),(9,aj.L1.E),(13,aj.L2.E)]}
noncomputable def aj.A:= @cZ Tryz.prog aj.G aj.an 0 Tryz.f91 _ aj.st
abbrev aj.Ok:=da @aj.A aj.aC aj.add aj.F aj.out
noncomputable def aj.L0.R:= @bX Tryz.prog aj.G aj.an 0 Tryz.f91 0 _ aj.L0.st
abbrev aj.L0.Ok:=ej Tryz.prog aj.G aj.an 0 Tryz.f91 0 aj.L0.st aj.L0.aC aj.L0.add aj.L0.F aj.L0.out
noncomputable def aj.L1.R:= @bX Tryz.prog aj.G aj.an 0 Tryz.f91 1 _ aj.L1.st
abbrev aj.L1.Ok:=ej Tryz.prog aj.G aj.an 0 Tryz.f91 1 aj.L1.st aj.L1.aC aj.L1.add aj.L1.F aj.L1.out
noncomputable def aj.L2.R:= @bX Tryz.prog aj.G aj.an 0 Tryz.f91 2 _ aj.L2.st
abbrev aj.L2.Ok:=ej Tryz.prog aj.G aj.an 0 Tryz.f91 2 aj.L2.st aj.L2.aC aj.L2.add aj.L2.F aj.L2.out
theorem aj.L0.run:bK aj.L0.call aj.L0.aC aj.L0.add aj.L0.F:=eG (eC [.d gf,.d ti,.d (.pair ti .unit),.n,.d (.pair ti .unit),.d (.slice fy)] fun _=>by kernel_rfl)
theorem aj.L0.aD:fN @aj.L0.R aj.L0.st aj.L0.aC aj.L0.add aj.L0.F aj.L0.bj aj.L0.Ok:=fU
theorem aj.L0.step{R:Type}(t_2:eT)(i:Int)(n2:(Int×Unit))(n3L:Nat)(n3:(Int×Unit))(n36:(List fZ))(kn:AS→Option R)(kx:Exit→AS→Option R):aj.L0.R (t_2,i,n2,n3L,n3,n36) kn kx=
  aJ ((fX i (((List.length t_2.1):Nat):Int))) (
   aJ (eJ i (((List.length t_2.1):Nat):Int)) (
   aJ (dq (0+(List.length (nth fy t_2.1 (Int.toNat i)).2.1.2.1)) 16) (
   aJ (decide (0=0∧(0+(0+(List.length (nth fy t_2.1 (Int.toNat i)).2.1.2.1)))≤(List.length ((List.take 0 (List.replicate 0 ((0:Int),((0:Int),()))))++(nth fy t_2.1 (Int.toNat i)).2.1.2.1)))) (
   aJ (decide (n3L≤(List.length n36))) (
   aJ (dq (n3L+1) 80) (
   kn (aj.L0.st (t_2,(bN .i64 i (1:Int)),n2,(n3L+1),n3,((List.take n3L n36)++ [((nth fy t_2.1 (Int.toNat i)).1,(((nth fy t_2.1 (Int.toNat i)).2.1.1,((cut ((List.take 0 (List.replicate 0 ((0:Int),((0:Int),()))))++(nth fy t_2.1 (Int.toNat i)).2.1.2.1) 0 (0+(List.length (nth fy t_2.1 (Int.toNat i)).2.1.2.1))),(nth fy t_2.1 (Int.toNat i)).2.1.2.2)),(nth fy t_2.1 (Int.toNat i)).2.2))])))) none) none) none) none) none) (
   kx (aj.L0.bj ((t_2,n2,n3),(n3L,n36))).1 (aj.L0.bj ((t_2,n2,n3),(n3L,n36))).2):=by kernel_rfl
theorem aj.L1.run:bK aj.L1.call aj.L1.aC aj.L1.add aj.L1.F:=eG (eC [.d gf,.d ti,.d (.pair ti .unit),.n,.n,.d (.pair ti .unit),.d (.slice fy),.d (.slice eN)] fun _=>by kernel_rfl)
theorem aj.L1.aD:fN @aj.L1.R aj.L1.st aj.L1.aC aj.L1.add aj.L1.F aj.L1.bj aj.L1.Ok:=fU
theorem aj.L1.step{R:Type}(t_3:eT)(i_2:Int)(n2_2:(Int×Unit))(n3L_2:Nat)(n3L_3:Nat)(n3_2:(Int×Unit))(n36_2:(List fZ))(n91:(List fu))(kn:AS→Option R)(kx:Exit→AS→Option R):aj.L1.R (t_3,i_2,n2_2,n3L_2,n3L_3,n3_2,n36_2,n91) kn kx=
  aJ ((fX i_2 (((List.length t_3.2.1):Nat):Int))) (
   aJ (eJ i_2 (((List.length t_3.2.1):Nat):Int)) (
   ah (aj.L2.call (t_3,i_2,(0:Int),n2_2,n3L_2,n3L_3,n3_2,(nth eN t_3.2.1 (Int.toNat i_2)).1,0,n36_2,([]:List iA),n91)) fun x1=>
   aJ (decide (0=0∧(0+x1.2.1)≤(List.length x1.2.2))) (
   aJ (decide (x1.1.2.2.2.2.1≤(List.length x1.1.2.2.2.2.2.2.2.2))) (
   aJ (dq (x1.1.2.2.2.2.1+1) 32) (
   kn (aj.L1.st (x1.1.1,(bN .i64 x1.1.2.1 (1:Int)),x1.1.2.2.1,x1.1.2.2.2.1,(x1.1.2.2.2.2.1+1),x1.1.2.2.2.2.2.1,x1.1.2.2.2.2.2.2.2.1,((List.take x1.1.2.2.2.2.1 x1.1.2.2.2.2.2.2.2.2)++ [(x1.1.2.2.2.2.2.2.1,(((cut x1.2.2 0 x1.2.1),()),()))])))) none) none) none) none) (
   kx (aj.L1.bj (n2_2,n3L_2,n3L_3,n3_2,n36_2,n91)).1 (aj.L1.bj (n2_2,n3L_2,n3L_3,n3_2,n36_2,n91)).2):=by kernel_rfl
theorem aj.L2.run:bK aj.L2.call aj.L2.aC aj.L2.add aj.L2.F:=eG (eC [.d gf,.d ti,.d ti,.d (.pair ti .unit),.n,.n,.d (.pair ti .unit),.d ti,.n,.d (.slice fy),.d (.slice gG),.d (.slice eN)] fun _=>by kernel_rfl)
theorem aj.L2.aD:fN @aj.L2.R aj.L2.st aj.L2.aC aj.L2.add aj.L2.F aj.L2.bj aj.L2.Ok:=fU
theorem aj.L2.step{R:Type}(t_4:eT)(i_3:Int)(kv:Int)(n2_3:(Int×Unit))(n3L_4:Nat)(n3L_5:Nat)(n3_3:(Int×Unit))(n7:Int)(n7L:Nat)(n36_3:(List fZ))(n84:(List iA))(n91_2:(List fu))(kn:AS→Option R)(kx:Exit→AS→Option R):aj.L2.R (t_4,i_3,kv,n2_3,n3L_4,n3L_5,n3_3,n7,n7L,n36_3,n84,n91_2) kn kx=
  aJ (eJ i_3 (((List.length t_4.2.1):Nat):Int)) (
  aJ ((fX kv (((List.length (nth eN t_4.2.1 (Int.toNat i_3)).2.1.1):Nat):Int))) (
   aJ (eJ i_3 (((List.length t_4.2.1):Nat):Int)) (
   aJ (eJ kv (((List.length (nth eN t_4.2.1 (Int.toNat i_3)).2.1.1):Nat):Int)) (
   aJ (dq (0+(List.length (nth gG (nth eN t_4.2.1 (Int.toNat i_3)).2.1.1 (Int.toNat kv)).1)) 8) (
   aJ (decide (0=0∧(0+(0+(List.length (nth gG (nth eN t_4.2.1 (Int.toNat i_3)).2.1.1 (Int.toNat kv)).1)))≤(List.length ((List.take 0 (List.replicate 0 (0:Int)))++(nth gG (nth eN t_4.2.1 (Int.toNat i_3)).2.1.1 (Int.toNat kv)).1)))) (
   aJ (decide (n7L≤(List.length n84))) (
   aJ (dq (n7L+1) 48) (
   kn (aj.L2.st (t_4,i_3,(bN .i64 kv (1:Int)),n2_3,n3L_4,n3L_5,n3_3,n7,(n7L+1),n36_3,((List.take n7L n84)++ [((cut ((List.take 0 (List.replicate 0 (0:Int)))++(nth gG (nth eN t_4.2.1 (Int.toNat i_3)).2.1.1 (Int.toNat kv)).1) 0 (0+(List.length (nth gG (nth eN t_4.2.1 (Int.toNat i_3)).2.1.1 (Int.toNat kv)).1))),(nth gG (nth eN t_4.2.1 (Int.toNat i_3)).2.1.1 (Int.toNat kv)).2)]),n91_2))) none) none) none) none) none) none) (
   kx (aj.L2.bj ((t_4,i_3,n2_3,n3L_4,n3L_5,n3_3,n7,n36_3,n91_2),(n7L,n84))).1 (aj.L2.bj ((t_4,i_3,n2_3,n3L_4,n3L_5,n3_3,n7,n36_3,n91_2),(n7L,n84))).2)) none:=by kernel_rfl
theorem aj.eq{R:Type}(t:eT)(k:bk→Option R):aj.A t k=
 ah (aj.L0.call (t,(0:Int),((0:Int),()),0,(t.2.2.1,()),([]:List fZ))) fun x1=>
 ah (aj.L1.call (x1.1.1,(0:Int),x1.1.2.1,x1.2.1,0,x1.1.2.2,x1.2.2,([]:List fu))) fun x4=>
 k (aj.out (x4.2.1,x4.2.2.1,x4.2.2.2.1,x4.2.2.2.2.1,x4.2.2.2.2.2)):=by kernel_rfl
theorem aj.L0.ok:aj.L0.Ok:=by
 refine aj.L0.aD (fun(t,i,u,L,v,r)=>(t.1).length - Int.toNat i) ?_
 rintro⟨t,i,u,L,v,r⟩ ⟨hlen,k,hk,rfl,rfl,hrow,hx⟩
 have hlen:(t.1).length≤1000000:=hlen
 have hk:k≤(t.1).length:=hk
 have hrow:(r).length≤1000000+k:=hrow
 have hx:∀x∈t.1,x.2.1.2.1.length≤1000000:=hx
 by_cases h:k < (t.1).length
 ·left
  have n1:nth fy t.1 k=t.1[k]:=cm (t:=fy) h
  have hd:List.drop k t.1=t.1[k]::List.drop (k+1) t.1:=List.drop_eq_getElem_cons h
  refine⟨(t,((k+1:Nat):Int),u,(r).length+1,v,r++ [(fun x:fZ=>x) t.1[k]]),⟨hlen,k+1,by omega,rfl,by rw[List.length_append];rfl,by rw[List.length_append];show(r).length+1≤_;omega,hx⟩,by simp only[Int.toNat_natCast];omega,?_,fun kn kx=> ?_⟩
  ·simp only[aj.L0.add,aj.L0.F,Int.toNat_natCast,hd,List.map_cons,List.length_cons,List.append_assoc,List.singleton_append]
   rw[show ∀a c:Nat,a+1+c=a+(c+1) from fun a c=>by omega]
  ·rw[aj.L0.step,bq (by omega),bt (show(0:Int)≤(k:Int) by omega) (by omega),Int.toNat_natCast,n1]
   simp only[ag]
   have e:=hx _ (List.getElem_mem h)
   have hr:dq t.1[k].2.1.2.1.length 16=true:=ed (by omega) (by omega)
   simp only[Nat.zero_add,List.take_zero,List.nil_append,hr,ag,Nat.le_refl,and_self,decide_true,fc]
   rw[ed (by omega) (by omega),N.j4 (by omega),List.take_length]
   rfl
 ·right
  obtain rfl:k=(t.1).length:=by omega
  intro R kn kx
  rw[aj.L0.step,bg (by omega),ai]
  simp only[aj.L0.add,aj.L0.F,Int.toNat_natCast,List.drop_length,List.map_nil,List.append_nil,List.length_nil,Nat.add_zero]
theorem aj.L2.ok:aj.L2.Ok:=by
 refine aj.L2.aD (fun(t,j,i,u,L4,L5,v,am,L,is,r,os)=>((nth eN t.2.1 (Int.toNat j)).2.1.1).length - Int.toNat i) ?_
 rintro⟨t,j,i,u,L4,L5,v,am,L,is,r,os⟩ ⟨hlen,k,hk,rfl,rfl,hrow,hj,hx⟩
 have hlen:((nth eN t.2.1 (Int.toNat j)).2.1.1).length≤1000000:=hlen
 have hk:k≤((nth eN t.2.1 (Int.toNat j)).2.1.1).length:=hk
 have hrow:(r).length≤1000000+k:=hrow
 have hj:0≤j∧j < (t.2.1.length:Int):=hj
 have hx:∀x∈(nth eN t.2.1 (Int.toNat j)).2.1.1,x.1.length≤1000000:=hx
 by_cases h:k < ((nth eN t.2.1 (Int.toNat j)).2.1.1).length
 ·left
  have n1:nth gG (nth eN t.2.1 (Int.toNat j)).2.1.1 k=(nth eN t.2.1 (Int.toNat j)).2.1.1[k]:=cm (t:=gG) h
  have hd:List.drop k (nth eN t.2.1 (Int.toNat j)).2.1.1=(nth eN t.2.1 (Int.toNat j)).2.1.1[k]::List.drop (k+1) (nth eN t.2.1 (Int.toNat j)).2.1.1:=List.drop_eq_getElem_cons h
  refine⟨(t,j,((k+1:Nat):Int),u,L4,L5,v,am,(r).length+1,is,r++ [(fun x:iA=>x) (nth eN t.2.1 (Int.toNat j)).2.1.1[k]],os),⟨hlen,k+1,by omega,rfl,by rw[List.length_append];rfl,by rw[List.length_append];show(r).length+1≤_;omega,hj,hx⟩,by simp only[Int.toNat_natCast];omega,?_,fun kn kx=> ?_⟩
  ·simp only[aj.L2.add,aj.L2.F,Int.toNat_natCast,hd,List.map_cons,List.length_cons,List.append_assoc,List.singleton_append]
   rw[show ∀a c:Nat,a+1+c=a+(c+1) from fun a c=>by omega]
  ·rw[aj.L2.step,bt hj.1 hj.2,ag,bq (by omega),bt (show(0:Int)≤(k:Int) by omega) (by omega),Int.toNat_natCast,n1]
   simp only[ag]
   have e:=hx _ (List.getElem_mem h)
   have hr:dq (nth eN t.2.1 (Int.toNat j)).2.1.1[k].1.length 8=true:=ed (by omega) (by omega)
   simp only[Nat.zero_add,List.take_zero,List.nil_append,hr,ag,Nat.le_refl,and_self,decide_true,fc]
   rw[ed (by omega) (by omega),N.j4 (by omega),List.take_length]
   rfl
 ·right
  obtain rfl:k=((nth eN t.2.1 (Int.toNat j)).2.1.1).length:=by omega
  intro R kn kx
  rw[aj.L2.step,bt hj.1 hj.2,ag,bg (by omega),ai]
  simp only[aj.L2.add,aj.L2.F,Int.toNat_natCast,List.drop_length,List.map_nil,List.append_nil,List.length_nil,Nat.add_zero]
theorem aj.L1.ok:aj.L1.Ok:=by
 refine aj.L1.aD (fun(t,i,u,L3,L,v,is,r)=>t.2.1.length - i.toNat) ?_
 rintro⟨t,i,u,L3,L,v,is,r⟩ ⟨⟨hl,hx⟩,k,hk,rfl,rfl,hrk⟩
 have hl:t.2.1.length≤1000:=hl
 have hk:k≤t.2.1.length:=hk
 have hrk:r.length=k:=hrk
 by_cases h:k < t.2.1.length
 ·left
  have e:=hx _ (List.getElem_mem h)
  have n1:nth eN t.2.1 k=t.2.1[k]:=cm (t:=eN) h
  have hd:t.2.1.drop k=t.2.1[k]::t.2.1.drop (k+1):=List.drop_eq_getElem_cons h
  have e1:(nth eN t.2.1 (Int.toNat (k:Int))).2.1.1=t.2.1[k].2.1.1:=by rw[Int.toNat_natCast,n1]
  refine⟨(t,((k+1:Nat):Int),u,L3,r.length+1,v,is,r++ [t.2.1[k]]),⟨⟨hl,hx⟩,k+1,by omega,rfl,by rw[List.length_append];rfl,by rw[List.length_append];show r.length+1=_;omega⟩,by simp only[Int.toNat_natCast];omega,?_,fun kn kx=> ?_⟩
  ·simp only[aj.L1.add,aj.L1.F,Int.toNat_natCast,hd,List.length_cons,List.append_assoc,List.singleton_append]
   rw[show ∀a c:Nat,a+1+c=a+(c+1) from fun a c=>by omega]
  ·rw[aj.L1.step,bq (by omega),bt (by omega) (by omega),Int.toNat_natCast,n1]
   simp only[ag]
   rw[aj.L2.run (d:=(t,(k:Int),0,u,L3,r.length,v,t.2.1[k].1,0,is,[],r)) ⟨by rw[e1];omega,0,Nat.zero_le _,rfl,rfl,Nat.zero_le _,⟨by show(0:Int)≤(k:Int);omega,by show(k:Int) < (t.2.1.length:Int);omega⟩,by rw[e1];exact e.2⟩]
   simp only[aa,aj.L2.add,aj.L2.F,e1,Int.toNat_zero,List.drop_zero,List.nil_append,Nat.zero_add,List.map_id',Nat.le_refl,and_self,decide_true,ag,fc]
   rw[ed (by omega) (by omega),N.j4 (by omega),List.take_length]
   rfl
 ·right
  obtain rfl:k=t.2.1.length:=by omega
  intro R kn kx
  rw[aj.L1.step,bg (by omega),ai]
  simp only[aj.L1.add,aj.L1.F,Int.toNat_natCast,List.drop_length,List.append_nil,List.length_nil,Nat.add_zero]
theorem aj.ok:aj.Ok:=by
 rintro⟨is,os,nt,u⟩ ⟨⟨h1,h2⟩,h3,h4⟩
 have h1:is.length≤1000:=h1
 have h3:os.length≤1000:=h3
 rw[aj.eq,aj.L0.run (d:=((is,os,nt,u),0,(0,()),0,(nt,()),[])) ⟨by show is.length≤_;omega,0,Nat.zero_le _,rfl,rfl,Nat.zero_le _,h2⟩]
 simp only[aa,aj.L0.add,aj.L0.F,Int.toNat_zero,List.drop_zero,List.nil_append,Nat.zero_add,List.map_id']
 rw[aj.L1.run (d:=((is,os,nt,u),0,(0,()),is.length,0,(nt,()),is,[])) ⟨⟨h3,h4⟩,0,Nat.zero_le _,rfl,rfl,rfl⟩]
 simp only[aa,aj.L1.add,aj.L1.F,Int.toNat_zero,List.drop_zero,List.nil_append,Nat.zero_add]
 rfl
noncomputable def aj.E:=Entry.cq [some gf] aj.st aj.aC aj.add aj.F aj.out
noncomputable def aj.call:aj.D→Option aj.X:=bT aj.E aj.st
theorem aj.run:bK aj.call aj.aC aj.add aj.F:=dh (de [.d gf] fun _=>by kernel_rfl)
noncomputable def aj.sg:SG Tryz.prog:=⟨91,aY,aj.E,.fn 3 (by kernel_rfl) aj.ok (And.intro (.cq aj.L0.ok (by kernel_rfl)) (And.intro (.cq aj.L1.ok (by kernel_rfl)) (And.intro (.cq aj.L2.ok (by kernel_rfl)) trivial)))⟩
end Go.Ab
namespace Go.Ab
open Go.Sort (grow)
structure GY(P:Program)(t:Ty)(g:FuncId)(Q:t.den→Prop)(cf:t.den→t.den→Int):Prop where
 bW:∃en,ke P g en∧∀x y,Q x→Q y→∃X,en.run [.d t x,.d t y] []=some X∧en.out [.d t x,.d t y] [] X=⟨.d (.int .i64) (cf x y),[],[]⟩
 enters:∀args w,(callFunc g args).run P w= .ok (.enter g args) w
 irrefl:∀x,Q x→¬cf x x < 0
 trans:∀x y z,Q x→Q y→Q z→cf x y < 0→cf y z < 0→cf x z < 0
 ntrans:∀x y z,Q x→Q y→Q z→¬cf x y < 0→¬cf y z < 0→¬cf x z < 0
theorem EL{w w':World}(hos:w'.os=w.os)(htp:w'.tape=w.tape)(hout:w'.output=w.output∧w.drawn≤w'.drawn)(hsz:w.heap.size≤w'.heap.size)(hb:∀b:Nat,b < w.heap.size→w'.heap[b]? =w.heap[b]?):
  ∃q os,w'=grow (w.drewN q) os:=by
 obtain⟨h1,t1,d1,o1,p1⟩:=w
 obtain⟨h2,t2,d2,o2,p2⟩:=w'
 simp only at*
 obtain⟨hout,hd⟩:=hout
 subst hos htp hout
 obtain⟨q,rfl⟩:∃q,d2=d1+q:=⟨d2 - d1,by omega⟩
 refine⟨q,h2.extract h1.size h2.size,?_⟩
 have hh:h2=h1++h2.extract h1.size h2.size:=by
  apply Array.ext_getElem?
  intro i
  rw[Array.getElem?_append]
  by_cases hi:i < h1.size
  ·rw[if_pos hi,hb i hi]
  ·rw[if_neg hi,Array.getElem?_extract]
   by_cases h3:i < h2.size
   ·rw[if_pos (by omega)]
    congr 1;omega
   ·rw[if_neg (by omega),Array.getElem?_eq_none (by omega)]
 show({heap:=h2,tape:=_,drawn:=_,os:=_,output:=_}:World)= {heap:=h1++h2.extract h1.size h2.size,tape:=_,drawn:=_,os:=_,output:=_}
 rw[←hh]
 rfl
section
variable {P:Program} {t:Ty} {g:FuncId} {Q:t.den→Prop} {cf:t.den→t.den→Int}
theorem GY.Hx(h:GY P t g Q cf)(ha:t.agg=true){W:World}{cx cy:List Value}{x y:t.den}(hx:cT ((gh []).env W (fun _=> .free) (fun _=>none)) t cx x)
  (hy:cT ((gh []).env W (fun _=> .free) (fun _=>none)) t cy y) (qx:Q x) (qy:Q y):
  Calls P g #[.agg cx.toArray,.agg cy.toArray] W fun e w'=>e= .returned (.int .i64 (cf x y))∧∃q os,w'=grow (W.drewN q) os:=by
 obtain⟨en,hd,hrun⟩:=h.bW
 obtain⟨X,hX1,hX2⟩:=hrun x y qx qy
 have one:∀ {c:List Value} {z:t.den},cT ((gh []).env W (fun _=> .free) (fun _=>none)) t c z→VS ((gh []).env W (fun _=> .free) (fun _=>none)) (.d t z) (.agg c.toArray):=fun hz=>
  ⟨_,by simpa only[V]using hz,by show fa t.agg _ _;rw[ha];rfl⟩
 have ho:gA ((gh []).env W (fun _=> .free) (fun _=>none)):=fun id ver fr c h=>by
  exfalso
  cases id with
  |dr k=>simp[AS.env,AS.bW,gh]at h
  |new i j=>simp[AS.env,AS.bW,gh]at h
 rcases hd W (fun _=> .free) (fun _=>none) [.d t x,.d t y] [] [.agg cx.toArray,.agg cy.toArray] X ⟨one hx,one hy,trivial⟩ ho hX1 with⟨_,hc⟩ | ⟨v,w',hc,_⟩
 ·refine hc.mono fun e w' he=> ?_
  obtain⟨v,rfl,g',β',hv,_,ht,_⟩:=he
  rw[hX2]at hv
  obtain⟨cs,k1,k2⟩:=hv
  have k1:cs=[.int .i64 (cf x y)]:=k1
  subst k1
  have k2: [Value.int .i64 (cf x y)]=[v]:=k2
  have hv:v= .int .i64 (cf x y):=by simpa using k2.symm
  exact⟨by rw[hv],EL ht.os ht.tape ht.output ht.size fun b hb=>(ht.sz b hb).2⟩
 ·rw[h.enters]at hc;cases hc
def Cr(cf:t.den→t.den→Int)(l l':List t.den):Prop:=l'.Perm l∧l'.Pairwise fun x y=>¬cf y x < 0
open Classical in
noncomputable def pQ(cf:t.den→t.den→Int)(l:List t.den):List t.den:=if h:∃l',Cr cf l l' then h.choose else l
theorem xg(h:GY P t g Q cf){l:List t.den}(hQ:∀x∈l,Q x):Cr cf l (pQ cf l):=by
 have hx:∃l',Cr cf l l':=by
  let le: {x // Q x}→ {x // Q x}→Bool:=fun x y=> !decide (cf y.1 x.1 < 0)
  refine⟨((l.attachWith Q hQ).mergeSort le).map (·.1),?_,?_⟩
  ·have h1:=(List.mergeSort_perm (l.attachWith Q hQ) le).map (·.1)
   rwa[List.attachWith_map_subtype_val]at h1
  ·have h2:=List.pairwise_mergeSort (le:=le) (fun a b c h1 h2=>by
    simp only[le,Bool.not_eq_true',decide_eq_false_iff_not]at*
    exact h.ntrans _ _ _ c.2 b.2 a.2 h2 h1) (fun a b=>by
    simp only[le,Bool.or_eq_true,Bool.not_eq_true',decide_eq_false_iff_not]
    by_cases h1:cf b.1 a.1 < 0
    ·exact .inr fun h2=>h.irrefl _ a.2 (h.trans _ _ _ a.2 b.2 a.2 h2 h1)
    ·exact .inl h1) (l.attachWith Q hQ)
   rw[List.pairwise_map]
   exact h2.imp fun {a b} h3=>by simpa[le]using h3
 unfold pQ
 rw[dif_pos hx]
 exact hx.choose_spec
theorem uv(h:GY P t g Q cf){l l':List t.den}(hQ:∀x∈l,Q x)(hT:∀x∈l,∀y∈l,¬cf x y < 0→¬cf y x < 0→x=y)(hs:Cr cf l l'):l'=pQ cf l:=by
 have h2:=xg h hQ
 exact List.Perm.eq_of_pairwise (fun a b ha hb h3 h4=>hT a (hs.1.mem_iff.1 ha) b (h2.1.mem_iff.1 hb) h4 h3) hs.2 h2.2 (hs.1.trans h2.1.symm)
def qW(g:FuncId)(e:TypeId)(t:Ty):Nat×List t.den→List aA×List dN:=fun d=>([.bI (.dr 0) 0 [] 0 0 d.1,.fn g .nil],[.obj 0 false (.vec e t d.2)])
def uu(Q:t.den→Prop)(cf:t.den→t.den→Int):Nat×List t.den→Prop:=fun d=>d.1=d.2.length∧d.2.length < 4611686018427387904∧(∀x∈d.2,Q x)∧∀x∈d.2,∀y∈d.2,¬cf x y < 0→¬cf y x < 0→x=y
def GO(e:TypeId)(t:Ty):Nat×List t.den→bk:=fun x=>⟨.nil,[.obj 0 false (.vec e t x.2)],[]⟩
noncomputable def Fi(g:FuncId)(e:TypeId)(t:Ty)(Q:t.den→Prop)(cf:t.den→t.den→Int):Entry:=
 Entry.of [none,none] (qW g e t) (uu Q cf) (fun d=>(d.1,pQ cf d.2)) (GO e t)
theorem Fj{g:FuncId}{e:TypeId}{t:Ty}(d d':Nat×List t.den)(h:qW g e t d=qW g e t d'):d=d':=by
 obtain⟨n,l⟩:=d
 obtain⟨n',l'⟩:=d'
 simp only[qW,Prod.mk.injEq,List.cons.injEq,aA.bI.injEq,dN.obj.injEq,true_and,and_true]at h
 obtain⟨rfl,h2⟩:=h
 rw[Fp h2]
noncomputable def xf(g:FuncId)(e:TypeId)(t:Ty)(Q:t.den→Prop)(cf:t.den→t.den→Int):Nat×List t.den→Option (Nat×List t.den):=fun d=>(Fi g e t Q cf).run (qW g e t d).1 (qW g e t d).2
theorem Bd{g:FuncId}{e:TypeId}{t:Ty}{Q:t.den→Prop}{cf:t.den→t.den→Int}{d:Nat×List t.den}(h:uu Q cf d):xf g e t Q cf d=some (d.1,pQ cf d.2):=Entry.oz Fj h
theorem qd{R:List Value→t.den→Prop}:∀ {cs:List Value} {l:List t.den},bn R cs l→(∀x∈l,Q x)→∃ps:List {p:List Value×t.den // R p.1 p.2∧Q p.2},ps.map (·.1.2)=l∧(ps.map (·.1.1)).flatten=cs
 |cs,[],h,_=>⟨[],rfl,by have h:cs=[]:=h;rw[h];rfl⟩
 |cs,x::l,⟨c,cs',h1,h2,h3⟩,hq=>by
  obtain⟨ps,h4,h5⟩:=qd h3 fun y hy=>hq y (List.mem_cons_of_mem _ hy)
  exact⟨⟨(c,x),h2,hq x (List.mem_cons_self ..)⟩::ps,by simp[h4],by simp[h5,h1]⟩
theorem qC{R R':List Value→t.den→Prop}(hR:∀c x,R c x→R' c x):∀ps:List {p:List Value×t.den // R p.1 p.2∧Q p.2},bn R' (ps.map (·.1.1)).flatten (ps.map (·.1.2))
 |[]=>rfl
 |p::ps=>⟨p.1.1,(ps.map (·.1.1)).flatten,by simp,hR _ _ p.2.1,qC hR ps⟩
theorem xX{α:Type} [Inhabited α] (enc:α→List Value) {k:Nat} (hk:∀x,(enc x).length=k):∀(ps:List α) (j:Nat),j < ps.length*k→((ps.map enc).flatten)[j]? =(enc (ps.toArray[j / k]!))[j%k]?
 |[],j,h=>by simp at h
 |p::ps,j,h=>by
  have k0:0 < k:=by
   rcases Nat.eq_zero_or_pos k with h0 | h0
   ·subst h0;simp at h
   ·exact h0
  simp only[List.map_cons,List.flatten_cons]
  by_cases hj:j < k
  ·rw[List.getElem?_append_left (by rw[hk];exact hj),Nat.div_eq_of_lt hj,Nat.mod_eq_of_lt hj]
   rfl
  ·have e1:j / k=(j - k) / k+1:=by
    rw[Nat.div_eq_sub_div k0 (by omega)]
   have e2:j%k=(j - k)%k:=by rw[Nat.mod_eq_sub_mod (by omega)]
   rw[List.getElem?_append_right (by rw[hk];omega),hk,xX enc hk ps (j - k) (by simp only[List.length_cons,Nat.add_mul,Nat.one_mul]at h;omega),e1,e2]
   congr 2
   simp
theorem pI{α:Type} [Inhabited α] (enc:α→List Value) {k:Nat} (hk:∀x,(enc x).length=k) (d:Array α):(Go.Sort.flatK enc k d).toList=(d.toList.map enc).flatten:=by
 have hl:((d.toList.map enc).flatten).length=d.size*k:=by
  rw[List.length_flatten,List.map_map]
  have:(d.toList.map (List.length∘enc))=List.replicate d.size k:=by
   rw[List.eq_replicate_iff]
   exact⟨by simp,fun x hx=>by obtain⟨y,_,rfl⟩:=List.mem_map.1 hx;exact hk y⟩
  rw[this,List.sum_replicate_nat]
 apply List.ext_getElem?
 intro j
 by_cases hj:j < d.size*k
 ·rw[xX enc hk d.toList j (by simpa using hj)]
  have h2:(Go.Sort.flatK enc k d).toList[j]? =some ((Go.Sort.flatK enc k d)[j]!):=by
   rw[Array.getElem?_toList,getElem!_pos _ j (by rw[Go.Sort.size_flatK];exact hj)]
   simp[hj]
  rw[h2,Go.Sort.get_flatK _ _ _ _ hj]
  have hk0:0 < k:=by
   rcases Nat.eq_zero_or_pos k with h0 | h0
   ·subst h0;simp at hj
   ·exact h0
  have hm:j%k < k:=Nat.mod_lt _ hk0
  simp only[Array.toArray_toList]
  rw[List.getElem?_eq_getElem (by rw[hk];exact hm),getElem!_pos _ _ (by rw[hk];exact hm)]
 ·rw[List.getElem?_eq_none (by simpa using hj),List.getElem?_eq_none (by rw[hl];omega)]
theorem DG{F cur:Array Value}(h:F.size≤cur.size):(Go.Sort.putCells id 0 F cur).toList=F.toList++cur.toList.drop F.size:=by
 apply List.ext_getElem?
 intro j
 simp only[Go.Sort.putCells,Array.getElem?_toList,Array.getElem?_mapIdx,Nat.zero_le,true_and,Nat.zero_add,Nat.sub_zero,id]
 by_cases hj:j < F.size
 ·rw[List.getElem?_append_left (by simpa using hj),Array.getElem?_toList,Array.getElem?_eq_getElem hj,Array.getElem?_eq_getElem (by omega),Option.map_some,if_pos hj,getElem!_pos F j hj]
 ·rw[List.getElem?_append_right (by simpa using hj),List.getElem?_drop,Array.getElem?_toList,Array.length_toList,show F.size+(j - F.size)=j by omega]
  cases cur[j]? with
  |none=>rfl
  |some y=>rw[Option.map_some,if_neg hj]
end
section
open Go.Proofs Go.Shelf Go.Lib Go.Sort
variable {P:Program} {ρ:Go.Shelf.Ren} {t:Ty} {g:FuncId} {Q:t.den→Prop} {cf:t.den→t.den→Int}
theorem uw{α:Type} [Inhabited α] (enc:α→List Value) (k:Nat) (w:World) (sz m:Nat) (dk:Array α) (os:Array Obj) {b:Nat} (hb:b < w.heap.size) (hne:b≠sz):(sortWorldK enc k w sz 0 m dk os).heap[b]? =w.heap[b]? :=by
 show((w.heap.modify sz _)++os)[b]? =_
 rw[Array.getElem?_append,if_pos (by simpa using hb),Array.getElem?_modify,if_neg (fun e=>hne e.symm)]
theorem Fm{α:Type} [Inhabited α] (enc:α→List Value) (k:Nat) (w:World) (sz m:Nat) (dk:Array α) (os:Array Obj) {cur:Array Value} {e:TypeId} {fr:Nat×Nat} (hb:w.heap[sz]? =some (.cells cur e fr)):
  (sortWorldK enc k w sz 0 m dk os).heap[sz]? =some (.cells (putCells id 0 (flatK enc k dk) cur) e fr):=by
 have hlt:sz < w.heap.size:=(Array.getElem?_eq_some_iff.1 hb).1
 show((w.heap.modify sz _)++os)[sz]? =_
 rw[Array.getElem?_append,if_pos (by simpa using hlt),Array.getElem?_modify,if_pos rfl,hb]
 rfl
set_option maxHeartbeats 1000000 in
theorem D1(L:SlLaysF0.n6 P ρ){e:TypeId}(ha:t.agg=true)(aE:∀w,(isAgg (ρ.t 24)).run P w= .ok true w)(zE:∀w,(Go.sizeOf (ρ.t 24)).run P w= .ok t.size w)(hc:GY P t g Q cf):
  ke P (ρ.f 6) (Fi g e t Q cf):=by
 intro w γ β args cW gW x hv ho hx
 obtain⟨d0,hd0,hpre⟩:∃d,qW g e t d=(args,cW)∧uu Q cf d:=by
  by_cases hh:∃d,qW g e t d=(args,cW)∧uu Q cf d
  ·exact hh
  ·exfalso
   have hn:(Fi g e t Q cf).run args cW=none:=dif_neg hh
   rw[hn]at hx
   cases hx
 have hr:=Bd (g:=g) (e:=e) hpre
 unfold xf at hr
 rw[hd0]at hr
 obtain rfl:x=(d0.1,pQ cf d0.2):=Option.some.inj (hx.symm.trans hr)
 obtain⟨n,l⟩:=d0
 simp only[qW,Prod.mk.injEq]at hd0
 obtain⟨rfl,rfl⟩:=hd0
 obtain⟨hn,hsz,hQ,hT⟩:=hpre
 have hn:n=l.length:=hn
 subst hn
 match gW,hv with
 |[y1,y2],⟨hv1,hv2,_⟩=>
 obtain⟨vs,rfl,hvs⟩:=AJ hv2
 have hvs:vs=[]:=by simpa only[VC]using hvs
 subst hvs
 have h1:=hv1.single rfl rfl
 simp only[V]at h1
 obtain⟨a,cap,h1,hcap,hsome,_,hcur⟩:=h1
 have h1:y1= .slice a l.length cap:=by simpa using h1
 subst h1
 have hent:(gh [dN.obj 0 false (.vec e t l)]).bW (.dr 0)=some (.obj 0 false (.vec e t l)):=rfl
 obtain⟨hz,hO⟩:Hg ((gh [dN.obj 0 false (.vec e t l)]).env w γ β) (.dr 0) false e t l:=ho (.dr 0) 0 false _ hent
 have hcur:=hcur ⟨false,_,hent⟩
 refine .inl ⟨L.f6.enters rfl _ _,?_⟩
 have hnil:∀v:Value,v= .tuple #[]→VS ((bk.st ⟨.nil,[.obj 0 false (.vec e t (pQ cf l))],[]⟩).env w γ β) .nil v:=fun v hv=>by rw[hv];exact rfl
 have hS:=xg hc hQ
 by_cases hl:l=[]
 ·subst hl
  have hs:pQ cf ([]:List t.den)=[]:=List.eq_nil_of_length_eq_zero hS.1.length_eq
  refine(AnyF.slices_SortFunc_none L a cap _ w).mono fun e' w' he=> ?_
  obtain⟨rfl,rfl⟩:=he
  refine⟨_,rfl,?_⟩
  show lN _ (⟨.nil,[.obj 0 false (.vec e t (pQ cf []))],[]⟩:bk) _ _
  rw[hs]
  exact lN.same rfl ho
 ·have hpos:0 < l.length:=List.length_pos_iff.2 hl
  change (match β (.dr 0) with | none=>l=[] | some pl=>∃cur k,w.heap[pl.b]? =some (.cells cur e (0,0))∧cur.size=pl.cap*t.size∧l.length≤pl.cap∧pl.cap≤maxLen∧γ pl.b= .own (.id (.dr 0)) k∧
   k≤l.length*t.size∧(false=false→k=0)∧bn (cT ((gh [dN.obj 0 false (.vec e t l)]).env w γ β) t) (cur.toList.take (l.length*t.size)) l) at hO
  change (match β (.dr 0) with | some pl=>(0 < l.length∨True→a=some ⟨pl.b,0,none⟩)∧(True→True→cap=pl.cap) | none=>a=none∧l.length=0∧cap=0) at hcur
  cases hβ:β (.dr 0) with
  |none=>rw[hβ]at hO;exact absurd hO hl
  |some pl=>
  rw[hβ]at hO hcur
  obtain⟨cur,k0,q1,q2,q3,q4,q5,_,q7,q8⟩:=hO
  obtain rfl:=q7 rfl
  obtain rfl:=hcur.1 (.inl hpos)
  have hblk:pl.b < w.heap.size:=(Array.getElem?_eq_some_iff.1 q1).1
  obtain⟨R,hR⟩:∃R:List Value→t.den→Prop,R=cT ((gh [dN.obj 0 false (.vec e t l)]).env w γ β) t:=⟨_,rfl⟩
  have hRm:∀c x,R c x→cT ((gh [dN.obj 0 false (.vec e t l)]).env w γ β) t c x:=by rw[hR];exact fun _ _ h=>h
  rw[←hR]at q8
  obtain⟨ps,p1,p2⟩:=qd (Q:=Q) q8 hQ
  have hps:ps.length=l.length:=by rw[←p1,List.length_map]
  let α:= {p:List Value×t.den // R p.1 p.2∧Q p.2}
  have:0 < ps.length:=by omega
  letI:Inhabited α:=⟨ps[0]⟩
  let enc:α→List Value:=fun p=>p.1.1
  let cf':α→α→Int:=fun p q=>cf p.1.2 q.1.2
  have hk:∀x,(enc x).length=t.size:=fun x=>(hRm _ _ x.2.1).size
  have hO:SWO (ltOf cf'):=⟨fun x=>by simpa[ltOf,cf']using hc.irrefl _ x.2.2,fun x y z h1 h2=>by
   simp only[ltOf,decide_eq_true_eq,cf']at*
   exact hc.trans _ _ _ x.2.2 y.2.2 z.2.2 h1 h2,fun x y z h1 h2=>by
   simp only[ltOf,decide_eq_false_iff_not,cf']at*
   exact hc.ntrans _ _ _ x.2.2 y.2.2 z.2.2 h1 h2⟩
  have hcell:∀j,j < l.length*t.size→cur[j]? =((ps.map enc).flatten)[j]? :=fun j hj=>by
   have:(ps.map enc).flatten=cur.toList.take (l.length*t.size):=p2
   rw[this,List.getElem?_take,if_pos hj,Array.getElem?_toList]
  have hH:HoldsK enc t.size w pl.b 0 ps.toArray:=fun j hj=>by
   rw[size_flatK]at hj
   have hj:j < ps.length*t.size:=by simpa using hj
   have h2:=hcell j (by rw[←hps];exact hj)
   have h3:((flatK enc t.size ps.toArray).toList)[j]? =((ps.map enc).flatten)[j]? :=by rw[pI enc hk]
   rw[Array.getElem?_toList,Array.getElem?_eq_getElem (by rw[size_flatK];simpa using hj)]at h3
   refine⟨?_,?_⟩
   ·show(match w.heap[pl.b]? with | some (.cells c _ _)=>if(none:Option _).isSome then none else c[0+j]? | _=>none)=_
    rw[q1]
    simp only[Option.isSome_none,Bool.false_eq_true,if_false,Nat.zero_add]
    rw[h2,←h3,getElem!_pos _ j (by rw[size_flatK];simpa using hj)]
    rfl
   ·show(match w.heap[pl.b]? with | some (.cells _ _ (lo,hi))=>decide (lo≤0+j) && decide (0+j < hi) | _=>false)=false
    rw[q1]
    simp
  have hmem:∀(m:Nat) (dk:Array α) (os:Array Obj),ka ((gh [dN.obj 0 false (.vec e t l)]).env w γ β) ((gh []).env (sortWorldK enc t.size w pl.b 0 m dk os) (fun _=> .free) (fun _=>none)):=fun m dk os=>by
   refine⟨fun b off v hh=>⟨?_,trivial⟩,fun b ob hf hob=>⟨rfl,?_⟩⟩
   ·obtain⟨h1,h2⟩:=hh
    have hb:b < w.heap.size:=World.block_lt_of_cell? _ _ h1
    have hne:b≠pl.b:=fun e=>by
     have h2:j9 γ b off:=h2
     unfold j9 at h2
     rw[e,q5]at h2
     exact Nat.not_lt_zero _ h2
    have h1:w.cell? ⟨b,off,none⟩=some v:=h1
    show(sortWorldK enc t.size w pl.b 0 m dk os).cell? ⟨b,off,none⟩=some v
    simpa only[World.cell?,uw enc t.size w pl.b m dk os hb hne]using h1
   ·have hob:w.heap[b]? =some ob:=hob
    have hb:b < w.heap.size:=(Array.getElem?_eq_some_iff.1 hob).1
    have hne:b≠pl.b:=fun e=>by
     have hf:γ b= .free:=hf
     rw[e,q5]at hf;cases hf
    exact(uw enc t.size w pl.b m dk os hb hne).trans hob
  have hcmp:CmpLays P g #[] enc t.size cf' pl.b 0 ps.toArray.size w:=fun m os dk _ p q=>
   hc.Hx ha ((hRm _ _ p.2.1).mono (hmem m dk os)) ((hRm _ _ q.2.1).mono (hmem m dk os)) p.2.2 q.2.2
  have hcon:=AnyQ.slices_SortFunc L t.size aE zE enc hk (fun p=>(hRm _ _ p.2.1).one) cf' hO g #[] pl.b 0 cap ps.toArray w hc.enters hcmp hH hblk (by simpa[hps]using hsz)
  rw[show ps.toArray.size=l.length by simpa using hps]at hcon
  refine hcon.mono fun e' w' he=> ?_
  obtain⟨rfl,d',m,os,hp,hs,rfl⟩:=he
  refine⟨_,rfl,?_⟩
  obtain⟨s1,_,s2⟩:=hp
  have hd:d'.size=l.length:=by rw[s1];simpa using hps
  have hperm:d'.toList.Perm ps:=by
   have e1:(d'.extract 0 l.length)=d':=by rw[←hd];simp
   have e2:(ps.toArray.extract 0 l.length)=ps.toArray:=by rw[←hps];simp
   rw[e1,e2]at s2
   exact s2
  have hl':Cr cf l (d'.toList.map (·.1.2)):=by
   refine⟨by rw[←p1];exact hperm.map _,?_⟩
   rw[List.pairwise_map,List.pairwise_iff_getElem]
   intro i j hi hj hij
   have:=hs i j (Nat.zero_le _) hij (by rw[←hd];simpa using hj)
   rw[getElem!_pos d' i (by simpa using hi),getElem!_pos d' j (by simpa using hj)]at this
   simpa[ltOf,cf']using this
  have heq:=uv hc hQ hT hl'
  show lN _ (⟨.nil,[.obj 0 false (.vec e t (pQ cf l))],[]⟩:bk) _ _
  rw[←heq]
  have hself:=Fm enc t.size w pl.b m d' os q1
  have hFs:(flatK enc t.size d').size≤cur.size:=by
   rw[size_flatK,hd,q2]
   exact Nat.mul_le_mul_right _ q3
  have hoth:∀b,b < w.heap.size→b≠pl.b→(sortWorldK enc t.size w pl.b 0 m d' os).heap[b]? =w.heap[b]? :=fun b hb hne=>uw enc t.size w pl.b m d' os hb hne
  have hsize:w.heap.size≤(sortWorldK enc t.size w pl.b 0 m d' os).heap.size:=size_sortWorldK_c enc t.size w pl.b 0 m d' os
  have hw:(sortWorldK enc t.size w pl.b 0 m d' os).os=w.os∧(sortWorldK enc t.size w pl.b 0 m d' os).tape=w.tape∧((sortWorldK enc t.size w pl.b 0 m d' os).output=w.output∧w.drawn≤(sortWorldK enc t.size w pl.b 0 m d' os).drawn):=⟨rfl,rfl,rfl,Nat.le_add_right _ _⟩
  generalize sortWorldK enc t.size w pl.b 0 m d' os=w' at hself hoth hsize hw
  have ht:Trans w w' γ γ:=by
   refine⟨hw.1,hw.2.1,hw.2.2,hsize,fun b hb=> ?_⟩
   by_cases hbb:b=pl.b
   ·subst hbb
    rw[q5]
    exact⟨.inr ⟨_,0,rfl,Nat.le_refl _⟩,fun _ _ hh=>by omega⟩
   ·rw[hoth b hb hbb]
    cases hgb:γ b with
    |free=>exact⟨rfl,rfl⟩
    |own o' k=>cases o' with
     |eP=>exact⟨rfl,rfl⟩
     |id i'=>exact⟨.inr ⟨i',k,rfl,Nat.le_refl _⟩,fun off v _ hv=>by simpa only[World.cell?,hoth b hb hbb]using hv⟩
  have hle:cv ((gh [dN.obj 0 false (.vec e t l)]).env w γ β) ((bk.st ⟨.nil,[.obj 0 false (.vec e t (d'.toList.map (·.1.2)))],[]⟩).env w' γ β):=by
   have e0:∀id,(∃c,(gh [dN.obj 0 false (.vec e t l)]).bW id=some (.obj 0 false c)∧id= .dr 0)∨((gh [dN.obj 0 false (.vec e t l)]).bW id=none∧(bk.st ⟨.nil,[.obj 0 false (.vec e t (d'.toList.map (·.1.2)))],[]⟩).bW id=none):=fun id=>by
    cases id with
    |dr k=>cases k with
     |zero=>exact .inl ⟨_,rfl,rfl⟩
     |succ k=>exact .inr ⟨rfl,rfl⟩
    |new i j=>refine .inr ⟨?_,?_⟩ <;> cases i <;> rfl
   refine⟨Trans.mem (E:=(gh [dN.obj 0 false (.vec e t l)]).env w γ β) (E':=(bk.st ⟨.nil,[.obj 0 false (.vec e t (d'.toList.map (·.1.2)))],[]⟩).env w' γ β) ht,fun id ver hb=> ?_,fun id ver hb hcu=> ?_⟩
   ·rcases e0 id with⟨c,_,rfl⟩ | ⟨h1,_⟩
    ·refine⟨by show(some _:Option dN)≠none;simp,fun v fr c h=> ?_⟩
     have h:some (dN.obj 0 false (.vec e t (d'.toList.map (·.1.2))))=some (.obj v fr c):=h
     simp only[Option.some.injEq,dN.obj.injEq]at h
     have:=hb.2 0 false _ rfl
     omega
    ·exact absurd h1 hb.1
   ·rcases e0 id with⟨c,_,rfl⟩ | ⟨h1,_⟩
    ·obtain⟨fr,c,h⟩:=hcu
     have h:some (dN.obj 0 false (.vec e t (d'.toList.map (·.1.2))))=some (.obj ver fr c):=h
     simp only[Option.some.injEq,dN.obj.injEq]at h
     obtain⟨rfl,rfl,_⟩:=h
     exact⟨⟨false,_,rfl⟩,rfl⟩
    ·exact absurd h1 hb.1
  refine⟨γ,β,rfl,fun id ver fr c h=> ?_,ht,hle⟩
  have hid:id= .dr 0∧ver=0∧fr=false∧c= .vec e t (d'.toList.map (·.1.2)):=by
   cases id with
   |dr k=>cases k with
    |zero=>
     have h:some (dN.obj 0 false (.vec e t (d'.toList.map (·.1.2))))=some (.obj ver fr c):=h
     simp only[Option.some.injEq,dN.obj.injEq]at h
     obtain⟨rfl,rfl,rfl⟩:=h
     exact⟨rfl,rfl,rfl,rfl⟩
    |succ k=>cases h
   |new i j=>cases i <;> cases h
  obtain⟨rfl,rfl,rfl,rfl⟩:=hid
  refine⟨hz,?_⟩
  show(match β (.dr 0) with | none=>(d'.toList.map (·.1.2))=[] | some pl=>_)
  rw[hβ]
  have hlen:(d'.toList.map (fun p:α=>p.1.2)).length=l.length:=by simpa using hd
  refine⟨_,0,hself,?_,by rw[hlen];exact q3,q4,q5,Nat.zero_le _,fun _=>rfl,?_⟩
  ·rw[←q2];simp[putCells]
  ·have e3:(putCells id 0 (flatK enc t.size d') cur).toList.take ((d'.toList.map (fun p:α=>p.1.2)).length*t.size)=(d'.toList.map enc).flatten:=by
    rw[DG hFs,pI enc hk,hlen]
    have e4:((d'.toList.map enc).flatten).length=l.length*t.size:=by
     rw[←pI enc hk,Array.length_toList,size_flatK,hd]
    rw[←e4,List.take_left]
   rw[e3]
   exact qC (Q:=Q) (fun c x h=>(hRm c x h).mono hle.mem) d'.toList
end
end Go.Ab
namespace Go.Ab
open Go.Proofs
set_option maxRecDepth 100000
set_option linter.unusedVariables false
set_option linter.unusedSimpArgs false
set_option synthInstance.maxSize 5000
abbrev gq:Ty:=(.pair eN (.pair ti .unit))
abbrev eS:=(fu×(Int×Unit))
abbrev Cg:Ty:=(.pair cj (.pair gq .unit))
abbrev zj:=(cR×(eS×Unit))
abbrev eB:Ty:=(.pair (.slice Cg) (.pair (.slice cj) .unit))
abbrev dI:=((List zj)×((List cR)×Unit))
abbrev fA:Ty:=(.pair ti (.pair gf (.pair ti .unit)))
abbrev iW:=(Int×(eT×(Int×Unit)))
abbrev fC.D:=Bs×Bs
def fC.st:fC.D→SA:=fun(a,b)=>([.d tB a,.d tB b],[])
abbrev fC.Y:=Int
abbrev fC.X:=Int
def fC.out:fC.X→bk:=fun x=>⟨.d ti x,[],[]⟩
def fC.add:fC.D→fC.Y→fC.X:=fun(a,b) y=>y
def fC.aC:fC.D→Prop:=fun _=>True
def fC.F:fC.D→fC.Y:=fun(a,b)=>uQ a b
noncomputable def fC.G:dZ:=fh (P:=Tryz.prog) [⟨156,aY,AA.E,AA.of (fn:=Tryz.f156) (by kernel_rfl) (by kernel_rfl) (by kernel_rfl) (by kernel_rfl) (by kernel_rfl)⟩]
noncomputable def fC.an:eO:= {}
noncomputable def fC.A:= @cZ Tryz.prog fC.G fC.an 0 Tryz.f82 _ fC.st
abbrev fC.Ok:=da @fC.A fC.aC fC.add fC.F fC.out
theorem fC.eq{R:Type}(a:Bs)(b:Bs)(k:bk→Option R):fC.A (a,b) k=
 ah (AA.call (a,b)) fun x1=>
 k (fC.out x1):=by kernel_rfl
theorem fC.ok:fC.Ok:=by
 rintro⟨a,b⟩ _
 rw[fC.eq,AA.run]
 rfl
noncomputable def fC.E:=Entry.cq [some tB,some tB] fC.st fC.aC fC.add fC.F fC.out
noncomputable def fC.call:fC.D→Option fC.X:=bT fC.E fC.st
theorem fC.run:bK fC.call fC.aC fC.add fC.F:=dh (de [.d tB,.d tB] fun _=>by kernel_rfl)
noncomputable def fC.sg:SG Tryz.prog:=⟨82,aY,fC.E,.fn 0 (by kernel_rfl) fC.ok trivial⟩
abbrev fm.D:=Int
def fm.st:fm.D→SA:=fun x=>([.d ti x],[])
abbrev fm.Y:=Bool
abbrev fm.X:=Bool
def fm.out:fm.X→bk:=fun x=>⟨.d .bool x,[],[]⟩
def fm.add:fm.D→fm.Y→fm.X:=fun x y=>y
def fm.aC:fm.D→Prop:=fun _=>True
def fm.F:fm.D→fm.Y:=fun _=>false
noncomputable def fm.G:dZ:=fh (P:=Tryz.prog) []
noncomputable def fm.an:eO:= {}
noncomputable def fm.A:= @cZ Tryz.prog fm.G fm.an 0 Tryz.f157 _ fm.st
abbrev fm.Ok:=da @fm.A fm.aC fm.add fm.F fm.out
theorem fm.eq{R:Type}(x:Int)(k:bk→Option R):fm.A x k=
 k (fm.out (jO x x)):=by kernel_rfl
theorem fm.ok:fm.Ok:=by
 intro x _
 rw[fm.eq]
 simp only[fm.add,fm.F,bU rfl]
noncomputable def fm.E:=Entry.cq [some ti] fm.st fm.aC fm.add fm.F fm.out
noncomputable def fm.call:fm.D→Option fm.X:=bT fm.E fm.st
theorem fm.run:bK fm.call fm.aC fm.add fm.F:=dh (de [.d ti] fun _=>by kernel_rfl)
noncomputable def fm.sg:SG Tryz.prog:=⟨157,aY,fm.E,.fn 0 (by kernel_rfl) fm.ok trivial⟩
def zA(x y:Int):Int:=if x < y then -1 else if x > y then 1 else 0
abbrev fk.D:=Int×Int
def fk.st:fk.D→SA:=fun(x,yv)=>([.d ti x,.d ti yv],[])
abbrev fk.Y:=Int
abbrev fk.X:=Int
def fk.out:fk.X→bk:=fun x=>⟨.d ti x,[],[]⟩
def fk.add:fk.D→fk.Y→fk.X:=fun(x,yv) y=>y
def fk.aC:fk.D→Prop:=fun _=>True
def fk.F:fk.D→fk.Y:=fun(x,y)=>zA x y
noncomputable def fk.G:dZ:=fh (P:=Tryz.prog) [fm.sg]
noncomputable def fk.an:eO:= {}
noncomputable def fk.A:= @cZ Tryz.prog fk.G fk.an 0 Tryz.f83 _ fk.st
abbrev fk.Ok:=da @fk.A fk.aC fk.add fk.F fk.out
theorem fk.eq{R:Type}(x:Int)(yv:Int)(k:bk→Option R):fk.A (x,yv) k=
  ah (fm.call x) fun x1=>
  ah (fm.call yv) fun x2=>
  aJ (x1) (
   aJ (x2) (
    k (fk.out (0:Int))) (
    k (fk.out (-1:Int)))) (
   aJ (x2) (
    k (fk.out (1:Int))) (
    aJ ((fX x yv)) (
     k (fk.out (-1:Int))) (
     aJ ((mP x yv)) (
      k (fk.out (1:Int))) (
      k (fk.out (0:Int)))))):=by kernel_rfl
theorem fk.ok:fk.Ok:=by
 rintro⟨x,y⟩ _
 rw[fk.eq,fm.run (d:=x) trivial]
 simp only[aa,fm.add,fm.F]
 rw[fm.run (d:=y) trivial]
 simp only[aa,fm.add,fm.F,ai,fk.add,fk.F,zA]
 by_cases h:x < y
 ·rw[bq h,ag,if_pos h]
 ·rw[bg h,ai,if_neg h]
  by_cases h2:x > y
  ·rw[dy h2,ag,if_pos h2]
  ·rw[db h2,ai,if_neg h2]
noncomputable def fk.E:=Entry.cq [some ti,some ti] fk.st fk.aC fk.add fk.F fk.out
noncomputable def fk.call:fk.D→Option fk.X:=bT fk.E fk.st
theorem fk.run:bK fk.call fk.aC fk.add fk.F:=dh (de [.d ti,.d ti] fun _=>by kernel_rfl)
noncomputable def fk.sg:SG Tryz.prog:=⟨83,aY,fk.E,.fn 0 (by kernel_rfl) fk.ok trivial⟩
abbrev eQ.L0.D:=Int×(List Int)×Int×Int
def eQ.L0.st:eQ.L0.D→AS:=fun(zero,t6,t7,t8)=>⟨([.undef,.undef,.undef,.d ti zero,.undef,.undef,.d (.slice ti) t6,.d ti t7,.d ti t8]++ba 9 []),[],(List.replicate 18 [])⟩
abbrev eQ.L0.Y0:=Int
abbrev eQ.L0.X0:=Int
def eQ.L0.bj:eQ.L0.X0→Exit×AS:=fun x=>(.ret,⟨([.undef,.undef,.d ti x]++ba 15 []),[],(List.replicate 18 [])⟩)
abbrev eQ.L0.Y1:=Unit
abbrev eQ.L0.X1:=Int
def eQ.L0.e7:eQ.L0.X1→Exit×AS:=fun x=>(.exit 0,⟨([.undef,.undef,.undef,.d ti x]++ba 14 []),[],(List.replicate 18 [])⟩)
abbrev eQ.L0.X:=(eQ.L0.X0)⊕(eQ.L0.X1)
abbrev eQ.L0.Y:=(eQ.L0.Y0)⊕(eQ.L0.Y1)
def eQ.L0.out:eQ.L0.X→Out (Exit×AS):=fun x=> .br x.isLeft (.get x.getLeft? fun a=> .ok (eQ.L0.bj a)) (.get x.getRight? fun b=> .ok (eQ.L0.e7 b))
def eQ.L0.add:eQ.L0.D→eQ.L0.Y→eQ.L0.X:=fun(zero,t6,t7,t8) y=>match y with | .inl y=> .inl y | .inr z=> .inr (zero)
abbrev eQ.D:=(List Int)
def eQ.st:eQ.D→SA:=fun gW=>([.d (.slice ti) gW],[])
abbrev eQ.Y:=Int
abbrev eQ.X:=Int
def eQ.out:eQ.X→bk:=fun x=>⟨.d ti x,[],[]⟩
def eQ.add:eQ.D→eQ.Y→eQ.X:=fun gW y=>y
def G8:List Int→Int
 |[]=>0
 |x::l=>if x≠0 then x else G8 l
def FJ:List Int→Int⊕Unit
 |[]=> .inr ()
 |x::l=>if x≠0 then .inl x else FJ l
theorem FK:∀l:List Int,G8 l=match FJ l with | .inl x=>x | .inr _=>0
 |[]=>rfl
 |x::l=>by
  simp only[G8,FJ]
  split
  ·rfl
  ·exact FK l
def eQ.L0.aC:eQ.L0.D→Prop:=fun(z,l,n,i)=>z=0∧l.length≤1000000000∧n=l.length∧∃k:Nat,k≤l.length∧i=k
def eQ.L0.F:eQ.L0.D→eQ.L0.Y:=fun(z,l,n,i)=>FJ (l.drop i.toNat)
def eQ.aC:eQ.D→Prop:=fun l=>l.length≤1000000000
def eQ.F:eQ.D→eQ.Y:=fun l=>G8 l
noncomputable def eQ.G:dZ:=fh (P:=Tryz.prog) []
noncomputable def eQ.L0.E:=bP.cq eQ.L0.st eQ.L0.aC eQ.L0.add eQ.L0.F eQ.L0.out
noncomputable def eQ.L0.call:eQ.L0.D→Option eQ.L0.X:=cX eQ.L0.E eQ.L0.st
noncomputable def eQ.an:eO:= {loops:=j7 [(3,{bm:=[3,6,7,8]})],outs:=j6 [(3,{bm:=[3]},{bm:=[2]})],fJ:=kW [(3,eQ.L0.E)]}
noncomputable def eQ.A:= @cZ Tryz.prog eQ.G eQ.an 0 Tryz.f81 _ eQ.st
abbrev eQ.Ok:=da @eQ.A eQ.aC eQ.add eQ.F eQ.out
noncomputable def eQ.L0.R:= @bX Tryz.prog eQ.G eQ.an 0 Tryz.f81 0 _ eQ.L0.st
abbrev eQ.L0.Ok:=ej Tryz.prog eQ.G eQ.an 0 Tryz.f81 0 eQ.L0.st eQ.L0.aC eQ.L0.add eQ.L0.F eQ.L0.out
theorem eQ.L0.run:bK eQ.L0.call eQ.L0.aC eQ.L0.add eQ.L0.F:=eG (eC [.d ti,.d (.slice ti),.d ti,.d ti] fun _=>by kernel_rfl)
theorem eQ.L0.aD:j5 @eQ.L0.R eQ.L0.st eQ.L0.aC eQ.L0.add eQ.L0.F eQ.L0.out eQ.L0.Ok:=kf
theorem eQ.L0.step{R:Type}(zero:Int)(t6:(List Int))(t7:Int)(t8:Int)(kn:AS→Option R)(kx:Exit→AS→Option R):eQ.L0.R (zero,t6,t7,t8) kn kx=
  aJ ((fX t8 t7)) (
   aJ (eJ t8 (((List.length t6):Nat):Int)) (
   aJ ((jO (nth ti t6 (Int.toNat t8)) zero)) (
    kx (eQ.L0.bj (nth ti t6 (Int.toNat t8))).1 (eQ.L0.bj (nth ti t6 (Int.toNat t8))).2) (
    kn (eQ.L0.st (zero,t6,t7,(bN .i64 t8 (1:Int)))))) none) (
   kx (eQ.L0.e7 zero).1 (eQ.L0.e7 zero).2):=by kernel_rfl
theorem eQ.eq{R:Type}(gW:(List Int))(k:bk→Option R):eQ.A gW k=
  ah (eQ.L0.call ((0:Int),gW,(((List.length gW):Nat):Int),(0:Int))) fun x1=>
  aJ (x1.isLeft) (
   ah (x1.getLeft?) fun a2=>
   k (eQ.out a2)) (
   ah (x1.getRight?) fun b3=>
   k (eQ.out b3)):=by kernel_rfl
theorem eQ.L0.ok:eQ.L0.Ok:=by
 refine eQ.L0.aD (fun(z,l,n,i)=>l.length - i.toNat) ?_
 rintro⟨z,l,n,i⟩ ⟨rfl,hl,rfl,k,hk,rfl⟩
 by_cases h:k < l.length
 ·have hd:l.drop k=l[k]::l.drop (k+1):=List.drop_eq_getElem_cons h
  have n1:nth ti l k=l[k]:=cm (t:=ti) h
  by_cases h2:l[k]≠0
  ·right
   refine⟨eQ.L0.bj l[k],?_,fun kn kx=> ?_⟩
   rotate_left
   ·rw[eQ.L0.step,bq (by omega),ag,bt (by omega) (by omega),ag,Int.toNat_natCast,n1,dO h2,ag]
   ·simp only[eQ.L0.add,eQ.L0.F,Int.toNat_natCast,hd,FJ,if_pos h2]
    rfl
  ·left
   refine⟨(0,l,(l.length:Int),((k+1:Nat):Int)),⟨rfl,hl,rfl,k+1,by omega,rfl⟩,by simp only[Int.toNat_natCast];omega,?_,fun kn kx=> ?_⟩
   ·simp only[eQ.L0.add,eQ.L0.F,Int.toNat_natCast,hd,FJ,if_neg h2]
   ·rw[eQ.L0.step,bq (by omega),ag,bt (by omega) (by omega),ag,Int.toNat_natCast,n1,bU (by omega),ai,N.j4 (by omega)]
 ·right
  obtain rfl:k=l.length:=by omega
  refine⟨eQ.L0.e7 0,?_,fun kn kx=> ?_⟩
  rotate_left
  ·rw[eQ.L0.step,bg (by omega),ai]
  ·simp only[eQ.L0.add,eQ.L0.F,Int.toNat_natCast,List.drop_length,FJ]
   rfl
theorem eQ.ok:eQ.Ok:=by
 intro l hl
 rw[eQ.eq,eQ.L0.run (d:=(0,l,(l.length:Int),0)) ⟨rfl,hl,rfl,0,Nat.zero_le _,rfl⟩]
 simp only[aa,eQ.L0.add,eQ.L0.F,Int.toNat_zero,List.drop_zero,eQ.add,eQ.F]
 rw[FK]
 cases FJ l <;> rfl
noncomputable def eQ.E:=Entry.cq [some (.slice ti)] eQ.st eQ.aC eQ.add eQ.F eQ.out
noncomputable def eQ.call:eQ.D→Option eQ.X:=bT eQ.E eQ.st
theorem eQ.run:bK eQ.call eQ.aC eQ.add eQ.F:=dh (de [.d (.slice ti)] fun _=>by kernel_rfl)
noncomputable def eQ.sg:SG Tryz.prog:=⟨81,aY,eQ.E,.fn 1 (by kernel_rfl) eQ.ok (And.intro (.cq eQ.L0.ok (by kernel_rfl)) trivial)⟩
abbrev fD.D:=cR×cR
def fD.st:fD.D→SA:=fun(a,b)=>([.d cj a,.d cj b],[])
abbrev fD.Y:=Int
abbrev fD.X:=Int
def fD.out:fD.X→bk:=fun x=>⟨.d ti x,[],[]⟩
def fD.add:fD.D→fD.Y→fD.X:=fun(a,b) y=>y
def pz(a b:cR):Int:=G8 [uQ a.1 b.1,zA a.2.1 b.2.1]
def fD.aC:fD.D→Prop:=fun(a,b)=>a.1.length=32∧b.1.length=32
def fD.F:fD.D→fD.Y:=fun(a,b)=>pz a b
noncomputable def fD.G:dZ:=fh (P:=Tryz.prog) [fC.sg,fk.sg,eQ.sg]
noncomputable def fD.an:eO:= {}
noncomputable def fD.A:= @cZ Tryz.prog fD.G fD.an 0 Tryz.f80 _ fD.st
abbrev fD.Ok:=da @fD.A fD.aC fD.add fD.F fD.out
theorem fD.eq{R:Type}(a:cR)(b:cR)(k:bk→Option R):fD.A (a,b) k=
 ah (fC.call ((cut a.1 0 32),(cut b.1 0 32))) fun x1=>
 ah (fk.call (a.2.1,b.2.1)) fun x2=>
 ah (eQ.call [x1,x2]) fun x3=>
 k (fD.out x3):=by kernel_rfl
theorem fD.ok:fD.Ok:=by
 rintro⟨a,b⟩ ⟨ha,hb⟩
 have ha:a.1.length=32:=ha
 have hb:b.1.length=32:=hb
 have c1:cut a.1 0 32=a.1:=fc ha
 have c2:cut b.1 0 32=b.1:=fc hb
 rw[fD.eq,c1,c2,fC.run (d:=(a.1,b.1)) trivial]
 simp only[aa,fC.add,fC.F]
 rw[fk.run (d:=(a.2.1,b.2.1)) trivial]
 simp only[aa,fk.add,fk.F]
 rw[eQ.run (d:=[uQ a.1 b.1,zA a.2.1 b.2.1]) (by show 2≤_;decide)]
 simp only[aa,eQ.add,eQ.F,fD.add,fD.F,pz]
noncomputable def fD.E:=Entry.cq [some cj,some cj] fD.st fD.aC fD.add fD.F fD.out
noncomputable def fD.call:fD.D→Option fD.X:=bT fD.E fD.st
theorem fD.run:bK fD.call fD.aC fD.add fD.F:=dh (de [.d cj,.d cj] fun _=>by kernel_rfl)
noncomputable def fD.sg:SG Tryz.prog:=⟨80,aY,fD.E,.fn 0 (by kernel_rfl) fD.ok trivial⟩
def lx:List Int→List Int→Int
 |x::xs,y::ys=>if x≠y then(if x < y then -1 else 1) else lx xs ys
 |_,_=>0
theorem AY:∀a,lx a a=0
 |[]=>rfl
 |x::a=>by simp[lx,AY a]
theorem FE:∀ {a b:List Int},a.length=b.length→lx a b=0→a=b
 |[],[],_,_=>rfl
 |[],_::_,h,_=>by simp at h
 |_::_,[],h,_=>by simp at h
 |x::a,y::b,h,h2=>by
  simp only[lx]at h2
  split at h2
  ·split at h2 <;> omega
  ·rename_i e
   have e:x=y:=by omega
   rw[e,FE (by simpa using h) h2]
theorem tQ:∀a b:List Int,lx b a= - lx a b
 |[],[]=>rfl
 |[],_::_=>rfl
 |_::_,[]=>rfl
 |x::a,y::b=>by
  simp only[lx]
  by_cases h:x=y
  ·rw[if_neg (by omega),if_neg (by omega),tQ a b]
  ·rw[if_pos (by omega),if_pos h]
   by_cases h2:x < y
   ·rw[if_neg (by omega),if_pos h2];rfl
   ·rw[if_pos (by omega),if_neg h2]
theorem tR:∀ {a b c:List Int},a.length=b.length→b.length=c.length→lx a b≤0→lx b c≤0→lx a c≤0∧(lx a c=0→lx a b=0∧lx b c=0)
 |[],[],[],_,_,_,_=>by simp[lx]
 |x::a,y::b,z::c,h1,h2,h3,h4=>by
  have ih:=tR (a:=a) (b:=b) (c:=c) (by simpa using h1) (by simpa using h2)
  simp only[lx]at h3 h4 ⊢
  by_cases e1:x=y
  ·by_cases e2:y=z
   ·rw[if_neg (by omega)]at h3 h4
    rw[if_neg (by omega),if_neg (by omega),if_neg (by omega)]
    exact ih h3 h4
   ·rw[if_neg (by omega)]at h3
    rw[if_pos e2]at h4
    rw[if_pos (by omega)]
    by_cases e3:y < z
    ·rw[if_pos (by omega)]
     exact⟨by omega,fun h=>by omega⟩
    ·rw[if_neg e3]at h4;omega
  ·rw[if_pos e1]at h3
   by_cases e3:x < y
   ·by_cases e2:y=z
    ·rw[if_pos (by omega),if_pos (by omega)]
     exact⟨by omega,fun h=>by omega⟩
    ·rw[if_pos e2]at h4
     by_cases e4:y < z
     ·rw[if_pos (by omega),if_pos (by omega)]
      exact⟨by omega,fun h=>by omega⟩
     ·rw[if_neg e4]at h4;omega
   ·rw[if_neg e3]at h3;omega
 |[],_::_,_,h,_,_,_=>by simp at h
 |_::_,[],_,h,_,_,_=>by simp at h
 |_,[],_::_,_,h,_,_=>by simp at h
 |_,_::_,[],_,h,_,_=>by simp at h
def H5(a b:Int):Int:=if a=0 then b else a
theorem wT{p:Int}{a b:List Int}:lx (p::a) (p::b)=lx a b:=by simp[lx]
theorem rD{p q:Int}{a b:List Int}(h:¬p=q):lx (p::a) (q::b)=if p < q then -1 else 1:=by simp[lx,h]
theorem AX:∀ {a b:List Int} (x y:Int),a.length=b.length→lx (a++ [x]) (b++ [y])=H5 (lx a b) (zA x y)
 |[],[],x,y,_=>by
  show lx [x] [y]=H5 0 (zA x y)
  simp only[H5,if_true]
  unfold zA
  by_cases h:x=y
  ·subst h
   rw[wT,if_neg (by omega),if_neg (by omega)]
   rfl
  ·rw[rD h]
   by_cases h2:x < y
   ·rw[if_pos h2,if_pos h2]
   ·rw[if_neg h2,if_neg h2,if_pos (by omega)]
 |[],_::_,_,_,h=>by simp at h
 |_::_,[],_,_,h=>by simp at h
 |p::a,q::b,x,y,h=>by
  show lx (p::(a++ [x])) (q::(b++ [y]))=_
  by_cases h2:p=q
  ·subst h2
   rw[wT,wT]
   exact AX x y (by simpa using h)
  ·rw[rD h2,rD h2]
   by_cases h3:p < q
   ·rw[if_pos h3];rfl
   ·rw[if_neg h3];rfl
def CO:List UInt8→List UInt8→Int
 |x::xs,y::ys=>if x !=y then(if x < y then -1 else 1) else CO xs ys
 |_,_=>0
theorem xL:∀(xs ys:List UInt8),xs.length=ys.length→(match(List.range xs.length).find? fun i=>xs[i]! !=ys[i]! with | some i=>if xs[i]! < ys[i]! then(-1:Int) else 1 | none=>0)=CO xs ys
 |[],[],_=>rfl
 |[],_::_,h=>by simp at h
 |_::_,[],h=>by simp at h
 |x::xs,y::ys,h=>by
  have ih:=xL xs ys (by simpa using h)
  rw[List.length_cons,List.range_succ_eq_map,List.find?_cons]
  simp only[List.getElem!_cons_zero,CO]
  cases hb:(x !=y) with
  |true=>simp
  |false=>
   simp only[Bool.false_eq_true,if_false]
   rw[List.find?_map,←ih]
   have e:((fun i=>(x::xs)[i]! !=(y::ys)[i]!)∘Nat.succ)=fun i=>xs[i]! !=ys[i]! :=by
    funext i;simp
   rw[e]
   cases(List.range xs.length).find? fun i=>xs[i]! !=ys[i]! <;> simp
theorem AG:∀ {a b:List Int},(∀x∈a,0≤x∧x < 256)→(∀x∈b,0≤x∧x < 256)→CO (a.map fun n=>UInt8.ofNat n.toNat) (b.map fun n=>UInt8.ofNat n.toNat)=lx a b
 |[],_,_,_=>by cases ‹List Int› <;> rfl
 |_::_,[],_,_=>rfl
 |x::a,y::b,ha,hb=>by
  have hx:=ha x (List.mem_cons_self ..)
  have hy:=hb y (List.mem_cons_self ..)
  have ih:=AG (a:=a) (b:=b) (fun z hz=>ha z (List.mem_cons_of_mem _ hz)) (fun z hz=>hb z (List.mem_cons_of_mem _ hz))
  simp only[List.map_cons,CO,lx,ih]
  have e1:(UInt8.ofNat x.toNat).toNat=x.toNat:=by simp[UInt8.toNat_ofNat];omega
  have e2:(UInt8.ofNat y.toNat).toNat=y.toNat:=by simp[UInt8.toNat_ofNat];omega
  by_cases h:x=y
  ·subst h;simp
  ·have hne:(UInt8.ofNat x.toNat !=UInt8.ofNat y.toNat)=true:=by
    rw[bne_iff_ne]
    intro e
    have:=congrArg UInt8.toNat e
    rw[e1,e2]at this
    omega
   rw[hne,if_pos rfl,if_pos h]
   have hlt:UInt8.ofNat x.toNat < UInt8.ofNat y.toNat↔x < y:=by
    rw[UInt8.lt_iff_toNat_lt,e1,e2];omega
   by_cases h2:x < y
   ·rw[if_pos (hlt.2 h2),if_pos h2]
   ·rw[if_neg (fun e=>h2 (hlt.1 e)),if_neg h2]
theorem Ey{a b:List Int}(hl:a.length=b.length)(ha:∀x∈a,0≤x∧x < 256)(hb:∀x∈b,0≤x∧x < 256):uQ a b=lx a b:=by
 rw[←AG ha hb,←xL _ _ (by simpa using hl)]
 unfold uQ Extern.BytealgCompare.cmp
 have s1:∀l:List Int,(eM l).size=l.length:=fun l=>by simp[eM,ByteArray.size]
 have g1:∀(l:List Int) (i:Nat),(eM l)[i]! =(l.map fun n=>UInt8.ofNat n.toNat)[i]! :=fun l i=>by
  by_cases h:i < (eM l).size
  ·rw[getElem!_pos _ i h]
   have h2:i < (l.map fun n=>UInt8.ofNat n.toNat).length:=by simpa[eM,ByteArray.size]using h
   rw[getElem!_pos _ i h2]
   rfl
  ·rw[getElem!_neg _ i h]
   have h2:¬i < (l.map fun n=>UInt8.ofNat n.toNat).length:=by simpa[eM,ByteArray.size]using h
   rw[getElem!_neg _ i h2]
 simp only[s1,g1,hl,Nat.min_self,List.length_map]
 cases(List.range b.length).find? fun i=>(a.map fun n=>UInt8.ofNat n.toNat)[i]! !=(b.map fun n=>UInt8.ofNat n.toNat)[i]! <;> simp
def xq(o:cR):Prop:=o.1.length=32∧∀x∈o.1,0≤x∧x < 256
def lY(o:cR):List Int:=o.1++ [o.2.1]
theorem ji{o:cR}(h:xq o):(lY o).length=33:=by simp[lY,h.1]
theorem DA{a b:cR}(ha:xq a)(hb:xq b)(h:lY a=lY b):a=b:=by
 obtain⟨a1,a2,_⟩:=a
 obtain⟨b1,b2,_⟩:=b
 have h:a1++ [a2]=b1++ [b2]:=h
 have:=List.append_inj' h rfl
 rw[this.1,show a2=b2 by simpa using this.2]
theorem lA{a b:cR}(ha:xq a)(hb:xq b):pz a b=lx (lY a) (lY b):=by
 unfold lY pz
 rw[AX _ _ (ha.1.trans hb.1.symm),Ey (ha.1.trans hb.1.symm) ha.2 hb.2]
 simp only[G8,H5]
 by_cases h:lx a.1 b.1=0
 ·rw[if_pos h,if_neg (fun e=>e h)]
  split
  ·rfl
  ·omega
 ·rw[if_neg h,if_pos h]
theorem qe:GY Tryz.prog cj 80 xq pz:= {
 bW:=⟨fD.E,fD.sg.h,fun x y hx hy=>⟨_,fD.run (d:=(x,y)) ⟨hx.1,hy.1⟩,rfl⟩⟩
 enters:=enters_of Tryz.func80 (by kernel_rfl) rfl
 irrefl:=fun x hx=>by rw[lA hx hx,AY];decide
 trans:=fun x y z hx hy hz h1 h2=>by
  rw[lA hx hy]at h1
  rw[lA hy hz]at h2
  rw[lA hx hz]
  have:=tR (by rw[ji hx,ji hy]) (by rw[ji hy,ji hz]) (by omega:lx (lY x) (lY y)≤0) (by omega:lx (lY y) (lY z)≤0)
  have h3:=this.1
  by_cases h4:lx (lY x) (lY z)=0
  ·have:=(this.2 h4).1;omega
  ·omega
 ntrans:=fun x y z hx hy hz h1 h2=>by
  rw[lA hx hy]at h1
  rw[lA hy hz]at h2
  rw[lA hx hz]
  have e1:=tQ (lY x) (lY y)
  have e2:=tQ (lY y) (lY z)
  have e3:=tQ (lY x) (lY z)
  have:=(tR (by rw[ji hz,ji hy]) (by rw[ji hy,ji hx]) (by omega:lx (lY z) (lY y)≤0) (by omega:lx (lY y) (lY x)≤0)).1
  omega}
theorem tc{x y:cR}(hx:xq x)(hy:xq y)(h1:¬pz x y < 0)(h2:¬pz y x < 0):x=y:=by
 rw[lA hx hy]at h1
 rw[lA hy hx,tQ]at h2
 exact DA hx hy (FE (by rw[ji hx,ji hy]) (by omega))
end Go.Ab
namespace Go.Proofs
open Go.Shelf
def Tryz.Ak:Go.Shelf.Ren:=⟨fun | 6=>79 | 15=>155 | 14=>154 | 28=>214 | 29=>215 | 20=>206 | 21=>207 | 22=>208 | 23=>209 | 24=>210 | 25=>211 | 26=>212 | 27=>213 | 46=>255 | 47=>256 | 48=>257 | 49=>258 | 50=>259 | 57=>279 | n=>n,fun | 22=>58 | 24=>47 | 25=>157 | 3=>3 | 39=>224 | 0=>0 | 53=>255 | 55=>22 | 4=>4 | 46=>265 | 45=>264 | 50=>66 | 5=>5 | 9=>9 | 66=>298 | 70=>301 | 76=>313 | 77=>314 | n=>n,fun | n=>n⟩
theorem Tryz.GL:Go.Proofs.SlLaysF0.n6 Tryz.prog Tryz.Ak:= {
 mixed:=by kernel_rfl
 f6:=⟨Tryz.f79.name,by decide,Tryz.func79.trans (congrArg some (by kernel_rfl))⟩
 f14:=⟨Tryz.f154.name,by decide,Tryz.func154.trans (congrArg some (by kernel_rfl))⟩
 f15:=Tryz.func155.trans (congrArg some (by kernel_rfl))
 f20:=⟨Tryz.f206.name,by decide,Tryz.func206.trans (congrArg some (by kernel_rfl))⟩
 f21:=⟨Tryz.f207.name,by decide,Tryz.func207.trans (congrArg some (by kernel_rfl))⟩
 f22:=⟨Tryz.f208.name,by decide,Tryz.func208.trans (congrArg some (by kernel_rfl))⟩
 f23:=⟨Tryz.f209.name,by decide,Tryz.func209.trans (congrArg some (by kernel_rfl))⟩
 f24:=⟨Tryz.f210.name,by decide,Tryz.func210.trans (congrArg some (by kernel_rfl))⟩
 f25:=⟨Tryz.f211.name,by decide,Tryz.func211.trans (congrArg some (by kernel_rfl))⟩
 f26:=⟨Tryz.f212.name,by decide,Tryz.func212.trans (congrArg some (by kernel_rfl))⟩
 f27:=⟨Tryz.f213.name,by decide,Tryz.func213.trans (congrArg some (by kernel_rfl))⟩
 f28:=Tryz.func214.trans (congrArg some (by kernel_rfl))
 f29:=Tryz.func215.trans (congrArg some (by kernel_rfl))
 f46:=⟨Tryz.f255.name,by decide,Tryz.func255.trans (congrArg some (by kernel_rfl))⟩
 f47:=Tryz.func256.trans (congrArg some (by kernel_rfl))
 f48:=Tryz.func257.trans (congrArg some (by kernel_rfl))
 f49:=⟨Tryz.f258.name,by decide,Tryz.func258.trans (congrArg some (by kernel_rfl))⟩
 f50:=⟨Tryz.f259.name,by decide,Tryz.func259.trans (congrArg some (by kernel_rfl))⟩
 f57:=⟨Tryz.f279.name,by decide,Tryz.func279.trans (congrArg some (by kernel_rfl))⟩
 t0:=Tryz.underlying0
 a0:=Tryz.isAgg0
 z0:=Tryz.sizeOf0
 v0:=Tryz.zeroValue0
 t3:=Tryz.underlying3
 a3:=Tryz.isAgg3
 z3:=Tryz.sizeOf3
 v3:=Tryz.zeroValue3
 t4:=Tryz.underlying4
 a4:=Tryz.isAgg4
 z4:=Tryz.sizeOf4
 v4:=Tryz.zeroValue4
 t5:=Tryz.underlying5
 a5:=Tryz.isAgg5
 z5:=Tryz.sizeOf5
 v5:=Tryz.zeroValue5
 t9:=Tryz.underlying9
 a9:=Tryz.isAgg9
 z9:=Tryz.sizeOf9
 v9:=Tryz.zeroValue9
 t22:=Tryz.underlying58
 a22:=Tryz.isAgg58
 z22:=Tryz.sizeOf58
 v22:=Tryz.zeroValue58
 t25:=Tryz.underlying157
 a25:=Tryz.isAgg157
 z25:=Tryz.sizeOf157
 v25:=Tryz.zeroValue157
 t39:=Tryz.underlying224
 a39:=Tryz.isAgg224
 z39:=Tryz.sizeOf224
 v39:=Tryz.zeroValue224
 t45:=Tryz.underlying264
 a45:=Tryz.isAgg264
 z45:=Tryz.sizeOf264
 v45:=Tryz.zeroValue264
 t46:=Tryz.underlying265
 a46:=Tryz.isAgg265
 z46:=Tryz.sizeOf265
 v46:=Tryz.zeroValue265
 t50:=Tryz.underlying66
 a50:=Tryz.isAgg66
 z50:=Tryz.sizeOf66
 v50:=Tryz.zeroValue66
 t53:=Tryz.underlying255
 a53:=Tryz.isAgg255
 z53:=Tryz.sizeOf255
 v53:=Tryz.zeroValue255
 t55:=Tryz.underlying22
 a55:=Tryz.isAgg22
 z55:=Tryz.sizeOf22
 v55:=Tryz.zeroValue22
 t66:=Tryz.underlying298
 a66:=Tryz.isAgg298
 z66:=Tryz.sizeOf298
 v66:=Tryz.zeroValue298
 t70:=Tryz.underlying301
 a70:=Tryz.isAgg301
 z70:=Tryz.sizeOf301
 v70:=Tryz.zeroValue301
 t76:=Tryz.underlying313
 a76:=Tryz.isAgg313
 z76:=Tryz.sizeOf313
 v76:=Tryz.zeroValue313
 t77:=Tryz.underlying314
 a77:=Tryz.isAgg314
 z77:=Tryz.sizeOf314
 v77:=Tryz.zeroValue314}
end Go.Proofs
namespace Go.Ab
open Go.Proofs
set_option maxRecDepth 100000
set_option linter.unusedVariables false
set_option linter.unusedSimpArgs false
set_option synthInstance.maxSize 5000
noncomputable def y6.E:Entry:=Fi 80 47 cj xq pz
noncomputable def y6.call:Nat×List cR→Option (Nat×List cR):=xf 80 47 cj xq pz
theorem y6.run{d:Nat×List cR}(h:uu (t:=cj) xq pz d):y6.call d=some (d.1,pQ (t:=cj) pz d.2):=Bd h
noncomputable def y6.sg:SG Tryz.prog:=⟨79,aY,y6.E,D1 Tryz.GL (by rfl) (fun w=>Tryz.isAgg47 w) (fun w=>Tryz.sizeOf47 w) qe⟩
abbrev bF.L0.D:=Nat×Nat×(List (cR×eS))×(List dI)×(List (cR×eS))×(List cR)
def bF.L0.st:bF.L0.D→AS:=fun(outL,o0L,o1_2,o2_2,n9,n17)=>⟨([.undef,.undef,.undef,.bI (.new 17 0) 0 [] 0 0 outL]++ba 5 ([.ptr (.new 9 0) 0 [] 0]++ba 11 [])),[.obj 0 false (.pr (.eH (.dr 1) 0) (.pr (.bI (.dr 2) 0 [] 0 0 o0L) (.d .unit ()))),.obj 0 true (.mp cj gq o1_2),.obj 0 false (.vec 161 eB o2_2)],(bE 9 ([[.obj 0 false (.jC (.dr 1) 1 cj gq n9 none)]]++bE 7 [[.obj 0 false (.vec 47 cj n17)],[],[],[]]))⟩
abbrev bF.L0.Y0:=Nat×(List cR)
abbrev bF.L0.X0:=(Nat×(List (cR×eS))×(List dI))×(Nat×(List cR))
def bF.L0.bj:bF.L0.X0→Exit×AS:=fun x=>(.exit 0,⟨([.undef,.undef,.undef,.bI (.new 17 0) 0 [] 0 0 x.2.1]++ba 17 []),[.obj 0 false (.pr (.eH (.dr 1) 0) (.pr (.bI (.dr 2) 0 [] 0 0 x.1.1) (.d .unit ()))),.obj 0 false (.mp cj gq x.1.2.1),.obj 0 false (.vec 161 eB x.1.2.2)],(bE 17 [[.obj 0 false (.vec 47 cj x.2.2)],[],[],[]])⟩)
abbrev bF.L0.X:=bF.L0.X0
abbrev bF.L0.Y:=bF.L0.Y0
def bF.L0.out:bF.L0.X→Out (Exit×AS):=fun x=> .ok (bF.L0.bj x)
def bF.L0.add:bF.L0.D→bF.L0.Y→bF.L0.X:=fun(outL,o0L,o1_2,o2_2,n9,n17) y=>((o0L,o1_2,o2_2),y)
abbrev bF.D:=Nat×(List (cR×eS))×(List dI)
def bF.st:bF.D→SA:=fun(o0baL,o1,o2)=>([.ptr (.dr 0) 0 [] 0],[.obj 0 false (.pr (.eH (.dr 1) 0) (.pr (.bI (.dr 2) 0 [] 0 0 o0baL) (.d .unit ()))),.obj 0 false (.mp cj gq o1),.obj 0 false (.vec 161 eB o2)])
abbrev bF.Y:=Nat×Nat×(List (cR×eS))×(List dI)×(List cR)
abbrev bF.X:=Nat×Nat×(List (cR×eS))×(List dI)×(List cR)
def bF.out:bF.X→bk:=fun x=>⟨.bI (.new 0 0) 0 [] 0 0 x.1,[.obj 0 false (.pr (.eH (.dr 1) 0) (.pr (.bI (.dr 2) 0 [] 0 0 x.2.1) (.d .unit ()))),.obj 0 false (.mp cj gq x.2.2.1),.obj 0 false (.vec 161 eB x.2.2.2.1)],[.obj 0 false (.vec 47 cj x.2.2.2.2)]⟩
def bF.add:bF.D→bF.Y→bF.X:=fun(o0baL,o1,o2) y=>y
def gb(l:List (cR×eS)):Int:=(l.map fun p=>p.2.1.1).sum
theorem gR(p:cR×eS)(l:List (cR×eS)):gb (p::l)=p.2.1.1+gb l:=by simp[gb]
theorem xz(l l':List (cR×eS)):gb (l++l')=gb l+gb l':=by simp[gb]
theorem re{l l':List (cR×eS)}(h:l.Perm l'):gb l=gb l':=by
 induction h with
 |nil=>rfl
 |cons x _ ih=>rw[gR,gR,ih]
 |swap x y l=>rw[gR,gR,gR,gR];omega
 |trans _ _ h1 h2=>rw[h1,h2]
theorem pE{α:Type}{l:List α}{j:Nat}(h:j < l.length):l.Perm (l[j]::l.eraseIdx j):=by
 induction l generalizing j with
 |nil=>simp at h
 |cons x l ih=>
  cases j with
  |zero=>exact List.Perm.refl _
  |succ j=>
   have h:j < l.length:=by simpa using h
   simp only[List.getElem_cons_succ,List.eraseIdx_cons_succ]
   exact((ih h).cons x).trans (List.Perm.swap _ _ _)
theorem sV{kt vt:Ty}{l:List (kt.den×vt.den)}{j:Nat}(h:j < l.length):kN kt vt l j=l[j]:=by
 simp[kN,List.getD_eq_getElem?_getD,List.getElem?_eq_getElem h]
def bF.L0.aC:bF.L0.D→Prop:=fun(n,_,_,_,rest,out)=>n=out.length∧out.length+rest.length≤1000000
def bF.L0.iP:bF.L0.D→bF.L0.Y→Prop:=fun(_,_,_,_,rest,out) (m,out')=>m=out'.length∧out'.Perm (out++rest.map (·.1))
def bF.aC:bF.D→Prop:=fun(_,a,_)=>a.length≤1000000∧∀p∈a,xq p.1
noncomputable def bF.F:bF.D→bF.Y:=fun(n,a,s)=>(a.length,n,a,s,pQ (t:=cj) pz (a.map (·.1)))
noncomputable def bF.G:dZ:=fh (P:=Tryz.prog) [y6.sg]
noncomputable def bF.L0.E:=bP.EX bF.L0.st bF.L0.aC bF.L0.add bF.L0.iP bF.L0.out
def bF.L0.set:bF.L0.D→bF.L0.X→Prop:=HP bF.L0.st bF.L0.aC bF.L0.add bF.L0.iP
noncomputable def bF.an:eO:= {loops:=j7 [(3,{bm:=[3,9],sites:=[9,17],ij:=[⟨3,[],17,58⟩],HA:=[9]})],outs:=j6 [(3,{bm:=[3],sites:=[17]},{bm:=[2]})],fJ:=kW [(3,bF.L0.E)]}
noncomputable def bF.A:= @cZ Tryz.prog bF.G bF.an 0 Tryz.f28 _ bF.st
abbrev bF.Ok:=da @bF.A bF.aC bF.add bF.F bF.out
noncomputable def bF.L0.R:= @bX Tryz.prog bF.G bF.an 0 Tryz.f28 0 _ bF.L0.st
abbrev bF.L0.Ok:=Av Tryz.prog bF.G bF.an 0 Tryz.f28 0 bF.L0.st bF.L0.aC bF.L0.add bF.L0.iP bF.L0.out
theorem bF.L0.run:Hf bF.L0.set bF.L0.aC bF.L0.add bF.L0.iP:=IE (eC [.n,.n,.d (.slice (.pair cj gq)),.d (.slice eB),.d (.slice (.pair cj gq)),.d (.slice cj)] fun _=>by kernel_rfl)
theorem bF.L0.aD:Fu @bF.L0.R bF.L0.st bF.L0.aC bF.L0.add bF.L0.iP bF.L0.bj bF.L0.Ok:=Hk
theorem bF.L0.step{R:Type}(outL:Nat)(o0L:Nat)(o1_2:(List (cR×eS)))(o2_2:(List dI))(n9:(List (cR×eS)))(n17:(List cR))(kn:AS→Option R)(kx:Exit→AS→Option R):bF.L0.R (outL,o0L,o1_2,o2_2,n9,n17) kn kx=
  aJ (decide (0 < (List.length n9))) (
   Cn (List.length n9) fun j1=>
   aJ (decide (outL≤(List.length n17))) (
   aJ (dq (outL+1) 40) (
   kn (bF.L0.st ((outL+1),o0L,o1_2,o2_2,(List.eraseIdx n9 j1),((List.take outL n17)++ [(kN cj gq n9 j1).1])))) none) none) (
   kx (bF.L0.bj ((o0L,o1_2,o2_2),(outL,n17))).1 (bF.L0.bj ((o0L,o1_2,o2_2),(outL,n17))).2):=by kernel_rfl
theorem bF.eq{R:Type}(o0baL:Nat)(o1:(List (cR×eS)))(o2:(List dI))(k:bk→Option R):bF.A (o0baL,o1,o2) k=
 zF (bF.L0.set (0,o0baL,o1,o2,o1,([]:List cR))) fun x3=>
 ah (y6.call (x3.2.1,x3.2.2)) fun x4=>
 k (bF.out (x3.2.1,x3.1.1,x3.1.2.1,x3.1.2.2,x4.2)):=by kernel_rfl
theorem bF.L0.ok:bF.L0.Ok:=by
 refine bF.L0.aD (fun(n,_,_,_,rest,out)=>rest.length) ?_
 rintro⟨n,o,a,s,rest,out⟩ ⟨rfl,hl⟩
 have hl:out.length+rest.length≤1000000:=hl
 by_cases h:0 < rest.length
 ·left
  refine⟨rest.length,fun j=>(out.length+1,o,a,s,rest.eraseIdx j,out++ [(kN cj gq rest j).1]),h,fun j hj=>⟨⟨by simp,?_⟩,?_,fun y hy=>⟨y,?_,rfl⟩⟩,fun kn kx=> ?_⟩
  ·show(out++ [_]).length+(rest.eraseIdx j).length≤1000000
   rw[List.length_append,List.length_eraseIdx,if_pos hj]
   simp only[List.length_cons,List.length_nil]
   omega
  ·show(rest.eraseIdx j).length < rest.length
   rw[List.length_eraseIdx,if_pos hj]
   omega
  ·obtain⟨m,out'⟩:=y
   obtain⟨h1,h2⟩:=hy
   refine⟨h1,h2.trans ?_⟩
   rw[sV hj,List.append_assoc]
   refine List.Perm.append_left _ ?_
   have:=((pE hj).map (·.1)).symm
   exact this
  ·rw[bF.L0.step,aX h,ag]
   congr 1
   funext j
   rw[aX (Nat.le_refl _),ag,ed (by omega) (by omega),ag,List.take_length]
 ·right
  obtain rfl:rest=[]:=List.eq_nil_of_length_eq_zero (by omega)
  refine⟨(out.length,out),⟨rfl,by simp⟩,fun kn kx=> ?_⟩
  rw[bF.L0.step,bz h,ai]
  rfl
theorem Ce{l l':List cR}(h:l.Perm l')(hq:∀x∈l',xq x):pQ (t:=cj) pz l=pQ (t:=cj) pz l':=by
 have hq':∀x∈l,xq x:=fun x hx=>hq x (h.mem_iff.1 hx)
 have h1:=xg qe hq'
 exact uv qe hq (fun x hx y hy a b=>tc (hq x hx) (hq y hy) a b) ⟨h1.1.trans h,h1.2⟩
theorem bF.ok:bF.Ok:=by
 rintro⟨n,a,s⟩ ⟨hl,hq⟩
 have hl:a.length≤1000000:=hl
 rw[bF.eq]
 refine bF.L0.run (d:=(0,n,a,s,a,[])) ⟨rfl,by show 0+a.length≤_;omega⟩ ⟨(a.length,a.map (·.1)),by show a.length=(a.map (·.1)).length;simp,by simp⟩ fun y hy=> ?_
 obtain⟨m,out⟩:=y
 obtain⟨h1,hp⟩:=hy
 have h1:m=out.length:=h1
 subst h1
 have hp:out.Perm (a.map (·.1)):=by simpa using hp
 have hq':∀x∈a.map (·.1),xq x:=fun x hx=>by obtain⟨p,hp,rfl⟩:=List.mem_map.1 hx;exact hq p hp
 have hlen:out.length=a.length:=by rw[hp.length_eq,List.length_map]
 simp only[bF.L0.add]
 rw[y6.run (d:=(out.length,out)) ⟨rfl,by show out.length < _;omega,fun x hx=>hq' x (hp.mem_iff.1 hx),fun x hx y hy h1 h2=>tc (hq' x (hp.mem_iff.1 hx)) (hq' y (hp.mem_iff.1 hy)) h1 h2⟩]
 simp only[aa,bF.add,bF.F]
 rw[Ce hp hq',hlen]
noncomputable def bF.E:=Entry.cq [none] bF.st bF.aC bF.add bF.F bF.out
noncomputable def bF.call:bF.D→Option bF.X:=bT bF.E bF.st
theorem bF.run:bK bF.call bF.aC bF.add bF.F:=dh (de [.n,.d (.slice (.pair cj gq)),.d (.slice eB)] fun _=>by kernel_rfl)
noncomputable def bF.sg:SG Tryz.prog:=⟨28,aY,bF.E,.fn 1 (by kernel_rfl) bF.ok (And.intro (.EX bF.L0.ok (by kernel_rfl)) trivial)⟩
abbrev bC.L0.D:=Int×Nat×(List (cR×eS))×(List dI)×(List (cR×eS))
def bC.L0.st:bC.L0.D→AS:=fun(sum,o0L,o1_2,o2_2,n10)=>⟨([.undef,.undef,.undef,.d ti sum]++ba 6 ([.ptr (.new 10 0) 0 [] 0]++ba 10 [])),[.obj 0 false (.pr (.eH (.dr 1) 0) (.pr (.bI (.dr 2) 0 [] 0 0 o0L) (.d .unit ()))),.obj 0 true (.mp cj gq o1_2),.obj 0 false (.vec 161 eB o2_2)],(bE 10 ([[.obj 0 false (.jC (.dr 1) 1 cj gq n10 none)]]++bE 10 []))⟩
abbrev bC.L0.Y0:=Int
abbrev bC.L0.X0:=(Nat×(List (cR×eS))×(List dI))×(Int)
def bC.L0.bj:bC.L0.X0→Exit×AS:=fun x=>(.exit 0,⟨([.undef,.undef,.undef,.d ti x.2]++ba 17 []),[.obj 0 false (.pr (.eH (.dr 1) 0) (.pr (.bI (.dr 2) 0 [] 0 0 x.1.1) (.d .unit ()))),.obj 0 false (.mp cj gq x.1.2.1),.obj 0 false (.vec 161 eB x.1.2.2)],(List.replicate 21 [])⟩)
abbrev bC.L0.X:=bC.L0.X0
abbrev bC.L0.Y:=bC.L0.Y0
def bC.L0.out:bC.L0.X→Out (Exit×AS):=fun x=> .ok (bC.L0.bj x)
def bC.L0.add:bC.L0.D→bC.L0.Y→bC.L0.X:=fun(sum,o0L,o1_2,o2_2,n10) y=>((o0L,o1_2,o2_2),y)
abbrev bC.D:=Nat×(List (cR×eS))×(List dI)
def bC.st:bC.D→SA:=fun(o0baL,o1,o2)=>([.ptr (.dr 0) 0 [] 0],[.obj 0 false (.pr (.eH (.dr 1) 0) (.pr (.bI (.dr 2) 0 [] 0 0 o0baL) (.d .unit ()))),.obj 0 false (.mp cj gq o1),.obj 0 false (.vec 161 eB o2)])
abbrev bC.Y:=Int×Nat×(List (cR×eS))×(List dI)
abbrev bC.X:=Int×Nat×(List (cR×eS))×(List dI)
def bC.out:bC.X→bk:=fun x=>⟨.d ti x.1,[.obj 0 false (.pr (.eH (.dr 1) 0) (.pr (.bI (.dr 2) 0 [] 0 0 x.2.1) (.d .unit ()))),.obj 0 false (.mp cj gq x.2.2.1),.obj 0 false (.vec 161 eB x.2.2.2)],[]⟩
def bC.add:bC.D→bC.Y→bC.X:=fun(o0baL,o1,o2) y=>y
def bC.L0.aC:bC.L0.D→Prop:=fun(sum,_,_,_,rest)=>0≤sum∧(∀p∈rest,0≤p.2.1.1)∧sum+gb rest≤1000000000000000000
def bC.L0.F:bC.L0.D→bC.L0.Y:=fun(sum,_,_,_,rest)=>sum+gb rest
def bC.aC:bC.D→Prop:=fun(_,a,_)=>(∀p∈a,0≤p.2.1.1)∧gb a≤1000000000000000000
def bC.F:bC.D→bC.Y:=fun(n,a,s)=>(gb a,n,a,s)
theorem xA{l:List (cR×eS)}(h:∀p∈l,0≤p.2.1.1):0≤gb l:=by
 induction l with
 |nil=>simp[gb]
 |cons p l ih=>
  rw[gR]
  have:=h p (List.mem_cons_self ..)
  have:=ih fun q hq=>h q (List.mem_cons_of_mem _ hq)
  omega
noncomputable def bC.G:dZ:=fh (P:=Tryz.prog) []
noncomputable def bC.L0.E:=bP.cq bC.L0.st bC.L0.aC bC.L0.add bC.L0.F bC.L0.out
noncomputable def bC.L0.call:bC.L0.D→Option bC.L0.X:=cX bC.L0.E bC.L0.st
noncomputable def bC.an:eO:= {loops:=j7 [(3,{bm:=[3,10],sites:=[10],HA:=[10]})],outs:=j6 [(3,{bm:=[3]},{bm:=[2]})],fJ:=kW [(3,bC.L0.E)]}
noncomputable def bC.A:= @cZ Tryz.prog bC.G bC.an 0 Tryz.f24 _ bC.st
abbrev bC.Ok:=da @bC.A bC.aC bC.add bC.F bC.out
noncomputable def bC.L0.R:= @bX Tryz.prog bC.G bC.an 0 Tryz.f24 0 _ bC.L0.st
abbrev bC.L0.Ok:=ej Tryz.prog bC.G bC.an 0 Tryz.f24 0 bC.L0.st bC.L0.aC bC.L0.add bC.L0.F bC.L0.out
theorem bC.L0.run:bK bC.L0.call bC.L0.aC bC.L0.add bC.L0.F:=eG (eC [.d ti,.n,.d (.slice (.pair cj gq)),.d (.slice eB),.d (.slice (.pair cj gq))] fun _=>by kernel_rfl)
theorem bC.L0.aD:FN @bC.L0.R bC.L0.st bC.L0.aC bC.L0.add bC.L0.F bC.L0.bj bC.L0.Ok:=Hj
theorem bC.L0.step{R:Type}(sum:Int)(o0L:Nat)(o1_2:(List (cR×eS)))(o2_2:(List dI))(n10:(List (cR×eS)))(kn:AS→Option R)(kx:Exit→AS→Option R):bC.L0.R (sum,o0L,o1_2,o2_2,n10) kn kx=
  aJ (decide (0 < (List.length n10))) (
   Cn (List.length n10) fun j1=>
   kn (bC.L0.st ((bN .i64 sum (kN cj gq n10 j1).2.1.1),o0L,o1_2,o2_2,(List.eraseIdx n10 j1)))) (
   kx (bC.L0.bj ((o0L,o1_2,o2_2),sum)).1 (bC.L0.bj ((o0L,o1_2,o2_2),sum)).2):=by kernel_rfl
theorem bC.eq{R:Type}(o0baL:Nat)(o1:(List (cR×eS)))(o2:(List dI))(k:bk→Option R):bC.A (o0baL,o1,o2) k=
 ah (bC.L0.call ((0:Int),o0baL,o1,o2,o1)) fun x2=>
 k (bC.out (x2.2,x2.1.1,x2.1.2.1,x2.1.2.2)):=by kernel_rfl
theorem bC.L0.ok:bC.L0.Ok:=by
 refine bC.L0.aD (fun(_,_,_,_,rest)=>rest.length) ?_
 rintro⟨sum,o,a,s,rest⟩ ⟨h0,hn,hm⟩
 have h0:0≤sum:=h0
 have hm:sum+gb rest≤1000000000000000000:=hm
 by_cases h:0 < rest.length
 ·left
  have key:∀j,(hj:j < rest.length)→rest[j].2.1.1+gb (rest.eraseIdx j)=gb rest:=fun j hj=>by rw[←gR];exact re (pE hj).symm
  refine⟨rest.length,fun j=>(bN .i64 sum (kN cj gq rest j).2.1.1,o,a,s,rest.eraseIdx j),h,fun j hj=> ?_,fun kn kx=> ?_⟩
  ·have hk:=key j hj
   have hx:=hn _ (List.getElem_mem hj)
   have hr:∀p∈rest.eraseIdx j,0≤p.2.1.1:=fun p hp=>hn p ((List.eraseIdx_sublist rest j).subset hp)
   have:=xA hr
   have e1:bN .i64 sum (kN cj gq rest j).2.1.1=sum+rest[j].2.1.1:=by rw[sV hj];exact fK (by omega) (by omega)
   refine⟨⟨?_,hr,?_⟩,?_,?_⟩
   ·show 0≤bN .i64 sum _;rw[e1];omega
   ·show bN .i64 sum _+gb (rest.eraseIdx j)≤_;rw[e1];omega
   ·show(rest.eraseIdx j).length < rest.length
    rw[List.length_eraseIdx,if_pos hj];omega
   ·simp only[bC.L0.add,bC.L0.F,e1]
    rw[←hk,Int.add_assoc]
  ·rw[bC.L0.step,aX h,ag]
 ·right
  obtain rfl:rest=[]:=List.eq_nil_of_length_eq_zero (by omega)
  intro T kn kx
  rw[bC.L0.step,bz h,ai]
  simp only[bC.L0.add,bC.L0.F,gb,List.map_nil,List.sum_nil,Int.add_zero]
theorem bC.ok:bC.Ok:=by
 rintro⟨n,a,s⟩ ⟨hn,hm⟩
 have hm:gb a≤_:=hm
 rw[bC.eq,bC.L0.run (d:=(0,n,a,s,a)) ⟨Int.le_refl _,hn,by show 0+gb a≤_;omega⟩]
 simp only[aa,bC.L0.add,bC.L0.F,bC.add,bC.F,Int.zero_add]
noncomputable def bC.E:=Entry.cq [none] bC.st bC.aC bC.add bC.F bC.out
noncomputable def bC.call:bC.D→Option bC.X:=bT bC.E bC.st
theorem bC.run:bK bC.call bC.aC bC.add bC.F:=dh (de [.n,.d (.slice (.pair cj gq)),.d (.slice eB)] fun _=>by kernel_rfl)
noncomputable def bC.sg:SG Tryz.prog:=⟨24,aY,bC.E,.fn 1 (by kernel_rfl) bC.ok (And.intro (.cq bC.L0.ok (by kernel_rfl)) trivial)⟩
abbrev dU.D:=Nat×(List dI)
def dU.st:dU.D→SA:=fun(sL,o0)=>([.bI (.dr 0) 0 [] 0 0 sL],[.obj 0 false (.vec 161 eB o0)])
abbrev dU.Y:=Nat×(List dI)
abbrev dU.X:=((List dI))×(Nat×(List dI))
def dU.out:dU.X→bk:=fun x=>⟨.bI (.new 0 0) 0 [] 0 0 x.2.1,[.obj 0 false (.vec 161 eB x.1)],[.obj 0 false (.vec 161 eB x.2.2)]⟩
def dU.add:dU.D→dU.Y→dU.X:=fun(sL,o0) y=>(o0,y)
def dU.aC:dU.D→Prop:=fun(n,l)=>n≤l.length∧l.length≤1000000
def dU.F:dU.D→dU.Y:=fun(n,l)=>((l.take n).length,l.take n)
noncomputable def dU.G:dZ:=fh (P:=Tryz.prog) []
noncomputable def dU.an:eO:= {bO:=[5],ij:=[⟨2,[],5,148⟩]}
noncomputable def dU.A:= @cZ Tryz.prog dU.G dU.an 0 Tryz.f90 _ dU.st
abbrev dU.Ok:=da @dU.A dU.aC dU.add dU.F dU.out
theorem dU.eq{R:Type}(sL:Nat)(o0:(List dI))(k:bk→Option R):dU.A (sL,o0) k=
  aJ (decide (0 < sL)) (
   aJ (decide (0=0∧(0+sL)≤(List.length o0))) (
   aJ (dq (0+(List.length (cut o0 0 sL))) 48) (
   k (dU.out (o0,((0+(List.length (cut o0 0 sL))),((List.take 0 (List.replicate 0 (([]:List zj),(([]:List cR),()))))++(cut o0 0 sL)))))) none) none) (
   nd (
    k (dU.out (o0,(0,([]:List dI))))) (
    aJ (decide (0=0∧(0+sL)≤(List.length o0))) (
    aJ (dq (0+(List.length (cut o0 0 sL))) 48) (
    k (dU.out (o0,((0+(List.length (cut o0 0 sL))),((List.take 0 (List.replicate 0 (([]:List zj),(([]:List cR),()))))++(cut o0 0 sL)))))) none) none)):=by kernel_rfl
theorem dU.ok:dU.Ok:=by
 rintro⟨n,l⟩ ⟨h1,h2⟩
 have h1:n≤l.length:=h1
 have h2:l.length≤1000000:=h2
 have ec:cut l 0 n=l.take n:=by simp[cut]
 have ht:(l.take n).length≤1000000:=by rw[List.length_take];omega
 have hr:dq (l.take n).length 48=true:=ed (by omega) (by omega)
 rw[dU.eq]
 simp only[Nat.zero_add,ec,hr,ag,List.take_zero,List.nil_append,true_and,aX h1,dU.add,dU.F]
 by_cases h:0 < n
 ·simp only[aX h,ag]
 ·have:n=0:=by omega
  subst this
  simp only[List.take_zero,List.length_nil,Nat.zero_le,decide_true,ag,nu,bz (Nat.lt_irrefl 0),ai]
noncomputable def dU.E:=Entry.cq [none] dU.st dU.aC dU.add dU.F dU.out
noncomputable def dU.call:dU.D→Option dU.X:=bT dU.E dU.st
theorem dU.run:bK dU.call dU.aC dU.add dU.F:=dh (de [.n,.d (.slice eB)] fun _=>by kernel_rfl)
noncomputable def dU.sg:SG Tryz.prog:=⟨90,vU,dU.E,.fn 0 (by kernel_rfl) dU.ok trivial⟩
abbrev bo.L0.D:=Nat×(List (cR×eS))×(List dI)×(List (cR×eS))×(List dI)×Nat×(List (cR×eS))
def bo.L0.st:bo.L0.D→AS:=fun(o0L,o1_2,o2_2,n6,n11,n13L,n18)=>⟨([.undef,.undef,.undef,.ptr (.new 13 0) 0 [] 0]++ba 14 ([.ptr (.new 18 0) 0 [] 0]++ba 12 [])),[.obj 0 false (.pr (.eH (.dr 1) 0) (.pr (.bI (.dr 2) 0 [] 0 0 o0L) (.d .unit ()))),.obj 0 true (.mp cj gq o1_2),.obj 0 false (.vec 161 eB o2_2)],(bE 6 ([[.obj 0 false (.mp cj gq n6)]]++bE 4 ([[.obj 0 false (.vec 161 eB n11)],[],[.obj 0 false (.pr (.eH (.new 6 0) 0) (.pr (.bI (.new 11 0) 0 [] 0 0 n13L) (.d .unit ())))]]++bE 4 ([[.obj 0 false (.jC (.dr 1) 1 cj gq n18 none)]]++bE 12 []))))⟩
abbrev bo.L0.Y0:=(List (cR×eS))
abbrev bo.L0.X0:=(Nat×(List (cR×eS))×(List dI)×(List dI)×Nat)×((List (cR×eS)))
def bo.L0.bj:bo.L0.X0→Exit×AS:=fun x=>(.exit 0,⟨([.undef,.undef,.undef,.ptr (.new 13 0) 0 [] 0]++ba 27 []),[.obj 0 false (.pr (.eH (.dr 1) 0) (.pr (.bI (.dr 2) 0 [] 0 0 x.1.1) (.d .unit ()))),.obj 0 false (.mp cj gq x.1.2.1),.obj 0 false (.vec 161 eB x.1.2.2.1)],(bE 6 ([[.obj 0 false (.mp cj gq x.2)]]++bE 4 ([[.obj 0 false (.vec 161 eB x.1.2.2.2.1)],[],[.obj 0 false (.pr (.eH (.new 6 0) 0) (.pr (.bI (.new 11 0) 0 [] 0 0 x.1.2.2.2.2) (.d .unit ())))]]++bE 17 [])))⟩)
abbrev bo.L0.X:=bo.L0.X0
abbrev bo.L0.Y:=bo.L0.Y0
def bo.L0.out:bo.L0.X→Out (Exit×AS):=fun x=> .ok (bo.L0.bj x)
def bo.L0.add:bo.L0.D→bo.L0.Y→bo.L0.X:=fun(o0L,o1_2,o2_2,n6,n11,n13L,n18) y=>((o0L,o1_2,o2_2,n11,n13L),y)
abbrev bo.D:=Nat×(List (cR×eS))×(List dI)
def bo.st:bo.D→SA:=fun(o0baL,o1,o2)=>([.ptr (.dr 0) 0 [] 0],[.obj 0 false (.pr (.eH (.dr 1) 0) (.pr (.bI (.dr 2) 0 [] 0 0 o0baL) (.d .unit ()))),.obj 0 false (.mp cj gq o1),.obj 0 false (.vec 161 eB o2)])
abbrev bo.Y:=Nat×(List (cR×eS))×(List dI)×Nat×(List (cR×eS))×(List dI)
abbrev bo.X:=Nat×(List (cR×eS))×(List dI)×Nat×(List (cR×eS))×(List dI)
def bo.out:bo.X→bk:=fun x=>⟨.ptr (.new 0 0) 0 [] 0,[.obj 0 false (.pr (.eH (.dr 1) 0) (.pr (.bI (.dr 2) 0 [] 0 0 x.1) (.d .unit ()))),.obj 0 false (.mp cj gq x.2.1),.obj 0 false (.vec 161 eB x.2.2.1)],[.obj 0 false (.pr (.eH (.new 0 1) 0) (.pr (.bI (.new 0 2) 0 [] 0 0 x.2.2.2.1) (.d .unit ()))),.obj 0 false (.mp cj gq x.2.2.2.2.1),.obj 0 false (.vec 161 eB x.2.2.2.2.2)]⟩
def bo.add:bo.D→bo.Y→bo.X:=fun(o0baL,o1,o2) y=>y
theorem ml{β:Type}{kt:Ty}(hc:kt.comp=true){x:kt.den}{v:β}:∀ {l:List (kt.den×β)},x ∉ l.map (·.1)→fT kt x v l=l++ [(x,v)]
 |[],_=>rfl
 |p::l,h=>by
  rw[pM]
  have h1:¬kt.beq x p.1=true:=fun e=>h (by rw[beq_eq kt _ _ hc e];simp)
  rw[if_neg h1,ml hc fun e=>h (by simp[e])]
  rfl
def bo.L0.aC:bo.L0.D→Prop:=fun(_,_,_,m,_,_,rest)=>((m++rest).map (·.1)).Nodup
noncomputable def bo.L0.F:bo.L0.D→bo.L0.Y:=fun(_,_,_,m,_,_,rest)=>kZ (m++rest)
def bo.aC:bo.D→Prop:=fun(n,a,s)=>n≤s.length∧s.length≤1000000∧(a.map (·.1)).Nodup
noncomputable def bo.F:bo.D→bo.Y:=fun(n,a,s)=>(n,a,s,(s.take n).length,kZ a,s.take n)
noncomputable def bo.G:dZ:=fh (P:=Tryz.prog) [dU.sg]
noncomputable def bo.L0.E:=bP.cq bo.L0.st bo.L0.aC bo.L0.add bo.L0.F bo.L0.out
noncomputable def bo.L0.call:bo.L0.D→Option bo.L0.X:=cX bo.L0.E bo.L0.st
noncomputable def bo.an:eO:= {bO:=[13],loops:=j7 [(3,{bm:=[3,18],sites:=[6,11,13,18],HA:=[18]})],outs:=j6 [(3,{bm:=[3],sites:=[6,11,13],F1:=[(.new 6 0)]},{bm:=[2]})],fJ:=kW [(3,bo.L0.E)]}
noncomputable def bo.A:= @cZ Tryz.prog bo.G bo.an 0 Tryz.f39 _ bo.st
abbrev bo.Ok:=da @bo.A bo.aC bo.add bo.F bo.out
noncomputable def bo.L0.R:= @bX Tryz.prog bo.G bo.an 0 Tryz.f39 0 _ bo.L0.st
abbrev bo.L0.Ok:=ej Tryz.prog bo.G bo.an 0 Tryz.f39 0 bo.L0.st bo.L0.aC bo.L0.add bo.L0.F bo.L0.out
theorem bo.L0.run:bK bo.L0.call bo.L0.aC bo.L0.add bo.L0.F:=eG (eC [.n,.d (.slice (.pair cj gq)),.d (.slice eB),.d (.slice (.pair cj gq)),.d (.slice eB),.n,.d (.slice (.pair cj gq))] fun _=>by kernel_rfl)
theorem bo.L0.aD:FN @bo.L0.R bo.L0.st bo.L0.aC bo.L0.add bo.L0.F bo.L0.bj bo.L0.Ok:=Hj
theorem bo.L0.step{R:Type}(o0L:Nat)(o1_2:(List (cR×eS)))(o2_2:(List dI))(n6:(List (cR×eS)))(n11:(List dI))(n13L:Nat)(n18:(List (cR×eS)))(kn:AS→Option R)(kx:Exit→AS→Option R):bo.L0.R (o0L,o1_2,o2_2,n6,n11,n13L,n18) kn kx=
  aJ (decide (0 < (List.length n18))) (
   Cn (List.length n18) fun j1=>
   kn (bo.L0.st (o0L,o1_2,o2_2,(fT cj (kN cj gq n18 j1).1 (kN cj gq n18 j1).2 n6),n11,n13L,(List.eraseIdx n18 j1)))) (
   kx (bo.L0.bj ((o0L,o1_2,o2_2,n11,n13L),(kZ n6))).1 (bo.L0.bj ((o0L,o1_2,o2_2,n11,n13L),(kZ n6))).2):=by kernel_rfl
theorem bo.eq{R:Type}(o0baL:Nat)(o1:(List (cR×eS)))(o2:(List dI))(k:bk→Option R):bo.A (o0baL,o1,o2) k=
 ah (dU.call (o0baL,o2)) fun x1=>
 ah (bo.L0.call (o0baL,o1,x1.1,([]:List (cR×eS)),x1.2.2,x1.2.1,o1)) fun x3=>
 k (bo.out (x3.1.1,x3.1.2.1,x3.1.2.2.1,x3.1.2.2.2.2,x3.2,x3.1.2.2.2.1)):=by kernel_rfl
theorem gC:cj.comp=true:=rfl
theorem bo.L0.ok:bo.L0.Ok:=by
 refine bo.L0.aD (fun(_,_,_,_,_,_,rest)=>rest.length) ?_
 rintro⟨n,a,s,m,u,k0,rest⟩ hn
 have hn:((m++rest).map (·.1)).Nodup:=hn
 by_cases h:0 < rest.length
 ·left
  have e1:∀j,j < rest.length→fT cj (kN cj gq rest j).1 (kN cj gq rest j).2 m=m++ [kN cj gq rest j]:=fun j hj=>by
   rw[ml gC]
   intro hm
   rw[List.map_append,List.nodup_append]at hn
   exact hn.2.2 _ hm _ (List.mem_map.2 ⟨_,List.getElem_mem hj,by rw[sV hj]⟩) rfl
  have e2:∀j,j < rest.length→(m++ [kN cj gq rest j]++rest.eraseIdx j).Perm (m++rest):=fun j hj=>by
   rw[List.append_assoc,sV hj]
   exact List.Perm.append_left _ (pE hj).symm
  refine⟨rest.length,fun j=>(n,a,s,fT cj (kN cj gq rest j).1 (kN cj gq rest j).2 m,u,k0,rest.eraseIdx j),h,fun j hj=>⟨?_,?_,?_⟩,fun kn kx=> ?_⟩
  ·show((fT cj (kN cj gq rest j).1 (kN cj gq rest j).2 m++rest.eraseIdx j).map (·.1)).Nodup
   rw[e1 j hj]
   exact(((e2 j hj).map _).nodup_iff).2 hn
  ·show(rest.eraseIdx j).length < rest.length
   rw[List.length_eraseIdx,if_pos hj];omega
  ·simp only[bo.L0.add,bo.L0.F,e1 j hj]
   rw[By (e2 j hj)]
  ·rw[bo.L0.step,aX h,ag]
 ·right
  obtain rfl:rest=[]:=List.eq_nil_of_length_eq_zero (by omega)
  intro T kn kx
  rw[bo.L0.step,bz h,ai]
  simp only[bo.L0.add,bo.L0.F,List.append_nil]
theorem bo.ok:bo.Ok:=by
 rintro⟨n,a,s⟩ ⟨h1,h2,h3⟩
 have h1:n≤s.length:=h1
 have h2:s.length≤1000000:=h2
 rw[bo.eq,dU.run (d:=(n,s)) ⟨h1,h2⟩]
 simp only[aa,dU.add,dU.F]
 rw[bo.L0.run (d:=(n,a,s,[],s.take n,(s.take n).length,a)) h3]
 simp only[aa,bo.L0.add,bo.L0.F,bo.add,bo.F,List.nil_append]
noncomputable def bo.E:=Entry.cq [none] bo.st bo.aC bo.add bo.F bo.out
noncomputable def bo.call:bo.D→Option bo.X:=bT bo.E bo.st
theorem bo.run:bK bo.call bo.aC bo.add bo.F:=dh (de [.n,.d (.slice (.pair cj gq)),.d (.slice eB)] fun _=>by kernel_rfl)
noncomputable def bo.sg:SG Tryz.prog:=⟨39,aY,bo.E,.fn 1 (by kernel_rfl) bo.ok (And.intro (.cq bo.L0.ok (by kernel_rfl)) trivial)⟩
set_option synthInstance.maxSize 5000
abbrev cF.L0.D:=fu×Nat×Nat×Int×Int×Int×(List iA)
def cF.L0.st:cF.L0.D→AS:=fun(o_2,lL,t10L,t11,t12,n2,n9)=>⟨([.undef,.eI eN o_2,.ptr (.new 2 0) 0 [] 0,.bI (.new 9 0) 0 [] 0 0 lL]++ba 6 ([.bI (.new 9 0) 0 [] 0 0 t10L,.d ti t11,.d ti t12]++ba 17 [])),[],([[],[],[.obj 0 false (.pr (.d ti n2) (.pr (.pr (.cY) (.d .unit ())) (.d .unit ())))]]++bE 6 ([[.obj 0 false (.vec 29 gG n9)]]++bE 20 []))⟩
abbrev cF.L0.Y0:=(List iA)×(List iA)
abbrev cF.L0.X0:=(fu×Int)×((List iA)×(List iA))
def cF.L0.bj:cF.L0.X0→Exit×AS:=fun x=>(.exit 0,⟨([.undef,.eI eN x.1.1,.ptr (.new 2 0) 0 [] 0,.d (.slice gG) x.2.1]++ba 26 []),[],([[],[],[.obj 0 false (.pr (.d ti x.1.2) (.pr (.pr (.cY) (.d .unit ())) (.d .unit ())))]]++bE 6 ([[.obj 0 true (.vec 29 gG x.2.2)]]++bE 20 []))⟩)
abbrev cF.L0.X:=cF.L0.X0
abbrev cF.L0.Y:=cF.L0.Y0
def cF.L0.out:cF.L0.X→Out (Exit×AS):=fun x=> .ok (cF.L0.bj x)
def cF.L0.add:cF.L0.D→cF.L0.Y→cF.L0.X:=fun(o_2,lL,t10L,t11,t12,n2,n9) y=>((o_2,n2),y)
abbrev cF.D:=fu
def cF.st:cF.D→SA:=fun o=>([.d eN o],[])
abbrev cF.Y:=fu
abbrev cF.X:=fu
def cF.out:cF.X→bk:=fun x=>⟨.d eN x,[],[]⟩
def cF.add:cF.D→cF.Y→cF.X:=fun o y=>y
def H8(l:Lk):Prop:=l.1.length≤1000∧∀b∈l.1,b.1.length≤1000000
def cF.L0.aC:cF.L0.D→Prop:=fun(_,n,m,t,i,_,l)=>(l.length≤1000∧∀b∈l,b.1.length≤1000000)∧∃k:Nat,k≤l.length∧i=k∧n=l.length∧m=l.length∧t=l.length
def cF.L0.F:cF.L0.D→cF.L0.Y:=fun(_,_,_,_,_,_,l)=>(l,l)
def cF.aC:cF.D→Prop:=fun o=>H8 o.2.1
def cF.F:cF.D→cF.Y:=fun o=>o
noncomputable def cF.G:dZ:=fh (P:=Tryz.prog) [fe.sg,cK.sg]
noncomputable def cF.L0.E:=bP.cq cF.L0.st cF.L0.aC cF.L0.add cF.L0.F cF.L0.out
noncomputable def cF.L0.call:cF.L0.D→Option cF.L0.X:=cX cF.L0.E cF.L0.st
noncomputable def cF.an:eO:= {loops:=j7 [(3,{bm:=[1,2,3,10,11,12],sites:=[2,9]})],outs:=j6 [(3,{bm:=[1,2,3],sites:=[2,9],data:=[(3,(.slice gG))]},{bm:=[2]})],fJ:=kW [(3,cF.L0.E)],res:=[some eN]}
noncomputable def cF.A:= @cZ Tryz.prog cF.G cF.an 0 Tryz.f78 _ cF.st
abbrev cF.Ok:=da @cF.A cF.aC cF.add cF.F cF.out
noncomputable def cF.L0.R:= @bX Tryz.prog cF.G cF.an 0 Tryz.f78 0 _ cF.L0.st
abbrev cF.L0.Ok:=ej Tryz.prog cF.G cF.an 0 Tryz.f78 0 cF.L0.st cF.L0.aC cF.L0.add cF.L0.F cF.L0.out
theorem cF.L0.run:bK cF.L0.call cF.L0.aC cF.L0.add cF.L0.F:=eG (eC [.d eN,.n,.n,.d ti,.d ti,.d ti,.d (.slice gG)] fun _=>by kernel_rfl)
theorem cF.L0.aD:fN @cF.L0.R cF.L0.st cF.L0.aC cF.L0.add cF.L0.F cF.L0.bj cF.L0.Ok:=fU
theorem cF.L0.step{R:Type}(o_2:fu)(lL:Nat)(t10L:Nat)(t11:Int)(t12:Int)(n2:Int)(n9:(List iA))(kn:AS→Option R)(kx:Exit→AS→Option R):cF.L0.R (o_2,lL,t10L,t11,t12,n2,n9) kn kx=
  aJ ((fX t12 t11)) (
   aJ (eJ t12 ((t10L:Nat):Int)) (
   aJ (decide ((0+(Int.toNat t12)) < (List.length n9))) (
   aJ (decide ((((0+(Int.toNat t12))*4)+0)=(0+((Int.toNat t12)*4)))) (
   ah (cK.call (nth gG n9 (0+(Int.toNat t12))).1) fun x1=>
   aJ (eJ t12 ((lL:Nat):Int)) (
   aJ (decide ((0+(Int.toNat t12)) < (List.length n9))) (
   aJ (decide ((((0+(Int.toNat t12))*4)+0)=((0+((Int.toNat t12)*4))+0))) (
   aJ (decide ((0+(Int.toNat t12)) < (List.length n9))) (
   kn (cF.L0.st (o_2,lL,t10L,t11,(bN .i64 t12 (1:Int)),n2,(List.set n9 (0+(Int.toNat t12)) (x1,(nth gG n9 (0+(Int.toNat t12))).2))))) none) none) none) none) none) none) none) (
   aJ (decide (0=0∧(0+lL)≤(List.length n9))) (
   kx (cF.L0.bj ((o_2,n2),((cut n9 0 lL),n9))).1 (cF.L0.bj ((o_2,n2),((cut n9 0 lL),n9))).2) none):=by kernel_rfl
theorem cF.eq{R:Type}(o:fu)(k:bk→Option R):cF.A o k=
 ah (fe.call o.2.1.1) fun x1=>
 ah (cF.L0.call (o,x1.1,x1.1,((x1.1:Nat):Int),(0:Int),(0:Int),x1.2)) fun x3=>
 k (cF.out (x3.1.1.1,((x3.2.1,()),()))):=by kernel_rfl
theorem cF.L0.ok:cF.L0.Ok:=by
 refine cF.L0.aD (fun(_,_,_,_,i,_,l)=>l.length - i.toNat) ?_
 rintro⟨o,n,m,t,i,u,l⟩ ⟨⟨hlen,hx⟩,k,hk,rfl,rfl,rfl,rfl⟩
 have hlen:l.length≤1000:=hlen
 have hk:k≤l.length:=hk
 by_cases h:k < l.length
 ·left
  have n1:nth gG l k=l[k]:=cm (t:=gG) h
  have hs:l.set k l[k]=l:=List.set_getElem_self h
  have e:=hx _ (List.getElem_mem h)
  refine⟨(o,l.length,l.length,(l.length:Int),((k+1:Nat):Int),u,l),⟨⟨hlen,hx⟩,k+1,by omega,rfl,rfl,rfl,rfl⟩,by simp only[Int.toNat_natCast];omega,rfl,fun kn kx=> ?_⟩
  rw[cF.L0.step,bq (by omega),bt (by omega) (by omega)]
  simp only[Int.toNat_natCast,Nat.zero_add,Nat.add_zero,ag,aX h,decide_true,n1]
  rw[cK.run (d:=l[k].1) e]
  simp only[aa,cK.add,cK.F]
  rw[N.j4 (by omega)]
  exact congrArg (fun z=>kn (cF.L0.st (_,_,_,_,_,_,z))) hs
 ·right
  obtain rfl:k=l.length:=by omega
  intro R kn kx
  rw[cF.L0.step,bg (by omega),ai,aX (by omega),ag,fc rfl]
  rfl
theorem cF.ok:cF.Ok:=by
 rintro⟨a,⟨l,u⟩,v⟩ ⟨h1,h2⟩
 have h1:l.length≤1000:=h1
 rw[cF.eq,fe.run (d:=l) (by show l.length≤_;omega)]
 simp only[aa,fe.add,fe.F]
 rw[cF.L0.run (d:=((a,(l,u),v),l.length,l.length,(l.length:Int),0,0,l)) ⟨⟨h1,h2⟩,0,Nat.zero_le _,rfl,rfl,rfl,rfl⟩]
 rfl
noncomputable def cF.E:=Entry.cq [some eN] cF.st cF.aC cF.add cF.F cF.out
noncomputable def cF.call:cF.D→Option cF.X:=bT cF.E cF.st
theorem cF.run:bK cF.call cF.aC cF.add cF.F:=dh (de [.d eN] fun _=>by kernel_rfl)
noncomputable def cF.sg:SG Tryz.prog:=⟨78,aY,cF.E,.fn 1 (by kernel_rfl) cF.ok (And.intro (.cq cF.L0.ok (by kernel_rfl)) trivial)⟩
abbrev bu.L0.D:=Int×(List fu)×Int×Int×(List (cR×eS))
def bu.L0.st:bu.L0.D→AS:=fun(sum,t13,t14,t15,n10)=>⟨([.undef,.undef,.undef,.ptr (.new 12 0) 0 [] 0,.d ti sum]++ba 8 ([.d (.slice eN) t13,.d ti t14,.d ti t15]++ba 35 [])),[],(bE 10 ([[.obj 0 false (.mp cj gq n10)],[],[.obj 0 false (.pr (.eH (.new 10 0) 0) (.pr (.cY) (.d .unit ())))]]++bE 38 []))⟩
abbrev bu.L0.Y0:=Unit
abbrev bu.L0.X0:=Unit
def bu.L0.bj:bu.L0.X0→Exit×AS:=fun x=>(.ret,⟨([.undef,.undef,.jS]++ba 48 []),[],(List.replicate 51 [])⟩)
abbrev bu.L0.Y1:=(List (cR×eS))
abbrev bu.L0.X1:=(List (cR×eS))
def bu.L0.e7:bu.L0.X1→Exit×AS:=fun x=>(.exit 0,⟨([.undef,.undef,.undef,.ptr (.new 12 0) 0 [] 0]++ba 47 []),[],(bE 10 ([[.obj 0 false (.mp cj gq x)],[],[.obj 0 false (.pr (.eH (.new 10 0) 0) (.pr (.cY) (.d .unit ())))]]++bE 38 []))⟩)
abbrev bu.L0.X:=(bu.L0.X0)⊕(bu.L0.X1)
abbrev bu.L0.Y:=(bu.L0.Y0)⊕(bu.L0.Y1)
def bu.L0.out:bu.L0.X→Out (Exit×AS):=fun x=> .br x.isLeft (.get x.getLeft? fun a=> .ok (bu.L0.bj a)) (.get x.getRight? fun b=> .ok (bu.L0.e7 b))
def bu.L0.add:bu.L0.D→bu.L0.Y→bu.L0.X:=fun(sum,t13,t14,t15,n10) y=>match y with | .inl y=> .inl y | .inr z=> .inr (z)
abbrev bu.D:=(List fu)
def bu.st:bu.D→SA:=fun outs=>([.d (.slice eN) outs],[])
abbrev bu.Y:=(Unit)⊕((List (cR×eS))×(List dI))
abbrev bu.X:=(Unit)⊕((List (cR×eS))×(List dI))
def bu.out:bu.X→bk:=fun x=>match x with | .inl x=>⟨.jS,[],[]⟩ | .inr x=>⟨.ptr (.new 0 0) 0 [] 0,[],[.obj 0 false (.pr (.eH (.new 0 1) 0) (.pr (.bI (.new 0 2) 0 [] 0 0 0) (.d .unit ()))),.obj 0 false (.mp cj gq x.1),.obj 0 false (.vec 161 eB x.2)]⟩
def bu.add:bu.D→bu.Y→bu.X:=fun outs y=>match y with | .inl y=> .inl y | .inr y=> .inr y
def rW(k:Nat)(o:fu):cR×eS:=((List.replicate 32 (0:Int),((k:Int),())),(o,((0:Int),())))
def nv(sum:Int)(o:fu):Bool:=jJ o.2.1 && decide (0≤o.1∧o.1≤1125899906842624 - sum)
def sE(sum:Int)(k:Nat):List fu→Option (List (cR×eS))
 |[]=>some []
 |o::l=>match nv sum o with | true=>(sE (sum+o.1) (k+1) l).map (rW k o:: ·) | false=>none
def u5(outs:List fu):Option (List (cR×eS)):=if outs.length≤256 then sE 0 0 outs else none
def xr(o:fu):Prop:=Cm o.2.1∧o.2.1.1.length≤9223372036854775807∧o.1≤9223372036854775807
def bu.L0.aC:bu.L0.D→Prop:=fun(sum,outs,n,i,a)=>(∀o∈outs,xr o)∧outs.length≤256∧0≤sum∧sum≤1125899906842624∧∃k:Nat,k≤outs.length∧i=k∧n=outs.length∧∀p∈a,p.1.2.1 < (k:Int)
def bu.L0.F:bu.L0.D→bu.L0.Y:=fun(sum,outs,_,i,a)=>match sE sum i.toNat (outs.drop i.toNat) with | none=> .inl () | some r=> .inr (a++r)
def bu.aC:bu.D→Prop:=fun outs=>∀o∈outs,xr o
def bu.F:bu.D→bu.Y:=fun outs=>match u5 outs with | none=> .inl () | some r=> .inr (r,[])
noncomputable def bu.G:dZ:=fh (P:=Tryz.prog) [aN.sg,cF.sg]
noncomputable def bu.L0.E:=bP.cq bu.L0.st bu.L0.aC bu.L0.add bu.L0.F bu.L0.out
noncomputable def bu.L0.call:bu.L0.D→Option bu.L0.X:=cX bu.L0.E bu.L0.st
noncomputable def bu.an:eO:= {bO:=[12],loops:=j7 [(5,{bm:=[3,4,13,14,15],sites:=[10,12]})],outs:=j6 [(5,{bm:=[3],sites:=[10,12]},{bm:=[2]})],fJ:=kW [(5,bu.L0.E)],ij:=[⟨2,[.snd,.fst],0,148⟩]}
noncomputable def bu.A:= @cZ Tryz.prog bu.G bu.an 0 Tryz.f27 _ bu.st
abbrev bu.Ok:=da @bu.A bu.aC bu.add bu.F bu.out
noncomputable def bu.L0.R:= @bX Tryz.prog bu.G bu.an 0 Tryz.f27 0 _ bu.L0.st
abbrev bu.L0.Ok:=ej Tryz.prog bu.G bu.an 0 Tryz.f27 0 bu.L0.st bu.L0.aC bu.L0.add bu.L0.F bu.L0.out
theorem bu.L0.run:bK bu.L0.call bu.L0.aC bu.L0.add bu.L0.F:=eG (eC [.d ti,.d (.slice eN),.d ti,.d ti,.d (.slice (.pair cj gq))] fun _=>by kernel_rfl)
theorem bu.L0.aD:j5 @bu.L0.R bu.L0.st bu.L0.aC bu.L0.add bu.L0.F bu.L0.out bu.L0.Ok:=kf
theorem bu.L0.step{R:Type}(sum:Int)(t13:(List fu))(t14:Int)(t15:Int)(n10:(List (cR×eS)))(kn:AS→Option R)(kx:Exit→AS→Option R):bu.L0.R (sum,t13,t14,t15,n10) kn kx=
  aJ ((fX t15 t14)) (
   aJ (eJ t15 (((List.length t13):Nat):Int)) (
   ah (aN.call (nth eN t13 (Int.toNat t15)).2.1) fun x1=>
   aJ ((!x1)) (
    kx (bu.L0.bj ()).1 (bu.L0.bj ()).2) (
    aJ ((fX (nth eN t13 (Int.toNat t15)).1 (0:Int))) (
     kx (bu.L0.bj ()).1 (bu.L0.bj ()).2) (
     aJ ((mP (nth eN t13 (Int.toNat t15)).1 (cH .i64 (1125899906842624:Int) sum))) (
      kx (bu.L0.bj ()).1 (bu.L0.bj ()).2) (
      ah (cF.call (nth eN t13 (Int.toNat t15))) fun x2=>
      kn (bu.L0.st ((bN .i64 sum (nth eN t13 (Int.toNat t15)).1),t13,t14,(bN .i64 t15 (1:Int)),(fT cj ((List.replicate 32 (0:Int)),(t15,())) (x2,((0:Int),())) n10))))))) none) (
   kx (bu.L0.e7 n10).1 (bu.L0.e7 n10).2):=by kernel_rfl
theorem bu.eq{R:Type}(outs:(List fu))(k:bk→Option R):bu.A outs k=
  aJ ((mP (((List.length outs):Nat):Int) (256:Int))) (
   k (bu.out (.inl ()))) (
   ah (bu.L0.call ((0:Int),outs,(((List.length outs):Nat):Int),(0:Int),([]:List (cR×eS)))) fun x3=>
   aJ (x3.isLeft) (
    ah (x3.getLeft?) fun a4=>
    k (bu.out (.inl ()))) (
    ah (x3.getRight?) fun b5=>
    k (bu.out (.inr (b5,([]:List dI)))))):=by kernel_rfl
theorem bu.L0.ok:bu.L0.Ok:=by
 refine bu.L0.aD (fun(_,outs,_,i,_)=>outs.length - i.toNat) ?_
 rintro⟨sum,outs,n,i,a⟩ ⟨hg,hl,h0,h1,k,hk,rfl,rfl,hf⟩
 have h0:0≤sum:=h0
 have h1:sum≤1125899906842624:=h1
 have hl:outs.length≤256:=hl
 have hk:k≤outs.length:=hk
 by_cases h:k < outs.length
 ·obtain⟨g1,g2,g3⟩:=hg _ (List.getElem_mem h)
  have n1:nth eN outs k=outs[k]:=cm (t:=eN) h
  have hd:outs.drop k=outs[k]::outs.drop (k+1):=List.drop_eq_getElem_cons h
  have hs:∀ {R:Type} (kn:AS→Option R) (kx:Exit→AS→Option R),bu.L0.R (sum,outs,(outs.length:Int),(k:Int),a) kn kx=
    aJ (!(jJ outs[k].2.1)) (kx (bu.L0.bj ()).1 (bu.L0.bj ()).2) (aJ (fX outs[k].1 0) (kx (bu.L0.bj ()).1 (bu.L0.bj ()).2) (aJ (mP outs[k].1 (1125899906842624 - sum)) (kx (bu.L0.bj ()).1 (bu.L0.bj ()).2)
     (ah (cF.call outs[k]) fun x2=>kn (bu.L0.st ((bN .i64 sum outs[k].1),outs,(outs.length:Int),(bN .i64 (k:Int) (1:Int)),(fT cj ((List.replicate 32 (0:Int)),((k:Int),())) (x2,((0:Int),())) a)))))):=fun kn kx=>by
   rw[bu.L0.step,bq (by omega),ag,bt (by omega) (by omega),ag,Int.toNat_natCast,n1,aN.run (d:=outs[k].2.1) ⟨g1,g2⟩,eK (by omega) (by omega)]
   rfl
  by_cases hok:nv sum outs[k]=true
  ·left
   have hok':=hok
   unfold nv at hok'
   simp only[Bool.and_eq_true,decide_eq_true_eq]at hok'
   obtain⟨k1,k2,k3⟩:=hok'
   have hlk:=tN k1
   refine⟨(sum+outs[k].1,outs,(outs.length:Int),((k+1:Nat):Int),a++ [rW k outs[k]]),⟨hg,hl,by show 0≤sum+outs[k].1;omega,by show sum+outs[k].1≤_;omega,k+1,by omega,rfl,rfl,fun p hp=> ?_⟩,by simp only[Int.toNat_natCast];omega,?_,fun kn kx=> ?_⟩
   ·rcases List.mem_append.1 hp with hp | hp
    ·have:=hf p hp;omega
    ·rw[List.mem_singleton.1 hp];show(k:Int) < _;omega
   ·simp only[bu.L0.add,bu.L0.F,Int.toNat_natCast,hd,sE,hok]
    cases sE (sum+outs[k].1) (k+1) (outs.drop (k+1)) with
    |none=>rfl
    |some r=>simp only[Option.map_some,List.append_assoc,List.singleton_append]
   ·rw[hs,k1,Bool.not_true,ai,bg (by omega),ai,db (by omega),ai,cF.run (d:=outs[k]) ⟨by omega,fun b hb=>by have:=hlk.2 b hb;omega⟩]
    simp only[aa,cF.add,cF.F]
    rw[fK (by omega) (by omega),N.j4 (by omega),ml gC]
    ·rfl
    ·intro hm
     obtain⟨p,hp,he⟩:=List.mem_map.1 hm
     have:=hf p hp
     have he:p.1=_:=he
     rw[he]at this
     have this:(k:Int) < k:=this
     omega
  ·right
   have hok2:nv sum outs[k]=false:=by simpa using hok
   refine⟨bu.L0.bj (),?_,fun kn kx=> ?_⟩
   rotate_left
   ·rw[hs]
    unfold nv at hok2
    cases k1:jJ outs[k].2.1 with
    |false=>rw[Bool.not_false,ag]
    |true=>
     rw[k1]at hok2
     simp only[Bool.true_and,decide_eq_false_iff_not]at hok2
     rw[Bool.not_true,ai]
     by_cases k2:outs[k].1 < 0
     ·rw[bq k2,ag]
     ·rw[bg k2,ai,dy (by omega),ag]
   ·simp only[bu.L0.add,bu.L0.F,Int.toNat_natCast,hd,sE,hok2]
    rfl
 ·right
  obtain rfl:k=outs.length:=by omega
  refine⟨bu.L0.e7 a,?_,fun kn kx=> ?_⟩
  rotate_left
  ·rw[bu.L0.step,bg (by omega),ai]
  ·simp only[bu.L0.add,bu.L0.F,Int.toNat_natCast,List.drop_length,sE,List.append_nil]
   rfl
theorem bu.ok:bu.Ok:=by
 intro outs hg
 rw[bu.eq]
 simp only[bu.add,bu.F,u5]
 by_cases h:outs.length≤256
 ·rw[db (by omega),ai,bu.L0.run (d:=(0,outs,(outs.length:Int),0,[])) ⟨hg,h,by decide,by decide,0,Nat.zero_le _,rfl,rfl,fun p hp=>by cases hp⟩,if_pos h]
  simp only[aa,bu.L0.add,bu.L0.F,Int.toNat_zero,List.drop_zero]
  cases sE 0 0 outs with
  |none=>rfl
  |some r=>rfl
 ·rw[dy (by omega),ag,if_neg h]
noncomputable def bu.E:=Entry.EY [some (.slice eN)] bu.st bu.aC bu.add bu.F bu.out
noncomputable def bu.call:bu.D→Option bu.X:=bT bu.E bu.st
theorem bu.run:bK bu.call bu.aC bu.add bu.F:=FM (de [.d (.slice eN)] fun _=>by kernel_rfl)
noncomputable def bu.sg:SG Tryz.prog:=⟨27,aY,bu.E,.IY (.fn 1 (by kernel_rfl) bu.ok (And.intro (.cq bu.L0.ok (by kernel_rfl)) trivial))⟩
end Go.Ab
