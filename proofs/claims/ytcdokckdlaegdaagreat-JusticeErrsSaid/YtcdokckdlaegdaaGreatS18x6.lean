/-
  Made short by a program of mine (wip/tools/mini.py).
-/
import Derived.Test.YtcdokckdlaegdaaGreatS18x5
set_option linter.unusedVariables false
set_option linter.unusedSimpArgs false
namespace Go.Ab
open Go.Proofs
set_option maxRecDepth 100000
set_option linter.unusedVariables false
set_option linter.unusedSimpArgs false
set_option synthInstance.maxSize 5000
abbrev bo.L0.D:=Bs×Nat×Int×(List Int)
def bo.L0.st:bo.L0.D→AS:=fun(h_2,outL,i,n7)=>⟨([.undef,.undef,.undef,.eI tH h_2,.undef,.cT (.new 7 0) 0 [] 0 0 outL,.d ti i]++bu 14 []),[],(cw 7 ([[.obj 0 false (.vec 5 tb n7)]]++cw 13 []))⟩
abbrev bo.L0.Y0:=Nat×(List Int)
abbrev bo.L0.X0:=Nat×(List Int)
def bo.L0.bM:bo.L0.X0→Exit×AS:=fun x=>(.exit 0,⟨(bu 5 ([.cT (.new 7 0) 0 [] 0 0 x.1]++bu 15 [])),[],(cw 7 ([[.obj 0 false (.vec 5 tb x.2)]]++cw 13 []))⟩)
abbrev bo.L0.X:=bo.L0.X0
abbrev bo.L0.Y:=bo.L0.Y0
def bo.L0.out:bo.L0.X→Out (Exit×AS):=fun x=> .ok (bo.L0.bM x)
def bo.L0.add:bo.L0.D→bo.L0.Y→bo.L0.X:=fun(h_2,outL,i,n7) y=>y
abbrev bo.D:=Bs×Bs
def bo.st:bo.D→SA:=fun(b,h)=>([.d tB b,.d tH h],[])
abbrev bo.Y:=Bs
abbrev bo.X:=Bs
def bo.out:bo.X→aT:=fun x=>⟨.d tB x,[],[]⟩
def bo.add:bo.D→bo.Y→bo.X:=fun(b,h) y=>y
def bo.L0.aq:bo.L0.D→Prop:=fun(h,m,i,l)=>h.length=32∧m=l.length∧∃k:Nat,k≤32∧i=k∧l.length≤100000000+k
def bo.L0.F:bo.L0.D→bo.L0.Y:=fun(h,m,i,l)=>((l++h.drop i.toNat).length,l++h.drop i.toNat)
def bo.aq:bo.D→Prop:=fun(b,h)=>b.length≤90000000∧h.length=32
def bo.F:bo.D→bo.Y:=fun(b,h)=>b++h
noncomputable def bo.G:dX:=eX (P:=Tryz.prog) []
noncomputable def bo.L0.E:=cf.cF bo.L0.st bo.L0.aq bo.L0.add bo.L0.F bo.L0.out
noncomputable def bo.L0.call:bo.L0.D→Option bo.L0.X:=dO bo.L0.E bo.L0.st
noncomputable def bo.an:ej:= {bZ:=[7],loops:=ky [(3,{bt:=[3,5,6],sites:=[7],kc:=[⟨5,[],7,135⟩]})],outs:=kr [(3,{bt:=[5],sites:=[7]},{bt:=[4]})],gk:=kY [(3,bo.L0.E)],res:=[some tB]}
noncomputable def bo.A:= @cq Tryz.prog bo.G bo.an 0 Tryz.f114 _ bo.st
abbrev bo.Ok:=cr @bo.A bo.aq bo.add bo.F bo.out
noncomputable def bo.L0.R:= @cP Tryz.prog bo.G bo.an 0 Tryz.f114 0 _ bo.L0.st
abbrev bo.L0.Ok:=fg Tryz.prog bo.G bo.an 0 Tryz.f114 0 bo.L0.st bo.L0.aq bo.L0.add bo.L0.F bo.L0.out
theorem bo.L0.run:bD bo.L0.call bo.L0.aq bo.L0.add bo.L0.F:=fw (fk [.d tH,.n,.d ti,.d tB] fun _=>by kernel_rfl)
theorem bo.L0.aF:gg @bo.L0.R bo.L0.st bo.L0.aq bo.L0.add bo.L0.F bo.L0.bM bo.L0.Ok:=gj
theorem bo.L0.step{R:Type}(h_2:Bs)(outL:Nat)(i:Int)(n7:(List Int))(kn:AS→Option R)(kx:Exit→AS→Option R):bo.L0.R (h_2,outL,i,n7) kn kx=
  aC ((gM i (32:Int))) (
   aC (dY i (32:Int)) (
   aC (decide (outL≤(List.length n7))) (
   aC (dK (outL+1) 1) (
   kn (bo.L0.st (h_2,(outL+1),(bw .i64 i (1:Int)),((List.take outL n7)++ [(nth tb h_2 (Int.toNat i))])))) none) none) none) (
   kx (bo.L0.bM (outL,n7)).1 (bo.L0.bM (outL,n7)).2):=by kernel_rfl
theorem bo.eq{R:Type}(b:Bs)(h:Bs)(k:aT→Option R):bo.A (b,h) k=
 aC (dK (0+(List.length b)) 1) (
 ab (bo.L0.call (h,(0+(List.length b)),(0:Int),((List.take 0 (List.replicate 0 (0:Int)))++b))) fun x1=>
 aC (decide (0=0∧(0+x1.1)≤(List.length x1.2))) (
 k (bo.out (cut x1.2 0 x1.1))) none) none:=by kernel_rfl
theorem bo.L0.ok:bo.L0.Ok:=by
 refine bo.L0.aF (fun(_,_,i,_)=>(32 - i).toNat) ?_
 rintro⟨h,m,i,l⟩ ⟨h32,rfl,k,hk,rfl,hl⟩
 have h32:h.length=32:=h32
 have hl:l.length≤100000000+k:=hl
 by_cases hlt:k < 32
 ·left
  have n1:nth tb h k=h[k]:=dT (t:=tb) (by omega)
  have el:(l++ [h[k]]).length=l.length+1:=by rw[List.length_append];rfl
  refine⟨(h,l.length+1,((k+1:Nat):Int),l++ [h[k]]),⟨h32,el.symm,k+1,by omega,rfl,by show(l++ [h[k]]).length≤_;omega⟩,by show(32 - ((k+1:Nat):Int)).toNat < (32 - (k:Int)).toNat;omega,?_,fun kn kx=> ?_⟩
  ·simp only[bo.L0.add,bo.L0.F,Int.toNat_natCast]
   rw[List.drop_eq_getElem_cons (show k < h.length by omega),List.append_assoc,List.singleton_append]
  ·rw[bo.L0.step,bB (by omega),ah,bz (by omega) (by omega),ah,aD (Nat.le_refl _),ah,eO (by omega) (by omega),ah,N.mC (by omega),Int.toNat_natCast,n1,List.take_length]
 ·right
  obtain rfl:k=32:=by omega
  intro T kn kx
  rw[bo.L0.step,bm (by omega),ae]
  simp only[bo.L0.add,bo.L0.F,Int.toNat_natCast]
  rw[List.drop_of_length_le (by omega),List.append_nil]
theorem bo.ok:bo.Ok:=by
 rintro⟨b,h⟩ ⟨hb,h32⟩
 have hb:b.length≤90000000:=hb
 have h32:h.length=32:=h32
 rw[bo.eq]
 simp only[Nat.zero_add,List.take_zero,List.nil_append]
 rw[eO (by omega) (by omega),ah,bo.L0.run (d:=(h,b.length,0,b)) ⟨h32,rfl,0,by omega,rfl,by omega⟩]
 simp only[aa,bo.L0.add,bo.L0.F,Int.toNat_zero,List.drop_zero,Nat.le_refl,and_self,decide_true,ah,gG,bo.add,bo.F]
noncomputable def bo.E:=Entry.cF [some tB,some tH] bo.st bo.aq bo.add bo.F bo.out
noncomputable def bo.call:bo.D→Option bo.X:=bC bo.E bo.st
theorem bo.run:bD bo.call bo.aq bo.add bo.F:=cz (cv [.d tB,.d tB] fun _=>by kernel_rfl)
noncomputable def bo.sg:SG Tryz.prog:=⟨114,aK,bo.E,.fn 1 (by kernel_rfl) bo.ok (And.intro (.cF bo.L0.ok (by kernel_rfl)) trivial)⟩
noncomputable section
def Ig:ByteArray:=⟨#[107,105,116]⟩
theorem zG:∃f:List Int→Int→List Int,∀s n,f s n=yn Ig [s,[n]]:=⟨_,fun _ _=>rfl⟩
def jR:List Int→Int→List Int:=Classical.choose zG
theorem nV(s:List Int)(n:Int):jR s n=yn Ig [s,[n]]:=Classical.choose_spec zG s n
theorem ED(s:List Int)(n:Int):Sm (jR s n):=by rw[nV];exact vH _ _
def pk(seed:List Int):js:=(gV (jR seed 1),(gV (jR seed 2),(gV (jR seed 3),(gV (jR seed 4),(gV (jR seed 5),(jR seed 6,()))))))
def jB(k:js):Cq:=(gm k.1,(gm k.2.1,(gm k.2.2.1,(gm k.2.2.2.1,(gm k.2.2.2.2.1,())))))
def tR(k:js):Prop:=fh k.1∧fh k.2.1∧fh k.2.2.1∧fh k.2.2.2.1∧fh k.2.2.2.2.1
theorem pf(h:List Int):fh (gV h):=by have:=nR h;exact⟨by omega,by omega⟩
theorem sK(s:List Int):tR (pk s):=⟨pf _,pf _,pf _,pf _,pf _⟩
theorem yK{k:Int}(h0:0 < k)(h1:k < 2305843009213688669):Dz (gm k):=by
 refine⟨qY k,?_⟩
 unfold wo
 rw[uS,Bool.true_and]
 exact iM (fun e=>H9 (n:=k.toNat) (by omega) (by omega) (by rw[←Fw k (by omega)];exact e))
theorem pe(h:List Int):Dz (gm (gV h)):=yK (nR h).1 (nR h).2
theorem BI(s:List Int):GH (jB (pk s)):=⟨pe _,pe _,pe _,pe _,pe _⟩
abbrev dv.D:=Bs×Int
def dv.st:dv.D→SA:=fun(seed,n)=>([.d tH seed,.d tb n],[])
abbrev dv.Y:=Bs
abbrev dv.X:=Bs
def dv.out:dv.X→aT:=fun x=>⟨.d tH x,[],[]⟩
def dv.add:dv.D→dv.Y→dv.X:=fun(seed,n) y=>y
def dv.aq:dv.D→Prop:=fun(s,_)=>s.length=32
def dv.F:dv.D→dv.Y:=fun(s,n)=>jR s n
noncomputable def dv.G:dX:=eX (P:=Tryz.prog) [bo.sg,di.sg]
noncomputable def dv.an:ej:= {}
noncomputable def dv.A:= @cq Tryz.prog dv.G dv.an 0 Tryz.f61 _ dv.st
abbrev dv.Ok:=cr @dv.A dv.aq dv.add dv.F dv.out
theorem dv.eq{R:Type}(seed:Bs)(n:Int)(k:aT→Option R):dv.A (seed,n) k=
 ab (bo.call ((List.replicate 0 (0:Int)),seed)) fun x1=>
 ab (di.call ((⟨#[107,105,116]⟩:ByteArray),[x1,[n]])) fun x2=>
 k (dv.out x2):=by kernel_rfl
theorem dv.ok:dv.Ok:=by
 rintro⟨s,n⟩ hs
 have hs:s.length=32:=hs
 rw[dv.eq,bo.run (d:=(List.replicate 0 0,s)) ⟨by decide,hs⟩]
 simp only[aa,bo.add,bo.F]
 rw[show(List.replicate 0 (0:Int)++s)=s from rfl,di.run (d:=((⟨#[107,105,116]⟩:ByteArray),[s,[n]])) (vJ (by decide) (by omega) (by show 1≤_;decide))]
 simp only[aa,di.add,di.F,dv.add,dv.F,nV]
 rfl
noncomputable def dv.E:=Entry.cF [some tH,some tb] dv.st dv.aq dv.add dv.F dv.out
noncomputable def dv.call:dv.D→Option dv.X:=bC dv.E dv.st
theorem dv.run:bD dv.call dv.aq dv.add dv.F:=cz (cv [.d tB,.d tb] fun _=>by kernel_rfl)
noncomputable def dv.sg:SG Tryz.prog:=⟨61,aK,dv.E,.fn 0 (by kernel_rfl) dv.ok trivial⟩
abbrev ew.D:=Bs
def ew.st:ew.D→SA:=fun seed=>([.d tH seed],[])
abbrev ew.Y:=js
abbrev ew.X:=js
def ew.out:ew.X→aT:=fun x=>⟨.d jd x,[],[]⟩
def ew.add:ew.D→ew.Y→ew.X:=fun seed y=>y
def ew.aq:ew.D→Prop:=fun s=>s.length=32
def ew.F:ew.D→ew.Y:=fun s=>pk s
noncomputable def ew.G:dX:=eX (P:=Tryz.prog) [dv.sg,bl.sg]
noncomputable def ew.an:ej:= {}
noncomputable def ew.A:= @cq Tryz.prog ew.G ew.an 0 Tryz.f25 _ ew.st
abbrev ew.Ok:=cr @ew.A ew.aq ew.add ew.F ew.out
theorem ew.eq{R:Type}(seed:Bs)(k:aT→Option R):ew.A seed k=
 ab (dv.call (seed,(1:Int))) fun x1=>
 ab (bl.call x1) fun x2=>
 ab (dv.call (seed,(2:Int))) fun x3=>
 ab (bl.call x3) fun x4=>
 ab (dv.call (seed,(3:Int))) fun x5=>
 ab (bl.call x5) fun x6=>
 ab (dv.call (seed,(4:Int))) fun x7=>
 ab (bl.call x7) fun x8=>
 ab (dv.call (seed,(5:Int))) fun x9=>
 ab (bl.call x9) fun x10=>
 ab (dv.call (seed,(6:Int))) fun x11=>
 k (ew.out (x2,(x4,(x6,(x8,(x10,(x11,()))))))):=by kernel_rfl
theorem ew.ok:ew.Ok:=by
 intro s hs
 have q:∀n,dv.call (s,n)=some (jR s n):=fun n=>dv.run (d:=(s,n)) hs
 have r:∀n,bl.call (jR s n)=some (gV (jR s n)):=fun n=>bl.run (d:=jR s n) (ED s n)
 rw[ew.eq]
 simp only[q,r,aa]
 rfl
noncomputable def ew.E:=Entry.cF [some tH] ew.st ew.aq ew.add ew.F ew.out
noncomputable def ew.call:ew.D→Option ew.X:=bC ew.E ew.st
theorem ew.run:bD ew.call ew.aq ew.add ew.F:=cz (cv [.d tB] fun _=>by kernel_rfl)
noncomputable def ew.sg:SG Tryz.prog:=⟨25,aK,ew.E,.fn 0 (by kernel_rfl) ew.ok trivial⟩
abbrev eP.D:=js
def eP.st:eP.D→SA:=fun kv=>([.d jd kv],[])
abbrev eP.Y:=Cq
abbrev eP.X:=Cq
def eP.out:eP.X→aT:=fun x=>⟨.d kU x,[],[]⟩
def eP.add:eP.D→eP.Y→eP.X:=fun kv y=>y
def eP.aq:eP.D→Prop:=fun k=>tR k
def eP.F:eP.D→eP.Y:=fun k=>jB k
noncomputable def eP.G:dX:=eX (P:=Tryz.prog) [cY.sg]
noncomputable def eP.an:ej:= {}
noncomputable def eP.A:= @cq Tryz.prog eP.G eP.an 0 Tryz.f26 _ eP.st
abbrev eP.Ok:=cr @eP.A eP.aq eP.add eP.F eP.out
theorem eP.eq{R:Type}(kv:js)(k:aT→Option R):eP.A kv k=
 ab (cY.call kv.1) fun x1=>
 ab (cY.call kv.2.1) fun x2=>
 ab (cY.call kv.2.2.1) fun x3=>
 ab (cY.call kv.2.2.2.1) fun x4=>
 ab (cY.call kv.2.2.2.2.1) fun x5=>
 k (eP.out (x1,(x2,(x3,(x4,(x5,())))))):=by kernel_rfl
theorem eP.ok:eP.Ok:=by
 rintro k ⟨h1,h2,h3,h4,h5⟩
 rw[eP.eq,cY.run (d:=k.1) h1]
 simp only[aa,cY.add,cY.F]
 rw[cY.run (d:=k.2.1) h2]
 simp only[aa,cY.add,cY.F]
 rw[cY.run (d:=k.2.2.1) h3]
 simp only[aa,cY.add,cY.F]
 rw[cY.run (d:=k.2.2.2.1) h4]
 simp only[aa,cY.add,cY.F]
 rw[cY.run (d:=k.2.2.2.2.1) h5]
 rfl
noncomputable def eP.E:=Entry.cF [some jd] eP.st eP.aq eP.add eP.F eP.out
noncomputable def eP.call:eP.D→Option eP.X:=bC eP.E eP.st
theorem eP.run:bD eP.call eP.aq eP.add eP.F:=cz (cv [.d jd] fun _=>by kernel_rfl)
noncomputable def eP.sg:SG Tryz.prog:=⟨26,aK,eP.E,.fn 0 (by kernel_rfl) eP.ok trivial⟩
def yi(o:Cr):Int:=1+o.2.2.2.1%2305843009213688668
theorem FZ{o:Cr}:0 < yi o∧yi o < 2305843009213688669:=by
 unfold yi;omega
abbrev eV.D:=Cr
def eV.st:eV.D→SA:=fun o=>([.d Fp o],[])
abbrev eV.Y:=Int
abbrev eV.X:=Int
def eV.out:eV.X→aT:=fun x=>⟨.d tu x,[],[]⟩
def eV.add:eV.D→eV.Y→eV.X:=fun o y=>y
def eV.aq:eV.D→Prop:=fun o=>fh o.2.2.2.1
def eV.F:eV.D→eV.Y:=fun o=>yi o
noncomputable def eV.G:dX:=eX (P:=Tryz.prog) []
noncomputable def eV.an:ej:= {}
noncomputable def eV.A:= @cq Tryz.prog eV.G eV.an 0 Tryz.f29 _ eV.st
abbrev eV.Ok:=cr @eV.A eV.aq eV.add eV.F eV.out
theorem eV.eq{R:Type}(o:Cr)(k:aT→Option R):eV.A o k=
 k (eV.out (bw .u64 (1:Int) (gd o.2.2.2.1 (2305843009213688668:Int)))):=by kernel_rfl
theorem eV.ok:eV.Ok:=by
 intro o ho
 have:=ho.1
 rw[eV.eq,ik ho.1]
 have e:bw .u64 1 (o.2.2.2.1%2305843009213688668)=yi o:=by
  unfold yi
  rw[iZ,Int.emod_eq_of_lt (by omega) (by omega)]
 rw[e]
 rfl
noncomputable def eV.E:=Entry.cF [some Fp] eV.st eV.aq eV.add eV.F eV.out
noncomputable def eV.call:eV.D→Option eV.X:=bC eV.E eV.st
theorem eV.run:bD eV.call eV.aq eV.add eV.F:=cz (cv [.d Fp] fun _=>by kernel_rfl)
noncomputable def eV.sg:SG Tryz.prog:=⟨29,aK,eV.E,.fn 0 (by kernel_rfl) eV.ok trivial⟩
abbrev aB.L0.D:=pK×Int×fF×(List js)×Int×(List Int)×(Int×Unit)×(List js)×fF
def aB.L0.st:aB.L0.D→AS:=fun(p_2,i,n2,n3,n4,n4_2,n4_3,n5,n6)=>⟨([.undef,.eI xj p_2,.ptr (.new 2 0) 0 [] 0,.ptr (.new 3 0) 0 [] 0,.ptr (.new 4 0) 0 [] 0,.ptr (.new 5 0) 0 [] 0,.ptr (.new 6 0) 0 [] 0,.d ti i]++bu 130 []),[],([[],[],[.obj 0 false (.d iu n2)],[.obj 0 false (.d (.arr 2 jd) n3)],[.obj 0 false (.pr (.d ti n4) (.pr (.d (.arr 2 ti) n4_2) (.pr (.dP) (.d (.pair ti .unit) n4_3))))],[.obj 0 false (.d (.arr 2 jd) n5)],[.obj 0 false (.d iu n6)]]++cw 131 [])⟩
abbrev aB.L0.Y0:=fF
abbrev aB.L0.X0:=(pK×fF×(List js)×Int×(List Int)×(Int×Unit)×(List js))×(fF)
def aB.L0.bM:aB.L0.X0→Exit×AS:=fun x=>(.exit 0,⟨([.undef,.eI xj x.1.1,.ptr (.new 2 0) 0 [] 0,.ptr (.new 3 0) 0 [] 0,.ptr (.new 4 0) 0 [] 0,.ptr (.new 5 0) 0 [] 0,.ptr (.new 6 0) 0 [] 0]++bu 131 []),[],([[],[],[.obj 0 false (.d iu x.1.2.1)],[.obj 0 false (.d (.arr 2 jd) x.1.2.2.1)],[.obj 0 false (.pr (.d ti x.1.2.2.2.1) (.pr (.d (.arr 2 ti) x.1.2.2.2.2.1) (.pr (.dP) (.d (.pair ti .unit) x.1.2.2.2.2.2.1))))],[.obj 0 false (.d (.arr 2 jd) x.1.2.2.2.2.2.2)],[.obj 0 false (.d iu x.2)]]++cw 131 [])⟩)
abbrev aB.L0.X:=aB.L0.X0
abbrev aB.L0.Y:=aB.L0.Y0
def aB.L0.out:aB.L0.X→Out (Exit×AS):=fun x=> .ok (aB.L0.bM x)
def aB.L0.add:aB.L0.D→aB.L0.Y→aB.L0.X:=fun(p_2,i,n2,n3,n4,n4_2,n4_3,n5,n6) y=>((p_2,n2,n3,n4,n4_2,n4_3,n5),y)
abbrev aB.L1.D:=pK×Int×fF×(List js)×Int×(List Int)×(Int×Unit)×(List js)×fF×fL
def aB.L1.st:aB.L1.D→AS:=fun(p_3,i_2,n2_2,n3_2,n4_4,n4_5,n4_6,n5_2,n6_2,n8)=>⟨([.undef,.eI xj p_3,.ptr (.new 2 0) 0 [] 0,.ptr (.new 3 0) 0 [] 0,.ptr (.new 4 0) 0 [] 0,.ptr (.new 5 0) 0 [] 0,.ptr (.new 6 0) 0 [] 0,.undef,.ptr (.new 8 0) 0 [] 0,.undef,.d ti i_2]++bu 127 []),[],([[],[],[.obj 0 false (.d iu n2_2)],[.obj 0 false (.d (.arr 2 jd) n3_2)],[.obj 0 false (.pr (.d ti n4_4) (.pr (.d (.arr 2 ti) n4_5) (.pr (.dP) (.d (.pair ti .unit) n4_6))))],[.obj 0 false (.d (.arr 2 jd) n5_2)],[.obj 0 false (.d iu n6_2)],[],[.obj 0 false (.d hZ n8)]]++cw 129 [])⟩
abbrev aB.L1.Y0:=fL
abbrev aB.L1.X0:=(fF×(List js)×Int×(List Int)×(Int×Unit)×(List js)×fF)×(fL)
def aB.L1.bM:aB.L1.X0→Exit×AS:=fun x=>(.exit 2,⟨([.undef,.undef,.ptr (.new 2 0) 0 [] 0,.ptr (.new 3 0) 0 [] 0,.ptr (.new 4 0) 0 [] 0,.ptr (.new 5 0) 0 [] 0,.ptr (.new 6 0) 0 [] 0,.undef,.ptr (.new 8 0) 0 [] 0]++bu 129 []),[],([[],[],[.obj 0 false (.d iu x.1.1)],[.obj 0 false (.d (.arr 2 jd) x.1.2.1)],[.obj 0 false (.pr (.d ti x.1.2.2.1) (.pr (.d (.arr 2 ti) x.1.2.2.2.1) (.pr (.dP) (.d (.pair ti .unit) x.1.2.2.2.2.1))))],[.obj 0 false (.d (.arr 2 jd) x.1.2.2.2.2.2.1)],[.obj 0 false (.d iu x.1.2.2.2.2.2.2)],[],[.obj 0 false (.d hZ x.2)]]++cw 129 [])⟩)
abbrev aB.L1.X:=aB.L1.X0
abbrev aB.L1.Y:=aB.L1.Y0
def aB.L1.out:aB.L1.X→Out (Exit×AS):=fun x=> .ok (aB.L1.bM x)
def aB.L1.add:aB.L1.D→aB.L1.Y→aB.L1.X:=fun(p_3,i_2,n2_2,n3_2,n4_4,n4_5,n4_6,n5_2,n6_2,n8) y=>((n2_2,n3_2,n4_4,n4_5,n4_6,n5_2,n6_2),y)
abbrev aB.D:=pK
def aB.st:aB.D→SA:=fun p=>([.d xj p],[])
abbrev aB.Y:=fF×(List js)×fL
abbrev aB.X:=fF×(List js)×fL
def aB.out:aB.X→aT:=fun x=>⟨.cons (.d iu x.1) (.cons (.d (.arr 2 jd) x.2.1) (.cons (.d hZ x.2.2) (.nil))),[],[]⟩
def aB.add:aB.D→aB.Y→aB.X:=fun p y=>y
def IL(o:Cr):Prop:=(0≤o.1∧o.1 < 256)∧(0≤o.2.1∧o.2.1 < 65536)∧(0≤o.2.2.1∧o.2.2.1 < 65536)∧fh o.2.2.2.1
structure Fl(p:pK):Prop where
 len:p.1.length=2
 s0:(nth tH p.1 0).length=32
 s1:(nth tH p.1 1).length=32
 Aq:0≤p.2.1∧p.2.1 < 4294967296
 own:0≤p.2.2.1∧p.2.2.1 < 4294967296
 aV:0≤p.2.2.2.1∧p.2.2.2.1 < 256
 op:0≤p.2.2.2.2.1∧p.2.2.2.2.1 < 256
 IX:∀o∈p.2.2.2.2.2.1,IL o
 room:p.2.2.2.2.2.1.length≤9223372036854775807
 no:0≤p.2.2.2.2.2.2.1∧p.2.2.2.2.2.2.1 < 65536
def A8(i:Nat)(o:Cr):fE:=(o.1%2,((i:Int)+1,(1+o.2.1,(gm (yi o),(1+o.2.2.1,())))))
def vI(ch:fF)(s:fL)(i:Nat)(o:Cr):fL:=if(tI ch s (A8 i o)).2=0 then(tI ch s (A8 i o)).1 else s
def nh(ch:fF):fL→Nat→List Cr→fL
 |s,_,[]=>s
 |s,i,o::l=>if i < 20 then nh ch (vI ch s i o) (i+1) l else s
def pn(p:pK):List js:=[pk (nth tH p.1 0),pk (nth tH p.1 1)]
def uw(p:pK):fF:=qd (20000+p.2.1) (jB (pk (nth tH p.1 0))) (jB (pk (nth tH p.1 1))) (p.2.2.2.2.1%2)
def oK(p:pK):List Int:=[p.2.2.1%(20000+p.2.1+1),20000+p.2.1 - p.2.2.1%(20000+p.2.1+1)]
def Bj(p:pK)(l:List Int):fL:=(p.2.2.2.2.2.2.1,(l,(([]:List fE),(p.2.2.2.1%8,()))))
def Dh(p:pK):fL:=if qJ (uw p) (Bj p (oK p))=true then Bj p (oK p) else Bj p (((oK p).set (p.2.2.2.2.1%2).toNat (20000+p.2.1)).set (1 - p.2.2.2.2.1%2).toNat 0)
def Fo(p:pK):fL:=nh (uw p) (Dh p) 0 p.2.2.2.2.2.1
theorem BO{p:pK}(h:Fl p):jI (uw p):=by
 have:=h.Aq
 have:=h.op
 exact⟨_,_,_,_,rfl,by omega,by omega,BI _,BI _,by omega⟩
theorem rh:∀(c:fE) (l:List fE) (x:fE),x∈qA c l↔x=c∨x∈l
 |c,[],x=>by simp[qA,qB,tM]
 |c,y::l,x=>by
  rw[pR]
  split
  ·simp
  ·rw[List.mem_cons,rh c l x,List.mem_cons]
   constructor
   ·rintro(h | h | h) <;> simp[h]
   ·rintro(h | h | h) <;> simp[h]
theorem BC{ch:fF}{s:fL}{c:fE}(h:(tI ch s c).2=0):(tI ch s c).1=hM s c∧tg ch s∧F9 c∧s.2.2.1.any (BZ c.1 c.2.1)=false∧s.2.2.1.length≠16∧
  fQ (im (1 - c.1) s.2.2.1)+c.2.2.1≤1125899906842624∧0≤nth ti (hM s c).2.1 c.1.toNat∧tW (hM s c).2.2.2.1 (hM s c).2.2.1.length+660≤nth ti (hM s c).2.1 ch.2.2.2.2.1.toNat:=by
 unfold tI at h ⊢
 split at h
 ·next e=>
  rw[if_pos e]
  split at h
  ·exact absurd h (by decide)
  ·next e1=>
   rw[if_neg e1]
   split at h
   ·exact absurd h (by decide)
   ·next e2=>
    rw[if_neg e2]
    split at h
    ·exact absurd h (by decide)
    ·next e3=>
     rw[if_neg e3]
     split at h
     ·exact absurd h (by decide)
     ·next e4=>
      rw[if_neg e4]
      split at h
      ·exact absurd h (by decide)
      ·next e5=>
       rw[if_neg e5]
       split at h
       ·exact absurd h (by decide)
       ·next e6=>
        rw[if_neg e6]
        have e':=Bool.and_eq_true_iff.1 e
        exact⟨rfl,mS.1 e'.1,mq.1 e'.2,by simpa using e1,e2,by omega,Int.not_lt.1 e4,Int.not_lt.1 e5⟩
 ·exact absurd h (by decide)
theorem Bq{ch:fF}{s:fL}{i:Nat}{o:Cr}(h:oH s):oH (vI ch s i o):=by
 unfold vI
 split
 ·next e=>
  obtain⟨e1,hs,_⟩:=BC e
  rw[e1]
  refine⟨fun c hc=> ?_,?_,?_⟩
  ·have hc:c∈qA (A8 i o) s.2.2.1:=hc
   rcases(rh _ _ _).1 hc with rfl | hc
   ·exact qY _
   ·exact h.1 c hc
  ·show(qA _ _).length≤1000
   rw[uR]
   have:=hs.len
   omega
  ·show(List.set _ _ _).length=2
   rw[List.length_set]
   exact h.2.2
 ·exact h
theorem En{ch:fF}:∀(l:List Cr) (s:fL) (i:Nat),oH s→oH (nh ch s i l)
 |[],_,_,h=>h
 |o::l,s,i,h=>by
  rw[nh]
  split
  ·exact En l _ _ (Bq h)
  ·exact h
theorem ET(p:pK)(l:List Int)(h:l.length=2):oH (Bj p l):=⟨fun c hc=>(by cases hc),Nat.zero_le _,h⟩
theorem Cg(p:pK):oH (Dh p):=by
 unfold Dh
 split
 ·exact ET p _ rfl
 ·exact ET p _ (by rw[List.length_set,List.length_set];rfl)
theorem GF(p:pK):oH (Fo p):=En _ _ _ (Cg p)
def tD(i:Nat)(ks:List js)(ch:fF):fF:=(ch.1,(ch.2.1,(ch.2.2.1.set i (jB (nth jd ks i)),(ch.2.2.2.1.set i (te (5+i)),ch.2.2.2.2))))
def aB.L0.aq:aB.L0.D→Prop:=fun(p,i,z1,z2,z3,z4,z5,ks,ch)=>ks.length=2∧(∀k∈ks,tR k)∧ch.2.2.1.length=2∧ch.2.2.2.1.length=2∧(i=0∨i=1∨i=2)
def aB.L0.F:aB.L0.D→aB.L0.Y:=fun(p,i,z1,z2,z3,z4,z5,ks,ch)=>if i=0 then tD 1 ks (tD 0 ks ch) else if i=1 then tD 1 ks ch else ch
def aB.L1.aq:aB.L1.D→Prop:=fun(p,i,z1,z2,z3,z4,z5,ks,ch,s)=>jI ch∧oH s∧(∀o∈p.2.2.2.2.2.1,IL o)∧p.2.2.2.2.2.1.length≤9223372036854775807∧∃k:Nat,k≤p.2.2.2.2.2.1.length∧i=k
def aB.L1.F:aB.L1.D→aB.L1.Y:=fun(p,i,z1,z2,z3,z4,z5,ks,ch,s)=>nh ch s i.toNat (p.2.2.2.2.2.1.drop i.toNat)
def aB.aq:aB.D→Prop:=fun p=>Fl p
def aB.F:aB.D→aB.Y:=fun p=>(uw p,pn p,Fo p)
noncomputable def aB.G:dX:=eX (P:=Tryz.prog) [ew.sg,eP.sg,aE.sg,eV.sg,dj.sg,dU.sg]
noncomputable def aB.L0.E:=cf.cF aB.L0.st aB.L0.aq aB.L0.add aB.L0.F aB.L0.out
noncomputable def aB.L0.call:aB.L0.D→Option aB.L0.X:=dO aB.L0.E aB.L0.st
noncomputable def aB.L1.E:=cf.cF aB.L1.st aB.L1.aq aB.L1.add aB.L1.F aB.L1.out
noncomputable def aB.L1.call:aB.L1.D→Option aB.L1.X:=dO aB.L1.E aB.L1.st
noncomputable def aB.an:ej:= {loops:=ky [(4,{bt:=[1,2,3,4,5,6,7],sites:=[2,3,4,5,6]}),(16,{bt:=[1,2,3,4,5,6,8,10],sites:=[2,3,4,5,6,8],yT:=[⟨8,[.arr],hZ⟩]})],outs:=kr [(4,{bt:=[1,2,3,4,5,6],sites:=[2,3,4,5,6]},{bt:=[2,3,4]}),(16,{bt:=[2,3,4,5,6,8],sites:=[2,3,4,5,6,8]},{bt:=[2,3,4]})],gk:=kY [(4,aB.L0.E),(16,aB.L1.E)]}
noncomputable def aB.A:= @cq Tryz.prog aB.G aB.an 0 Tryz.f8 _ aB.st
abbrev aB.Ok:=cr @aB.A aB.aq aB.add aB.F aB.out
noncomputable def aB.L0.R:= @cP Tryz.prog aB.G aB.an 0 Tryz.f8 0 _ aB.L0.st
abbrev aB.L0.Ok:=fg Tryz.prog aB.G aB.an 0 Tryz.f8 0 aB.L0.st aB.L0.aq aB.L0.add aB.L0.F aB.L0.out
noncomputable def aB.L1.R:= @cP Tryz.prog aB.G aB.an 0 Tryz.f8 1 _ aB.L1.st
abbrev aB.L1.Ok:=fg Tryz.prog aB.G aB.an 0 Tryz.f8 1 aB.L1.st aB.L1.aq aB.L1.add aB.L1.F aB.L1.out
theorem aB.L0.run:bD aB.L0.call aB.L0.aq aB.L0.add aB.L0.F:=fw (fk [.d xj,.d ti,.d iu,.d (.slice jd),.d ti,.d (.slice ti),.d (.pair ti .unit),.d (.slice jd),.d iu] fun _=>by kernel_rfl)
theorem aB.L0.aF:gg @aB.L0.R aB.L0.st aB.L0.aq aB.L0.add aB.L0.F aB.L0.bM aB.L0.Ok:=gj
theorem aB.L0.step{R:Type}(p_2:pK)(i:Int)(n2:fF)(n3:(List js))(n4:Int)(n4_2:(List Int))(n4_3:(Int×Unit))(n5:(List js))(n6:fF)(kn:AS→Option R)(kx:Exit→AS→Option R):aB.L0.R (p_2,i,n2,n3,n4,n4_2,n4_3,n5,n6) kn kx=
  aC ((gM i (2:Int))) (
   aC (dY i (2:Int)) (
   aC (decide ((Int.toNat i) < (List.length n5))) (
   aC (decide ((((Int.toNat i)*37)+0)=(0+((Int.toNat i)*37)))) (
   ab (eP.call (nth jd n5 (Int.toNat i))) fun x1=>
   aC (dY i (2:Int)) (
   aC (decide ((Int.toNat i) < (List.length n6.2.2.1))) (
   aC (decide ((33+(1+(((Int.toNat i)*5)+0)))=(34+((Int.toNat i)*5)))) (
   aC (decide ((Int.toNat i) < (List.length n6.2.2.1))) (
   aC (dY i (2:Int)) (
   aC (decide ((Int.toNat i) < (List.length n6.2.2.2.1))) (
   aC (decide ((33+(1+(10+(((Int.toNat i)*6)+0))))=(44+((Int.toNat i)*6)))) (
   aC (decide ((Int.toNat i) < (List.length n6.2.2.2.1))) (
   kn (aB.L0.st (p_2,(bw .i64 i (1:Int)),n2,n3,n4,n4_2,n4_3,n5,(n6.1,(n6.2.1,((List.set n6.2.2.1 (Int.toNat i) x1),((List.set n6.2.2.2.1 (Int.toNat i) ((100:Int),((200:Int),((bw .i64 (5:Int) i),((16:Int),((1:Int),((1125899906842624:Int),()))))))),n6.2.2.2.2))))))) none) none) none) none) none) none) none) none) none) none) none) (
   kx (aB.L0.bM ((p_2,n2,n3,n4,n4_2,n4_3,n5),n6)).1 (aB.L0.bM ((p_2,n2,n3,n4,n4_2,n4_3,n5),n6)).2):=by kernel_rfl
theorem aB.L1.run:bD aB.L1.call aB.L1.aq aB.L1.add aB.L1.F:=fw (fk [.d xj,.d ti,.d iu,.d (.slice jd),.d ti,.d (.slice ti),.d (.pair ti .unit),.d (.slice jd),.d iu,.d hZ] fun _=>by kernel_rfl)
theorem aB.L1.aF:gg @aB.L1.R aB.L1.st aB.L1.aq aB.L1.add aB.L1.F aB.L1.bM aB.L1.Ok:=gj
theorem aB.L1.step{R:Type}(p_3:pK)(i_2:Int)(n2_2:fF)(n3_2:(List js))(n4_4:Int)(n4_5:(List Int))(n4_6:(Int×Unit))(n5_2:(List js))(n6_2:fF)(n8:fL)(kn:AS→Option R)(kx:Exit→AS→Option R):aB.L1.R (p_3,i_2,n2_2,n3_2,n4_4,n4_5,n4_6,n5_2,n6_2,n8) kn kx=
  aC ((gM i_2 (((List.length p_3.2.2.2.2.2.1):Nat):Int))) (
   aC ((gM i_2 (20:Int))) (
    aC (dY i_2 (((List.length p_3.2.2.2.2.2.1):Nat):Int)) (
    ab (eV.call (nth Fp p_3.2.2.2.2.2.1 (Int.toNat i_2))) fun x1=>
    ab (dj.call x1) fun x2=>
    ab (dU.call (n6_2,n8,((dI .i64 (gd (nth Fp p_3.2.2.2.2.2.1 (Int.toNat i_2)).1 (2:Int))),((bw .i64 i_2 (1:Int)),((bw .i64 (1:Int) (dI .i64 (nth Fp p_3.2.2.2.2.2.1 (Int.toNat i_2)).2.1)),(x2,((bw .i64 (1:Int) (dI .i64 (nth Fp p_3.2.2.2.2.2.1 (Int.toNat i_2)).2.2.1)),()))))))) fun x3=>
    aC ((ia x3.2 (0:Int))) (
     kn (aB.L1.st (p_3,(bw .i64 i_2 (1:Int)),n2_2,n3_2,n4_4,n4_5,n4_6,n5_2,n6_2,x3.1))) (
     kn (aB.L1.st (p_3,(bw .i64 i_2 (1:Int)),n2_2,n3_2,n4_4,n4_5,n4_6,n5_2,n6_2,n8)))) none) (
    kx (aB.L1.bM ((n2_2,n3_2,n4_4,n4_5,n4_6,n5_2,n6_2),n8)).1 (aB.L1.bM ((n2_2,n3_2,n4_4,n4_5,n4_6,n5_2,n6_2),n8)).2)) (
   kx (aB.L1.bM ((n2_2,n3_2,n4_4,n4_5,n4_6,n5_2,n6_2),n8)).1 (aB.L1.bM ((n2_2,n3_2,n4_4,n4_5,n4_6,n5_2,n6_2),n8)).2):=by kernel_rfl
theorem aB.eq{R:Type}(p:pK)(k:aT→Option R):aB.A p k=
  ab (ew.call (nth tH p.1 0)) fun x1=>
  ab (ew.call (nth tH p.1 1)) fun x2=>
  ab (aB.L0.call (p,(0:Int),(((List.replicate 32 (0:Int)),((0:Int),())),((0:Int),((List.replicate 2 ((0:Int),((0:Int),((0:Int),((0:Int),((0:Int),())))))),((List.replicate 2 ((0:Int),((0:Int),((0:Int),((0:Int),((0:Int),((0:Int),()))))))),((0:Int),()))))),(List.replicate 2 ((0:Int),((0:Int),((0:Int),((0:Int),((0:Int),((List.replicate 32 (0:Int)),()))))))),(0:Int),(List.replicate 2 (0:Int)),((0:Int),()),[x1,x2],(((List.replicate 32 (0:Int)),((0:Int),())),((bw .i64 (20000:Int) (dI .i64 p.2.1)),((List.replicate 2 ((0:Int),((0:Int),((0:Int),((0:Int),((0:Int),())))))),((List.replicate 2 ((0:Int),((0:Int),((0:Int),((0:Int),((0:Int),((0:Int),()))))))),((dI .i64 (gd p.2.2.2.2.1 (2:Int))),()))))))) fun x4=>
  aC (iK (bw .i64 x4.2.2.1 (1:Int))) (
  ab (aE.call (x4.2,((dI .i64 x4.1.1.2.2.2.2.2.2.1),([(gd (dI .i64 x4.1.1.2.2.1) (bw .i64 x4.2.2.1 (1:Int))),(bS .i64 x4.2.2.1 (gd (dI .i64 x4.1.1.2.2.1) (bw .i64 x4.2.2.1 (1:Int))))],(([]:List fE),((dI .i64 (gd x4.1.1.2.2.2.1 (8:Int))),())))))) fun x5=>
  aC ((!x5)) (
   aC (dY x4.2.2.2.2.2.1 (2:Int)) (
   aC (decide ((Int.toNat x4.2.2.2.2.2.1) < 2)) (
   aC (decide ((1+(((Int.toNat x4.2.2.2.2.2.1)*1)+0))=(1+((Int.toNat x4.2.2.2.2.2.1)*1)))) (
   aC (decide ((Int.toNat x4.2.2.2.2.2.1) < 2)) (
   aC (dY (bS .i64 (1:Int) x4.2.2.2.2.2.1) (2:Int)) (
   aC (decide ((Int.toNat (bS .i64 (1:Int) x4.2.2.2.2.2.1)) < (List.length (List.set [(gd (dI .i64 x4.1.1.2.2.1) (bw .i64 x4.2.2.1 (1:Int))),(bS .i64 x4.2.2.1 (gd (dI .i64 x4.1.1.2.2.1) (bw .i64 x4.2.2.1 (1:Int))))] (Int.toNat x4.2.2.2.2.2.1) x4.2.2.1)))) (
   aC (decide ((1+(((Int.toNat (bS .i64 (1:Int) x4.2.2.2.2.2.1))*1)+0))=(1+((Int.toNat (bS .i64 (1:Int) x4.2.2.2.2.2.1))*1)))) (
   aC (decide ((Int.toNat (bS .i64 (1:Int) x4.2.2.2.2.2.1)) < (List.length (List.set [(gd (dI .i64 x4.1.1.2.2.1) (bw .i64 x4.2.2.1 (1:Int))),(bS .i64 x4.2.2.1 (gd (dI .i64 x4.1.1.2.2.1) (bw .i64 x4.2.2.1 (1:Int))))] (Int.toNat x4.2.2.2.2.2.1) x4.2.2.1)))) (
   ab (aB.L1.call (x4.1.1,(0:Int),x4.1.2.1,x4.1.2.2.1,x4.1.2.2.2.1,x4.1.2.2.2.2.1,x4.1.2.2.2.2.2.1,x4.1.2.2.2.2.2.2,x4.2,((dI .i64 x4.1.1.2.2.2.2.2.2.1),((List.set (List.set [(gd (dI .i64 x4.1.1.2.2.1) (bw .i64 x4.2.2.1 (1:Int))),(bS .i64 x4.2.2.1 (gd (dI .i64 x4.1.1.2.2.1) (bw .i64 x4.2.2.1 (1:Int))))] (Int.toNat x4.2.2.2.2.2.1) x4.2.2.1) (Int.toNat (bS .i64 (1:Int) x4.2.2.2.2.2.1)) (0:Int)),(([]:List fE),((dI .i64 (gd x4.1.1.2.2.2.1 (8:Int))),())))))) fun x12=>
   k (aB.out (x12.1.2.2.2.2.2.2,x12.1.2.2.2.2.2.1,x12.2))) none) none) none) none) none) none) none) none) (
   ab (aB.L1.call (x4.1.1,(0:Int),x4.1.2.1,x4.1.2.2.1,x4.1.2.2.2.1,x4.1.2.2.2.2.1,x4.1.2.2.2.2.2.1,x4.1.2.2.2.2.2.2,x4.2,((dI .i64 x4.1.1.2.2.2.2.2.2.1),([(gd (dI .i64 x4.1.1.2.2.1) (bw .i64 x4.2.2.1 (1:Int))),(bS .i64 x4.2.2.1 (gd (dI .i64 x4.1.1.2.2.1) (bw .i64 x4.2.2.1 (1:Int))))],(([]:List fE),((dI .i64 (gd x4.1.1.2.2.2.1 (8:Int))),())))))) fun x13=>
   k (aB.out (x13.1.2.2.2.2.2.2,x13.1.2.2.2.2.2.1,x13.2)))) none:=by kernel_rfl
theorem aB.L0.round{p:pK}{z1:fF}{z2:List js}{z3:Int}{z4:List Int}{z5:Int×Unit}{ks:List js}{ch:fF}(k:Nat)(hk:k < 2)(h1:ks.length=2)(h2:∀k∈ks,tR k)(h3:ch.2.2.1.length=2)(h4:ch.2.2.2.1.length=2)
  {R:Type} (kn:AS→Option R) (kx:Exit→AS→Option R):aB.L0.R (p,(k:Int),z1,z2,z3,z4,z5,ks,ch) kn kx=kn (aB.L0.st (p,((k+1:Nat):Int),z1,z2,z3,z4,z5,ks,tD k ks ch)):=by
 have hm:tR (nth jd ks k):=by
  rw[dT (t:=jd) (by omega:k < ks.length)]
  exact h2 _ (List.getElem_mem _)
 have i1:k < ks.length:=by omega
 have i3:k < ch.2.2.1.length:=by omega
 have i5:k < ch.2.2.2.1.length:=by omega
 rw[aB.L0.step,bB (by omega),bz (by omega) (by omega),Int.toNat_natCast]
 rw[aD i1,aD (show k*37+0=0+k*37 by omega),aD i3,aD (show 33+(1+(k*5+0))=34+k*5 by omega),aD i5,aD (show 33+(1+(10+(k*6+0)))=44+k*6 by omega),N.mC (by omega),eP.run (d:=nth jd ks k) hm]
 simp only[ah,aa,eP.add,eP.F]
 rw[dL (by omega) (by omega)]
 rfl
theorem pX{k:Nat}{ks:List js}{ch:fF}(h3:ch.2.2.1.length=2)(h4:ch.2.2.2.1.length=2):(tD k ks ch).2.2.1.length=2∧(tD k ks ch).2.2.2.1.length=2:=
 ⟨by show(List.set _ _ _).length=2;rw[List.length_set];exact h3,by show(List.set _ _ _).length=2;rw[List.length_set];exact h4⟩
theorem aB.L0.ok:aB.L0.Ok:=by
 refine aB.L0.aF (fun(_,i,_)=>(2 - i).toNat) ?_
 rintro⟨p,i,z1,z2,z3,z4,z5,ks,ch⟩ ⟨h1,h2,h3,h4,hi⟩
 rcases hi with rfl | rfl | rfl
 ·left
  refine⟨(p,1,z1,z2,z3,z4,z5,ks,tD 0 ks ch),⟨h1,h2,(pX h3 h4).1,(pX h3 h4).2,.inr (.inl rfl)⟩,by show(2 - (1:Int)).toNat < (2 - (0:Int)).toNat;decide,?_,fun kn kx=>aB.L0.round 0 (by omega) h1 h2 h3 h4 kn kx⟩
  simp only[aB.L0.add,aB.L0.F]
  rfl
 ·left
  refine⟨(p,2,z1,z2,z3,z4,z5,ks,tD 1 ks ch),⟨h1,h2,(pX h3 h4).1,(pX h3 h4).2,.inr (.inr rfl)⟩,by show(2 - (2:Int)).toNat < (2 - (1:Int)).toNat;decide,?_,fun kn kx=>aB.L0.round 1 (by omega) h1 h2 h3 h4 kn kx⟩
  simp only[aB.L0.add,aB.L0.F]
  rfl
 ·right
  intro R kn kx
  rw[aB.L0.step,bm (by omega),ae]
  simp only[aB.L0.add,aB.L0.F]
  rfl
theorem aB.L1.ok:aB.L1.Ok:=by
 refine aB.L1.aF (fun(p,i,_)=>p.2.2.2.2.2.1.length - i.toNat) ?_
 rintro⟨p,i,z1,z2,z3,z4,z5,ks,ch,s⟩ ⟨hch,hu,ho,hl,k,hk,rfl⟩
 have hk:k≤p.2.2.2.2.2.1.length:=hk
 have hl:p.2.2.2.2.2.1.length≤9223372036854775807:=hl
 have ho:∀o∈p.2.2.2.2.2.1,IL o:=ho
 by_cases h:k < p.2.2.2.2.2.1.length
 ·have n1:nth Fp p.2.2.2.2.2.1 k=p.2.2.2.2.2.1[k]:=dT (t:=Fp) h
  have hd:p.2.2.2.2.2.1.drop k=p.2.2.2.2.2.1[k]::p.2.2.2.2.2.1.drop (k+1):=List.drop_eq_getElem_cons h
  by_cases h20:k < 20
  ·left
   obtain⟨g1,g2,g3,g4⟩:=ho _ (List.getElem_mem h)
   refine⟨(p,((k+1:Nat):Int),z1,z2,z3,z4,z5,ks,ch,vI ch s k p.2.2.2.2.2.1[k]),⟨hch,Bq hu,ho,hl,k+1,by omega,rfl⟩,by simp only[Int.toNat_natCast];omega,?_,fun kn kx=> ?_⟩
   ·simp only[aB.L1.add,aB.L1.F,Int.toNat_natCast,hd,nh,h20,if_true]
   ·rw[aB.L1.step,bB (by omega),ah,bB (by omega),ah,bz (by omega) (by omega),ah,Int.toNat_natCast,n1,eV.run (d:=p.2.2.2.2.2.1[k]) g4]
    simp only[aa,eV.add,eV.F]
    have:=FZ (o:=p.2.2.2.2.2.1[k])
    rw[dj.run (d:=yi p.2.2.2.2.2.1[k]) ⟨by omega,by omega⟩]
    simp only[aa,dj.add,dj.F]
    rw[ik g1.1,mv (by omega) (by omega),mv (by omega) (by omega),mv (by omega) (by omega),N.mC (by omega),dL (by omega) (by omega),dL (by omega) (by omega)]
    rw[show(p.2.2.2.2.2.1[k].1%2,(((k+1:Nat):Int),(1+p.2.2.2.2.2.1[k].2.1,(gm (yi p.2.2.2.2.2.1[k]),(1+p.2.2.2.2.2.1[k].2.2.1,())))))=A8 k p.2.2.2.2.2.1[k] from rfl]
    rw[dU.run (d:=(ch,s,A8 k p.2.2.2.2.2.1[k])) ⟨hch,hu,qY _⟩]
    simp only[aa,dU.add,dU.F,vI]
    by_cases e:(tI ch s (A8 k p.2.2.2.2.2.1[k])).2=0
    ·rw[eu e,ah,if_pos e]
    ·rw[dR e,ae,if_neg e]
  ·right
   intro R kn kx
   rw[aB.L1.step,bB (by omega),ah,bm (by omega),ae]
   simp only[aB.L1.add,aB.L1.F,Int.toNat_natCast,hd,nh,h20,if_false]
 ·right
  obtain rfl:k=p.2.2.2.2.2.1.length:=by omega
  intro R kn kx
  rw[aB.L1.step,bm (by omega),ae]
  simp only[aB.L1.add,aB.L1.F,Int.toNat_natCast,List.drop_length,nh]
theorem aB.ok:aB.Ok:=by
 rintro p hp
 have hp:Fl p:=hp
 have ha:=hp.Aq
 have hw:=hp.own
 have ho:=hp.op
 have hr:=hp.aV
 have hn:=hp.no
 have hch:=BO hp
 have l1:∀(z1:fF) (z2:List js) (z3:Int) (z4:List Int) (z5:Int×Unit) (s:fL),oH s→
   aB.L1.call (p,0,z1,z2,z3,z4,z5,pn p,uw p,s)=some ((z1,z2,z3,z4,z5,pn p,uw p),nh (uw p) s 0 p.2.2.2.2.2.1):=fun z1 z2 z3 z4 z5 s hs=>
  aB.L1.run (d:=(p,0,z1,z2,z3,z4,z5,pn p,uw p,s)) ⟨hch,hs,hp.IX,hp.room,0,Nat.zero_le _,rfl⟩
 have l0:∀(z1:fF) (z2:List js) (z3:Int) (z4:List Int) (z5:Int×Unit),aB.L0.call (p,0,z1,z2,z3,z4,z5,pn p,((List.replicate 32 0,(0,())),(20000+p.2.1,(List.replicate 2 ((0:Int),((0:Int),((0:Int),((0:Int),((0:Int),()))))),(List.replicate 2 ((0:Int),((0:Int),((0:Int),((0:Int),((0:Int),((0:Int),())))))),(p.2.2.2.2.1%2,()))))))=some ((p,z1,z2,z3,z4,z5,pn p),uw p):=fun z1 z2 z3 z4 z5=>
  aB.L0.run (d:=(p,0,z1,z2,z3,z4,z5,pn p,((List.replicate 32 0,(0,())),(20000+p.2.1,(List.replicate 2 ((0:Int),((0:Int),((0:Int),((0:Int),((0:Int),()))))),(List.replicate 2 ((0:Int),((0:Int),((0:Int),((0:Int),((0:Int),((0:Int),())))))),(p.2.2.2.2.1%2,()))))))) ⟨rfl,fun k hk=>by
   rcases List.mem_cons.1 hk with rfl | hk
   ·exact sK _
   ·rw[List.mem_singleton]at hk
    subst hk
    exact sK _,rfl,rfl,.inl rfl⟩
 rw[aB.eq,ew.run (d:=nth tH p.1 0) hp.s0]
 simp only[aa,ew.add,ew.F]
 rw[ew.run (d:=nth tH p.1 1) hp.s1]
 simp only[aa,ew.add,ew.F]
 rw[ik ho.1,mv (x:=p.2.1) (by omega) (by omega),mv (x:=p.2.2.2.2.1%2) (by omega) (by omega),dL (x:=20000) (by omega) (by omega)]
 refine(congrArg (fun z=>ab z _) (l0 _ _ _ _ _)).trans ?_
 have e1:(uw p).2.1=20000+p.2.1:=rfl
 have e2:(uw p).2.2.2.2.1=p.2.2.2.2.1%2:=rfl
 have hm:0≤p.2.2.1%(20000+p.2.1+1)∧p.2.2.1%(20000+p.2.1+1) < 20000+p.2.1+1:=⟨Int.emod_nonneg _ (by omega),Int.emod_lt_of_pos _ (by omega)⟩
 simp only[aa,e1,e2]
 rw[dL (x:=20000+p.2.1) (by omega) (by omega),ik hr.1,mv (x:=p.2.2.1) (by omega) (by omega),ik hw.1,mv (x:=p.2.2.2.2.2.2.1) (by omega) (by omega),mv (x:=p.2.2.2.1%8) (by omega) (by omega),fe (x:=20000+p.2.1) (by omega) (by omega),fe (x:=1) (by omega) (by omega)]
 rw[show iK (20000+p.2.1+1)=true by unfold iK;rw[bN (by omega)];rfl,ah]
 rw[show((p.2.2.2.2.2.2.1,([p.2.2.1%(20000+p.2.1+1),20000+p.2.1 - p.2.2.1%(20000+p.2.1+1)],(([]:List fE),(p.2.2.2.1%8,())))):fL)=Bj p (oK p) from rfl]
 rw[aE.run (d:=(uw p,Bj p (oK p))) ⟨hch,ET p _ rfl⟩]
 simp only[aa,aE.add,aE.F]
 rw[show [p.2.2.1%(20000+p.2.1+1),20000+p.2.1 - p.2.2.1%(20000+p.2.1+1)]=oK p from rfl]
 cases hok:qJ (uw p) (Bj p (oK p))
 ·have e3:Dh p=Bj p (((oK p).set (p.2.2.2.2.1%2).toNat (20000+p.2.1)).set (1 - p.2.2.2.2.1%2).toNat 0):=by
   unfold Dh
   rw[hok]
   rfl
  have i1:dY (p.2.2.2.2.1%2) 2=true:=bz (by omega) (by omega)
  have i2:(p.2.2.2.2.1%2).toNat < 2:=by omega
  have i3:1+((p.2.2.2.2.1%2).toNat*1+0)=1+(p.2.2.2.2.1%2).toNat*1:=by omega
  have j1:dY (1 - p.2.2.2.2.1%2) 2=true:=bz (by omega) (by omega)
  have j2:(1 - p.2.2.2.2.1%2).toNat < ((oK p).set (p.2.2.2.2.1%2).toNat (20000+p.2.1)).length:=by
   rw[List.length_set];show _ < 2;omega
  have j3:1+((1 - p.2.2.2.2.1%2).toNat*1+0)=1+(1 - p.2.2.2.2.1%2).toNat*1:=by omega
  rw[Bool.not_false]
  simp only[i1,aD i2,aD i3,j1,aD j2,aD j3,ah]
  have lm:=fun z1 z2 z3 z4 z5=>l1 z1 z2 z3 z4 z5 (Dh p) (Cg p)
  rw[e3]at lm
  refine(congrArg (fun z=>ab z _) (lm _ _ _ _ _)).trans ?_
  simp only[aa,aB.add,aB.F,Fo,e3]
 ·have e3:Dh p=Bj p (oK p):=by
   unfold Dh
   rw[hok]
   rfl
  rw[Bool.not_true,ae]
  have lm:=fun z1 z2 z3 z4 z5=>l1 z1 z2 z3 z4 z5 (Dh p) (Cg p)
  rw[e3]at lm
  refine(congrArg (fun z=>ab z _) (lm _ _ _ _ _)).trans ?_
  simp only[aa,aB.add,aB.F,Fo,e3]
noncomputable def aB.E:=Entry.cF [some xj] aB.st aB.aq aB.add aB.F aB.out
noncomputable def aB.call:aB.D→Option aB.X:=bC aB.E aB.st
theorem aB.run:bD aB.call aB.aq aB.add aB.F:=cz (cv [.d xj] fun _=>by kernel_rfl)
noncomputable def aB.sg:SG Tryz.prog:=⟨8,aK,aB.E,.fn 2 (by kernel_rfl) aB.ok (And.intro (.cF aB.L0.ok (by kernel_rfl)) (And.intro (.cF aB.L1.ok (by kernel_rfl)) trivial))⟩
end
end Go.Ab
namespace Go.Ab
open Go.Proofs
set_option maxRecDepth 100000
set_option linter.unusedVariables false
set_option linter.unusedSimpArgs false
set_option synthInstance.maxSize 5000
noncomputable section
def FP:ByteArray:=⟨#[109,105,120]⟩
def qe:ByteArray:=⟨#[114,101,118,111,107,101]⟩
theorem BR:∃f:ByteArray→Int→Int→Int,∀n a b,f n a b=gV (yn n [iy a,iy b]):=⟨_,fun _ _ _=>rfl⟩
def pb:ByteArray→Int→Int→Int:=Classical.choose BR
theorem pO(n:ByteArray)(a b:Int):pb n a b=gV (yn n [iy a,iy b]):=Classical.choose_spec BR n a b
def l7(s:List Int):Int:=gm (gV s)
def qc(b p:Int):Int:=rW [b,gm (pb FP p b)]
def tQ(b p:Int):Int:=rW [nF b (pb qe b p),nF p (pb qe p b)]
def oR(b:Int)(s:List Int):Int:=DD (A5 b (pb qe (gm b) (l7 s))) (A5 (gV s) (pb qe (l7 s) (gm b)))
theorem yX(n:ByteArray)(a b:Int):fh (pb n a b):=by rw[pO];exact pf _
abbrev dM.D:=Int
def dM.st:dM.D→SA:=fun p=>([.d tu p],[])
abbrev dM.Y:=Bs
abbrev dM.X:=Bs
def dM.out:dM.X→aT:=fun x=>⟨.d tB x,[],[]⟩
def dM.add:dM.D→dM.Y→dM.X:=fun p y=>y
def dM.aq:dM.D→Prop:=fun _=>True
def dM.F:dM.D→dM.Y:=fun n=>iy n
noncomputable def dM.G:dX:=eX (P:=Tryz.prog) []
noncomputable def dM.an:ej:= {loops:=ky [(3,{bt:=[0,3,5],sites:=[3]})],outs:=kr [(3,{bt:=[3],sites:=[3]},{bt:=[2],sites:=[3]})],res:=[some tB]}
noncomputable def dM.A:= @cq Tryz.prog dM.G dM.an 12 Tryz.f162 _ dM.st
abbrev dM.Ok:=cr @dM.A dM.aq dM.add dM.F dM.out
theorem dM.eq{R:Type}(p:Int)(k:aT→Option R):dM.A p k=
 k (dM.out [(dI .u8 (bW .u64 p (56:Int))),(dI .u8 (bW .u64 p (48:Int))),(dI .u8 (bW .u64 p (40:Int))),(dI .u8 (bW .u64 p (32:Int))),(dI .u8 (bW .u64 p (24:Int))),(dI .u8 (bW .u64 p (16:Int))),(dI .u8 (bW .u64 p (8:Int))),(dI .u8 (bW .u64 p (0:Int)))]):=by kernel_rfl
theorem dM.ok:dM.Ok:=by
 intro n _
 rw[dM.eq,uq]
 rfl
noncomputable def dM.E:=Entry.cF [some tu] dM.st dM.aq dM.add dM.F dM.out
noncomputable def dM.call:dM.D→Option dM.X:=bC dM.E dM.st
theorem dM.run:bD dM.call dM.aq dM.add dM.F:=cz (cv [.d tu] fun _=>by kernel_rfl)
noncomputable def dM.sg:SG Tryz.prog:=⟨162,aK,dM.E,.fn 1 (by kernel_rfl) dM.ok (And.intro (.none (by kernel_rfl)) trivial)⟩
abbrev aP.L0.D:=ByteArray×Nat×Bs×Int×Int×(List Bs)
def aP.L0.st:aP.L0.D→AS:=fun(name_2,partsL,t8,t9,t10,n18)=>⟨([.d .str name_2]++bu 4 ([.cT (.new 18 0) 0 [] 0 0 partsL,.undef,.undef,.d tU t8,.d ti t9,.d ti t10]++bu 13 [])),[],(cw 18 ([[.obj 0 false (.vec 135 tB n18)]]++cw 5 []))⟩
abbrev aP.L0.Y0:=Nat×(List Bs)
abbrev aP.L0.X0:=(ByteArray)×(Nat×(List Bs))
def aP.L0.bM:aP.L0.X0→Exit×AS:=fun x=>(.exit 0,⟨([.d .str x.1]++bu 4 ([.cT (.new 18 0) 0 [] 0 0 x.2.1]++bu 18 [])),[],(cw 18 ([[.obj 0 false (.vec 135 tB x.2.2)]]++cw 5 []))⟩)
abbrev aP.L0.X:=aP.L0.X0
abbrev aP.L0.Y:=aP.L0.Y0
def aP.L0.out:aP.L0.X→Out (Exit×AS):=fun x=> .ok (aP.L0.bM x)
def aP.L0.add:aP.L0.D→aP.L0.Y→aP.L0.X:=fun(name_2,partsL,t8,t9,t10,n18) y=>(name_2,y)
abbrev aP.D:=ByteArray×Bs
def aP.st:aP.D→SA:=fun(name,points)=>([.d .str name,.d tU points],[])
abbrev aP.Y:=Int
abbrev aP.X:=Int
def aP.out:aP.X→aT:=fun x=>⟨.d tu x,[],[]⟩
def aP.add:aP.D→aP.Y→aP.X:=fun(name,points) y=>y
def aP.L0.aq:aP.L0.D→Prop:=fun(name,L,ps,m,i,row)=>(ps).length≤1000000∧∃k:Nat,k≤(ps).length∧i=k∧m=(ps).length∧L=(row).length∧(row).length≤1000000+k
def aP.L0.F:aP.L0.D→aP.L0.Y:=fun(name,L,ps,m,i,row)=>(L+(List.drop (Int.toNat i) ps).length,row++(List.drop (Int.toNat i) ps).map iy)
def aP.aq:aP.D→Prop:=fun(name,ps)=>name.size≤100∧ps.length=2
def aP.F:aP.D→aP.Y:=fun(name,ps)=>pb name (nth tu ps 0) (nth tu ps 1)
noncomputable def aP.G:dX:=eX (P:=Tryz.prog) [dM.sg,cG.sg,bG.sg]
noncomputable def aP.L0.E:=cf.cF aP.L0.st aP.L0.aq aP.L0.add aP.L0.F aP.L0.out
noncomputable def aP.L0.call:aP.L0.D→Option aP.L0.X:=dO aP.L0.E aP.L0.st
noncomputable def aP.an:ej:= {loops:=ky [(3,{bt:=[0,5,8,9,10],sites:=[18],kc:=[⟨5,[],18,199⟩]})],outs:=kr [(3,{bt:=[0,5],sites:=[18]},{bt:=[4]})],gk:=kY [(3,aP.L0.E)]}
noncomputable def aP.A:= @cq Tryz.prog aP.G aP.an 0 Tryz.f124 _ aP.st
abbrev aP.Ok:=cr @aP.A aP.aq aP.add aP.F aP.out
noncomputable def aP.L0.R:= @cP Tryz.prog aP.G aP.an 0 Tryz.f124 0 _ aP.L0.st
abbrev aP.L0.Ok:=fg Tryz.prog aP.G aP.an 0 Tryz.f124 0 aP.L0.st aP.L0.aq aP.L0.add aP.L0.F aP.L0.out
theorem aP.L0.run:bD aP.L0.call aP.L0.aq aP.L0.add aP.L0.F:=fw (fk [.d .str,.n,.d tU,.d ti,.d ti,.d (.slice tB)] fun _=>by kernel_rfl)
theorem aP.L0.aF:gg @aP.L0.R aP.L0.st aP.L0.aq aP.L0.add aP.L0.F aP.L0.bM aP.L0.Ok:=gj
theorem aP.L0.step{R:Type}(name_2:ByteArray)(partsL:Nat)(t8:Bs)(t9:Int)(t10:Int)(n18:(List Bs))(kn:AS→Option R)(kx:Exit→AS→Option R):aP.L0.R (name_2,partsL,t8,t9,t10,n18) kn kx=
  aC ((gM t10 t9)) (
   aC (dY t10 (((List.length t8):Nat):Int)) (
   ab (dM.call (nth tu t8 (Int.toNat t10))) fun x1=>
   aC (decide (partsL≤(List.length n18))) (
   aC (dK (partsL+1) 24) (
   kn (aP.L0.st (name_2,(partsL+1),t8,t9,(bw .i64 t10 (1:Int)),((List.take partsL n18)++ [x1])))) none) none) none) (
   kx (aP.L0.bM (name_2,(partsL,n18))).1 (aP.L0.bM (name_2,(partsL,n18))).2):=by kernel_rfl
theorem aP.eq{R:Type}(name:ByteArray)(points:Bs)(k:aT→Option R):aP.A (name,points) k=
 ab (aP.L0.call (name,0,points,(((List.length points):Nat):Int),(0:Int),([]:List Bs))) fun x3=>
 aC (decide (0=0∧(0+x3.2.1)≤(List.length x3.2.2))) (
 ab (cG.call (x3.1,(cut x3.2.2 0 x3.2.1))) fun x4=>
 ab (bG.call x4) fun x5=>
 k (aP.out x5)) none:=by kernel_rfl
theorem aP.L0.ok:aP.L0.Ok:=by
 refine aP.L0.aF (fun(name,L,ps,m,i,row)=>(ps).length - Int.toNat i) ?_
 rintro⟨name,L,ps,m,i,row⟩ ⟨hlen,k,hk,rfl,rfl,rfl,hrow⟩
 have hlen:(ps).length≤1000000:=hlen
 have hk:k≤(ps).length:=hk
 have hrow:(row).length≤1000000+k:=hrow
 by_cases h:k < (ps).length
 ·left
  have n1:nth tu ps k=ps[k]:=dT (t:=tu) h
  have hd:List.drop k ps=ps[k]::List.drop (k+1) ps:=List.drop_eq_getElem_cons h
  refine⟨(name,(row).length+1,ps,((ps).length:Int),((k+1:Nat):Int),row++ [iy ps[k]]),⟨hlen,k+1,by omega,rfl,rfl,by rw[List.length_append];rfl,by rw[List.length_append];show(row).length+1≤_;omega⟩,by simp only[Int.toNat_natCast];omega,?_,fun kn kx=> ?_⟩
  ·simp only[aP.L0.add,aP.L0.F,Int.toNat_natCast,hd,List.map_cons,List.length_cons,List.append_assoc,List.singleton_append]
   rw[show ∀a c:Nat,a+1+c=a+(c+1) from fun a c=>by omega]
  ·rw[aP.L0.step,bB (by omega),bz (show(0:Int)≤(k:Int) by omega) (by omega),Int.toNat_natCast,n1]
   simp only[ah]
   rw[dM.run (d:=ps[k]) trivial]
   simp only[aa,dM.add,dM.F]
   rw[aD (Nat.le_refl _),eO (by omega) (by omega),N.mC (by omega),List.take_length]
   rfl
 ·right
  obtain rfl:k=(ps).length:=by omega
  intro R kn kx
  rw[aP.L0.step,bm (by omega),ae]
  simp only[aP.L0.add,aP.L0.F,Int.toNat_natCast,List.drop_length,List.map_nil,List.append_nil,List.length_nil,Nat.add_zero]
theorem aP.ok:aP.Ok:=by
 rintro⟨name,ps⟩ ⟨hn,h2⟩
 have h2:ps.length=2:=h2
 match ps,h2 with
 |[a,b],_=>
  rw[aP.eq,aP.L0.run (d:=(name,0,[a,b],(([a,b].length:Nat):Int),0,[])) ⟨by show 2≤_;decide,0,Nat.zero_le _,rfl,rfl,rfl,Nat.zero_le _⟩]
  simp only[aa,aP.L0.add,aP.L0.F,Int.toNat_zero,List.drop_zero,List.nil_append,Nat.zero_add,List.map_cons,List.map_nil,List.length_cons,List.length_nil]
  rw[aD ⟨trivial,by decide⟩,ah,show cut [iy a,iy b] 0 (1+1)=[iy a,iy b] from gG (l:=[iy a,iy b]) (n:=1+1) rfl,cG.run (d:=(name,[iy a,iy b])) (vJ hn (by rw[cM];omega) (by rw[cM];omega))]
  simp only[aa,cG.add,cG.F]
  rw[bG.run (d:=tag (bA name) [iy a,iy b]) (vH _ _)]
  simp only[aa,bG.add,bG.F,aP.add,aP.F,pO,yn]
  rfl
noncomputable def aP.E:=Entry.cF [some .str,some tU] aP.st aP.aq aP.add aP.F aP.out
noncomputable def aP.call:aP.D→Option aP.X:=bC aP.E aP.st
theorem aP.run:bD aP.call aP.aq aP.add aP.F:=cz (cv [.d .str,.d tU] fun _=>by kernel_rfl)
noncomputable def aP.sg:SG Tryz.prog:=⟨124,aK,aP.E,.fn 1 (by kernel_rfl) aP.ok (And.intro (.cF aP.L0.ok (by kernel_rfl)) trivial)⟩
theorem aP.c{n:ByteArray}(h:n.size≤100)(a b:Int):aP.call (n,[a,b])=some (pb n a b):=aP.run (d:=(n,[a,b])) ⟨h,rfl⟩
theorem dj.c{k:Int}(h:fh k):dj.call k=some (gm k):=dj.run (d:=k) h
theorem fJ.c{a b:Int}(h:fh a)(h2:fh b):fJ.call (a,b)=some (rW [a,b]):=fJ.run (d:=(a,b)) ⟨h,h2⟩
theorem dw.c{a b:Int}(h:fh a)(h2:fh b):dw.call (a,b)=some (nF a b):=dw.run (d:=(a,b)) ⟨h,h2⟩
theorem fN.c{a b:Int}(h:fh a)(h2:fh b):fN.call (a,b)=some (A5 a b):=fN.run (d:=(a,b)) ⟨h,h2⟩
theorem fW.c{a b:Int}(h:fh a)(h2:fh b):fW.call (a,b)=some (DD a b):=fW.run (d:=(a,b)) ⟨h,h2⟩
theorem bG.c{s:List Int}(h:Sm s):bG.call s=some (gV s):=bG.run (d:=s) h
theorem He(a b:Int):aP.call ((⟨#[109,105,120]⟩:ByteArray),[a,b])=some (pb FP a b):=aP.c (n:=FP) (by decide) a b
theorem xR(a b:Int):aP.call ((⟨#[114,101,118,111,107,101]⟩:ByteArray),[a,b])=some (pb qe a b):=aP.c (n:=qe) (by decide) a b
theorem zQ(a b:Int):fh (nF a b):=(Cd _ _).u
abbrev cC.D:=js
def cC.st:cC.D→SA:=fun kv=>([.d jd kv],[])
abbrev cC.Y:=Cq
abbrev cC.X:=Cq
def cC.out:cC.X→aT:=fun x=>⟨.d kU x,[],[]⟩
def cC.add:cC.D→cC.Y→cC.X:=fun kv y=>y
def cC.aq:cC.D→Prop:=fun k=>tR k
def cC.F:cC.D→cC.Y:=fun k=>jB k
noncomputable def cC.G:dX:=eX (P:=Tryz.prog) [dj.sg]
noncomputable def cC.an:ej:= {}
noncomputable def cC.A:= @cq Tryz.prog cC.G cC.an 0 Tryz.f13 _ cC.st
abbrev cC.Ok:=cr @cC.A cC.aq cC.add cC.F cC.out
theorem cC.eq{R:Type}(kv:js)(k:aT→Option R):cC.A kv k=
 ab (dj.call kv.1) fun x1=>
 ab (dj.call kv.2.1) fun x2=>
 ab (dj.call kv.2.2.1) fun x3=>
 ab (dj.call kv.2.2.2.1) fun x4=>
 ab (dj.call kv.2.2.2.2.1) fun x5=>
 k (cC.out (x1,(x2,(x3,(x4,(x5,())))))):=by kernel_rfl
theorem cC.ok:cC.Ok:=by
 rintro k ⟨h1,h2,h3,h4,h5⟩
 rw[cC.eq,dj.c h1,aa,dj.c h2,aa,dj.c h3,aa,dj.c h4,aa,dj.c h5,aa]
 rfl
noncomputable def cC.E:=Entry.cF [some jd] cC.st cC.aq cC.add cC.F cC.out
noncomputable def cC.call:cC.D→Option cC.X:=bC cC.E cC.st
theorem cC.run:bD cC.call cC.aq cC.add cC.F:=cz (cv [.d jd] fun _=>by kernel_rfl)
noncomputable def cC.sg:SG Tryz.prog:=⟨13,aK,cC.E,.fn 0 (by kernel_rfl) cC.ok trivial⟩
abbrev dD.D:=Bs
def dD.st:dD.D→SA:=fun secret=>([.d tH secret],[])
abbrev dD.Y:=Int
abbrev dD.X:=Int
def dD.out:dD.X→aT:=fun x=>⟨.d tu x,[],[]⟩
def dD.add:dD.D→dD.Y→dD.X:=fun secret y=>y
def dD.aq:dD.D→Prop:=fun s=>Sm s
def dD.F:dD.D→dD.Y:=fun s=>l7 s
noncomputable def dD.G:dX:=eX (P:=Tryz.prog) [bG.sg,dj.sg]
noncomputable def dD.an:ej:= {}
noncomputable def dD.A:= @cq Tryz.prog dD.G dD.an 0 Tryz.f45 _ dD.st
abbrev dD.Ok:=cr @dD.A dD.aq dD.add dD.F dD.out
theorem dD.eq{R:Type}(secret:Bs)(k:aT→Option R):dD.A secret k=
 ab (bG.call secret) fun x1=>
 ab (dj.call x1) fun x2=>
 k (dD.out x2):=by kernel_rfl
theorem dD.ok:dD.Ok:=by
 intro s hs
 rw[dD.eq,bG.c hs,aa,dj.c (pf s),aa]
 rfl
noncomputable def dD.E:=Entry.cF [some tH] dD.st dD.aq dD.add dD.F dD.out
noncomputable def dD.call:dD.D→Option dD.X:=bC dD.E dD.st
theorem dD.run:bD dD.call dD.aq dD.add dD.F:=cz (cv [.d tB] fun _=>by kernel_rfl)
noncomputable def dD.sg:SG Tryz.prog:=⟨45,aK,dD.E,.fn 0 (by kernel_rfl) dD.ok trivial⟩
theorem dD.c{s:List Int}(h:Sm s):dD.call s=some (l7 s):=dD.run (d:=s) h
abbrev fC.D:=Int×Int
def fC.st:fC.D→SA:=fun(base,per)=>([.d tu base,.d tu per],[])
abbrev fC.Y:=Int
abbrev fC.X:=Int
def fC.out:fC.X→aT:=fun x=>⟨.d tu x,[],[]⟩
def fC.add:fC.D→fC.Y→fC.X:=fun(base,per) y=>y
def fC.aq:fC.D→Prop:=fun(b,_)=>fh b
def fC.F:fC.D→fC.Y:=fun(b,p)=>qc b p
noncomputable def fC.G:dX:=eX (P:=Tryz.prog) [aP.sg,dj.sg,fJ.sg]
noncomputable def fC.an:ej:= {}
noncomputable def fC.A:= @cq Tryz.prog fC.G fC.an 0 Tryz.f79 _ fC.st
abbrev fC.Ok:=cr @fC.A fC.aq fC.add fC.F fC.out
theorem fC.eq{R:Type}(base:Int)(per:Int)(k:aT→Option R):fC.A (base,per) k=
 ab (aP.call ((⟨#[109,105,120]⟩:ByteArray),[per,base])) fun x1=>
 ab (dj.call x1) fun x2=>
 ab (fJ.call (base,x2)) fun x3=>
 k (fC.out x3):=by kernel_rfl
theorem fC.ok:fC.Ok:=by
 rintro⟨b,p⟩ hb
 rw[fC.eq,He,aa,dj.c (yX FP p b),aa,fJ.c hb (qY _),aa]
 have ea:∀d y,fC.add d y=y:=fun _ _=>rfl
 have eF:fC.F (b,p)=qc b p:=rfl
 rw[ea,eF]
 unfold qc
 rfl
noncomputable def fC.E:=Entry.cF [some tu,some tu] fC.st fC.aq fC.add fC.F fC.out
noncomputable def fC.call:fC.D→Option fC.X:=bC fC.E fC.st
theorem fC.run:bD fC.call fC.aq fC.add fC.F:=cz (cv [.d tu,.d tu] fun _=>by kernel_rfl)
noncomputable def fC.sg:SG Tryz.prog:=⟨79,aK,fC.E,.fn 0 (by kernel_rfl) fC.ok trivial⟩
abbrev cD.D:=Int×Int
def cD.st:cD.D→SA:=fun(base,per)=>([.d tu base,.d tu per],[])
abbrev cD.Y:=Int
abbrev cD.X:=Int
def cD.out:cD.X→aT:=fun x=>⟨.d tu x,[],[]⟩
def cD.add:cD.D→cD.Y→cD.X:=fun(base,per) y=>y
def cD.aq:cD.D→Prop:=fun(b,p)=>fh b∧fh p
def cD.F:cD.D→cD.Y:=fun(b,p)=>tQ b p
noncomputable def cD.G:dX:=eX (P:=Tryz.prog) [aP.sg,dw.sg,fJ.sg]
noncomputable def cD.an:ej:= {}
noncomputable def cD.A:= @cq Tryz.prog cD.G cD.an 0 Tryz.f78 _ cD.st
abbrev cD.Ok:=cr @cD.A cD.aq cD.add cD.F cD.out
theorem cD.eq{R:Type}(base:Int)(per:Int)(k:aT→Option R):cD.A (base,per) k=
 ab (aP.call ((⟨#[114,101,118,111,107,101]⟩:ByteArray),[base,per])) fun x1=>
 ab (dw.call (base,x1)) fun x2=>
 ab (aP.call ((⟨#[114,101,118,111,107,101]⟩:ByteArray),[per,base])) fun x3=>
 ab (dw.call (per,x3)) fun x4=>
 ab (fJ.call (x2,x4)) fun x5=>
 k (cD.out x5):=by kernel_rfl
theorem cD.ok:cD.Ok:=by
 rintro⟨b,p⟩ ⟨hb,hp⟩
 have hb:fh b:=hb
 have hp:fh p:=hp
 have e1:=xR b p
 have e2:=xR p b
 have u1:=yX qe b p
 have u2:=yX qe p b
 have ea:∀d y,cD.add d y=y:=fun _ _=>rfl
 have eF:cD.F (b,p)=tQ b p:=rfl
 rw[ea,eF]
 unfold tQ
 generalize pb qe b p=x at e1 u1
 generalize pb qe p b=y at e2 u2
 have q1:=dw.c hb u1
 have q2:=dw.c hp u2
 have q3:=fJ.c (zQ b x) (zQ p y)
 generalize nF b x=v at q1 q3
 generalize nF p y=w at q2 q3
 generalize rW [v,w]=z at q3
 rw[cD.eq,e1,aa,q1,aa,e2,aa,q2,aa,q3,aa]
noncomputable def cD.E:=Entry.cF [some tu,some tu] cD.st cD.aq cD.add cD.F cD.out
noncomputable def cD.call:cD.D→Option cD.X:=bC cD.E cD.st
theorem cD.run:bD cD.call cD.aq cD.add cD.F:=cz (cv [.d tu,.d tu] fun _=>by kernel_rfl)
noncomputable def cD.sg:SG Tryz.prog:=⟨78,aK,cD.E,.fn 0 (by kernel_rfl) cD.ok trivial⟩
abbrev cH.D:=Int×Bs
def cH.st:cH.D→SA:=fun(base,secret)=>([.d tu base,.d tH secret],[])
abbrev cH.Y:=Int
abbrev cH.X:=Int
def cH.out:cH.X→aT:=fun x=>⟨.d tu x,[],[]⟩
def cH.add:cH.D→cH.Y→cH.X:=fun(base,secret) y=>y
def cH.aq:cH.D→Prop:=fun(b,s)=>fh b∧Sm s
def cH.F:cH.D→cH.Y:=fun(b,s)=>oR b s
noncomputable def cH.G:dX:=eX (P:=Tryz.prog) [dj.sg,dD.sg,aP.sg,fN.sg,bG.sg,fW.sg]
noncomputable def cH.an:ej:= {}
noncomputable def cH.A:= @cq Tryz.prog cH.G cH.an 0 Tryz.f73 _ cH.st
abbrev cH.Ok:=cr @cH.A cH.aq cH.add cH.F cH.out
theorem cH.eq{R:Type}(base:Int)(secret:Bs)(k:aT→Option R):cH.A (base,secret) k=
 ab (dj.call base) fun x1=>
 ab (dD.call secret) fun x2=>
 ab (aP.call ((⟨#[114,101,118,111,107,101]⟩:ByteArray),[x1,x2])) fun x3=>
 ab (fN.call (base,x3)) fun x4=>
 ab (bG.call secret) fun x5=>
 ab (aP.call ((⟨#[114,101,118,111,107,101]⟩:ByteArray),[x2,x1])) fun x6=>
 ab (fN.call (x5,x6)) fun x7=>
 ab (fW.call (x4,x7)) fun x8=>
 k (cH.out x8):=by kernel_rfl
theorem cH.ok:cH.Ok:=by
 rintro⟨b,s⟩ ⟨hb,hs⟩
 rw[cH.eq,dj.c hb,aa,dD.c hs,aa,xR,aa,fN.c hb (yX qe _ _),aa,bG.c hs,aa,xR,aa,fN.c (pf s) (yX qe _ _),aa,fW.c (xY _ _).u (xY _ _).u,aa]
 have ea:∀d y,cH.add d y=y:=fun _ _=>rfl
 have eF:cH.F (b,s)=oR b s:=rfl
 rw[ea,eF]
 unfold oR
 rfl
noncomputable def cH.E:=Entry.cF [some tu,some tH] cH.st cH.aq cH.add cH.F cH.out
noncomputable def cH.call:cH.D→Option cH.X:=bC cH.E cH.st
theorem cH.run:bD cH.call cH.aq cH.add cH.F:=cz (cv [.d tu,.d tB] fun _=>by kernel_rfl)
noncomputable def cH.sg:SG Tryz.prog:=⟨73,aK,cH.E,.fn 0 (by kernel_rfl) cH.ok trivial⟩
theorem fC.c{b:Int}(h:fh b)(p:Int):fC.call (b,p)=some (qc b p):=by
 have ea:∀d y,fC.add d y=y:=fun _ _=>rfl
 have eF:fC.F (b,p)=qc b p:=rfl
 rw[fC.run (d:=(b,p)) h,ea,eF]
theorem cD.c{b p:Int}(h:fh b)(h2:fh p):cD.call (b,p)=some (tQ b p):=by
 have ea:∀d y,cD.add d y=y:=fun _ _=>rfl
 have eF:cD.F (b,p)=tQ b p:=rfl
 rw[cD.run (d:=(b,p)) ⟨h,h2⟩,ea,eF]
theorem cH.c{b:Int}{s:List Int}(h:fh b)(h2:Sm s):cH.call (b,s)=some (oR b s):=by
 have ea:∀d y,cH.add d y=y:=fun _ _=>rfl
 have eF:cH.F (b,s)=oR b s:=rfl
 rw[cH.run (d:=(b,s)) ⟨h,h2⟩,ea,eF]
abbrev eC.D:=Int
def eC.st:eC.D→SA:=fun n=>([.d ti n],[])
abbrev eC.Y:=Bool
abbrev eC.X:=Bool
def eC.out:eC.X→aT:=fun x=>⟨.d .bool x,[],[]⟩
def eC.add:eC.D→eC.Y→eC.X:=fun n y=>y
def eC.aq:eC.D→Prop:=fun _=>True
def eC.F:eC.D→eC.Y:=fun n=>decide (n=0∨n=1)
noncomputable def eC.G:dX:=eX (P:=Tryz.prog) []
noncomputable def eC.an:ej:= {}
noncomputable def eC.A:= @cq Tryz.prog eC.G eC.an 0 Tryz.f40 _ eC.st
abbrev eC.Ok:=cr @eC.A eC.aq eC.add eC.F eC.out
theorem eC.eq{R:Type}(n:Int)(k:aT→Option R):eC.A n k=
  aC ((ia n (0:Int))) (
   k (eC.out true)) (
   k (eC.out (ia n (1:Int)))):=by kernel_rfl
theorem eC.ok:eC.Ok:=by
 intro(n:Int) _
 rw[eC.eq]
 simp only[eC.add,eC.F]
 by_cases h:n=0
 ·rw[eu h,ah,aD (.inl h)]
 ·rw[dR h,ae]
  by_cases h2:n=1
  ·rw[eu h2,aD (.inr h2)]
  ·rw[dR h2,bN (by rintro(x | x);exact h x;exact h2 x)]
noncomputable def eC.E:=Entry.cF [some ti] eC.st eC.aq eC.add eC.F eC.out
noncomputable def eC.call:eC.D→Option eC.X:=bC eC.E eC.st
theorem eC.run:bD eC.call eC.aq eC.add eC.F:=cz (cv [.d ti] fun _=>by kernel_rfl)
noncomputable def eC.sg:SG Tryz.prog:=⟨40,aK,eC.E,.fn 0 (by kernel_rfl) eC.ok trivial⟩
abbrev bj.L0.D:=Int×fF×Nat×(List fE)×Int×Int×(List fE)
def bj.L0.st:bj.L0.D→AS:=fun(own_2,ch_2,outL,t11,t12,t13,n27)=>⟨([.undef,.undef,.d ti own_2,.eI iu ch_2,.undef,.undef,.undef,.cT (.new 27 0) 0 [] 0 0 outL,.undef,.undef,.undef,.d (.slice gr) t11,.d ti t12,.d ti t13]++bu 16 []),[],(cw 27 [[.obj 0 false (.vec 75 gr n27)],[],[]])⟩
abbrev bj.L0.Y0:=Nat×(List fE)
abbrev bj.L0.X0:=Nat×(List fE)
def bj.L0.bM:bj.L0.X0→Exit×AS:=fun x=>(.exit 0,⟨(bu 7 ([.cT (.new 27 0) 0 [] 0 0 x.1]++bu 22 [])),[],(cw 27 [[.obj 0 false (.vec 75 gr x.2)],[],[]])⟩)
abbrev bj.L0.X:=bj.L0.X0
abbrev bj.L0.Y:=bj.L0.Y0
def bj.L0.out:bj.L0.X→Out (Exit×AS):=fun x=> .ok (bj.L0.bM x)
def bj.L0.add:bj.L0.D→bj.L0.Y→bj.L0.X:=fun(own_2,ch_2,outL,t11,t12,t13,n27) y=>y
abbrev bj.D:=fF×fL×Int
def bj.st:bj.D→SA:=fun(ch,sv,own)=>([.d iu ch,.d hZ sv,.d ti own],[])
abbrev bj.Y:=(List fE)
abbrev bj.X:=(List fE)
def bj.out:bj.X→aT:=fun x=>⟨.d (.slice gr) x,[],[]⟩
def bj.add:bj.D→bj.Y→bj.X:=fun(ch,sv,own) y=>y
def zS(n:Int):Bool:=kX n 100
def fH(l:List fE):List fE:=l.filter fun c=>zS c.2.2.1
theorem tE(c:fE)(l:List fE):fH (c::l)=if zS c.2.2.1=true then c::fH l else fH l:=by
 unfold fH
 rw[List.filter_cons]
def bj.L0.aq:bj.L0.D→Prop:=fun(own,ch,L,l,m,i,row)=>jI ch∧(own=0∨own=1)∧l.length≤1000∧m=l.length∧L=row.length∧∃k:Nat,k≤l.length∧i=k∧row.length≤k
def bj.L0.F:bj.L0.D→bj.L0.Y:=fun(own,ch,L,l,m,i,row)=>((row++fH (l.drop i.toNat)).length,row++fH (l.drop i.toNat))
def bj.aq:bj.D→Prop:=fun(ch,s,own)=>jI ch∧(own=0∨own=1)∧s.2.2.1.length≤1000
def bj.F:bj.D→bj.Y:=fun(_,s,_)=>fH s.2.2.1
noncomputable def bj.G:dX:=eX (P:=Tryz.prog) [cR.sg]
noncomputable def bj.L0.E:=cf.cF bj.L0.st bj.L0.aq bj.L0.add bj.L0.F bj.L0.out
noncomputable def bj.L0.call:bj.L0.D→Option bj.L0.X:=dO bj.L0.E bj.L0.st
noncomputable def bj.an:ej:= {loops:=ky [(3,{bt:=[2,3,7,11,12,13],sites:=[27],kc:=[⟨7,[],27,51⟩]})],outs:=kr [(3,{bt:=[7],sites:=[27]},{bt:=[6]})],gk:=kY [(3,bj.L0.E)],res:=[some (.slice gr)]}
noncomputable def bj.A:= @cq Tryz.prog bj.G bj.an 0 Tryz.f84 _ bj.st
abbrev bj.Ok:=cr @bj.A bj.aq bj.add bj.F bj.out
noncomputable def bj.L0.R:= @cP Tryz.prog bj.G bj.an 0 Tryz.f84 0 _ bj.L0.st
abbrev bj.L0.Ok:=fg Tryz.prog bj.G bj.an 0 Tryz.f84 0 bj.L0.st bj.L0.aq bj.L0.add bj.L0.F bj.L0.out
theorem bj.L0.run:bD bj.L0.call bj.L0.aq bj.L0.add bj.L0.F:=fw (fk [.d ti,.d iu,.n,.d (.slice gr),.d ti,.d ti,.d (.slice gr)] fun _=>by kernel_rfl)
theorem bj.L0.aF:gg @bj.L0.R bj.L0.st bj.L0.aq bj.L0.add bj.L0.F bj.L0.bM bj.L0.Ok:=gj
theorem bj.L0.step{R:Type}(own_2:Int)(ch_2:fF)(outL:Nat)(t11:(List fE))(t12:Int)(t13:Int)(n27:(List fE))(kn:AS→Option R)(kx:Exit→AS→Option R):bj.L0.R (own_2,ch_2,outL,t11,t12,t13,n27) kn kx=
  aC ((gM t13 t12)) (
   aC (dY t13 (((List.length t11):Nat):Int)) (
   aC (dY own_2 (2:Int)) (
   ab (cR.call ((nth jG ch_2.2.2.2.1 (Int.toNat own_2)),(nth gr t11 (Int.toNat t13)).2.2.1)) fun x1=>
   aC (x1) (
    aC (decide (outL≤(List.length n27))) (
    aC (dK (outL+1) 40) (
    kn (bj.L0.st (own_2,ch_2,(outL+1),t11,t12,(bw .i64 t13 (1:Int)),((List.take outL n27)++ [(nth gr t11 (Int.toNat t13))])))) none) none) (
    kn (bj.L0.st (own_2,ch_2,outL,t11,t12,(bw .i64 t13 (1:Int)),n27)))) none) none) (
   kx (bj.L0.bM (outL,n27)).1 (bj.L0.bM (outL,n27)).2):=by kernel_rfl
theorem bj.eq{R:Type}(ch:fF)(sv:fL)(own:Int)(k:aT→Option R):bj.A (ch,sv,own) k=
 ab (bj.L0.call (own,ch,0,sv.2.2.1,(((List.length sv.2.2.1):Nat):Int),(0:Int),([]:List fE))) fun x3=>
 aC (decide (0=0∧(0+x3.1)≤(List.length x3.2))) (
 k (bj.out (cut x3.2 0 x3.1))) none:=by kernel_rfl
theorem jI.shown{ch:fF}(h:jI ch){own:Int}(ho:own=0∨own=1)(n:Int):cR.call (nth jG ch.2.2.2.1 own.toNat,n)=some (zS n):=by
 obtain⟨d,hd,_⟩:=h.t ho
 rw[hd,cR.run (d:=(te d,n)) trivial]
 rfl
theorem bj.L0.ok:bj.L0.Ok:=by
 refine bj.L0.aF (fun(_,_,_,l,_,i,_)=>l.length - i.toNat) ?_
 rintro⟨own,ch,L,l,m,i,row⟩ ⟨hch,ho,hl,rfl,rfl,k,hk,rfl,hr⟩
 have hk:k≤l.length:=hk
 have hl:l.length≤1000:=hl
 have hr:row.length≤k:=hr
 have ho:own=0∨own=1:=ho
 have hch:jI ch:=hch
 by_cases h:k < l.length
 ·left
  have n1:nth gr l k=l[k]:=dT (t:=gr) h
  have hd:fH (l.drop k)=if zS l[k].2.2.1=true then l[k]::fH (l.drop (k+1)) else fH (l.drop (k+1)):=by rw[List.drop_eq_getElem_cons h,tE]
  have e1:(row++ [l[k]]).length=row.length+1:=by rw[List.length_append];rfl
  cases hs:zS l[k].2.2.1
  ·refine⟨(own,ch,row.length,l,(l.length:Int),((k+1:Nat):Int),row),⟨hch,ho,hl,rfl,rfl,k+1,by omega,rfl,by show row.length≤_;omega⟩,by simp only[Int.toNat_natCast];omega,?_,fun kn kx=> ?_⟩
   ·rw[hs,if_neg (by simp)]at hd
    simp only[bj.L0.add,bj.L0.F,Int.toNat_natCast,hd]
   ·rw[bj.L0.step,bB (by omega),bz (by omega) (by omega),bz (by omega) (by omega),Int.toNat_natCast,n1,hch.shown ho,hs,N.mC (by omega)]
    rfl
  ·refine⟨(own,ch,row.length+1,l,(l.length:Int),((k+1:Nat):Int),row++ [l[k]]),⟨hch,ho,hl,rfl,e1.symm,k+1,by omega,rfl,by show(row++ [l[k]]).length≤_;omega⟩,by simp only[Int.toNat_natCast];omega,?_,fun kn kx=> ?_⟩
   ·rw[hs,if_pos rfl]at hd
    simp only[bj.L0.add,bj.L0.F,Int.toNat_natCast,hd,List.append_assoc,List.singleton_append]
   ·rw[bj.L0.step,bB (by omega),bz (by omega) (by omega),bz (by omega) (by omega),Int.toNat_natCast,n1,hch.shown ho,hs,N.mC (by omega),aD (Nat.le_refl _),eO (by omega) (by omega),List.take_length]
    rfl
 ·right
  obtain rfl:k=l.length:=by omega
  intro R kn kx
  rw[bj.L0.step,bm (by omega),ae]
  simp only[bj.L0.add,bj.L0.F,Int.toNat_natCast,List.drop_length,fH,List.filter_nil,List.append_nil]
theorem bj.ok:bj.Ok:=by
 rintro⟨ch,s,own⟩ ⟨hch,ho,hl⟩
 rw[bj.eq,bj.L0.run (d:=(own,ch,0,s.2.2.1,(s.2.2.1.length:Int),0,[])) ⟨hch,ho,hl,rfl,rfl,0,Nat.zero_le _,rfl,Nat.zero_le _⟩]
 simp only[aa,bj.L0.add,bj.L0.F,Int.toNat_zero,List.drop_zero,List.nil_append,bj.add,bj.F]
 rw[aD ⟨trivial,by omega⟩,ah,gG (by omega)]
noncomputable def bj.E:=Entry.cF [some iu,some hZ,some ti] bj.st bj.aq bj.add bj.F bj.out
noncomputable def bj.call:bj.D→Option bj.X:=bC bj.E bj.st
theorem bj.run:bD bj.call bj.aq bj.add bj.F:=cz (cv [.d iu,.d hZ,.d ti] fun _=>by kernel_rfl)
noncomputable def bj.sg:SG Tryz.prog:=⟨84,aK,bj.E,.fn 1 (by kernel_rfl) bj.ok (And.intro (.cF bj.L0.ok (by kernel_rfl)) trivial)⟩
def gK(ch:fF)(s:fL)(f:Int):Int:=nth ti s.2.1 f.toNat - (if f=ch.2.2.2.2.1 then tW s.2.2.2.1 (fH s.2.2.1).length+660 else 0)
abbrev ei.D:=fF×fL×Int×Int
def ei.st:ei.D→SA:=fun(ch,sv,own,of)=>([.d iu ch,.d hZ sv,.d ti own,.d ti of],[])
abbrev ei.Y:=Int
abbrev ei.X:=Int
def ei.out:ei.X→aT:=fun x=>⟨.d ti x,[],[]⟩
def ei.add:ei.D→ei.Y→ei.X:=fun(ch,sv,own,of) y=>y
def ei.aq:ei.D→Prop:=fun(ch,s,own,of)=>jI ch∧tg ch s∧(own=0∨own=1)∧(of=0∨of=1)
def ei.F:ei.D→ei.Y:=fun(ch,s,_,of)=>gK ch s of
noncomputable def ei.G:dX:=eX (P:=Tryz.prog) [bj.sg,ee.sg]
noncomputable def ei.an:ej:= {}
noncomputable def ei.A:= @cq Tryz.prog ei.G ei.an 0 Tryz.f42 _ ei.st
abbrev ei.Ok:=cr @ei.A ei.aq ei.add ei.F ei.out
theorem ei.eq{R:Type}(ch:fF)(sv:fL)(own:Int)(of:Int)(k:aT→Option R):ei.A (ch,sv,own,of) k=
  aC (dY of (2:Int)) (
  aC ((ia of ch.2.2.2.2.1)) (
   ab (bj.call (ch,sv,own)) fun x1=>
   ab (ee.call (sv.2.2.2.1,(((List.length x1):Nat):Int))) fun x2=>
   k (ei.out (bS .i64 (nth ti sv.2.1 (Int.toNat of)) (bw .i64 x2 (660:Int))))) (
   k (ei.out (nth ti sv.2.1 (Int.toNat of))))) none:=by kernel_rfl
theorem ei.ok:ei.Ok:=by
 rintro⟨ch,s,own,of⟩ ⟨hch,hs,ho,hf⟩
 have hch:jI ch:=hch
 have hs:tg ch s:=hs
 have hf:of=0∨of=1:=hf
 have hl:=hs.len
 have hv:=hs.D6 hf
 have hv0:=hv.1
 have hv1:=hv.2
 have hfe:=sw s.2.2.2.1 (fH s.2.2.1).length
 rw[ei.eq,bz (by omega) (by omega),ah]
 simp only[ei.add,ei.F,gK]
 by_cases h:of=ch.2.2.2.2.1
 ·rw[eu h,ah,bj.run (d:=(ch,s,own)) ⟨hch,ho,by show s.2.2.1.length≤1000;omega⟩]
  simp only[aa,bj.add,bj.F]
  rw[ee.run (d:=(s.2.2.2.1,((fH s.2.2.1).length:Int))) trivial]
  simp only[aa,ee.add,ee.F]
  rw[dL (by omega) (by omega),fe (by omega) (by omega),if_pos h]
 ·rw[dR h,ae,if_neg h,Int.sub_zero]
noncomputable def ei.E:=Entry.cF [some iu,some hZ,some ti,some ti] ei.st ei.aq ei.add ei.F ei.out
noncomputable def ei.call:ei.D→Option ei.X:=bC ei.E ei.st
theorem ei.run:bD ei.call ei.aq ei.add ei.F:=cz (cv [.d iu,.d hZ,.d ti,.d ti] fun _=>by kernel_rfl)
noncomputable def ei.sg:SG Tryz.prog:=⟨42,aK,ei.E,.fn 0 (by kernel_rfl) ei.ok trivial⟩
end
end Go.Ab
namespace Go.Ab
open Go.Proofs
set_option maxRecDepth 100000
set_option linter.unusedVariables false
set_option linter.unusedSimpArgs false
set_option synthInstance.maxSize 5000
def DQ(a b:iC):Int:=EA [qa a.1.1 b.1.1,AG (cut a.2.2.1 0 32) (cut b.2.2.1 0 32),qa a.2.1.1 b.2.1.1,qa a.2.1.2.1.1 b.2.1.2.1.1,qa a.2.1.2.1.2.1 b.2.1.2.1.2.1]
abbrev gz.D:=iC×iC
def gz.st:gz.D→SA:=fun(a,b)=>([.d jq a,.d jq b],[])
abbrev gz.Y:=Int
abbrev gz.X:=Int
def gz.out:gz.X→aT:=fun x=>⟨.d ti x,[],[]⟩
def gz.add:gz.D→gz.Y→gz.X:=fun(a,b) y=>y
def gz.aq:gz.D→Prop:=fun _=>True
def gz.F:gz.D→gz.Y:=fun(a,b)=>DQ a b
noncomputable def gz.G:dX:=eX (P:=Tryz.prog) [fq.sg,gu.sg,fi.sg]
noncomputable def gz.an:ej:= {}
noncomputable def gz.A:= @cq Tryz.prog gz.G gz.an 0 Tryz.f86 _ gz.st
abbrev gz.Ok:=cr @gz.A gz.aq gz.add gz.F gz.out
theorem gz.eq{R:Type}(a:iC)(b:iC)(k:aT→Option R):gz.A (a,b) k=
 ab (fq.call (a.1.1,b.1.1)) fun x1=>
 ab (gu.call ((cut a.2.2.1 0 32),(cut b.2.2.1 0 32))) fun x2=>
 ab (fq.call (a.2.1.1,b.2.1.1)) fun x3=>
 ab (fq.call (a.2.1.2.1.1,b.2.1.2.1.1)) fun x4=>
 ab (fq.call (a.2.1.2.1.2.1,b.2.1.2.1.2.1)) fun x5=>
 ab (fi.call [x1,x2,x3,x4,x5]) fun x6=>
 k (gz.out x6):=by kernel_rfl
theorem gz.ok:gz.Ok:=by
 rintro⟨a,b⟩ _
 have ci:∀x y:Int,fq.call (x,y)=some (qa x y):=fun x y=>fq.run (d:=(x,y)) trivial
 rw[gz.eq,gu.run (d:=(cut a.2.2.1 0 32,cut b.2.2.1 0 32)) trivial]
 simp only[ci,aa,gu.add,gu.F]
 rw[fi.run (by show 5≤_;decide)]
 rfl
noncomputable def gz.E:=Entry.cF [some jq,some jq] gz.st gz.aq gz.add gz.F gz.out
noncomputable def gz.call:gz.D→Option gz.X:=bC gz.E gz.st
theorem gz.run:bD gz.call gz.aq gz.add gz.F:=cz (cv [.d jq,.d jq] fun _=>by kernel_rfl)
noncomputable def gz.sg:SG Tryz.prog:=⟨86,aK,gz.E,.fn 0 (by kernel_rfl) gz.ok trivial⟩
abbrev bF.L0.D:=Nat×Int×Int×Int×(List iC)
def bF.L0.st:bF.L0.D→AS:=fun(dataL_2,a_2,b_2,i,o0_2)=>⟨([.cT (.dH 0) 0 [] 0 0 dataL_2,.d ti a_2,.d ti b_2,.fn 86 (.nil)]++bu 4 ([.d ti i]++bu 44 [])),[.obj 0 false (.vec 181 jq o0_2)],(List.replicate 53 [])⟩
abbrev bF.L0.Y0:=(List iC)
abbrev bF.L0.X0:=(List iC)
def bF.L0.bM:bF.L0.X0→Exit×AS:=fun x=>(.exit 0,⟨(bu 53 []),[.obj 0 false (.vec 181 jq x)],(List.replicate 53 [])⟩)
abbrev bF.L0.X:=bF.L0.X0
abbrev bF.L0.Y:=bF.L0.Y0
def bF.L0.out:bF.L0.X→Out (Exit×AS):=fun x=> .ok (bF.L0.bM x)
def bF.L0.add:bF.L0.D→bF.L0.Y→bF.L0.X:=fun(dataL_2,a_2,b_2,i,o0_2) y=>y
abbrev bF.L1.D:=Nat×Int×Int×Int×Int×(List iC)
def bF.L1.st:bF.L1.D→AS:=fun(dataL_3,a_3,b_3,i_2,j,o0_3)=>⟨([.cT (.dH 0) 0 [] 0 0 dataL_3,.d ti a_3,.d ti b_3,.fn 86 (.nil)]++bu 4 ([.d ti i_2,.d ti j]++bu 43 [])),[.obj 0 false (.vec 181 jq o0_3)],(List.replicate 53 [])⟩
abbrev bF.L1.Y0:=(List iC)
abbrev bF.L1.X0:=(Nat×Int×Int×Int)×((List iC))
def bF.L1.bM:bF.L1.X0→Exit×AS:=fun x=>(.exit 2,⟨([.cT (.dH 0) 0 [] 0 0 x.1.1,.d ti x.1.2.1,.d ti x.1.2.2.1,.fn 86 (.nil)]++bu 4 ([.d ti x.1.2.2.2]++bu 44 [])),[.obj 0 false (.vec 181 jq x.2)],(List.replicate 53 [])⟩)
abbrev bF.L1.X:=bF.L1.X0
abbrev bF.L1.Y:=bF.L1.Y0
def bF.L1.out:bF.L1.X→Out (Exit×AS):=fun x=> .ok (bF.L1.bM x)
def bF.L1.add:bF.L1.D→bF.L1.Y→bF.L1.X:=fun(dataL_3,a_3,b_3,i_2,j,o0_3) y=>((dataL_3,a_3,b_3,i_2),y)
abbrev bF.D:=Nat×Int×Int×(List iC)
def bF.st:bF.D→SA:=fun(dataL,a,b,o0)=>([.cT (.dH 0) 0 [] 0 0 dataL,.d ti a,.d ti b,.fn 86 (.nil)],[.obj 0 false (.vec 181 jq o0)])
abbrev bF.Y:=(List iC)
abbrev bF.X:=(List iC)
def bF.out:bF.X→aT:=fun x=>⟨.nil,[.obj 0 false (.vec 181 jq x)],[]⟩
def bF.add:bF.D→bF.Y→bF.X:=fun(dataL,a,b,o0) y=>y
def DL:Nat→List iC→List iC
 | 0,l=>l
 |j+1,l=>if DQ (nth jq l (j+1)) (nth jq l j) < 0 then DL j ((l.set (j+1) (nth jq l j)).set j (nth jq l (j+1))) else l
def y6:Nat→Nat→List iC→List iC
 | 0,_,l=>l
 |m+1,i,l=>y6 m (i+1) (DL i l)
def iO(l:List iC):List iC:=y6 (l.length - 1) 1 l
theorem uv:∀(j:Nat) (l:List iC),j < l.length→(DL j l).Perm l
 | 0,l,_=>List.Perm.refl _
 |j+1,l,h=>by
  rw[DL]
  split
  ·have n1:nth jq l (j+1)=l[j+1]:=dT (t:=jq) h
   have n2:nth jq l j=l[j]:=dT (t:=jq) (by omega)
   refine(uv j _ (by rw[List.length_set,List.length_set];omega)).trans ?_
   rw[n1,n2]
   exact List.set_set_perm h (by omega)
  ·exact List.Perm.refl _
theorem wY:∀(m i:Nat) (l:List iC),i+m≤l.length→(y6 m i l).Perm l
 | 0,_,_,_=>List.Perm.refl _
 |m+1,i,l,h=>by
  rw[y6]
  have hb:=uv i l (by omega)
  exact(wY m (i+1) _ (by rw[hb.length_eq];omega)).trans hb
theorem jo(l:List iC):(iO l).Perm l:=by
 unfold iO
 by_cases h:l.length=0
 ·have:l=[]:=List.eq_nil_of_length_eq_zero h
  subst this
  exact List.Perm.refl _
 ·exact wY _ _ _ (by omega)
def bF.L1.aq:bF.L1.D→Prop:=fun(n,a,b,i,j,l)=>n=l.length∧l.length≤1000∧a=0∧∃k:Nat,k < l.length∧j=k
def bF.L1.F:bF.L1.D→bF.L1.Y:=fun(n,a,b,i,j,l)=>DL j.toNat l
def bF.L0.aq:bF.L0.D→Prop:=fun(n,a,b,i,l)=>n=l.length∧l.length≤1000∧((a=0∧b=l.length∧∃k:Nat,i=k)∨i≥b)
def bF.L0.F:bF.L0.D→bF.L0.Y:=fun(n,a,b,i,l)=>y6 (b - i).toNat i.toNat l
def bF.aq:bF.D→Prop:=fun(n,a,b,l)=>n=l.length∧l.length≤1000∧((a=0∧b=l.length)∨(a=b∧0 < a∧a≤1000))
def bF.F:bF.D→bF.Y:=fun(n,a,b,l)=>if a=0 then iO l else l
noncomputable def bF.G:dX:=eX (P:=Tryz.prog) [gz.sg]
noncomputable def bF.L0.E:=cf.cF bF.L0.st bF.L0.aq bF.L0.add bF.L0.F bF.L0.out
noncomputable def bF.L0.call:bF.L0.D→Option bF.L0.X:=dO bF.L0.E bF.L0.st
noncomputable def bF.L1.E:=cf.cF bF.L1.st bF.L1.aq bF.L1.add bF.L1.F bF.L1.out
noncomputable def bF.L1.call:bF.L1.D→Option bF.L1.X:=dO bF.L1.E bF.L1.st
noncomputable def bF.an:ej:= {loops:=ky [(1,{bt:=[0,1,2,3,8]}),(4,{bt:=[0,1,2,3,8,9]})],outs:=kr [(1,{},{}),(4,{bt:=[0,1,2,3,8]},{})],gk:=kY [(1,bF.L0.E),(4,bF.L1.E)]}
noncomputable def bF.A:= @cq Tryz.prog bF.G bF.an 0 Tryz.f166 _ bF.st
abbrev bF.Ok:=cr @bF.A bF.aq bF.add bF.F bF.out
noncomputable def bF.L0.R:= @cP Tryz.prog bF.G bF.an 0 Tryz.f166 0 _ bF.L0.st
abbrev bF.L0.Ok:=fg Tryz.prog bF.G bF.an 0 Tryz.f166 0 bF.L0.st bF.L0.aq bF.L0.add bF.L0.F bF.L0.out
noncomputable def bF.L1.R:= @cP Tryz.prog bF.G bF.an 0 Tryz.f166 1 _ bF.L1.st
abbrev bF.L1.Ok:=fg Tryz.prog bF.G bF.an 0 Tryz.f166 1 bF.L1.st bF.L1.aq bF.L1.add bF.L1.F bF.L1.out
theorem bF.L0.run:bD bF.L0.call bF.L0.aq bF.L0.add bF.L0.F:=fw (fk [.n,.d ti,.d ti,.d ti,.d (.slice jq)] fun _=>by kernel_rfl)
theorem bF.L0.aF:gg @bF.L0.R bF.L0.st bF.L0.aq bF.L0.add bF.L0.F bF.L0.bM bF.L0.Ok:=gj
theorem bF.L0.step{R:Type}(dataL_2:Nat)(a_2:Int)(b_2:Int)(i:Int)(o0_2:(List iC))(kn:AS→Option R)(kx:Exit→AS→Option R):bF.L0.R (dataL_2,a_2,b_2,i,o0_2) kn kx=
  aC ((gM i b_2)) (
   ab (bF.L1.call (dataL_2,a_2,b_2,i,i,o0_2)) fun x1=>
   kn (bF.L0.st (x1.1.1,x1.1.2.1,x1.1.2.2.1,(bw .i64 x1.1.2.2.2 (1:Int)),x1.2))) (
   kx (bF.L0.bM o0_2).1 (bF.L0.bM o0_2).2):=by kernel_rfl
theorem bF.L1.run:bD bF.L1.call bF.L1.aq bF.L1.add bF.L1.F:=fw (fk [.n,.d ti,.d ti,.d ti,.d ti,.d (.slice jq)] fun _=>by kernel_rfl)
theorem bF.L1.aF:gg @bF.L1.R bF.L1.st bF.L1.aq bF.L1.add bF.L1.F bF.L1.bM bF.L1.Ok:=gj
theorem bF.L1.step{R:Type}(dataL_3:Nat)(a_3:Int)(b_3:Int)(i_2:Int)(j:Int)(o0_3:(List iC))(kn:AS→Option R)(kx:Exit→AS→Option R):bF.L1.R (dataL_3,a_3,b_3,i_2,j,o0_3) kn kx=
  aC ((na j a_3)) (
   aC (dY j ((dataL_3:Nat):Int)) (
   aC (decide ((0+(Int.toNat j)) < (List.length o0_3))) (
   aC (decide ((((0+(Int.toNat j))*40)+0)=(0+((Int.toNat j)*40)))) (
   aC (dY (bS .i64 j (1:Int)) ((dataL_3:Nat):Int)) (
   aC (decide ((0+(Int.toNat (bS .i64 j (1:Int)))) < (List.length o0_3))) (
   aC (decide ((((0+(Int.toNat (bS .i64 j (1:Int))))*40)+0)=(0+((Int.toNat (bS .i64 j (1:Int)))*40)))) (
   ab (gz.call ((nth jq o0_3 (0+(Int.toNat j))),(nth jq o0_3 (0+(Int.toNat (bS .i64 j (1:Int))))))) fun x1=>
   aC ((gM x1 (0:Int))) (
    aC (dY (bS .i64 j (1:Int)) ((dataL_3:Nat):Int)) (
    aC (decide ((0+(Int.toNat (bS .i64 j (1:Int)))) < (List.length o0_3))) (
    aC (decide ((((0+(Int.toNat (bS .i64 j (1:Int))))*40)+0)=(0+((Int.toNat (bS .i64 j (1:Int)))*40)))) (
    aC (dY j ((dataL_3:Nat):Int)) (
    aC (decide ((0+(Int.toNat j)) < (List.length o0_3))) (
    aC (decide ((((0+(Int.toNat j))*40)+0)=(0+((Int.toNat j)*40)))) (
    aC (dY j ((dataL_3:Nat):Int)) (
    aC (decide ((0+(Int.toNat j)) < (List.length o0_3))) (
    aC (decide ((((0+(Int.toNat j))*40)+0)=(0+((Int.toNat j)*40)))) (
    aC (decide ((0+(Int.toNat j)) < (List.length o0_3))) (
    aC (dY (bS .i64 j (1:Int)) ((dataL_3:Nat):Int)) (
    aC (decide ((0+(Int.toNat (bS .i64 j (1:Int)))) < (List.length (List.set o0_3 (0+(Int.toNat j)) (nth jq o0_3 (0+(Int.toNat (bS .i64 j (1:Int))))))))) (
    aC (decide ((((0+(Int.toNat (bS .i64 j (1:Int))))*40)+0)=(0+((Int.toNat (bS .i64 j (1:Int)))*40)))) (
    aC (decide ((0+(Int.toNat (bS .i64 j (1:Int)))) < (List.length (List.set o0_3 (0+(Int.toNat j)) (nth jq o0_3 (0+(Int.toNat (bS .i64 j (1:Int))))))))) (
    kn (bF.L1.st (dataL_3,a_3,b_3,i_2,(bS .i64 j (1:Int)),(List.set (List.set o0_3 (0+(Int.toNat j)) (nth jq o0_3 (0+(Int.toNat (bS .i64 j (1:Int)))))) (0+(Int.toNat (bS .i64 j (1:Int)))) (nth jq o0_3 (0+(Int.toNat j))))))) none) none) none) none) none) none) none) none) none) none) none) none) none) none) (
    kx (bF.L1.bM ((dataL_3,a_3,b_3,i_2),o0_3)).1 (bF.L1.bM ((dataL_3,a_3,b_3,i_2),o0_3)).2)) none) none) none) none) none) none) (
   kx (bF.L1.bM ((dataL_3,a_3,b_3,i_2),o0_3)).1 (bF.L1.bM ((dataL_3,a_3,b_3,i_2),o0_3)).2):=by kernel_rfl
theorem bF.eq{R:Type}(dataL:Nat)(a:Int)(b:Int)(o0:(List iC))(k:aT→Option R):bF.A (dataL,a,b,o0) k=
 ab (bF.L0.call (dataL,a,b,(bw .i64 a (1:Int)),o0)) fun x3=>
 k (bF.out x3):=by kernel_rfl
theorem bF.L1.ok:bF.L1.Ok:=by
 refine bF.L1.aF (fun(n,a,b,i,j,l)=>j.toNat) ?_
 rintro⟨n,a,b,i,j,l⟩ ⟨rfl,hl,rfl,k,hk,rfl⟩
 have hk:k < l.length:=hk
 have hl:l.length≤1000:=hl
 cases k with
 |zero=>
  right
  intro R kn kx
  rw[bF.L1.step,cZ (by omega),ae]
  rfl
 |succ k=>
  have e:bS .i64 ((k+1:Nat):Int) 1=(k:Int):=by rw[fe (by omega) (by omega)];omega
  have e1:((l.set (k+1) (nth jq l k)).length)=l.length:=List.length_set
  have c1:gz.call (nth jq l (k+1),nth jq l k)=some (DQ (nth jq l (k+1)) (nth jq l k)):=gz.run (d:=(nth jq l (k+1),nth jq l k)) trivial
  have step:∀ {R:Type} (kn:AS→Option R) (kx:Exit→AS→Option R),bF.L1.R (l.length,0,b,i,((k+1:Nat):Int),l) kn kx=aC (decide (DQ (nth jq l (k+1)) (nth jq l k) < 0)) (kn (bF.L1.st (l.length,0,b,i,(k:Int),(l.set (k+1) (nth jq l k)).set k (nth jq l (k+1))))) (kx (bF.L1.bM ((l.length,0,b,i),l)).1 (bF.L1.bM ((l.length,0,b,i),l)).2):=by
   intro R kn kx
   rw[bF.L1.step,e,Int.toNat_natCast,Int.toNat_natCast]
   simp only[Nat.zero_add]
   rw[e1,c1,dS (by omega),bz (by omega) (by omega),bz (i:=(k:Int)) (by omega) (by omega),aD hk,aD (show k < l.length by omega),aD (show(k+1)*40+0=(k+1)*40 from rfl),aD (show k*40+0=k*40 from rfl)]
   simp only[ah,aa]
   rfl
  by_cases hc:DQ (nth jq l (k+1)) (nth jq l k) < 0
  ·left
   refine⟨(l.length,0,b,i,(k:Int),(l.set (k+1) (nth jq l k)).set k (nth jq l (k+1))),⟨by rw[List.length_set,List.length_set],by show(List.set _ _ _).length≤1000;rw[List.length_set,List.length_set];exact hl,rfl,k,by show k < (List.set _ _ _).length;rw[List.length_set,List.length_set];omega,rfl⟩,by simp only[Int.toNat_natCast];omega,?_,fun kn kx=> ?_⟩
   ·simp only[bF.L1.add,bF.L1.F,Int.toNat_natCast]
    rw[DL,if_pos hc]
   ·rw[step,aD hc,ah]
  ·right
   intro R kn kx
   rw[step,bN hc,ae]
   simp only[bF.L1.add,bF.L1.F,Int.toNat_natCast]
   rw[DL,if_neg hc]
theorem bF.L0.ok:bF.L0.Ok:=by
 refine bF.L0.aF (fun(n,a,b,i,l)=>(b - i).toNat) ?_
 rintro⟨n,a,b,i,l⟩ ⟨rfl,hl,h⟩
 have hl:l.length≤1000:=hl
 by_cases hi:i < b
 ·left
  rcases h with⟨rfl,rfl,k,rfl⟩ | h
  ·have hk:k < l.length:=by omega
   have hp:=uv k l hk
   have hpl:(DL k l).length=l.length:=hp.length_eq
   refine⟨(l.length,0,(l.length:Int),((k+1:Nat):Int),DL k l),⟨hpl.symm,by show(DL k l).length≤_;rw[hpl];exact hl,.inl ⟨rfl,by show(l.length:Int)=((DL k l).length:Int);rw[hpl],k+1,rfl⟩⟩,by show((l.length:Int) - ((k+1:Nat):Int)).toNat < ((l.length:Int) - (k:Int)).toNat;omega,?_,fun kn kx=> ?_⟩
   ·simp only[bF.L0.add,bF.L0.F,Int.toNat_natCast]
    rw[show((l.length:Int) - (k:Int)).toNat=((l.length:Int) - ((k+1:Nat):Int)).toNat+1 by omega,y6]
   ·rw[bF.L0.step,bB hi,ah,bF.L1.run (d:=(l.length,0,(l.length:Int),(k:Int),(k:Int),l)) ⟨rfl,hl,rfl,k,hk,rfl⟩]
    simp only[aa,bF.L1.add,bF.L1.F,Int.toNat_natCast]
    rw[N.mC (by omega)]
  ·exact absurd hi (by show ¬i < b;omega)
 ·right
  intro R kn kx
  rw[bF.L0.step,bm hi,ae]
  simp only[bF.L0.add,bF.L0.F]
  rw[show(b - i).toNat=0 by omega,y6]
theorem bF.ok:bF.Ok:=by
 rintro⟨n,a,b,l⟩ ⟨rfl,hl,h⟩
 have hl:l.length≤1000:=hl
 rw[bF.eq]
 rcases h with⟨rfl,rfl⟩ | ⟨rfl,h0,h1⟩
 ·rw[show bw .i64 0 1=1 from rfl,bF.L0.run (d:=(l.length,0,(l.length:Int),1,l)) ⟨rfl,hl,.inl ⟨rfl,rfl,1,rfl⟩⟩]
  simp only[aa,bF.L0.add,bF.L0.F,bF.add,bF.F,if_true,iO]
  rw[show((l.length:Int) - 1).toNat=l.length - 1 by omega]
  rfl
 ·have h1:a≤1000:=h1
  have h0:0 < a:=h0
  rw[dL (by omega) (by omega),bF.L0.run (d:=(l.length,a,a,a+1,l)) ⟨rfl,hl,.inr (by show a+1≥a;omega)⟩]
  simp only[aa,bF.L0.add,bF.L0.F,bF.add,bF.F]
  rw[show(a - (a+1)).toNat=0 by omega,y6,if_neg (by omega)]
noncomputable def bF.E:=Entry.cF [none,some ti,some ti,none] bF.st bF.aq bF.add bF.F bF.out
noncomputable def bF.call:bF.D→Option bF.X:=bC bF.E bF.st
theorem bF.run:bD bF.call bF.aq bF.add bF.F:=cz (cv [.n,.d ti,.d ti,.d (.slice jq)] fun _=>by kernel_rfl)
noncomputable def bF.sg:SG Tryz.prog:=⟨166,aK,bF.E,.fn 2 (by kernel_rfl) bF.ok (And.intro (.cF bF.L0.ok (by kernel_rfl)) (And.intro (.cF bF.L1.ok (by kernel_rfl)) trivial))⟩
abbrev aM.L0.D:=Nat×Int×Int×Int×Int×(List iC)
def aM.L0.st:aM.L0.D→AS:=fun(dataL_2,n_2,blockSize,a,b,o0_2)=>⟨([.cT (.dH 0) 0 [] 0 0 dataL_2,.d ti n_2,.fn 86 (.nil),.undef,.undef,.undef,.d ti blockSize,.d ti a,.d ti b]++bu 54 []),[.obj 0 false (.vec 181 jq o0_2)],(List.replicate 63 [])⟩
abbrev aM.L0.Y0:=Int×(List iC)
abbrev aM.L0.X0:=(Nat×Int×Int)×(Int×(List iC))
def aM.L0.bM:aM.L0.X0→Exit×AS:=fun x=>(.exit 0,⟨([.cT (.dH 0) 0 [] 0 0 x.1.1,.d ti x.1.2.1,.fn 86 (.nil),.undef,.undef,.undef,.d ti x.1.2.2,.d ti x.2.1]++bu 55 []),[.obj 0 false (.vec 181 jq x.2.2)],(List.replicate 63 [])⟩)
abbrev aM.L0.X:=aM.L0.X0
abbrev aM.L0.Y:=aM.L0.Y0
def aM.L0.out:aM.L0.X→Out (Exit×AS):=fun x=> .ok (aM.L0.bM x)
def aM.L0.add:aM.L0.D→aM.L0.Y→aM.L0.X:=fun(dataL_2,n_2,blockSize,a,b,o0_2) y=>((dataL_2,n_2,blockSize),y)
abbrev aM.L1.D:=Nat×Int×Int×(List iC)
def aM.L1.st:aM.L1.D→AS:=fun(dataL_3,n_3,blockSize_2,o0_3)=>⟨([.cT (.dH 0) 0 [] 0 0 dataL_3,.d ti n_3,.fn 86 (.nil),.undef,.undef,.undef,.d ti blockSize_2]++bu 56 []),[.obj 0 false (.vec 181 jq o0_3)],(List.replicate 63 [])⟩
abbrev aM.L1.Y0:=(List iC)
abbrev aM.L1.X0:=(List iC)
def aM.L1.bM:aM.L1.X0→Exit×AS:=fun x=>(.exit 2,⟨(bu 63 []),[.obj 0 false (.vec 181 jq x)],(List.replicate 63 [])⟩)
abbrev aM.L1.X:=aM.L1.X0
abbrev aM.L1.Y:=aM.L1.Y0
def aM.L1.out:aM.L1.X→Out (Exit×AS):=fun x=> .ok (aM.L1.bM x)
def aM.L1.add:aM.L1.D→aM.L1.Y→aM.L1.X:=fun(dataL_3,n_3,blockSize_2,o0_3) y=>y
abbrev aM.L2.D:=Nat×Int×Int×Int×Int×(List iC)
def aM.L2.st:aM.L2.D→AS:=fun(dataL_4,n_4,blockSize_3,a_2,b_2,o0_4)=>⟨([.cT (.dH 0) 0 [] 0 0 dataL_4,.d ti n_4,.fn 86 (.nil),.undef,.undef,.undef,.d ti blockSize_3,.d ti a_2,.d ti b_2]++bu 54 []),[.obj 0 false (.vec 181 jq o0_4)],(List.replicate 63 [])⟩
abbrev aM.L2.Y0:=Unit
abbrev aM.L2.X0:=Nat×Int×Int×Int×(List iC)
def aM.L2.bM:aM.L2.X0→Exit×AS:=fun x=>(.exit 4,⟨([.cT (.dH 0) 0 [] 0 0 x.1,.d ti x.2.1,.fn 86 (.nil),.undef,.undef,.undef,.d ti x.2.2.1,.d ti x.2.2.2.1]++bu 55 []),[.obj 0 false (.vec 181 jq x.2.2.2.2)],(List.replicate 63 [])⟩)
abbrev aM.L2.X:=aM.L2.X0
abbrev aM.L2.Y:=aM.L2.Y0
def aM.L2.out:aM.L2.X→Out (Exit×AS):=fun x=> .ok (aM.L2.bM x)
def aM.L2.add:aM.L2.D→aM.L2.Y→aM.L2.X:=fun(dataL_4,n_4,blockSize_3,a_2,b_2,o0_4) y=>(dataL_4,n_4,blockSize_3,a_2,o0_4)
abbrev aM.D:=Nat×Int×(List iC)
def aM.st:aM.D→SA:=fun(dataL,n,o0)=>([.cT (.dH 0) 0 [] 0 0 dataL,.d ti n,.fn 86 (.nil)],[.obj 0 false (.vec 181 jq o0)])
abbrev aM.Y:=(List iC)
abbrev aM.X:=(List iC)
def aM.out:aM.X→aT:=fun x=>⟨.nil,[.obj 0 false (.vec 181 jq x)],[]⟩
def aM.add:aM.D→aM.Y→aM.X:=fun(dataL,n,o0) y=>y
def aM.L0.aq:aM.L0.D→Prop:=fun(m,n,z,a,b,l)=>m=l.length∧n=l.length∧z=20∧l.length≤20∧((a=0∧b=20)∨(a=20∧b=40))
def aM.L0.F:aM.L0.D→aM.L0.Y:=fun(m,n,z,a,b,l)=>if a=0∧n=20 then(20,iO l) else(a,l)
def aM.L1.aq:aM.L1.D→Prop:=fun(m,n,z,l)=>n≤z
def aM.L1.F:aM.L1.D→aM.L1.Y:=fun(m,n,z,l)=>l
def aM.L2.aq:aM.L2.D→Prop:=fun _=>False
def aM.L2.F:aM.L2.D→aM.L2.Y:=fun _=>()
def aM.aq:aM.D→Prop:=fun(m,n,l)=>m=l.length∧n=l.length∧l.length≤20
def aM.F:aM.D→aM.Y:=fun(m,n,l)=>iO l
noncomputable def aM.G:dX:=eX (P:=Tryz.prog) [bF.sg]
noncomputable def aM.L0.E:=cf.cF aM.L0.st aM.L0.aq aM.L0.add aM.L0.F aM.L0.out
noncomputable def aM.L0.call:aM.L0.D→Option aM.L0.X:=dO aM.L0.E aM.L0.st
noncomputable def aM.L1.E:=cf.cF aM.L1.st aM.L1.aq aM.L1.add aM.L1.F aM.L1.out
noncomputable def aM.L1.call:aM.L1.D→Option aM.L1.X:=dO aM.L1.E aM.L1.st
noncomputable def aM.L2.E:=cf.cF aM.L2.st aM.L2.aq aM.L2.add aM.L2.F aM.L2.out
noncomputable def aM.L2.call:aM.L2.D→Option aM.L2.X:=dO aM.L2.E aM.L2.st
noncomputable def aM.an:ej:= {loops:=ky [(2,{bt:=[0,1,2,6,7,8]}),(7,{bt:=[0,1,2,6]}),(9,{bt:=[0,1,2,6,7,8]})],outs:=kr [(2,{bt:=[0,1,2,6,7]},{}),(7,{},{}),(9,{bt:=[0,1,2,6,7]},{})],gk:=kY [(2,aM.L0.E),(7,aM.L1.E),(9,aM.L2.E)]}
noncomputable def aM.A:= @cq Tryz.prog aM.G aM.an 0 Tryz.f131 _ aM.st
abbrev aM.Ok:=cr @aM.A aM.aq aM.add aM.F aM.out
noncomputable def aM.L0.R:= @cP Tryz.prog aM.G aM.an 0 Tryz.f131 0 _ aM.L0.st
abbrev aM.L0.Ok:=fg Tryz.prog aM.G aM.an 0 Tryz.f131 0 aM.L0.st aM.L0.aq aM.L0.add aM.L0.F aM.L0.out
noncomputable def aM.L1.R:= @cP Tryz.prog aM.G aM.an 0 Tryz.f131 1 _ aM.L1.st
abbrev aM.L1.Ok:=fg Tryz.prog aM.G aM.an 0 Tryz.f131 1 aM.L1.st aM.L1.aq aM.L1.add aM.L1.F aM.L1.out
abbrev aM.L2.Ok:=fg Tryz.prog aM.G aM.an 0 Tryz.f131 2 aM.L2.st aM.L2.aq aM.L2.add aM.L2.F aM.L2.out
theorem aM.L0.run:bD aM.L0.call aM.L0.aq aM.L0.add aM.L0.F:=fw (fk [.n,.d ti,.d ti,.d ti,.d ti,.d (.slice jq)] fun _=>by kernel_rfl)
theorem aM.L0.aF:gg @aM.L0.R aM.L0.st aM.L0.aq aM.L0.add aM.L0.F aM.L0.bM aM.L0.Ok:=gj
theorem aM.L0.step{R:Type}(dataL_2:Nat)(n_2:Int)(blockSize:Int)(a:Int)(b:Int)(o0_2:(List iC))(kn:AS→Option R)(kx:Exit→AS→Option R):aM.L0.R (dataL_2,n_2,blockSize,a,b,o0_2) kn kx=
  aC ((wX b n_2)) (
   ab (bF.call (dataL_2,a,b,o0_2)) fun x1=>
   kn (aM.L0.st (dataL_2,n_2,blockSize,b,(bw .i64 b blockSize),x1))) (
   kx (aM.L0.bM ((dataL_2,n_2,blockSize),(a,o0_2))).1 (aM.L0.bM ((dataL_2,n_2,blockSize),(a,o0_2))).2):=by kernel_rfl
theorem aM.L1.run:bD aM.L1.call aM.L1.aq aM.L1.add aM.L1.F:=fw (fk [.n,.d ti,.d ti,.d (.slice jq)] fun _=>by kernel_rfl)
theorem aM.L1.aF:gg @aM.L1.R aM.L1.st aM.L1.aq aM.L1.add aM.L1.F aM.L1.bM aM.L1.Ok:=gj
theorem aM.L1.step{R:Type}(dataL_3:Nat)(n_3:Int)(blockSize_2:Int)(o0_3:(List iC))(kn:AS→Option R)(kx:Exit→AS→Option R):aM.L1.R (dataL_3,n_3,blockSize_2,o0_3) kn kx=
  aC ((gM blockSize_2 n_3)) (
   ab (aM.L2.call (dataL_3,n_3,blockSize_2,(0:Int),(eS .i64 (2:Int) blockSize_2),o0_3)) fun x1=>
   aC ((gM (bw .i64 x1.2.2.2.1 x1.2.2.1) x1.2.1)) (
    none) (
    kn (aM.L1.st (x1.1,x1.2.1,(eS .i64 x1.2.2.1 (2:Int)),x1.2.2.2.2)))) (
   kx (aM.L1.bM o0_3).1 (aM.L1.bM o0_3).2):=by kernel_rfl
theorem aM.eq{R:Type}(dataL:Nat)(n:Int)(o0:(List iC))(k:aT→Option R):aM.A (dataL,n,o0) k=
 ab (aM.L0.call (dataL,n,(20:Int),(0:Int),(20:Int),o0)) fun x2=>
 ab (bF.call (x2.1.1,x2.2.1,x2.1.2.1,x2.2.2)) fun x3=>
 ab (aM.L1.call (x2.1.1,x2.1.2.1,x2.1.2.2,x3)) fun x5=>
 k (aM.out x5):=by kernel_rfl
theorem aM.L2.ok:aM.L2.Ok:=fun d h=>h.elim
theorem aM.L1.ok:aM.L1.Ok:=by
 refine aM.L1.aF (fun _=>0) ?_
 rintro⟨m,n,z,l⟩ h
 have h:n≤z:=h
 right
 intro R kn kx
 rw[aM.L1.step,bm (by omega),ae]
 rfl
theorem aM.L0.ok:aM.L0.Ok:=by
 refine aM.L0.aF (fun(m,n,z,a,b,l)=>(40 - b).toNat) ?_
 rintro⟨m,n,z,a,b,l⟩ ⟨rfl,rfl,rfl,hl,h⟩
 have hl:l.length≤20:=hl
 rcases h with⟨rfl,rfl⟩ | ⟨rfl,rfl⟩
 ·by_cases h20:l.length=20
  ·left
   have hp:=(jo l).length_eq
   refine⟨((iO l).length,((iO l).length:Int),20,20,40,iO l),⟨rfl,rfl,rfl,by show(iO l).length≤20;omega,.inr ⟨rfl,rfl⟩⟩,by show(40 - (40:Int)).toNat < (40 - (20:Int)).toNat;decide,?_,fun kn kx=> ?_⟩
   ·simp only[aM.L0.add,aM.L0.F]
    rw[if_neg (fun h=>absurd h.1 (by decide)),if_pos ⟨by trivial,by omega⟩,hp]
   ·rw[aM.L0.step,pg (by omega),ah,bF.run (d:=(l.length,0,20,l)) ⟨rfl,by show l.length≤1000;omega,.inl ⟨rfl,by show(20:Int)=(l.length:Int);omega⟩⟩]
    simp only[aa,bF.add,bF.F,if_true]
    rw[show bw .i64 20 20=40 from rfl,hp]
  ·right
   intro R kn kx
   rw[aM.L0.step,ld (by omega),ae]
   simp only[aM.L0.add,aM.L0.F]
   rw[if_neg (fun h=>h20 (by have:=h.2;omega))]
 ·right
  intro R kn kx
  rw[aM.L0.step,ld (by omega),ae]
  simp only[aM.L0.add,aM.L0.F]
  rw[if_neg (fun h=>absurd h.1 (by decide))]
theorem aM.ok:aM.Ok:=by
 rintro⟨m,n,l⟩ ⟨rfl,rfl,hl⟩
 have hl:l.length≤20:=hl
 have hp:=(jo l).length_eq
 rw[aM.eq,aM.L0.run (d:=(l.length,(l.length:Int),20,0,20,l)) ⟨rfl,rfl,rfl,hl,.inl ⟨rfl,rfl⟩⟩]
 simp only[aa,aM.L0.add,aM.L0.F,aM.add,aM.F]
 by_cases h20:l.length=20
 ·rw[if_pos ⟨by trivial,by omega⟩]
  rw[bF.run (d:=(l.length,20,(l.length:Int),iO l)) ⟨by show l.length=(iO l).length;omega,by show(iO l).length≤1000;omega,.inr ⟨by show(20:Int)=(l.length:Int);omega,by decide,by decide⟩⟩]
  simp only[aa,bF.add,bF.F]
  rw[if_neg (by decide),aM.L1.run (d:=(l.length,(l.length:Int),20,iO l)) (by show(l.length:Int)≤20;omega)]
  rfl
 ·rw[if_neg (fun h=>h20 (by have:=h.2;omega))]
  rw[bF.run (d:=(l.length,0,(l.length:Int),l)) ⟨rfl,by show l.length≤1000;omega,.inl ⟨rfl,rfl⟩⟩]
  simp only[aa,bF.add,bF.F,if_true]
  rw[aM.L1.run (d:=(l.length,(l.length:Int),20,iO l)) (by show(l.length:Int)≤20;omega)]
  rfl
noncomputable def aM.E:=Entry.cF [none,some ti,none] aM.st aM.aq aM.add aM.F aM.out
noncomputable def aM.call:aM.D→Option aM.X:=bC aM.E aM.st
theorem aM.run:bD aM.call aM.aq aM.add aM.F:=cz (cv [.n,.d ti,.d (.slice jq)] fun _=>by kernel_rfl)
noncomputable def aM.sg:SG Tryz.prog:=⟨131,aK,aM.E,.fn 3 (by kernel_rfl) aM.ok (And.intro (.cF aM.L0.ok (by kernel_rfl)) (And.intro (.cF aM.L1.ok (by kernel_rfl)) (And.intro (.cF aM.L2.ok (by kernel_rfl)) trivial)))⟩
abbrev gb.D:=Nat×(List iC)
def gb.st:gb.D→SA:=fun(xL,o0)=>([.cT (.dH 0) 0 [] 0 0 xL,.fn 86 (.nil)],[.obj 0 false (.vec 181 jq o0)])
abbrev gb.Y:=(List iC)
abbrev gb.X:=(List iC)
def gb.out:gb.X→aT:=fun x=>⟨.nil,[.obj 0 false (.vec 181 jq x)],[]⟩
def gb.add:gb.D→gb.Y→gb.X:=fun(xL,o0) y=>y
def gb.aq:gb.D→Prop:=fun(m,l)=>m=l.length∧l.length≤20
def gb.F:gb.D→gb.Y:=fun(m,l)=>iO l
noncomputable def gb.G:dX:=eX (P:=Tryz.prog) [aM.sg]
noncomputable def gb.an:ej:= {}
noncomputable def gb.A:= @cq Tryz.prog gb.G gb.an 0 Tryz.f85 _ gb.st
abbrev gb.Ok:=cr @gb.A gb.aq gb.add gb.F gb.out
theorem gb.eq{R:Type}(xL:Nat)(o0:(List iC))(k:aT→Option R):gb.A (xL,o0) k=
 ab (aM.call (xL,((xL:Nat):Int),o0)) fun x1=>
 k (gb.out x1):=by kernel_rfl
theorem gb.ok:gb.Ok:=by
 rintro⟨m,l⟩ ⟨rfl,hl⟩
 rw[gb.eq,aM.run (d:=(l.length,(l.length:Int),l)) ⟨rfl,rfl,hl⟩]
 rfl
noncomputable def gb.E:=Entry.cF [none,none] gb.st gb.aq gb.add gb.F gb.out
noncomputable def gb.call:gb.D→Option gb.X:=bC gb.E gb.st
theorem gb.run:bD gb.call gb.aq gb.add gb.F:=cz (cv [.n,.d (.slice jq)] fun _=>by kernel_rfl)
noncomputable def gb.sg:SG Tryz.prog:=⟨85,aK,gb.E,.fn 0 (by kernel_rfl) gb.ok trivial⟩
set_option synthInstance.maxSize 5000
noncomputable section
def GG:fE:=((0:Int),((0:Int),((0:Int),((0:Int),((0:Int),())))))
theorem Ek:∃f:Lk→List Int,∀l,f l=ID l:=⟨_,fun _=>rfl⟩
def IV:Lk→List Int:=Classical.choose Ek
theorem Hg(l:Lk):IV l=ID l:=Classical.choose_spec Ek l
theorem fI.c{l:Lk}(h:nX l):fI.call l=some (IV l):=by
 rw[fI.run (d:=l) h,Hg]
 simp only[fI.add,fI.F]
def A2(n:Int)(l:Lk)(r:qT):iC:=((n,(l,())),(r,(IV l,())))
abbrev fm.D:=Int×Lk×qT
def fm.st:fm.D→SA:=fun(amount,l,role)=>([.d ti amount,.d lV l,.d ym role,.ptr (.dH 0) 0 [] 0],[.obj 0 false (.dP)])
abbrev fm.Y:=(List iC)
abbrev fm.X:=(List iC)
def fm.out:fm.X→aT:=fun x=>⟨.nil,[.obj 0 false (.cT (.new 0 0) 0 [] 0 0 1)],[.obj 0 false (.vec 181 jq x)]⟩
def fm.add:fm.D→fm.Y→fm.X:=fun(amount,l,role) y=>y
def fm.aq:fm.D→Prop:=fun(n,l,r)=>nX l
def fm.F:fm.D→fm.Y:=fun(n,l,r)=> [A2 n l r]
noncomputable def fm.G:dX:=eX (P:=Tryz.prog) [fI.sg]
noncomputable def fm.an:ej:= {}
noncomputable def fm.A:= @cq Tryz.prog fm.G fm.an 0 Tryz.f80 _ fm.st
abbrev fm.Ok:=cr @fm.A fm.aq fm.add fm.F fm.out
theorem fm.eq{R:Type}(amount:Int)(l:Lk)(role:qT)(k:aT→Option R):fm.A (amount,l,role) k=
 ab (fI.call l) fun x1=>
 k (fm.out [((amount,(l,())),(role,(x1,())))]):=by kernel_rfl
theorem fm.ok:fm.Ok:=by
 rintro⟨n,l,r⟩ hl
 rw[fm.eq,fI.c hl]
 rfl
noncomputable def fm.E:=Entry.cF [some ti,some lV,some ym,none] fm.st fm.aq fm.add fm.F fm.out
noncomputable def fm.call:fm.D→Option fm.X:=bC fm.E fm.st
theorem fm.run:bD fm.call fm.aq fm.add fm.F:=cz (cv [.d ti,.d lV,.d ym] fun _=>by kernel_rfl)
noncomputable def fm.sg:SG Tryz.prog:=⟨80,aK,fm.E,.fn 0 (by kernel_rfl) fm.ok trivial⟩
abbrev fc.D:=Int×Lk×qT×Nat×(List iC)
def fc.st:fc.D→SA:=fun(amount,l,role,o0L,o1)=>([.d ti amount,.d lV l,.d ym role,.ptr (.dH 0) 0 [] 0],[.obj 0 false (.cT (.dH 1) 0 [] 0 0 o0L),.obj 0 false (.vec 181 jq o1)])
abbrev fc.Y:=Nat×(List iC)
abbrev fc.X:=Nat×(List iC)
def fc.out:fc.X→aT:=fun x=>⟨.nil,[.obj 0 false (.cT (.dH 1) 1 [] 0 0 x.1),.obj 1 false (.vec 181 jq x.2)],[]⟩
def fc.add:fc.D→fc.Y→fc.X:=fun(amount,l,role,o0L,o1) y=>y
def fc.aq:fc.D→Prop:=fun(n,l,r,m,row)=>nX l∧m=row.length∧row.length≤1000
def fc.F:fc.D→fc.Y:=fun(n,l,r,m,row)=>(row.length+1,row++ [A2 n l r])
noncomputable def fc.G:dX:=eX (P:=Tryz.prog) [fI.sg]
noncomputable def fc.an:ej:= {}
noncomputable def fc.A:= @cq Tryz.prog fc.G fc.an 0 Tryz.f80 _ fc.st
abbrev fc.Ok:=cr @fc.A fc.aq fc.add fc.F fc.out
theorem fc.eq{R:Type}(amount:Int)(l:Lk)(role:qT)(o0L:Nat)(o1:(List iC))(k:aT→Option R):fc.A (amount,l,role,o0L,o1) k=
 ab (fI.call l) fun x1=>
 aC (decide (o0L≤(List.length o1))) (
 aC (dK (o0L+1) 112) (
 k (fc.out ((o0L+1),((List.take o0L o1)++ [((amount,(l,())),(role,(x1,())))])))) none) none:=by kernel_rfl
theorem fc.ok:fc.Ok:=by
 rintro⟨n,l,r,m,row⟩ ⟨hl,rfl,hr⟩
 have hr:row.length≤1000:=hr
 rw[fc.eq,fI.c hl,aa,aD (Nat.le_refl _),ah,eO (by omega) (by omega),ah,List.take_length]
 rfl
noncomputable def fc.E:=Entry.cF [some ti,some lV,some ym,none] fc.st fc.aq fc.add fc.F fc.out
noncomputable def fc.call:fc.D→Option fc.X:=bC fc.E fc.st
theorem fc.run:bD fc.call fc.aq fc.add fc.F:=cz (cv [.d ti,.d lV,.d ym,.n,.d (.slice jq)] fun _=>by kernel_rfl)
noncomputable def fc.sg:SG Tryz.prog:=⟨80,aK,fc.E,.fn 0 (by kernel_rfl) fc.ok trivial⟩
noncomputable def put.E:Entry:=Entry.alt Hp [some ti,some lV,some ym,none] (X:=fm.X) (Y:=fc.X) fm.E.run fc.E.run fm.E.out fc.E.out
noncomputable def put.sg:SG Tryz.prog:=⟨80,aK,put.E,lY.alt fm.sg.h fc.sg.h⟩
theorem fm.at{n:Int}{l:Lk}{r:qT}(hl:nX l):Av (Y:=fc.X) (fm.call (n,l,r))=some ([A2 n l r],default):=by rw[fm.run (d:=(n,l,r)) hl];rfl
theorem fc.at{n:Int}{l:Lk}{r:qT}{m:Nat}{row:List iC}(hl:nX l)(hm:m=row.length)(hr:row.length≤1000):qV (X:=fm.X) (fc.call (n,l,r,m,row))=some (default,row.length+1,row++ [A2 n l r]):=by rw[fc.run (d:=(n,l,r,m,row)) ⟨hl,hm,hr⟩];rfl
theorem qE{l:Lk}(h:∀b∈l.1,HS b)(h2:l.1.length≤100):nX l:=⟨h,by omega⟩
theorem vX{p a d s:Int}(hp:fh p)(hs:fh s):HS ([p],(a,(d,(s,())))):=⟨fun x hx=>by rw[List.mem_singleton.1 hx];exact hp,hs⟩
theorem qO:fh 0:=⟨by decide,by decide⟩
theorem zi{a b d:Int}(ha:fh a)(hb:fh b):nX (uU a b d):=qE (fun x hx=>by
 rcases List.mem_cons.1 hx with rfl | hx
 ·exact vX hb qO
 ·rw[List.mem_singleton.1 hx];exact vX ha qO) (by show 2≤_;decide)
theorem xT{a:Int}(ha:fh a):nX (xx [a]):=qE (fun x hx=>by rw[List.mem_singleton.1 hx];exact vX ha qO) (by show 1≤_;decide)
theorem ot{a:Int}(ha:fh a):nX (nZ a):=qE (fun x hx=>by
 rcases List.mem_cons.1 hx with rfl | hx
 ·exact vX ha qO
 ·rw[List.mem_singleton.1 hx];exact⟨fun y hy=>(by cases hy),qO⟩) (by show 2≤_;decide)
def Gr(rev theirs mine wait:Int)(c:fE):Lk:=([([rev],((0:Int),((0:Int),((0:Int),())))),([theirs],((0:Int),((0:Int),(c.2.2.2.1,())))),([mine],(c.2.2.2.2.1,(wait,((0:Int),()))))],())
def Gs(rev theirs mine wait:Int)(c:fE):Lk:=([([rev],((0:Int),((0:Int),((0:Int),())))),([mine],((0:Int),(wait,(c.2.2.2.1,())))),([theirs],(c.2.2.2.2.1,((0:Int),((0:Int),()))))],())
theorem Gp{rev theirs mine wait:Int}{c:fE}(h1:fh rev)(h2:fh theirs)(h3:fh mine)(h4:fh c.2.2.2.1):nX (Gr rev theirs mine wait c):=qE (fun x hx=>by
 rcases List.mem_cons.1 hx with rfl | hx
 ·exact vX h1 qO
 rcases List.mem_cons.1 hx with rfl | hx
 ·exact vX h2 h4
 ·rw[List.mem_singleton.1 hx];exact vX h3 qO) (by show 3≤_;decide)
theorem Gq{rev theirs mine wait:Int}{c:fE}(h1:fh rev)(h2:fh theirs)(h3:fh mine)(h4:fh c.2.2.2.1):nX (Gs rev theirs mine wait c):=qE (fun x hx=>by
 rcases List.mem_cons.1 hx with rfl | hx
 ·exact vX h1 qO
 rcases List.mem_cons.1 hx with rfl | hx
 ·exact vX h3 h4
 ·rw[List.mem_singleton.1 hx];exact vX h2 qO) (by show 3≤_;decide)
def jN(own rev theirs mine wait:Int)(c:fE):iC:=if c.1=own then A2 c.2.2.1 (Gr rev theirs mine wait c) ((5:Int),(c,())) else A2 c.2.2.1 (Gs rev theirs mine wait c) ((6:Int),(c,()))
def mn(ch:fF)(n:Int):Cq:=nth kU ch.2.2.1 n.toNat
def r9(ch:fF)(n:Int):Int:=(nth jG ch.2.2.2.1 n.toNat).2.2.1
def mP(ch:fF)(s:fL)(own per:Int):List iC:=
 (if zS (gK ch s own)=true then [A2 (gK ch s own) (uU (qc (mn ch own).2.2.1 per) (tQ (mn ch (1 - own)).2.2.2.2.1 per) (r9 ch (1 - own))) ((1:Int),(GG,()))] else [])++
 ((if zS (gK ch s (1 - own))=true then [A2 (gK ch s (1 - own)) (xx [(mn ch (1 - own)).2.1]) ((2:Int),(GG,()))] else [])++
 ([A2 330 (nZ (mn ch own).1) ((3:Int),(GG,())),A2 330 (nZ (mn ch (1 - own)).1) ((4:Int),(GG,()))]++
 (fH s.2.2.1).map (jN own (tQ (mn ch (1 - own)).2.2.2.2.1 per) (qc (mn ch (1 - own)).2.2.2.1 per) (qc (mn ch own).2.2.2.1 per) (r9 ch (1 - own)))))
def ofRow(ch:fF)(s:fL)(own:Int)(l:List iC):BA:=(([(ch.1,(((0:Int),(([]:List Sg),((0:Int),()))),()))],(l.map (fun m=>m.1),(2*s.1+own,()))),(l.map (fun m=>m.2.1),()))
def fo(ch:fF)(s:fL)(own per:Int):BA:=ofRow ch s own (iO (mP ch s own per))
def Jj:BA:=((([]:List jc),(([]:List jA),((0:Int),()))),(([]:List qT),()))
def jz(ch:fF)(s:fL)(own per:Int):BA×Int:=if(decide (own=0∨own=1) && lf per)=true then(if qJ ch s=true then(fo ch s own per,0) else(Jj,14)) else(Jj,1)
abbrev aR.L0.D:=Int×fF×fL×Int×Int×Int×Int×(List fE)×Int×Int×(Int×Unit)×Nat×(List iC)
def aR.L0.st:aR.L0.D→AS:=fun(own_2,ch_2,sv_2,wait,rev,mine,theirs,t139,t140,t141,n8,n15L,n96)=>⟨([.undef,.undef,.d ti own_2,.undef,.eI iu ch_2,.eI hZ sv_2,.undef,.undef,.ptr (.new 8 0) 0 [] 0,.undef,.undef,.d ti wait,.d tu rev,.d tu mine,.d tu theirs,.ptr (.new 15 0) 0 [] 0,.fn 80 (.cons (.ptr (.new 15 0) 0 [] 0) (.nil))]++bu 122 ([.d (.slice gr) t139,.d ti t140,.d ti t141]++bu 82 [])),[],(cw 8 ([[.obj 0 false (.pr (.pr (.dP) (.pr (.dP) (.d (.pair ti .unit) n8))) (.pr (.dP) (.d .unit ())))]]++cw 6 ([[.obj 0 false (.cT (.new 96 0) 0 [] 0 0 n15L)]]++cw 80 ([[.obj 0 false (.vec 181 jq n96)]]++cw 127 []))))⟩
abbrev aR.L0.Y0:=Nat×(List iC)
abbrev aR.L0.X0:=(Int×fF×fL×(Int×Unit))×(Nat×(List iC))
def aR.L0.bM:aR.L0.X0→Exit×AS:=fun x=>(.exit 1,⟨([.undef,.undef,.d ti x.1.1,.undef,.eI iu x.1.2.1,.eI hZ x.1.2.2.1,.undef,.undef,.ptr (.new 8 0) 0 [] 0]++bu 6 ([.ptr (.new 15 0) 0 [] 0]++bu 208 [])),[],(cw 8 ([[.obj 0 false (.pr (.pr (.dP) (.pr (.dP) (.d (.pair ti .unit) x.1.2.2.2))) (.pr (.dP) (.d .unit ())))]]++cw 6 ([[.obj 0 false (.cT (.new 96 0) 0 [] 0 0 x.2.1)]]++cw 80 ([[.obj 0 false (.vec 181 jq x.2.2)]]++cw 127 []))))⟩)
abbrev aR.L0.X:=aR.L0.X0
abbrev aR.L0.Y:=aR.L0.Y0
def aR.L0.out:aR.L0.X→Out (Exit×AS):=fun x=> .ok (aR.L0.bM x)
def aR.L0.add:aR.L0.D→aR.L0.Y→aR.L0.X:=fun(own_2,ch_2,sv_2,wait,rev,mine,theirs,t139,t140,t141,n8,n15L,n96) y=>((own_2,ch_2,sv_2,n8),y)
abbrev aR.L1.D:=Nat×Int×Int×(Int×Unit)×(List jc)×Nat×(Int×Unit)×Nat×(List iC)×(List jA)×(List qT)
def aR.L1.st:aR.L1.D→AS:=fun(t200L,t201,t202,n8_2,n24,n24L,n24_2,n24L_2,n96_2,n212,n220)=>⟨(bu 8 ([.ptr (.new 8 0) 0 [] 0]++bu 15 ([.ptr (.new 24 0) 0 [] 0]++bu 175 ([.cT (.new 96 0) 0 [] 0 0 t200L,.d ti t201,.d ti t202]++bu 21 [])))),[],(cw 8 ([[.obj 0 false (.pr (.pr (.dP) (.pr (.dP) (.d (.pair ti .unit) n8_2))) (.pr (.dP) (.d .unit ())))]]++cw 15 ([[.obj 0 false (.pr (.pr (.d (.slice jV) n24) (.pr (.cT (.new 212 0) 0 [] 0 0 n24L) (.d (.pair ti .unit) n24_2))) (.pr (.cT (.new 220 0) 0 [] 0 0 n24L_2) (.d .unit ())))]]++cw 71 ([[.obj 0 false (.vec 181 jq n96_2)]]++cw 115 ([[.obj 0 false (.vec 100 nb n212)]]++cw 7 [[.obj 0 false (.vec 95 ym n220)],[],[],[]])))))⟩
abbrev aR.L1.Y0:=Nat×Nat×(List jA)×(List qT)
abbrev aR.L1.X0:=((Int×Unit)×(List jc)×(Int×Unit))×(Nat×Nat×(List jA)×(List qT))
def aR.L1.bM:aR.L1.X0→Exit×AS:=fun x=>(.exit 3,⟨(bu 8 ([.ptr (.new 8 0) 0 [] 0]++bu 15 ([.ptr (.new 24 0) 0 [] 0]++bu 199 []))),[],(cw 8 ([[.obj 0 false (.pr (.pr (.dP) (.pr (.dP) (.d (.pair ti .unit) x.1.1))) (.pr (.dP) (.d .unit ())))]]++cw 15 ([[.obj 0 false (.pr (.pr (.d (.slice jV) x.1.2.1) (.pr (.cT (.new 212 0) 0 [] 0 0 x.2.1) (.d (.pair ti .unit) x.1.2.2))) (.pr (.cT (.new 220 0) 0 [] 0 0 x.2.2.1) (.d .unit ())))]]++cw 187 ([[.obj 0 false (.vec 100 nb x.2.2.2.1)]]++cw 7 [[.obj 0 false (.vec 95 ym x.2.2.2.2)],[],[],[]]))))⟩)
abbrev aR.L1.X:=aR.L1.X0
abbrev aR.L1.Y:=aR.L1.Y0
def aR.L1.out:aR.L1.X→Out (Exit×AS):=fun x=> .ok (aR.L1.bM x)
def aR.L1.add:aR.L1.D→aR.L1.Y→aR.L1.X:=fun(t200L,t201,t202,n8_2,n24,n24L,n24_2,n24L_2,n96_2,n212,n220) y=>((n8_2,n24,n24_2),y)
abbrev aR.D:=fF×fL×Int×Int
def aR.st:aR.D→SA:=fun(ch,sv,own,per)=>([.d iu ch,.d hZ sv,.d ti own,.d tu per],[])
abbrev aR.Y:=BA×Int
abbrev aR.X:=BA×Int
def aR.out:aR.X→aT:=fun x=>⟨.cons (.d HH x.1) (.cons (.d ti x.2) (.nil)),[],[]⟩
def aR.add:aR.D→aR.Y→aR.X:=fun(ch,sv,own,per) y=>y
def aR.L0.aq:aR.L0.D→Prop:=fun(own,ch,s,wait,rev,mine,theirs,l,m,i,z,L,row)=>(∀c∈l,fh c.2.2.2.1)∧(fh rev∧fh mine∧fh theirs)∧l.length≤16∧m=l.length∧L=row.length∧∃k:Nat,k≤l.length∧i=k∧row.length≤4+k
def aR.L0.F:aR.L0.D→aR.L0.Y:=fun(own,ch,s,wait,rev,mine,theirs,l,m,i,z,L,row)=>((row++(l.drop i.toNat).map (jN own rev theirs mine wait)).length,row++(l.drop i.toNat).map (jN own rev theirs mine wait))
def aR.L1.aq:aR.L1.D→Prop:=fun(L,m,i,z,ins,lo,note,lr,row,outs,roles)=>L=row.length∧m=row.length∧lo=outs.length∧lr=roles.length∧row.length≤1000∧∃k:Nat,k≤row.length∧i=k∧outs.length≤k∧roles.length≤k
def aR.L1.F:aR.L1.D→aR.L1.Y:=fun(L,m,i,z,ins,lo,note,lr,row,outs,roles)=>((outs++(row.drop i.toNat).map (fun m=>m.1)).length,(roles++(row.drop i.toNat).map (fun m=>m.2.1)).length,outs++(row.drop i.toNat).map (fun m=>m.1),roles++(row.drop i.toNat).map (fun m=>m.2.1))
def aR.aq:aR.D→Prop:=fun(ch,s,own,per)=>jI ch∧oH s∧fh per
def aR.F:aR.D→aR.Y:=fun(ch,s,own,per)=>jz ch s own per
noncomputable def aR.G:dX:=eX (P:=Tryz.prog) [eC.sg,cO.sg,ak.sg,cD.sg,fC.sg,ei.sg,cR.sg,eY.sg,put.sg,fY.sg,cE.sg,bj.sg,gb.sg]
noncomputable def aR.L0.E:=cf.cF aR.L0.st aR.L0.aq aR.L0.add aR.L0.F aR.L0.out
noncomputable def aR.L0.call:aR.L0.D→Option aR.L0.X:=dO aR.L0.E aR.L0.st
noncomputable def aR.L1.E:=cf.cF aR.L1.st aR.L1.aq aR.L1.add aR.L1.F aR.L1.out
noncomputable def aR.L1.call:aR.L1.D→Option aR.L1.X:=dO aR.L1.E aR.L1.st
noncomputable def aR.an:ej:= {loops:=ky [(20,{bt:=[2,4,5,8,11,12,13,14,15,16,139,140,141],sites:=[8,15,96,117,126],kc:=[⟨15,[.arr],96,0⟩]}),(32,{bt:=[8,24,200,201,202],sites:=[8,24,96,212,220],kc:=[⟨24,[.fst,.snd,.fst],212,60⟩,⟨24,[.snd,.fst],220,81⟩]})],outs:=kr [(20,{bt:=[2,4,5,8,15],sites:=[8,15,96]},{bt:=[8,9]}),(32,{bt:=[8,24],sites:=[8,24,212,220]},{bt:=[8,9]})],gk:=kY [(20,aR.L0.E),(32,aR.L1.E)],res:=[some HH,none]}
noncomputable def aR.A:= @cq Tryz.prog aR.G aR.an 0 Tryz.f37 _ aR.st
abbrev aR.Ok:=cr @aR.A aR.aq aR.add aR.F aR.out
noncomputable def aR.L0.R:= @cP Tryz.prog aR.G aR.an 0 Tryz.f37 0 _ aR.L0.st
abbrev aR.L0.Ok:=fg Tryz.prog aR.G aR.an 0 Tryz.f37 0 aR.L0.st aR.L0.aq aR.L0.add aR.L0.F aR.L0.out
noncomputable def aR.L1.R:= @cP Tryz.prog aR.G aR.an 0 Tryz.f37 1 _ aR.L1.st
abbrev aR.L1.Ok:=fg Tryz.prog aR.G aR.an 0 Tryz.f37 1 aR.L1.st aR.L1.aq aR.L1.add aR.L1.F aR.L1.out
theorem aR.L0.run:bD aR.L0.call aR.L0.aq aR.L0.add aR.L0.F:=fw (fk [.d ti,.d iu,.d hZ,.d ti,.d tu,.d tu,.d tu,.d (.slice gr),.d ti,.d ti,.d (.pair ti .unit),.n,.d (.slice jq)] fun _=>by kernel_rfl)
theorem aR.L0.aF:gg @aR.L0.R aR.L0.st aR.L0.aq aR.L0.add aR.L0.F aR.L0.bM aR.L0.Ok:=gj
theorem aR.L0.step{R:Type}(own_2:Int)(ch_2:fF)(sv_2:fL)(wait:Int)(rev:Int)(mine:Int)(theirs:Int)(t139:(List fE))(t140:Int)(t141:Int)(n8:(Int×Unit))(n15L:Nat)(n96:(List iC))(kn:AS→Option R)(kx:Exit→AS→Option R):aR.L0.R (own_2,ch_2,sv_2,wait,rev,mine,theirs,t139,t140,t141,n8,n15L,n96) kn kx=
  aC ((gM t141 t140)) (
   aC (dY t141 (((List.length t139):Nat):Int)) (
   aC ((ia (nth gr t139 (Int.toNat t141)).1 own_2)) (
    ab (qV (X:=fm.X) (fc.call ((nth gr t139 (Int.toNat t141)).2.2.1,([([rev],((0:Int),((0:Int),((0:Int),())))),([theirs],((0:Int),((0:Int),((nth gr t139 (Int.toNat t141)).2.2.2.1,())))),([mine],((nth gr t139 (Int.toNat t141)).2.2.2.2.1,(wait,((0:Int),()))))],()),((5:Int),((nth gr t139 (Int.toNat t141)),())),n15L,n96))) fun x1=>
    kn (aR.L0.st (own_2,ch_2,sv_2,wait,rev,mine,theirs,t139,t140,(bw .i64 t141 (1:Int)),n8,x1.2.1,x1.2.2))) (
    ab (qV (X:=fm.X) (fc.call ((nth gr t139 (Int.toNat t141)).2.2.1,([([rev],((0:Int),((0:Int),((0:Int),())))),([mine],((0:Int),(wait,((nth gr t139 (Int.toNat t141)).2.2.2.1,())))),([theirs],((nth gr t139 (Int.toNat t141)).2.2.2.2.1,((0:Int),((0:Int),()))))],()),((6:Int),((nth gr t139 (Int.toNat t141)),())),n15L,n96))) fun x2=>
    kn (aR.L0.st (own_2,ch_2,sv_2,wait,rev,mine,theirs,t139,t140,(bw .i64 t141 (1:Int)),n8,x2.2.1,x2.2.2)))) none) (
   kx (aR.L0.bM ((own_2,ch_2,sv_2,n8),(n15L,n96))).1 (aR.L0.bM ((own_2,ch_2,sv_2,n8),(n15L,n96))).2):=by kernel_rfl
theorem aR.L1.run:bD aR.L1.call aR.L1.aq aR.L1.add aR.L1.F:=fw (fk [.n,.d ti,.d ti,.d (.pair ti .unit),.d (.slice jV),.n,.d (.pair ti .unit),.n,.d (.slice jq),.d (.slice nb),.d (.slice ym)] fun _=>by kernel_rfl)
theorem aR.L1.aF:gg @aR.L1.R aR.L1.st aR.L1.aq aR.L1.add aR.L1.F aR.L1.bM aR.L1.Ok:=gj
theorem aR.L1.step{R:Type}(t200L:Nat)(t201:Int)(t202:Int)(n8_2:(Int×Unit))(n24:(List jc))(n24L:Nat)(n24_2:(Int×Unit))(n24L_2:Nat)(n96_2:(List iC))(n212:(List jA))(n220:(List qT))(kn:AS→Option R)(kx:Exit→AS→Option R):aR.L1.R (t200L,t201,t202,n8_2,n24,n24L,n24_2,n24L_2,n96_2,n212,n220) kn kx=
  aC ((gM t202 t201)) (
   aC (dY t202 ((t200L:Nat):Int)) (
   aC (decide ((0+(Int.toNat t202)) < (List.length n96_2))) (
   aC (decide ((((0+(Int.toNat t202))*40)+0)=(0+((Int.toNat t202)*40)))) (
   aC (decide (n24L≤(List.length n212))) (
   aC (dK (n24L+1) 32) (
   aC (decide (n24L_2≤(List.length n220))) (
   aC (dK (n24L_2+1) 48) (
   kn (aR.L1.st (t200L,t201,(bw .i64 t202 (1:Int)),n8_2,n24,(n24L+1),n24_2,(n24L_2+1),n96_2,((List.take n24L n212)++ [(nth jq n96_2 (0+(Int.toNat t202))).1]),((List.take n24L_2 n220)++ [(nth jq n96_2 (0+(Int.toNat t202))).2.1])))) none) none) none) none) none) none) none) (
   kx (aR.L1.bM ((n8_2,n24,n24_2),(n24L,n24L_2,n212,n220))).1 (aR.L1.bM ((n8_2,n24,n24_2),(n24L,n24L_2,n212,n220))).2):=by kernel_rfl
theorem aR.eq{R:Type}(ch:fF)(sv:fL)(own:Int)(per:Int)(k:aT→Option R):aR.A (ch,sv,own,per) k=
  ab (eC.call own) fun x1=>
  aC ((!x1)) (
   k (aR.out (((([]:List jc),(([]:List jA),((0:Int),()))),(([]:List qT),())),(1:Int)))) (
   ab (cO.call per) fun x2=>
   aC ((!x2)) (
    k (aR.out (((([]:List jc),(([]:List jA),((0:Int),()))),(([]:List qT),())),(1:Int)))) (
    ab (ak.call (ch,sv)) fun x3=>
    aC ((!x3)) (
     k (aR.out (((([]:List jc),(([]:List jA),((0:Int),()))),(([]:List qT),())),(14:Int)))) (
     aC (dY (bS .i64 (1:Int) own) (2:Int)) (
     aC (dY (bS .i64 (1:Int) own) (2:Int)) (
     ab (cD.call ((nth kU ch.2.2.1 (Int.toNat (bS .i64 (1:Int) own))).2.2.2.2.1,per)) fun x4=>
     aC (dY own (2:Int)) (
     ab (fC.call ((nth kU ch.2.2.1 (Int.toNat own)).2.2.2.1,per)) fun x5=>
     aC (dY (bS .i64 (1:Int) own) (2:Int)) (
     ab (fC.call ((nth kU ch.2.2.1 (Int.toNat (bS .i64 (1:Int) own))).2.2.2.1,per)) fun x6=>
     ab (ei.call (ch,sv,own,own)) fun x7=>
     aC (dY own (2:Int)) (
     ab (cR.call ((nth jG ch.2.2.2.1 (Int.toNat own)),x7)) fun x8=>
     aC (x8) (
      aC (dY own (2:Int)) (
      ab (fC.call ((nth kU ch.2.2.1 (Int.toNat own)).2.2.1,per)) fun x9=>
      ab (eY.call (x9,x4,(nth jG ch.2.2.2.1 (Int.toNat (bS .i64 (1:Int) own))).2.2.1)) fun x10=>
      ab (Av (Y:=fc.X) (fm.call (x7,x10,((1:Int),(((0:Int),((0:Int),((0:Int),((0:Int),((0:Int),()))))),()))))) fun x11=>
      ab (ei.call (ch,sv,own,(bS .i64 (1:Int) own))) fun x12=>
      aC (dY own (2:Int)) (
      ab (cR.call ((nth jG ch.2.2.2.1 (Int.toNat own)),x12)) fun x13=>
      aC (x13) (
       aC (dY (bS .i64 (1:Int) own) (2:Int)) (
       ab (fY.call (nth kU ch.2.2.1 (Int.toNat (bS .i64 (1:Int) own))).2.1) fun x14=>
       ab (qV (X:=fm.X) (fc.call (x12,x14,((2:Int),(((0:Int),((0:Int),((0:Int),((0:Int),((0:Int),()))))),())),1,x11.1))) fun x15=>
       aC (dY own (2:Int)) (
       ab (cE.call (nth kU ch.2.2.1 (Int.toNat own)).1) fun x16=>
       ab (qV (X:=fm.X) (fc.call ((330:Int),x16,((3:Int),(((0:Int),((0:Int),((0:Int),((0:Int),((0:Int),()))))),())),x15.2.1,x15.2.2))) fun x17=>
       aC (dY (bS .i64 (1:Int) own) (2:Int)) (
       ab (cE.call (nth kU ch.2.2.1 (Int.toNat (bS .i64 (1:Int) own))).1) fun x18=>
       ab (qV (X:=fm.X) (fc.call ((330:Int),x18,((4:Int),(((0:Int),((0:Int),((0:Int),((0:Int),((0:Int),()))))),())),x17.2.1,x17.2.2))) fun x19=>
       ab (bj.call (ch,sv,own)) fun x20=>
       ab (aR.L0.call (own,ch,sv,(nth jG ch.2.2.2.1 (Int.toNat (bS .i64 (1:Int) own))).2.2.1,x4,x5,x6,x20,(((List.length x20):Nat):Int),(0:Int),((0:Int),()),x19.2.1,x19.2.2)) fun x24=>
       ab (gb.call (x24.2.1,x24.2.2)) fun x25=>
       ab (aR.L1.call (x24.2.1,((x24.2.1:Nat):Int),(0:Int),x24.1.2.2.2,[(x24.1.2.1.1,(((0:Int),(([]:List Sg),((0:Int),()))),()))],0,((bw .i64 (eS .i64 (2:Int) x24.1.2.2.1.1) x24.1.1),()),0,x25,([]:List jA),([]:List qT))) fun x26=>
       aC (decide (0=0∧(0+x26.2.1)≤(List.length x26.2.2.2.1))) (
       aC (decide (0=0∧(0+x26.2.2.1)≤(List.length x26.2.2.2.2))) (
       k (aR.out (((x26.1.2.1,((cut x26.2.2.2.1 0 x26.2.1),x26.1.2.2)),((cut x26.2.2.2.2 0 x26.2.2.1),())),(0:Int)))) none) none) none) none) none) (
       aC (dY own (2:Int)) (
       ab (cE.call (nth kU ch.2.2.1 (Int.toNat own)).1) fun x27=>
       ab (qV (X:=fm.X) (fc.call ((330:Int),x27,((3:Int),(((0:Int),((0:Int),((0:Int),((0:Int),((0:Int),()))))),())),1,x11.1))) fun x28=>
       aC (dY (bS .i64 (1:Int) own) (2:Int)) (
       ab (cE.call (nth kU ch.2.2.1 (Int.toNat (bS .i64 (1:Int) own))).1) fun x29=>
       ab (qV (X:=fm.X) (fc.call ((330:Int),x29,((4:Int),(((0:Int),((0:Int),((0:Int),((0:Int),((0:Int),()))))),())),x28.2.1,x28.2.2))) fun x30=>
       ab (bj.call (ch,sv,own)) fun x31=>
       ab (aR.L0.call (own,ch,sv,(nth jG ch.2.2.2.1 (Int.toNat (bS .i64 (1:Int) own))).2.2.1,x4,x5,x6,x31,(((List.length x31):Nat):Int),(0:Int),((0:Int),()),x30.2.1,x30.2.2)) fun x32=>
       ab (gb.call (x32.2.1,x32.2.2)) fun x33=>
       ab (aR.L1.call (x32.2.1,((x32.2.1:Nat):Int),(0:Int),x32.1.2.2.2,[(x32.1.2.1.1,(((0:Int),(([]:List Sg),((0:Int),()))),()))],0,((bw .i64 (eS .i64 (2:Int) x32.1.2.2.1.1) x32.1.1),()),0,x33,([]:List jA),([]:List qT))) fun x34=>
       aC (decide (0=0∧(0+x34.2.1)≤(List.length x34.2.2.2.1))) (
       aC (decide (0=0∧(0+x34.2.2.1)≤(List.length x34.2.2.2.2))) (
       k (aR.out (((x34.1.2.1,((cut x34.2.2.2.1 0 x34.2.1),x34.1.2.2)),((cut x34.2.2.2.2 0 x34.2.2.1),())),(0:Int)))) none) none) none) none)) none) none) (
      ab (ei.call (ch,sv,own,(bS .i64 (1:Int) own))) fun x35=>
      aC (dY own (2:Int)) (
      ab (cR.call ((nth jG ch.2.2.2.1 (Int.toNat own)),x35)) fun x36=>
      aC (x36) (
       aC (dY (bS .i64 (1:Int) own) (2:Int)) (
       ab (fY.call (nth kU ch.2.2.1 (Int.toNat (bS .i64 (1:Int) own))).2.1) fun x37=>
       ab (Av (Y:=fc.X) (fm.call (x35,x37,((2:Int),(((0:Int),((0:Int),((0:Int),((0:Int),((0:Int),()))))),()))))) fun x38=>
       aC (dY own (2:Int)) (
       ab (cE.call (nth kU ch.2.2.1 (Int.toNat own)).1) fun x39=>
       ab (qV (X:=fm.X) (fc.call ((330:Int),x39,((3:Int),(((0:Int),((0:Int),((0:Int),((0:Int),((0:Int),()))))),())),1,x38.1))) fun x40=>
       aC (dY (bS .i64 (1:Int) own) (2:Int)) (
       ab (cE.call (nth kU ch.2.2.1 (Int.toNat (bS .i64 (1:Int) own))).1) fun x41=>
       ab (qV (X:=fm.X) (fc.call ((330:Int),x41,((4:Int),(((0:Int),((0:Int),((0:Int),((0:Int),((0:Int),()))))),())),x40.2.1,x40.2.2))) fun x42=>
       ab (bj.call (ch,sv,own)) fun x43=>
       ab (aR.L0.call (own,ch,sv,(nth jG ch.2.2.2.1 (Int.toNat (bS .i64 (1:Int) own))).2.2.1,x4,x5,x6,x43,(((List.length x43):Nat):Int),(0:Int),((0:Int),()),x42.2.1,x42.2.2)) fun x44=>
       ab (gb.call (x44.2.1,x44.2.2)) fun x45=>
       ab (aR.L1.call (x44.2.1,((x44.2.1:Nat):Int),(0:Int),x44.1.2.2.2,[(x44.1.2.1.1,(((0:Int),(([]:List Sg),((0:Int),()))),()))],0,((bw .i64 (eS .i64 (2:Int) x44.1.2.2.1.1) x44.1.1),()),0,x45,([]:List jA),([]:List qT))) fun x46=>
       aC (decide (0=0∧(0+x46.2.1)≤(List.length x46.2.2.2.1))) (
       aC (decide (0=0∧(0+x46.2.2.1)≤(List.length x46.2.2.2.2))) (
       k (aR.out (((x46.1.2.1,((cut x46.2.2.2.1 0 x46.2.1),x46.1.2.2)),((cut x46.2.2.2.2 0 x46.2.2.1),())),(0:Int)))) none) none) none) none) none) (
       aC (dY own (2:Int)) (
       ab (cE.call (nth kU ch.2.2.1 (Int.toNat own)).1) fun x47=>
       ab (Av (Y:=fc.X) (fm.call ((330:Int),x47,((3:Int),(((0:Int),((0:Int),((0:Int),((0:Int),((0:Int),()))))),()))))) fun x48=>
       aC (dY (bS .i64 (1:Int) own) (2:Int)) (
       ab (cE.call (nth kU ch.2.2.1 (Int.toNat (bS .i64 (1:Int) own))).1) fun x49=>
       ab (qV (X:=fm.X) (fc.call ((330:Int),x49,((4:Int),(((0:Int),((0:Int),((0:Int),((0:Int),((0:Int),()))))),())),1,x48.1))) fun x50=>
       ab (bj.call (ch,sv,own)) fun x51=>
       ab (aR.L0.call (own,ch,sv,(nth jG ch.2.2.2.1 (Int.toNat (bS .i64 (1:Int) own))).2.2.1,x4,x5,x6,x51,(((List.length x51):Nat):Int),(0:Int),((0:Int),()),x50.2.1,x50.2.2)) fun x52=>
       ab (gb.call (x52.2.1,x52.2.2)) fun x53=>
       ab (aR.L1.call (x52.2.1,((x52.2.1:Nat):Int),(0:Int),x52.1.2.2.2,[(x52.1.2.1.1,(((0:Int),(([]:List Sg),((0:Int),()))),()))],0,((bw .i64 (eS .i64 (2:Int) x52.1.2.2.1.1) x52.1.1),()),0,x53,([]:List jA),([]:List qT))) fun x54=>
       aC (decide (0=0∧(0+x54.2.1)≤(List.length x54.2.2.2.1))) (
       aC (decide (0=0∧(0+x54.2.2.1)≤(List.length x54.2.2.2.2))) (
       k (aR.out (((x54.1.2.1,((cut x54.2.2.2.1 0 x54.2.1),x54.1.2.2)),((cut x54.2.2.2.2 0 x54.2.2.1),())),(0:Int)))) none) none) none) none)) none)) none) none) none) none) none))):=by kernel_rfl
theorem aR.L0.ok:aR.L0.Ok:=by
 refine aR.L0.aF (fun(own,ch,s,wait,rev,mine,theirs,l,m,i,z,L,row)=>l.length - i.toNat) ?_
 rintro⟨own,ch,s,wait,rev,mine,theirs,l,m,i,z,L,row⟩ ⟨hc,⟨h1,h2,h3⟩,hl,rfl,rfl,k,hk,rfl,hr⟩
 have hk:k≤l.length:=hk
 have hl:l.length≤16:=hl
 have hr:row.length≤4+k:=hr
 have h1:fh rev:=h1
 have h2:fh mine:=h2
 have h3:fh theirs:=h3
 by_cases h:k < l.length
 ·left
  have n1:nth gr l k=l[k]:=dT (t:=gr) h
  have hp:fh l[k].2.2.2.1:=hc _ (List.getElem_mem h)
  have hd:(l.drop k).map (jN own rev theirs mine wait)=jN own rev theirs mine wait l[k]::(l.drop (k+1)).map (jN own rev theirs mine wait):=by rw[List.drop_eq_getElem_cons h,List.map_cons]
  have e1:∀x:iC,(row++ [x]).length=row.length+1:=fun x=>by rw[List.length_append];rfl
  refine⟨(own,ch,s,wait,rev,mine,theirs,l,(l.length:Int),((k+1:Nat):Int),z,row.length+1,row++ [jN own rev theirs mine wait l[k]]),⟨hc,⟨h1,h2,h3⟩,hl,rfl,(e1 _).symm,k+1,by omega,rfl,by show(row++ [_]).length≤_;rw[e1];omega⟩,by simp only[Int.toNat_natCast];omega,?_,fun kn kx=> ?_⟩
  ·simp only[aR.L0.add,aR.L0.F,Int.toNat_natCast,hd,List.append_assoc,List.singleton_append]
  ·rw[aR.L0.step,bB (by omega),bz (by omega) (by omega),Int.toNat_natCast,n1,N.mC (by omega)]
   simp only[ah]
   unfold jN
   by_cases ho:l[k].1=own
   ·rw[eu ho,ah,if_pos ho]
    refine(congrArg (fun z=>ab z _) (fc.at (Gp h1 h3 h2 hp) rfl (by omega))).trans ?_
    rfl
   ·rw[dR ho,ae,if_neg ho]
    refine(congrArg (fun z=>ab z _) (fc.at (Gq h1 h3 h2 hp) rfl (by omega))).trans ?_
    rfl
 ·right
  obtain rfl:k=l.length:=by omega
  intro R kn kx
  rw[aR.L0.step,bm (by omega),ae]
  simp only[aR.L0.add,aR.L0.F,Int.toNat_natCast,List.drop_length,List.map_nil,List.append_nil]
theorem aR.L1.ok:aR.L1.Ok:=by
 refine aR.L1.aF (fun(L,m,i,z,ins,lo,note,lr,row,outs,roles)=>row.length - i.toNat) ?_
 rintro⟨L,m,i,z,ins,lo,note,lr,row,outs,roles⟩ ⟨rfl,rfl,rfl,rfl,hl,k,hk,rfl,ho,hr⟩
 have hk:k≤row.length:=hk
 have hl:row.length≤1000:=hl
 have ho:outs.length≤k:=ho
 have hr:roles.length≤k:=hr
 by_cases h:k < row.length
 ·left
  have n1:nth jq row k=row[k]:=dT (t:=jq) h
  have hd:row.drop k=row[k]::row.drop (k+1):=List.drop_eq_getElem_cons h
  have e1:(outs++ [row[k].1]).length=outs.length+1:=by rw[List.length_append];rfl
  have e2:(roles++ [row[k].2.1]).length=roles.length+1:=by rw[List.length_append];rfl
  refine⟨(row.length,(row.length:Int),((k+1:Nat):Int),z,ins,outs.length+1,note,roles.length+1,row,outs++ [row[k].1],roles++ [row[k].2.1]),⟨rfl,rfl,e1.symm,e2.symm,hl,k+1,by omega,rfl,by show(outs++ [_]).length≤_;rw[e1];omega,by show(roles++ [_]).length≤_;rw[e2];omega⟩,by simp only[Int.toNat_natCast];omega,?_,fun kn kx=> ?_⟩
  ·simp only[aR.L1.add,aR.L1.F,Int.toNat_natCast,hd,List.map_cons,List.append_assoc,List.singleton_append]
  ·rw[aR.L1.step,bB (by omega),bz (by omega) (by omega),Int.toNat_natCast]
   simp only[Nat.zero_add]
   rw[n1,N.mC (by omega),aD h,aD (show k*40+0=k*40 from rfl),aD (Nat.le_refl _),aD (Nat.le_refl _),eO (by omega) (by omega),eO (by omega) (by omega),List.take_length,List.take_length]
   simp only[ah]
 ·right
  obtain rfl:k=row.length:=by omega
  intro R kn kx
  rw[aR.L1.step,bm (by omega),ae]
  simp only[aR.L1.add,aR.L1.F,Int.toNat_natCast,List.drop_length,List.map_nil,List.append_nil]
theorem aR.tail{ch:fF}{s:fL}{own wait rev mine theirs:Int}(hch:jI ch)(hu:oH s)(hs:tg ch s)(ho:own=0∨own=1)(h1:fh rev)(h2:fh mine)(h3:fh theirs){RL:Nat}{R:List iC}(hL:RL=R.length)(hR:R.length≤4):
   (ab (bj.call (ch,s,own)) fun x20=>
    ab (aR.L0.call (own,ch,s,wait,rev,mine,theirs,x20,(((List.length x20):Nat):Int),(0:Int),((0:Int),()),RL,R)) fun x24=>
    ab (gb.call (x24.2.1,x24.2.2)) fun x25=>
    ab (aR.L1.call (x24.2.1,((x24.2.1:Nat):Int),(0:Int),x24.1.2.2.2,[(x24.1.2.1.1,(((0:Int),(([]:List Sg),((0:Int),()))),()))],0,((bw .i64 (eS .i64 (2:Int) x24.1.2.2.1.1) x24.1.1),()),0,x25,([]:List jA),([]:List qT))) fun x26=>
    aC (decide (0=0∧(0+x26.2.1)≤(List.length x26.2.2.2.1))) (
    aC (decide (0=0∧(0+x26.2.2.1)≤(List.length x26.2.2.2.2))) (
    some (aR.out (((x26.1.2.1,((cut x26.2.2.2.1 0 x26.2.1),x26.1.2.2)),((cut x26.2.2.2.2 0 x26.2.2.1),())),(0:Int)))) none) none)=some (aR.out (ofRow ch s own (iO (R++(fH s.2.2.1).map (jN own rev theirs mine wait))),0)):=by
  subst hL
  have hl:=hs.len
  have hsl:(fH s.2.2.1).length≤16:=Nat.le_trans (List.length_filter_le _ _) hl
  have hno:=hs.no
  rw[bj.run (d:=(ch,s,own)) ⟨hch,ho,by show s.2.2.1.length≤1000;omega⟩]
  simp only[aa,bj.add,bj.F]
  rw[aR.L0.run (d:=(own,ch,s,wait,rev,mine,theirs,fH s.2.2.1,((fH s.2.2.1).length:Int),0,(0,()),R.length,R)) ⟨fun c hc=>hu.1 c ((List.mem_filter.1 hc).1),⟨h1,h2,h3⟩,hsl,rfl,rfl,0,Nat.zero_le _,rfl,by omega⟩]
  simp only[aa,aR.L0.add,aR.L0.F,Int.toNat_zero,List.drop_zero]
  have hq:(R++(fH s.2.2.1).map (jN own rev theirs mine wait)).length≤20:=by rw[List.length_append,List.length_map];omega
  generalize R++(fH s.2.2.1).map (jN own rev theirs mine wait)=Q at hq
  rw[gb.run (d:=(Q.length,Q)) ⟨rfl,hq⟩]
  simp only[aa,gb.add,gb.F]
  have hp:=(jo Q).length_eq
  rw[jk (by omega) (by omega),dL (by omega) (by omega)]
  rw[aR.L1.run (d:=(Q.length,(Q.length:Int),0,(0,()),[(ch.1,(((0:Int),(([]:List Sg),((0:Int),()))),()))],0,(2*s.1+own,()),0,iO Q,[],[])) ⟨hp.symm,by show(Q.length:Int)=((iO Q).length:Int);rw[hp],rfl,rfl,by show(iO Q).length≤1000;omega,0,Nat.zero_le _,rfl,Nat.le_refl _,Nat.le_refl _⟩]
  simp only[aa,aR.L1.add,aR.L1.F,Int.toNat_zero,List.drop_zero,List.nil_append,Nat.zero_add]
  rw[aD ⟨trivial,Nat.le_refl _⟩,ah,aD ⟨trivial,Nat.le_refl _⟩,ah,gG rfl,gG rfl]
  rfl
theorem jI.ba{ch:fF}(h:jI ch){n:Int}(hn:n=0∨n=1):GH (mn ch n):=by
 obtain⟨a,b0,b1,o,rfl,_,_,h1,h2,_⟩:=h
 rcases hn with rfl | rfl
 ·exact h1
 ·exact h2
theorem ma(l:List Int):fh (rW l):=(Cj l).u
theorem aR.ok:aR.Ok:=by
 rintro⟨ch,s,own,per⟩ ⟨hch,hu,hp⟩
 have hch:jI ch:=hch
 have hu:oH s:=hu
 have hp:fh per:=hp
 rw[aR.eq,eC.run (d:=own) trivial]
 simp only[aa,eC.add,eC.F,aR.add,aR.F,jz, -eq_self]
 by_cases ho:own=0∨own=1
 rotate_left
 ·rw[bN ho];rfl
 rw[aD ho,Bool.not_true,ae,cO.run (d:=per) hp]
 simp only[aa,cO.add,cO.F, -eq_self]
 cases hq:lf per
 ·rfl
 rw[Bool.not_true,ae,ak.run (d:=(ch,s)) ⟨hch,hu⟩]
 simp only[aa,ak.add,ak.F,Bool.and_self,if_true, -eq_self]
 cases hok:qJ ch s
 ·rfl
 have hs:=mS.1 hok
 have hp':1 - own=0∨1 - own=1:=by omega
 have b0:=hch.ba ho
 have b1:=hch.ba hp'
 have i1:dY own 2=true:=bz (by omega) (by omega)
 have i2:dY (1 - own) 2=true:=bz (by omega) (by omega)
 have eB:∀n:Int,nth kU ch.2.2.1 n.toNat=mn ch n:=fun _=>rfl
 have eW:∀n:Int,(nth jG ch.2.2.2.1 n.toNat).2.2.1=r9 ch n:=fun _=>rfl
 have c1:cD.call ((mn ch (1 - own)).2.2.2.2.1,per)=some (tQ (mn ch (1 - own)).2.2.2.2.1 per):=cD.c b1.2.2.2.2.1 hp
 have c2:fC.call ((mn ch own).2.2.2.1,per)=some (qc (mn ch own).2.2.2.1 per):=fC.c b0.2.2.2.1.1 per
 have c3:fC.call ((mn ch (1 - own)).2.2.2.1,per)=some (qc (mn ch (1 - own)).2.2.2.1 per):=fC.c b1.2.2.2.1.1 per
 have c4:fC.call ((mn ch own).2.2.1,per)=some (qc (mn ch own).2.2.1 per):=fC.c b0.2.2.1.1 per
 have c5:ei.call (ch,s,own,own)=some (gK ch s own):=ei.run (d:=(ch,s,own,own)) ⟨hch,hs,ho,ho⟩
 have c6:ei.call (ch,s,own,1 - own)=some (gK ch s (1 - own)):=ei.run (d:=(ch,s,own,1 - own)) ⟨hch,hs,ho,hp'⟩
 have c7:∀a b c:Int,eY.call (a,b,c)=some (uU a b c):=fun a b c=>eY.run (d:=(a,b,c)) trivial
 have c8:∀a:Int,fY.call a=some (xx [a]):=fun a=>fY.run (d:=a) trivial
 have c9:∀a:Int,cE.call a=some (nZ a):=fun a=>cE.run (d:=a) trivial
 have u1:fh (tQ (mn ch (1 - own)).2.2.2.2.1 per):=ma _
 have u2:fh (qc (mn ch own).2.2.2.1 per):=ma _
 have u3:fh (qc (mn ch (1 - own)).2.2.2.1 per):=ma _
 have k1:nX (uU (qc (mn ch own).2.2.1 per) (tQ (mn ch (1 - own)).2.2.2.2.1 per) (r9 ch (1 - own))):=zi (ma _) u1
 have k2:nX (xx [(mn ch (1 - own)).2.1]):=xT b1.2.1.1
 have k3:nX (nZ (mn ch own).1):=ot b0.1.1
 have k4:nX (nZ (mn ch (1 - own)).1):=ot b1.1.1
 have hsh:=fun n=>hch.shown ho n
 rw[Bt (by omega)]
 simp only[eB,eW,i1,i2,ah,Bool.not_true,ae,c1,c2,c3,c4,c5,c6,c7,c8,c9,hsh,aa, -eq_self]
 unfold fo mP
 cases hA:zS (gK ch s own) <;> cases hB:zS (gK ch s (1 - own))
 ·simp only[ah,ae,if_true,Bool.false_eq_true,if_false,List.nil_append, -eq_self]
  refine(congrArg (fun z=>ab z _) (fm.at k3)).trans ?_
  simp only[aa, -eq_self]
  refine(congrArg (fun z=>ab z _) (fc.at k4 ?_ ?_)).trans ?_
  ·rfl
  ·exact Nat.le_of_ble_eq_true rfl
  simp only[aa, -eq_self]
  exact aR.tail hch hu hs ho u1 u2 u3 rfl (Nat.le_of_ble_eq_true rfl)
 ·simp only[ah,ae,if_true,Bool.false_eq_true,if_false,List.nil_append, -eq_self]
  refine(congrArg (fun z=>ab z _) (fm.at k2)).trans ?_
  simp only[aa, -eq_self]
  refine(congrArg (fun z=>ab z _) (fc.at k3 ?_ ?_)).trans ?_
  ·rfl
  ·exact Nat.le_of_ble_eq_true rfl
  simp only[aa, -eq_self]
  refine(congrArg (fun z=>ab z _) (fc.at k4 ?_ ?_)).trans ?_
  ·rfl
  ·exact Nat.le_of_ble_eq_true rfl
  simp only[aa, -eq_self]
  exact aR.tail hch hu hs ho u1 u2 u3 rfl (Nat.le_of_ble_eq_true rfl)
 ·simp only[ah,ae,if_true,Bool.false_eq_true,if_false,List.nil_append, -eq_self]
  refine(congrArg (fun z=>ab z _) (fm.at k1)).trans ?_
  simp only[aa, -eq_self]
  refine(congrArg (fun z=>ab z _) (fc.at k3 ?_ ?_)).trans ?_
  ·rfl
  ·exact Nat.le_of_ble_eq_true rfl
  simp only[aa, -eq_self]
  refine(congrArg (fun z=>ab z _) (fc.at k4 ?_ ?_)).trans ?_
  ·rfl
  ·exact Nat.le_of_ble_eq_true rfl
  simp only[aa, -eq_self]
  exact aR.tail hch hu hs ho u1 u2 u3 rfl (Nat.le_of_ble_eq_true rfl)
 ·simp only[ah,ae,if_true, -eq_self]
  refine(congrArg (fun z=>ab z _) (fm.at k1)).trans ?_
  simp only[aa, -eq_self]
  refine(congrArg (fun z=>ab z _) (fc.at k2 ?_ ?_)).trans ?_
  ·rfl
  ·exact Nat.le_of_ble_eq_true rfl
  simp only[aa, -eq_self]
  refine(congrArg (fun z=>ab z _) (fc.at k3 ?_ ?_)).trans ?_
  ·rfl
  ·exact Nat.le_of_ble_eq_true rfl
  simp only[aa, -eq_self]
  refine(congrArg (fun z=>ab z _) (fc.at k4 ?_ ?_)).trans ?_
  ·rfl
  ·exact Nat.le_of_ble_eq_true rfl
  simp only[aa, -eq_self]
  exact aR.tail hch hu hs ho u1 u2 u3 rfl (Nat.le_of_ble_eq_true rfl)
noncomputable def aR.E:=Entry.cF [some iu,some hZ,some ti,some tu] aR.st aR.aq aR.add aR.F aR.out
noncomputable def aR.call:aR.D→Option aR.X:=bC aR.E aR.st
theorem aR.run:bD aR.call aR.aq aR.add aR.F:=cz (cv [.d iu,.d hZ,.d ti,.d tu] fun _=>by kernel_rfl)
noncomputable def aR.sg:SG Tryz.prog:=⟨37,aK,aR.E,.fn 2 (by kernel_rfl) aR.ok (And.intro (.cF aR.L0.ok (by kernel_rfl)) (And.intro (.cF aR.L1.ok (by kernel_rfl)) trivial))⟩
end
end Go.Ab
namespace Go.Ab
open Go.Proofs
set_option maxRecDepth 100000
set_option linter.unusedVariables false
set_option linter.unusedSimpArgs false
set_option synthInstance.maxSize 5000
noncomputable section
def pF(rev pay:Int)(o:oQ)(x:jA)(r:qT):List kA:=if r.1=3∨r.1=4 then [] else [(o,(x.1,((if r.1=2 then pay else rev),())))]
def wy(rev pay:Int):List oQ→List jA→List qT→List kA
 |o::os,x::xs,r::rs=>pF rev pay o x r++wy rev pay os xs rs
 |_,_,_=> []
def tO(c:BA)(rev pay:Int):List kA:=wy rev pay (jm c.1) c.1.2.1 c.2.1
def vW:List kA→Int
 |[]=>0
 |x::l=>x.2.1+vW l
def kf(l:List kA)(aV:Int):Int:= -aV*(18+18*l.length)+vW l
structure Jw(x:kA):Prop where
 id:Sm x.1.1
 Aq:0≤x.2.1∧x.2.1≤1125899906842624
 key:fh x.2.2.1
def vU(l:List kA):Prop:=l.length≤64∧∀x∈l,Jw x
theorem Ck(rev pay:Int):∀(a:List oQ) (b:List jA) (c:List qT),(wy rev pay a b c).length≤a.length
 |[],_,_=>Nat.le_refl _
 |_::_,[],_=>Nat.zero_le _
 |_::_,_::_,[]=>Nat.zero_le _
 |o::a,x::b,r::c=>by
  have:=Ck rev pay a b c
  rw[wy,List.length_append,List.length_cons]
  have h1:(pF rev pay o x r).length≤1:=by unfold pF;split <;> simp
  omega
theorem uj(rev pay:Int):∀(a:List oQ) (b:List jA) (c:List qT) (y:kA),y∈wy rev pay a b c→∃o∈a,∃x∈b,∃r∈c,¬(r.1=3∨r.1=4)∧y=(o,(x.1,((if r.1=2 then pay else rev),())))
 |[],_,_,_,h=>by simp[wy]at h
 |_::_,[],_,_,h=>by simp[wy]at h
 |_::_,_::_,[],_,h=>by simp[wy]at h
 |o::a,x::b,r::c,y,h=>by
  rw[wy,List.mem_append]at h
  rcases h with h | h
  ·unfold pF at h
   split at h
   ·cases h
   ·next hr=>
    rw[List.mem_singleton]at h
    exact⟨o,List.mem_cons_self,x,List.mem_cons_self,r,List.mem_cons_self,hr,h⟩
  ·obtain⟨o',h1,x',h2,r',h3,h4⟩:=uj rev pay a b c y h
   exact⟨o',List.mem_cons_of_mem _ h1,x',List.mem_cons_of_mem _ h2,r',List.mem_cons_of_mem _ h3,h4⟩
abbrev db.D:=Int
def db.st:db.D→SA:=fun many=>([.d ti many],[])
abbrev db.Y:=Int
abbrev db.X:=Int
def db.out:db.X→aT:=fun x=>⟨.d ti x,[],[]⟩
def db.add:db.D→db.Y→db.X:=fun many y=>y
def db.aq:db.D→Prop:=fun n=>0≤n∧n≤1000
def db.F:db.D→db.Y:=fun n=>18+18*n
noncomputable def db.G:dX:=eX (P:=Tryz.prog) []
noncomputable def db.an:ej:= {}
noncomputable def db.A:= @cq Tryz.prog db.G db.an 0 Tryz.f90 _ db.st
abbrev db.Ok:=cr @db.A db.aq db.add db.F db.out
theorem db.eq{R:Type}(many:Int)(k:aT→Option R):db.A many k=
 k (db.out (bw .i64 (bw .i64 (10:Int) (eS .i64 (18:Int) many)) (8:Int))):=by kernel_rfl
theorem db.ok:db.Ok:=by
 rintro(n:Int) ⟨h0,h1⟩
 have h0:(0:Int)≤n:=h0
 have h1:n≤(1000:Int):=h1
 have e1:eS .i64 18 n=18*n:=jk (by omega) (by omega)
 have e2:bw .i64 10 (18*n)=10+18*n:=dL (by omega) (by omega)
 have e3:bw .i64 (10+18*n) 8=18+18*n:=by rw[dL (by omega) (by omega)];omega
 rw[db.eq,e1,e2,e3]
 rfl
noncomputable def db.E:=Entry.cF [some ti] db.st db.aq db.add db.F db.out
noncomputable def db.call:db.D→Option db.X:=bC db.E db.st
theorem db.run:bD db.call db.aq db.add db.F:=cz (cv [.d ti] fun _=>by kernel_rfl)
noncomputable def db.sg:SG Tryz.prog:=⟨90,aK,db.E,.fn 0 (by kernel_rfl) db.ok trivial⟩
abbrev fv.L0.D:=Int×Int×BA×Nat×(List oQ)×Int×Int×(List kA)
def fv.L0.st:fv.L0.D→AS:=fun(rev_2,pay_2,c_2,outL,t13,t14,t15,n46)=>⟨([.undef,.d tu rev_2,.d tu pay_2,.eI HH c_2,.undef,.undef,.undef,.cT (.new 46 0) 0 [] 0 0 outL]++bu 5 ([.d (.slice qf) t13,.d ti t14,.d ti t15]++bu 33 [])),[],(cw 46 [[.obj 0 false (.vec 171 qg n46)],[],[]])⟩
abbrev fv.L0.Y0:=Nat×(List kA)
abbrev fv.L0.X0:=Nat×(List kA)
def fv.L0.bM:fv.L0.X0→Exit×AS:=fun x=>(.exit 0,⟨(bu 7 ([.cT (.new 46 0) 0 [] 0 0 x.1]++bu 41 [])),[],(cw 46 [[.obj 0 false (.vec 171 qg x.2)],[],[]])⟩)
abbrev fv.L0.X:=fv.L0.X0
abbrev fv.L0.Y:=fv.L0.Y0
def fv.L0.out:fv.L0.X→Out (Exit×AS):=fun x=> .ok (fv.L0.bM x)
def fv.L0.add:fv.L0.D→fv.L0.Y→fv.L0.X:=fun(rev_2,pay_2,c_2,outL,t13,t14,t15,n46) y=>y
abbrev fv.D:=BA×Int×Int
def fv.st:fv.D→SA:=fun(c,rev,pay)=>([.d HH c,.d tu rev,.d tu pay],[])
abbrev fv.Y:=(List kA)
abbrev fv.X:=(List kA)
def fv.out:fv.X→aT:=fun x=>⟨.d (.slice qg) x,[],[]⟩
def fv.add:fv.D→fv.Y→fv.X:=fun(c,rev,pay) y=>y
def fv.L0.aq:fv.L0.D→Prop:=fun(rev,pay,c,L,os,m,i,row)=>os.length≤c.1.2.1.length∧c.1.2.1.length=c.2.1.length∧os.length≤1000∧m=os.length∧L=row.length∧∃k:Nat,k≤os.length∧i=k∧row.length≤k
def fv.L0.F:fv.L0.D→fv.L0.Y:=fun(rev,pay,c,L,os,m,i,row)=>((row++wy rev pay (os.drop i.toNat) (c.1.2.1.drop i.toNat) (c.2.1.drop i.toNat)).length,row++wy rev pay (os.drop i.toNat) (c.1.2.1.drop i.toNat) (c.2.1.drop i.toNat))
def fv.aq:fv.D→Prop:=fun(c,_,_)=>sa c.1∧c.1.2.1.length=c.2.1.length∧c.1.2.1.length≤1000
def fv.F:fv.D→fv.Y:=fun(c,rev,pay)=>tO c rev pay
noncomputable def fv.G:dX:=eX (P:=Tryz.prog) [bU.sg]
noncomputable def fv.L0.E:=cf.cF fv.L0.st fv.L0.aq fv.L0.add fv.L0.F fv.L0.out
noncomputable def fv.L0.call:fv.L0.D→Option fv.L0.X:=dO fv.L0.E fv.L0.st
noncomputable def fv.an:ej:= {loops:=ky [(3,{bt:=[1,2,3,7,13,14,15],sites:=[46],kc:=[⟨7,[],46,113⟩]})],outs:=kr [(3,{bt:=[7],sites:=[46]},{bt:=[6]})],gk:=kY [(3,fv.L0.E)],res:=[some (.slice qg)]}
noncomputable def fv.A:= @cq Tryz.prog fv.G fv.an 0 Tryz.f39 _ fv.st
abbrev fv.Ok:=cr @fv.A fv.aq fv.add fv.F fv.out
noncomputable def fv.L0.R:= @cP Tryz.prog fv.G fv.an 0 Tryz.f39 0 _ fv.L0.st
abbrev fv.L0.Ok:=fg Tryz.prog fv.G fv.an 0 Tryz.f39 0 fv.L0.st fv.L0.aq fv.L0.add fv.L0.F fv.L0.out
theorem fv.L0.run:bD fv.L0.call fv.L0.aq fv.L0.add fv.L0.F:=fw (fk [.d tu,.d tu,.d HH,.n,.d (.slice qf),.d ti,.d ti,.d (.slice qg)] fun _=>by kernel_rfl)
theorem fv.L0.aF:gg @fv.L0.R fv.L0.st fv.L0.aq fv.L0.add fv.L0.F fv.L0.bM fv.L0.Ok:=gj
theorem fv.L0.step{R:Type}(rev_2:Int)(pay_2:Int)(c_2:BA)(outL:Nat)(t13:(List oQ))(t14:Int)(t15:Int)(n46:(List kA))(kn:AS→Option R)(kx:Exit→AS→Option R):fv.L0.R (rev_2,pay_2,c_2,outL,t13,t14,t15,n46) kn kx=
  aC ((gM t15 t14)) (
   aC (dY t15 (((List.length t13):Nat):Int)) (
   aC (dY t15 (((List.length c_2.1.2.1):Nat):Int)) (
   aC (dY t15 (((List.length c_2.2.1):Nat):Int)) (
   aC ((ia (nth ym c_2.2.1 (Int.toNat t15)).1 (3:Int))) (
    aC ((ia (nth ym c_2.2.1 (Int.toNat t15)).1 (3:Int))) (
     kn (fv.L0.st (rev_2,pay_2,c_2,outL,t13,t14,(bw .i64 t15 (1:Int)),n46))) (
     aC ((ia (nth ym c_2.2.1 (Int.toNat t15)).1 (2:Int))) (
      aC (decide (outL≤(List.length n46))) (
      aC (dK (outL+1) 56) (
      kn (fv.L0.st (rev_2,pay_2,c_2,(outL+1),t13,t14,(bw .i64 t15 (1:Int)),((List.take outL n46)++ [((nth qf t13 (Int.toNat t15)),((nth nb c_2.1.2.1 (Int.toNat t15)).1,(pay_2,())))])))) none) none) (
      aC (decide (outL≤(List.length n46))) (
      aC (dK (outL+1) 56) (
      kn (fv.L0.st (rev_2,pay_2,c_2,(outL+1),t13,t14,(bw .i64 t15 (1:Int)),((List.take outL n46)++ [((nth qf t13 (Int.toNat t15)),((nth nb c_2.1.2.1 (Int.toNat t15)).1,(rev_2,())))])))) none) none))) (
    aC ((ia (nth ym c_2.2.1 (Int.toNat t15)).1 (4:Int))) (
     kn (fv.L0.st (rev_2,pay_2,c_2,outL,t13,t14,(bw .i64 t15 (1:Int)),n46))) (
     aC ((ia (nth ym c_2.2.1 (Int.toNat t15)).1 (2:Int))) (
      aC (decide (outL≤(List.length n46))) (
      aC (dK (outL+1) 56) (
      kn (fv.L0.st (rev_2,pay_2,c_2,(outL+1),t13,t14,(bw .i64 t15 (1:Int)),((List.take outL n46)++ [((nth qf t13 (Int.toNat t15)),((nth nb c_2.1.2.1 (Int.toNat t15)).1,(pay_2,())))])))) none) none) (
      aC (decide (outL≤(List.length n46))) (
      aC (dK (outL+1) 56) (
      kn (fv.L0.st (rev_2,pay_2,c_2,(outL+1),t13,t14,(bw .i64 t15 (1:Int)),((List.take outL n46)++ [((nth qf t13 (Int.toNat t15)),((nth nb c_2.1.2.1 (Int.toNat t15)).1,(rev_2,())))])))) none) none)))) none) none) none) (
   kx (fv.L0.bM (outL,n46)).1 (fv.L0.bM (outL,n46)).2):=by kernel_rfl
theorem fv.eq{R:Type}(c:BA)(rev:Int)(pay:Int)(k:aT→Option R):fv.A (c,rev,pay) k=
 ab (bU.call c.1) fun x1=>
 ab (fv.L0.call (rev,pay,c,0,x1,(((List.length x1):Nat):Int),(0:Int),([]:List kA))) fun x2=>
 aC (decide (0=0∧(0+x2.1)≤(List.length x2.2))) (
 k (fv.out (cut x2.2 0 x2.1))) none:=by kernel_rfl
theorem fv.L0.ok:fv.L0.Ok:=by
 refine fv.L0.aF (fun(rev,pay,c,L,os,m,i,row)=>os.length - i.toNat) ?_
 rintro⟨rev,pay,c,L,os,m,i,row⟩ ⟨ho,hr,hl,rfl,rfl,k,hk,rfl,hrow⟩
 have hk:k≤os.length:=hk
 have ho:os.length≤c.1.2.1.length:=ho
 have hr:c.1.2.1.length=c.2.1.length:=hr
 have hl:os.length≤1000:=hl
 have hrow:row.length≤k:=hrow
 by_cases h:k < os.length
 ·left
  have n1:nth qf os k=os[k]:=dT (t:=qf) h
  have n2:nth nb c.1.2.1 k=c.1.2.1[k]:=dT (t:=nb) (by omega)
  have n3:nth ym c.2.1 k=c.2.1[k]:=dT (t:=ym) (by omega)
  have hd:wy rev pay (os.drop k) (c.1.2.1.drop k) (c.2.1.drop k)=pF rev pay os[k] c.1.2.1[k] c.2.1[k]++wy rev pay (os.drop (k+1)) (c.1.2.1.drop (k+1)) (c.2.1.drop (k+1)):=by
   rw[List.drop_eq_getElem_cons h,List.drop_eq_getElem_cons (show k < c.1.2.1.length by omega),List.drop_eq_getElem_cons (show k < c.2.1.length by omega),wy]
  have e1:∀x:kA,(row++ [x]).length=row.length+1:=fun x=>by rw[List.length_append];rfl
  have key:∀(t:List kA),t.length≤1→(row++t).length≤k+1:=fun t ht=>by rw[List.length_append];omega
  refine⟨(rev,pay,c,(row++pF rev pay os[k] c.1.2.1[k] c.2.1[k]).length,os,(os.length:Int),((k+1:Nat):Int),row++pF rev pay os[k] c.1.2.1[k] c.2.1[k]),⟨ho,hr,hl,rfl,rfl,k+1,by omega,rfl,key _ (by unfold pF;split <;> simp)⟩,by simp only[Int.toNat_natCast];omega,?_,fun kn kx=> ?_⟩
  ·simp only[fv.L0.add,fv.L0.F,Int.toNat_natCast,hd,List.append_assoc]
  ·rw[fv.L0.step,bB (by omega),bz (by omega) (by omega),bz (by omega) (by omega),bz (by omega) (by omega),Int.toNat_natCast,n1,n2,n3,N.mC (by omega),aD (Nat.le_refl _),eO (by omega) (by omega),List.take_length]
   simp only[ah]
   unfold pF
   by_cases h3:c.2.1[k].1=3
   ·rw[eu h3,if_pos (.inl h3),List.append_nil];rfl
   ·rw[dR h3,ae]
    by_cases h4:c.2.1[k].1=4
    ·rw[eu h4,if_pos (.inr h4),List.append_nil];rfl
    ·rw[dR h4,ae,if_neg (by rintro(x | x);exact h3 x;exact h4 x),e1]
     by_cases h2:c.2.1[k].1=2
     ·rw[eu h2,if_pos h2];rfl
     ·rw[dR h2,if_neg h2];rfl
 ·right
  obtain rfl:k=os.length:=by omega
  intro R kn kx
  rw[fv.L0.step,bm (by omega),ae]
  simp only[fv.L0.add,fv.L0.F,Int.toNat_natCast,List.drop_length,wy,List.append_nil]
theorem zo(t:gX):(jm t).length≤t.2.1.length:=by
 unfold jm mh
 split
 ·rw[List.length_map,List.length_range'];exact Nat.le_refl _
 ·exact Nat.zero_le _
theorem fv.ok:fv.Ok:=by
 rintro⟨c,rev,pay⟩ ⟨hv,hr,hl⟩
 have hl:c.1.2.1.length≤1000:=hl
 have hm:=zo c.1
 have e:bU.call c.1=some (jm c.1):=bU.run (d:=c.1) hv
 rw[fv.eq,e,aa]
 have ea:∀d y,fv.add d y=y:=fun _ _=>rfl
 have eF:fv.F (c,rev,pay)=tO c rev pay:=rfl
 rw[ea,eF]
 unfold tO
 generalize jm c.1=os at hm
 rw[fv.L0.run (d:=(rev,pay,c,0,os,(os.length:Int),0,[])) ⟨hm,hr,by show os.length≤1000;omega,rfl,rfl,0,Nat.zero_le _,rfl,Nat.le_refl _⟩]
 simp only[aa,fv.L0.add,fv.L0.F,Int.toNat_zero,List.drop_zero,List.nil_append,Nat.zero_add]
 rw[aD ⟨trivial,Nat.le_refl _⟩,ah,gG rfl]
noncomputable def fv.E:=Entry.cF [some HH,some tu,some tu] fv.st fv.aq fv.add fv.F fv.out
noncomputable def fv.call:fv.D→Option fv.X:=bC fv.E fv.st
theorem fv.run:bD fv.call fv.aq fv.add fv.F:=cz (cv [.d HH,.d tu,.d tu] fun _=>by kernel_rfl)
noncomputable def fv.sg:SG Tryz.prog:=⟨39,aK,fv.E,.fn 1 (by kernel_rfl) fv.ok (And.intro (.cF fv.L0.ok (by kernel_rfl)) trivial)⟩
abbrev bQ.L0.D:=Int×(List kA)×Int×Int
def bQ.L0.st:bQ.L0.D→AS:=fun(n,t14,t15,t16)=>⟨(bu 5 ([.d ti n]++bu 8 ([.d (.slice qg) t14,.d ti t15,.d ti t16]++bu 9 []))),[],(List.replicate 26 [])⟩
abbrev bQ.L0.Y0:=Int
abbrev bQ.L0.X0:=Int
def bQ.L0.bM:bQ.L0.X0→Exit×AS:=fun x=>(.exit 0,⟨(bu 5 ([.d ti x]++bu 20 [])),[],(List.replicate 26 [])⟩)
abbrev bQ.L0.X:=bQ.L0.X0
abbrev bQ.L0.Y:=bQ.L0.Y0
def bQ.L0.out:bQ.L0.X→Out (Exit×AS):=fun x=> .ok (bQ.L0.bM x)
def bQ.L0.add:bQ.L0.D→bQ.L0.Y→bQ.L0.X:=fun(n,t14,t15,t16) y=>y
abbrev bQ.D:=(List kA)×Int
def bQ.st:bQ.D→SA:=fun(l,aV)=>([.d (.slice qg) l,.d ti aV],[])
abbrev bQ.Y:=Int
abbrev bQ.X:=Int
def bQ.out:bQ.X→aT:=fun x=>⟨.d ti x,[],[]⟩
def bQ.add:bQ.D→bQ.Y→bQ.X:=fun(l,aV) y=>y
def bQ.L0.aq:bQ.L0.D→Prop:=fun(n,l,m,i)=>(∀x∈l,0≤x.2.1∧x.2.1≤1125899906842624)∧l.length≤64∧m=l.length∧∃k:Nat,k≤l.length∧i=k∧ -100000000≤n∧n≤1125899906842624*k
def bQ.L0.F:bQ.L0.D→bQ.L0.Y:=fun(n,l,m,i)=>n+vW (l.drop i.toNat)
def bQ.aq:bQ.D→Prop:=fun(l,aV)=>vU l∧0≤aV∧aV≤1000
def bQ.F:bQ.D→bQ.Y:=fun(l,aV)=>kf l aV
noncomputable def bQ.G:dX:=eX (P:=Tryz.prog) [db.sg]
noncomputable def bQ.L0.E:=cf.cF bQ.L0.st bQ.L0.aq bQ.L0.add bQ.L0.F bQ.L0.out
noncomputable def bQ.L0.call:bQ.L0.D→Option bQ.L0.X:=dO bQ.L0.E bQ.L0.st
noncomputable def bQ.an:ej:= {loops:=ky [(3,{bt:=[5,14,15,16]})],outs:=kr [(3,{bt:=[5]},{bt:=[4]})],gk:=kY [(3,bQ.L0.E)]}
noncomputable def bQ.A:= @cq Tryz.prog bQ.G bQ.an 0 Tryz.f38 _ bQ.st
abbrev bQ.Ok:=cr @bQ.A bQ.aq bQ.add bQ.F bQ.out
noncomputable def bQ.L0.R:= @cP Tryz.prog bQ.G bQ.an 0 Tryz.f38 0 _ bQ.L0.st
abbrev bQ.L0.Ok:=fg Tryz.prog bQ.G bQ.an 0 Tryz.f38 0 bQ.L0.st bQ.L0.aq bQ.L0.add bQ.L0.F bQ.L0.out
theorem bQ.L0.run:bD bQ.L0.call bQ.L0.aq bQ.L0.add bQ.L0.F:=fw (fk [.d ti,.d (.slice qg),.d ti,.d ti] fun _=>by kernel_rfl)
theorem bQ.L0.aF:gg @bQ.L0.R bQ.L0.st bQ.L0.aq bQ.L0.add bQ.L0.F bQ.L0.bM bQ.L0.Ok:=gj
theorem bQ.L0.step{R:Type}(n:Int)(t14:(List kA))(t15:Int)(t16:Int)(kn:AS→Option R)(kx:Exit→AS→Option R):bQ.L0.R (n,t14,t15,t16) kn kx=
  aC ((gM t16 t15)) (
   aC (dY t16 (((List.length t14):Nat):Int)) (
   kn (bQ.L0.st ((bw .i64 n (nth qg t14 (Int.toNat t16)).2.1),t14,t15,(bw .i64 t16 (1:Int))))) none) (
   kx (bQ.L0.bM n).1 (bQ.L0.bM n).2):=by kernel_rfl
theorem bQ.eq{R:Type}(l:(List kA))(aV:Int)(k:aT→Option R):bQ.A (l,aV) k=
 ab (db.call (((List.length l):Nat):Int)) fun x1=>
 ab (bQ.L0.call ((eS .i64 (Hc .i64 aV) x1),l,(((List.length l):Nat):Int),(0:Int))) fun x2=>
 k (bQ.out x2):=by kernel_rfl
theorem bQ.L0.ok:bQ.L0.Ok:=by
 refine bQ.L0.aF (fun(n,l,m,i)=>l.length - i.toNat) ?_
 rintro⟨n,l,m,i⟩ ⟨ha,hl,rfl,k,hk,rfl,h0,h1⟩
 have hk:k≤l.length:=hk
 have hl:l.length≤64:=hl
 have h0: -100000000≤n:=h0
 have h1:n≤1125899906842624*k:=h1
 by_cases h:k < l.length
 ·left
  have n1:nth qg l k=l[k]:=dT (t:=qg) h
  have hx:0≤l[k].2.1∧l[k].2.1≤1125899906842624:=ha _ (List.getElem_mem h)
  refine⟨(n+l[k].2.1,l,(l.length:Int),((k+1:Nat):Int)),⟨ha,hl,rfl,k+1,by omega,rfl,by omega,by omega⟩,by simp only[Int.toNat_natCast];omega,?_,fun kn kx=> ?_⟩
  ·simp only[bQ.L0.add,bQ.L0.F,Int.toNat_natCast]
   rw[List.drop_eq_getElem_cons h,vW,Int.add_assoc]
  ·rw[bQ.L0.step,bB (by omega),bz (by omega) (by omega),Int.toNat_natCast,n1,N.mC (by omega),dL (by omega) (by omega)]
   simp only[ah]
 ·right
  obtain rfl:k=l.length:=by omega
  intro R kn kx
  rw[bQ.L0.step,bm (by omega),ae]
  simp only[bQ.L0.add,bQ.L0.F,Int.toNat_natCast,List.drop_length,vW,Int.add_zero]
theorem bQ.ok:bQ.Ok:=by
 rintro⟨l,aV⟩ ⟨hg,h0,h1⟩
 have h0:(0:Int)≤aV:=h0
 have h1:aV≤(1000:Int):=h1
 have hl:l.length≤64:=hg.1
 have hm:=ub (r:=aV) (w:=18+18*(l.length:Int)) (a:=1000) (b:=1170) h0 h1 (by omega) (by omega)
 have e0:Hc .i64 aV= -aV:=by unfold Hc;rw[lJ (by omega) (by omega)];omega
 have e1: -aV*(18+18*(l.length:Int))= -(aV*(18+18*(l.length:Int))):=Int.neg_mul _ _
 have e4: -100000000≤ -aV*(18+18*(l.length:Int)):=by rw[e1];omega
 have e5: -aV*(18+18*(l.length:Int))≤1125899906842624*((0:Nat):Int):=by rw[e1];omega
 have e2:eS .i64 (-aV) (18+18*(l.length:Int))= -aV*(18+18*(l.length:Int)):=jk (by rw[e1];omega) (by rw[e1];omega)
 have e3:db.call ((l.length:Nat):Int)=some (18+18*(l.length:Int)):=db.run (d:=((l.length:Nat):Int)) ⟨by show(0:Int)≤((l.length:Nat):Int);omega,by show((l.length:Nat):Int)≤1000;omega⟩
 rw[bQ.eq,e3,aa,e0,e2]
 rw[bQ.L0.run (d:=(-aV*(18+18*(l.length:Int)),l,(l.length:Int),0)) ⟨fun x hx=>(hg.2 x hx).Aq,hl,rfl,0,Nat.zero_le _,rfl,e4,e5⟩]
 simp only[aa,bQ.L0.add,bQ.L0.F,Int.toNat_zero,List.drop_zero,bQ.add,bQ.F,kf]
noncomputable def bQ.E:=Entry.cF [some (.slice qg),some ti] bQ.st bQ.aq bQ.add bQ.F bQ.out
noncomputable def bQ.call:bQ.D→Option bQ.X:=bC bQ.E bQ.st
theorem bQ.run:bD bQ.call bQ.aq bQ.add bQ.F:=cz (cv [.d (.slice qg),.d ti] fun _=>by kernel_rfl)
noncomputable def bQ.sg:SG Tryz.prog:=⟨38,aK,bQ.E,.fn 1 (by kernel_rfl) bQ.ok (And.intro (.cF bQ.L0.ok (by kernel_rfl)) trivial)⟩
abbrev gB.D:=Int×Int×gX×Int
def gB.st:gB.D→SA:=fun(i,kv,o0,o1)=>([.d ti i,.d tu kv,.ptr (.dH 0) 0 [] 0,.ptr (.dH 1) 0 [] 0],[.obj 0 false (.d kq o0),.obj 0 false (.d ti o1)])
abbrev gB.Y:=Bool×gX×Int
abbrev gB.X:=Bool×gX×Int
def gB.out:gB.X→aT:=fun x=>⟨.d .bool x.1,[.obj 0 false (.d kq x.2.1),.obj 0 false (.d ti x.2.2)],[]⟩
def gB.add:gB.D→gB.Y→gB.X:=fun(i,kv,o0,o1) y=>y
def gB.aq:gB.D→Prop:=fun(_,k,t,_)=>sa t∧fh k
def gB.F:gB.D→gB.Y:=fun(i,k,t,_)=>(ia (jT t i 0 [k] 0).2 0,jT t i 0 [k] 0)
noncomputable def gB.G:dX:=eX (P:=Tryz.prog) [bR.sg]
noncomputable def gB.an:ej:= {yT:=[⟨2,[.arr],kq⟩]}
noncomputable def gB.A:= @cq Tryz.prog gB.G gB.an 0 Tryz.f74 _ gB.st
abbrev gB.Ok:=cr @gB.A gB.aq gB.add gB.F gB.out
theorem gB.eq{R:Type}(i:Int)(kv:Int)(o0:gX)(o1:Int)(k:aT→Option R):gB.A (i,kv,o0,o1) k=
 ab (bR.call (o0,i,(0:Int),[kv],(0:Int))) fun x1=>
 k (gB.out ((ia x1.2 (0:Int)),x1.1,x1.2)):=by kernel_rfl
theorem gB.ok:gB.Ok:=by
 rintro⟨i,k,t,e⟩ ⟨hv,hk⟩
 rw[gB.eq,bR.run (d:=(t,i,0,[k],0)) ⟨hv,fun x hx=>by rw[List.mem_singleton]at hx;subst hx;exact hk,Nat.le_of_ble_eq_true rfl⟩]
 rfl
noncomputable def gB.E:=Entry.cF [some ti,some tu,none,none] gB.st gB.aq gB.add gB.F gB.out
noncomputable def gB.call:gB.D→Option gB.X:=bC gB.E gB.st
theorem gB.run:bD gB.call gB.aq gB.add gB.F:=cz (cv [.d ti,.d tu,.d kq,.d ti] fun _=>by kernel_rfl)
noncomputable def gB.sg:SG Tryz.prog:=⟨74,aK,gB.E,.fn 0 (by kernel_rfl) gB.ok trivial⟩
abbrev aS.L0.D:=(List kA)×Lk×Int×(List kA)×Int×Int×(Int×Unit)×Nat×(Int×Unit)×(List jc)
def aS.L0.st:aS.L0.D→AS:=fun(l_2,to_2,n,t22,t23,t24,n6,n9L,n9,n34)=>⟨([.d (.slice qg) l_2,.undef,.undef,.undef,.eI lV to_2,.undef,.ptr (.new 6 0) 0 [] 0,.undef,.d ti n,.ptr (.new 9 0) 0 [] 0]++bu 12 ([.d (.slice qg) t22,.d ti t23,.d ti t24]++bu 35 [])),[],(cw 6 ([[.obj 0 false (.pr (.dP) (.pr (.dP) (.d (.pair ti .unit) n6)))],[],[],[.obj 0 false (.pr (.cT (.new 34 0) 0 [] 0 0 n9L) (.pr (.dP) (.d (.pair ti .unit) n9)))]]++cw 24 ([[.obj 0 false (.vec 93 jV n34)]]++cw 25 [])))⟩
abbrev aS.L0.Y0:=Nat×(List jc)
abbrev aS.L0.X0:=((List kA)×Lk×Int×(Int×Unit)×(Int×Unit))×(Nat×(List jc))
def aS.L0.bM:aS.L0.X0→Exit×AS:=fun x=>(.exit 0,⟨([.d (.slice qg) x.1.1,.undef,.undef,.undef,.eI lV x.1.2.1,.undef,.ptr (.new 6 0) 0 [] 0,.undef,.d ti x.1.2.2.1,.ptr (.new 9 0) 0 [] 0]++bu 50 []),[],(cw 6 ([[.obj 0 false (.pr (.dP) (.pr (.dP) (.d (.pair ti .unit) x.1.2.2.2.1)))],[],[],[.obj 0 false (.pr (.cT (.new 34 0) 0 [] 0 0 x.2.1) (.pr (.dP) (.d (.pair ti .unit) x.1.2.2.2.2)))]]++cw 24 ([[.obj 0 false (.vec 93 jV x.2.2)]]++cw 25 [])))⟩)
abbrev aS.L0.X:=aS.L0.X0
abbrev aS.L0.Y:=aS.L0.Y0
def aS.L0.out:aS.L0.X→Out (Exit×AS):=fun x=> .ok (aS.L0.bM x)
def aS.L0.add:aS.L0.D→aS.L0.Y→aS.L0.X:=fun(l_2,to_2,n,t22,t23,t24,n6,n9L,n9,n34) y=>((l_2,to_2,n,n6,n9),y)
abbrev aS.L1.D:=(List kA)×Int×Int×(Int×Unit)×gX×Int
def aS.L1.st:aS.L1.D→AS:=fun(t43,t44,t45,n6_2,n9_2,n12)=>⟨(bu 6 ([.ptr (.new 6 0) 0 [] 0,.undef,.undef,.ptr (.new 9 0) 0 [] 0,.undef,.undef,.ptr (.new 12 0) 0 [] 0,.fn 74 (.cons (.ptr (.new 9 0) 0 [] 0) (.cons (.ptr (.new 12 0) 0 [] 0) (.nil)))]++bu 29 ([.d (.slice qg) t43,.d ti t44,.d ti t45]++bu 14 []))),[],(cw 6 ([[.obj 0 false (.pr (.dP) (.pr (.dP) (.d (.pair ti .unit) n6_2)))],[],[],[.obj 0 false (.d kq n9_2)],[],[],[.obj 0 false (.d ti n12)]]++cw 47 []))⟩
abbrev aS.L1.Y0:=Int×(Int×Unit)
abbrev aS.L1.X0:=Int×(Int×Unit)
def aS.L1.bM:aS.L1.X0→Exit×AS:=fun x=>(.ret,⟨(bu 6 ([.ptr (.new 6 0) 0 [] 0,.d ti x.1]++bu 52 [])),[],(cw 6 ([[.obj 0 false (.pr (.dP) (.pr (.dP) (.d (.pair ti .unit) x.2)))]]++cw 53 []))⟩)
abbrev aS.L1.Y1:=gX
abbrev aS.L1.X1:=((Int×Unit))×(gX)
def aS.L1.iG:aS.L1.X1→Exit×AS:=fun x=>(.exit 2,⟨(bu 6 ([.ptr (.new 6 0) 0 [] 0,.undef,.undef,.ptr (.new 9 0) 0 [] 0]++bu 50 [])),[],(cw 6 ([[.obj 0 false (.pr (.dP) (.pr (.dP) (.d (.pair ti .unit) x.1)))],[],[],[.obj 0 false (.d kq x.2)]]++cw 50 []))⟩)
abbrev aS.L1.X:=(aS.L1.X0)⊕(aS.L1.X1)
abbrev aS.L1.Y:=(aS.L1.Y0)⊕(aS.L1.Y1)
def aS.L1.out:aS.L1.X→Out (Exit×AS):=fun x=> .br x.isLeft (.get x.getLeft? fun a=> .ok (aS.L1.bM a)) (.get x.getRight? fun b=> .ok (aS.L1.iG b))
def aS.L1.add:aS.L1.D→aS.L1.Y→aS.L1.X:=fun(t43,t44,t45,n6_2,n9_2,n12) y=>match y with | .inl y=> .inl y | .inr z=> .inr ((n6_2,z))
abbrev aS.D:=(List kA)×Lk×Int
def aS.st:aS.D→SA:=fun(l,to,aV)=>([.d (.slice qg) l,.d lV to,.d ti aV],[])
abbrev aS.Y:=gX×Int
abbrev aS.X:=gX×Int
def aS.out:aS.X→aT:=fun x=>⟨.cons (.d kq x.1) (.cons (.d ti x.2) (.nil)),[],[]⟩
def aS.add:aS.D→aS.Y→aS.X:=fun(l,to,aV) y=>y
def v9(x:kA):jc:=(x.1,(((0:Int),(([]:List Sg),((0:Int),()))),()))
def aS.L0.aq:aS.L0.D→Prop:=fun(l,to,n,ps,m,i,z,L,z2,row)=>(ps).length≤1000000∧∃k:Nat,k≤(ps).length∧i=k∧m=(ps).length∧L=(row).length∧(row).length≤1000000+k
def aS.L0.F:aS.L0.D→aS.L0.Y:=fun(l,to,n,ps,m,i,z,L,z2,row)=>(L+(List.drop (Int.toNat i) ps).length,row++(List.drop (Int.toNat i) ps).map v9)
def F8:gX:=(([]:List jc),(([]:List jA),((0:Int),())))
def Ak(l:List kA)(to:Lk)(n:Int):gX:=(l.map v9,([(n,(to,()))],((0:Int),())))
def lT(t:gX):Nat→List kA→gX⊕Int
 |_,[]=> .inl t
 |i,x::l=>if(jT t i 0 [x.2.2.1] 0).2=0 then lT (jT t i 0 [x.2.2.1] 0).1 (i+1) l else .inr (jT t i 0 [x.2.2.1] 0).2
def iP(l:List kA)(to:Lk)(aV:Int):gX×Int:=
 if kf l aV < 1 then(F8,8) else match lT (Ak l to (kf l aV)) 0 l with | .inl t=>(t,0) | .inr e=>(F8,e)
def aS.L1.aq:aS.L1.D→Prop:=fun(l,m,i,z,t,e)=>sa t∧(∀x∈l,fh x.2.2.1)∧l.length≤64∧m=l.length∧∃k:Nat,k≤l.length∧i=k
def aS.L1.F:aS.L1.D→aS.L1.Y:=fun(l,m,i,z,t,e)=>match lT t i.toNat (l.drop i.toNat) with | .inl t=> .inr t | .inr e=> .inl (e,(0,()))
def aS.aq:aS.D→Prop:=fun(l,to,aV)=>vU l∧nX to∧0≤aV∧aV≤1000
def aS.F:aS.D→aS.Y:=fun(l,to,aV)=>iP l to aV
noncomputable def aS.G:dX:=eX (P:=Tryz.prog) [bQ.sg,gB.sg]
noncomputable def aS.L0.E:=cf.cF aS.L0.st aS.L0.aq aS.L0.add aS.L0.F aS.L0.out
noncomputable def aS.L0.call:aS.L0.D→Option aS.L0.X:=dO aS.L0.E aS.L0.st
noncomputable def aS.L1.E:=cf.cF aS.L1.st aS.L1.aq aS.L1.add aS.L1.F aS.L1.out
noncomputable def aS.L1.call:aS.L1.D→Option aS.L1.X:=dO aS.L1.E aS.L1.st
noncomputable def aS.an:ej:= {loops:=ky [(6,{bt:=[0,4,6,8,9,22,23,24],sites:=[6,9,34],kc:=[⟨9,[.fst],34,59⟩]}),(14,{bt:=[6,9,12,13,43,44,45],sites:=[6,9,12],yT:=[⟨9,[.arr],kq⟩]})],outs:=kr [(6,{bt:=[0,4,6,8,9],sites:=[6,9,34]},{bt:=[6,7]}),(14,{bt:=[6,9],sites:=[6,9]},{bt:=[6,7],sites:=[6]})],gk:=kY [(6,aS.L0.E),(14,aS.L1.E)],res:=[some kq,none]}
noncomputable def aS.A:= @cq Tryz.prog aS.G aS.an 0 Tryz.f32 _ aS.st
abbrev aS.Ok:=cr @aS.A aS.aq aS.add aS.F aS.out
noncomputable def aS.L0.R:= @cP Tryz.prog aS.G aS.an 0 Tryz.f32 0 _ aS.L0.st
abbrev aS.L0.Ok:=fg Tryz.prog aS.G aS.an 0 Tryz.f32 0 aS.L0.st aS.L0.aq aS.L0.add aS.L0.F aS.L0.out
noncomputable def aS.L1.R:= @cP Tryz.prog aS.G aS.an 0 Tryz.f32 1 _ aS.L1.st
abbrev aS.L1.Ok:=fg Tryz.prog aS.G aS.an 0 Tryz.f32 1 aS.L1.st aS.L1.aq aS.L1.add aS.L1.F aS.L1.out
theorem aS.L0.run:bD aS.L0.call aS.L0.aq aS.L0.add aS.L0.F:=fw (fk [.d (.slice qg),.d lV,.d ti,.d (.slice qg),.d ti,.d ti,.d (.pair ti .unit),.n,.d (.pair ti .unit),.d (.slice jV)] fun _=>by kernel_rfl)
theorem aS.L0.aF:gg @aS.L0.R aS.L0.st aS.L0.aq aS.L0.add aS.L0.F aS.L0.bM aS.L0.Ok:=gj
theorem aS.L0.step{R:Type}(l_2:(List kA))(to_2:Lk)(n:Int)(t22:(List kA))(t23:Int)(t24:Int)(n6:(Int×Unit))(n9L:Nat)(n9:(Int×Unit))(n34:(List jc))(kn:AS→Option R)(kx:Exit→AS→Option R):aS.L0.R (l_2,to_2,n,t22,t23,t24,n6,n9L,n9,n34) kn kx=
  aC ((gM t24 t23)) (
   aC (dY t24 (((List.length t22):Nat):Int)) (
   aC (decide (n9L≤(List.length n34))) (
   aC (dK (n9L+1) 80) (
   kn (aS.L0.st (l_2,to_2,n,t22,t23,(bw .i64 t24 (1:Int)),n6,(n9L+1),n9,((List.take n9L n34)++ [((nth qg t22 (Int.toNat t24)).1,(((0:Int),(([]:List Sg),((0:Int),()))),()))])))) none) none) none) (
   kx (aS.L0.bM ((l_2,to_2,n,n6,n9),(n9L,n34))).1 (aS.L0.bM ((l_2,to_2,n,n6,n9),(n9L,n34))).2):=by kernel_rfl
theorem aS.L1.run:bD aS.L1.call aS.L1.aq aS.L1.add aS.L1.F:=fw (fk [.d (.slice qg),.d ti,.d ti,.d (.pair ti .unit),.d kq,.d ti] fun _=>by kernel_rfl)
theorem aS.L1.aF:oU @aS.L1.R aS.L1.st aS.L1.aq aS.L1.add aS.L1.F aS.L1.out aS.L1.Ok:=p9
theorem aS.L1.step{R:Type}(t43:(List kA))(t44:Int)(t45:Int)(n6_2:(Int×Unit))(n9_2:gX)(n12:Int)(kn:AS→Option R)(kx:Exit→AS→Option R):aS.L1.R (t43,t44,t45,n6_2,n9_2,n12) kn kx=
  aC ((gM t45 t44)) (
   aC (dY t45 (((List.length t43):Nat):Int)) (
   ab (gB.call (t45,(nth qg t43 (Int.toNat t45)).2.2.1,n9_2,n12)) fun x1=>
   aC ((!x1.1)) (
    kx (aS.L1.bM (x1.2.2,((0:Int),()))).1 (aS.L1.bM (x1.2.2,((0:Int),()))).2) (
    kn (aS.L1.st (t43,t44,(bw .i64 t45 (1:Int)),n6_2,x1.2.1,x1.2.2)))) none) (
   kx (aS.L1.iG (n6_2,n9_2)).1 (aS.L1.iG (n6_2,n9_2)).2):=by kernel_rfl
theorem aS.eq{R:Type}(l:(List kA))(to:Lk)(aV:Int)(k:aT→Option R):aS.A (l,to,aV) k=
  ab (bQ.call (l,aV)) fun x1=>
  aC ((gM x1 (1:Int))) (
   k (aS.out ((([]:List jc),(([]:List jA),((0:Int),()))),(8:Int)))) (
   ab (aS.L0.call (l,to,x1,l,(((List.length l):Nat):Int),(0:Int),((0:Int),()),0,((0:Int),()),([]:List jc))) fun x2=>
   aC (decide (0=0∧(0+x2.2.1)≤(List.length x2.2.2))) (
   ab (aS.L1.call (x2.1.1,(((List.length x2.1.1):Nat):Int),(0:Int),x2.1.2.2.2.1,((cut x2.2.2 0 x2.2.1),([(x2.1.2.2.1,(x2.1.2.1,()))],x2.1.2.2.2.2)),(0:Int))) fun x4=>
   aC (x4.isLeft) (
    ab (x4.getLeft?) fun a5=>
    k (aS.out ((([]:List jc),(([]:List jA),a5.2)),a5.1))) (
    ab (x4.getRight?) fun b6=>
    k (aS.out (b6.2,(0:Int))))) none):=by kernel_rfl
theorem aS.L0.ok:aS.L0.Ok:=by
 refine aS.L0.aF (fun(l,to,n,ps,m,i,z,L,z2,row)=>(ps).length - Int.toNat i) ?_
 rintro⟨l,to,n,ps,m,i,z,L,z2,row⟩ ⟨hlen,k,hk,rfl,rfl,rfl,hrow⟩
 have hlen:(ps).length≤1000000:=hlen
 have hk:k≤(ps).length:=hk
 have hrow:(row).length≤1000000+k:=hrow
 by_cases h:k < (ps).length
 ·left
  have n1:nth qg ps k=ps[k]:=dT (t:=qg) h
  have hd:List.drop k ps=ps[k]::List.drop (k+1) ps:=List.drop_eq_getElem_cons h
  refine⟨(l,to,n,ps,((ps).length:Int),((k+1:Nat):Int),z,(row).length+1,z2,row++ [v9 ps[k]]),⟨hlen,k+1,by omega,rfl,rfl,by rw[List.length_append];rfl,by rw[List.length_append];show(row).length+1≤_;omega⟩,by simp only[Int.toNat_natCast];omega,?_,fun kn kx=> ?_⟩
  ·simp only[aS.L0.add,aS.L0.F,Int.toNat_natCast,hd,List.map_cons,List.length_cons,List.append_assoc,List.singleton_append]
   rw[show ∀a c:Nat,a+1+c=a+(c+1) from fun a c=>by omega]
  ·rw[aS.L0.step,bB (by omega),bz (show(0:Int)≤(k:Int) by omega) (by omega),Int.toNat_natCast,n1]
   simp only[ah]
   rw[aD (Nat.le_refl _),eO (by omega) (by omega),N.mC (by omega),List.take_length]
   rfl
 ·right
  obtain rfl:k=(ps).length:=by omega
  intro R kn kx
  rw[aS.L0.step,bm (by omega),ae]
  simp only[aS.L0.add,aS.L0.F,Int.toNat_natCast,List.drop_length,List.map_nil,List.append_nil,List.length_nil,Nat.add_zero]
theorem F3{t:gX}{i br sc:Int}{ks:List Int}(hv:sa t)(hs:fh sc)(h:(jT t i br ks sc).2=0):sa (jT t i br ks sc).1∧l9 t i br ks=true:=by
 rw[vD]at h ⊢
 by_cases e:l9 t i br ks=true
 ·rw[if_pos e]
  exact⟨(zW hv e hs).2.1,e⟩
 ·rw[if_neg e]at h
  exact absurd h (by decide)
theorem aS.L1.ok:aS.L1.Ok:=by
 refine aS.L1.aF (fun(l,m,i,z,t,e)=>l.length - i.toNat) ?_
 rintro⟨l,m,i,z,t,e⟩ ⟨hv,hu,hl,rfl,k,hk,rfl⟩
 have hk:k≤l.length:=hk
 have hl:l.length≤64:=hl
 by_cases h:k < l.length
 ·have n1:nth qg l k=l[k]:=dT (t:=qg) h
  have hx:fh l[k].2.2.1:=hu _ (List.getElem_mem h)
  have hd:lT t k (l.drop k)=if(jT t k 0 [l[k].2.2.1] 0).2=0 then lT (jT t k 0 [l[k].2.2.1] 0).1 (k+1) (l.drop (k+1)) else .inr (jT t k 0 [l[k].2.2.1] 0).2:=by rw[List.drop_eq_getElem_cons h,lT]
  have c1:gB.call ((k:Int),l[k].2.2.1,t,e)=some (ia (jT t k 0 [l[k].2.2.1] 0).2 0,jT t k 0 [l[k].2.2.1] 0):=gB.run (d:=((k:Int),l[k].2.2.1,t,e)) ⟨hv,hx⟩
  have hvs:(jT t k 0 [l[k].2.2.1] 0).2=0→sa (jT t k 0 [l[k].2.2.1] 0).1:=fun hz=>(F3 hv qO hz).1
  generalize jT t k 0 [l[k].2.2.1] 0=r at hd c1 hvs
  have step:∀ {R:Type} (kn:AS→Option R) (kx:Exit→AS→Option R),aS.L1.R (l,(l.length:Int),(k:Int),z,t,e) kn kx=aC (!ia r.2 0) (kx (aS.L1.bM (r.2,((0:Int),()))).1 (aS.L1.bM (r.2,((0:Int),()))).2) (kn (aS.L1.st (l,(l.length:Int),((k+1:Nat):Int),z,r.1,r.2))):=by
   intro R kn kx
   rw[aS.L1.step,bB (by omega),ah,bz (by omega) (by omega),ah,Int.toNat_natCast,n1,c1,aa,N.mC (by omega)]
  by_cases hz:r.2=0
  ·left
   refine⟨(l,(l.length:Int),((k+1:Nat):Int),z,r.1,r.2),⟨hvs hz,hu,hl,rfl,k+1,by omega,rfl⟩,by simp only[Int.toNat_natCast];omega,?_,fun kn kx=> ?_⟩
   ·simp only[aS.L1.add,aS.L1.F,Int.toNat_natCast,hd,if_pos hz]
   ·rw[step,eu hz,Bool.not_true,ae]
  ·right
   refine⟨aS.L1.bM (r.2,((0:Int),())),?_,fun kn kx=> ?_⟩
   ·simp only[aS.L1.add,aS.L1.F,Int.toNat_natCast,hd,if_neg hz]
    rfl
   ·rw[step,dR hz,Bool.not_false,ah]
 ·right
  obtain rfl:k=l.length:=by omega
  refine⟨aS.L1.iG (z,t),?_,fun kn kx=> ?_⟩
  ·simp only[aS.L1.add,aS.L1.F,Int.toNat_natCast,List.drop_length,lT]
   rfl
  ·rw[aS.L1.step,bm (by omega),ae]
theorem E7{l:List kA}{to:Lk}{n:Int}(hg:vU l)(hto:nX to):sa (Ak l to n):=by
 refine⟨⟨fun o ho=> ?_,by show(l.map v9).length≤_;rw[List.length_map];have:=hg.1;omega,by show 1≤_;decide⟩,fun x hx=> ?_,by show(0:Int)≤_;decide⟩
 ·have ho:o∈ [(n,(to,()))]:=ho
  rw[List.mem_singleton]at ho
  subst ho
  exact hto
 ·obtain⟨y,hy,rfl⟩:=List.mem_map.1 (show x∈l.map v9 from hx)
  exact⟨(hg.2 y hy).id,⟨fun s hs=>(by cases hs),qO⟩,Nat.zero_le _⟩
theorem aS.ok:aS.Ok:=by
 rintro⟨l,to,aV⟩ ⟨hg,hto,h0,h1⟩
 have hl:l.length≤64:=hg.1
 have e0:bQ.call (l,aV)=some (kf l aV):=bQ.run (d:=(l,aV)) ⟨hg,h0,h1⟩
 have hv:=E7 (n:=kf l aV) hg hto
 have ea:∀d y,aS.add d y=y:=fun _ _=>rfl
 have eF:aS.F (l,to,aV)=iP l to aV:=rfl
 rw[aS.eq,e0,aa,ea,eF]
 unfold iP
 generalize kf l aV=n at hv
 by_cases hn:n < 1
 ·rw[bB hn,ah,if_pos hn]
  rfl
 rw[bm hn,ae,if_neg hn,aS.L0.run (d:=(l,to,n,l,(l.length:Int),0,(0,()),0,(0,()),[])) ⟨by show l.length≤1000000;omega,0,Nat.zero_le _,rfl,rfl,rfl,Nat.zero_le _⟩]
 simp only[aa,aS.L0.add,aS.L0.F,Int.toNat_zero,List.drop_zero,List.nil_append,Nat.zero_add]
 rw[aD ⟨trivial,by rw[List.length_map];exact Nat.le_refl _⟩,ah,gG (List.length_map ..)]
 have e1:=aS.L1.run (d:=(l,(l.length:Int),0,(0,()),Ak l to n,0)) ⟨hv,fun x hx=>(hg.2 x hx).key,hl,rfl,0,Nat.zero_le _,rfl⟩
 unfold Ak at e1 ⊢
 rw[e1]
 simp only[aa,aS.L1.add,aS.L1.F,Int.toNat_zero,List.drop_zero]
 generalize lT _ 0 l=r
 cases r with
 |inl t=>rfl
 |inr e=>rfl
noncomputable def aS.E:=Entry.cF [some (.slice qg),some lV,some ti] aS.st aS.aq aS.add aS.F aS.out
noncomputable def aS.call:aS.D→Option aS.X:=bC aS.E aS.st
theorem aS.run:bD aS.call aS.aq aS.add aS.F:=cz (cv [.d (.slice qg),.d lV,.d ti] fun _=>by kernel_rfl)
noncomputable def aS.sg:SG Tryz.prog:=⟨32,aK,aS.E,.fn 2 (by kernel_rfl) aS.ok (And.intro (.cF aS.L0.ok (by kernel_rfl)) (And.intro (.cF aS.L1.ok (by kernel_rfl)) trivial))⟩
end
end Go.Ab
namespace Go.Ab
open Go.Proofs
set_option maxRecDepth 100000
set_option linter.unusedVariables false
set_option linter.unusedSimpArgs false
set_option synthInstance.maxSize 5000
noncomputable section
theorem vg:∀(s:Int) (l:List jA),kO s l=true→∀o∈l,0≤o.1∧o.1≤1125899906842624
 |_,[],_,o,h=>by cases h
 |s,x::l,h,o,ho=>by
  rw[kO,Bool.and_eq_true,Bool.and_eq_true]at h
  rcases List.mem_cons.1 ho with rfl | ho
  ·have:=h.1.1
   unfold nN nv at this
   simp only[Bool.and_eq_true,decide_eq_true_eq]at this
   exact this.2.1
  ·exact vg _ l h.2 o ho
theorem xn{t:gX}(h:iq t=true):t.2.1.length≤64∧∀o∈t.2.1,0≤o.1∧o.1≤1125899906842624:=by
 unfold iq qM at h
 simp only[Bool.and_eq_true,decide_eq_true_eq]at h
 exact⟨h.1.2.2.1,vg _ _ h.2.2⟩
theorem C0{id:List Int}{k n:Nat}{o:oQ}(h:o∈mh id k n):o.1=id:=by
 unfold mh at h
 obtain⟨i,_,rfl⟩:=List.mem_map.1 h
 rfl
theorem B7{c:BA}{rev pay:Int}(h1:fh rev)(h2:fh pay):vU (tO c rev pay):=by
 unfold tO
 by_cases hok:iq c.1=true
 ·obtain⟨hl,ha⟩:=xn hok
  refine⟨Nat.le_trans (Ck ..) (Nat.le_trans (zo _) hl),fun y hy=> ?_⟩
  obtain⟨o,ho,x,hx,r,hr,_,rfl⟩:=uj _ _ _ _ _ _ hy
  refine⟨?_,ha x hx,?_⟩
  ·unfold jm at ho
   rw[if_pos hok]at ho
   show Sm o.1
   rw[C0 ho]
   exact E6
  ·show fh (if r.1=2 then pay else rev)
   split
   ·exact h2
   ·exact h1
 ·have e:jm c.1=[]:=by unfold jm;rw[if_neg hok]
  rw[e]
  exact⟨Nat.zero_le _,fun y hy=>by simp[wy]at hy⟩
theorem s7{l:List iC}{x:iC}:x∈iO l↔x∈l:=(jo l).mem_iff
theorem FX{ch:fF}{s:fL}{own per:Int}(hch:jI ch)(hu:oH s)(ho:own=0∨own=1)(hp:fh per):∀m∈mP ch s own per,nX m.1.2.1:=by
 have hp':1 - own=0∨1 - own=1:=by omega
 have b0:=hch.ba ho
 have b1:=hch.ba hp'
 intro m hm
 unfold mP at hm
 simp only[List.mem_append]at hm
 rcases hm with hm | hm | hm | hm
 ·split at hm
  ·rw[List.mem_singleton]at hm;subst hm
   exact zi (ma _) (ma _)
  ·cases hm
 ·split at hm
  ·rw[List.mem_singleton]at hm;subst hm
   exact xT b1.2.1.1
  ·cases hm
 ·rcases List.mem_cons.1 hm with rfl | hm
  ·exact ot b0.1.1
  ·rw[List.mem_singleton]at hm;subst hm
   exact ot b1.1.1
 ·obtain⟨c,hc,rfl⟩:=List.mem_map.1 hm
  have hq:=hu.1 c (List.mem_filter.1 hc).1
  unfold jN
  split
  ·exact Gp (ma _) (ma _) (ma _) hq
  ·exact Gq (ma _) (ma _) (ma _) hq
theorem zO{ch:fF}{s:fL}{own per:Int}(hl:s.2.2.1.length≤16):(mP ch s own per).length≤20:=by
 unfold mP
 have h3:(fH s.2.2.1).length≤16:=Nat.le_trans (List.length_filter_le _ _) hl
 simp only[List.length_append,List.length_map]
 have h1:(if zS (gK ch s own)=true then [A2 (gK ch s own) (uU (qc (mn ch own).2.2.1 per) (tQ (mn ch (1 - own)).2.2.2.2.1 per) (r9 ch (1 - own))) ((1:Int),(GG,()))] else []).length≤1:=by split <;> simp
 have h2:(if zS (gK ch s (1 - own))=true then [A2 (gK ch s (1 - own)) (xx [(mn ch (1 - own)).2.1]) ((2:Int),(GG,()))] else []).length≤1:=by split <;> simp
 simp only[List.length_cons,List.length_nil]
 omega
theorem jI.H8{ch:fF}(h:jI ch):ch.1=(List.replicate 32 0,(0,())):=by
 obtain⟨a,b0,b1,o,rfl,_⟩:=h
 rfl
theorem JL:Sm (List.replicate 32 0):=⟨List.length_replicate,fun x hx=>by rw[(List.mem_replicate.1 hx).2];exact⟨by decide,by decide⟩⟩
theorem wN{ch:fF}{s:fL}{own per:Int}(hch:jI ch)(hu:oH s)(hs:tg ch s)(ho:own=0∨own=1)(hp:fh per):sa (fo ch s own per).1∧(fo ch s own per).1.2.1.length=(fo ch s own per).2.1.length∧(fo ch s own per).1.2.1.length≤20:=by
 have hl:=zO (ch:=ch) (own:=own) (per:=per) hs.len
 have hk:=FX hch hu ho hp
 have hno:=hs.no
 have hle:=(jo (mP ch s own per)).length_eq
 unfold fo ofRow
 refine⟨⟨⟨fun o hm=> ?_,by show 1≤_;decide,by show(List.map _ _).length≤_;rw[List.length_map];omega⟩,fun x hx=> ?_,by show 2*s.1+own≤_;omega⟩,by show(List.map _ _).length=(List.map _ _).length;rw[List.length_map,List.length_map],by show(List.map _ _).length≤_;rw[List.length_map];omega⟩
 ·obtain⟨m,hm',rfl⟩:=List.mem_map.1 hm
  exact hk m (s7.1 hm')
 ·have hx:x∈ [(ch.1,(((0:Int),(([]:List Sg),((0:Int),()))),()))]:=hx
  rw[List.mem_singleton]at hx
  subst hx
  refine⟨?_,⟨fun s hs=>(by cases hs),qO⟩,Nat.zero_le _⟩
  show Sm ch.1.1
  rw[hch.H8]
  exact JL
theorem zp{ch:fF}{s:fL}{own per:Int}(h:(jz ch s own per).2=0):(own=0∨own=1)∧lf per=true∧tg ch s∧jz ch s own per=(fo ch s own per,0):=by
 unfold jz at h ⊢
 split at h
 ·next e=>
  rw[Bool.and_eq_true,decide_eq_true_eq]at e
  split at h
  ·next e2=>exact⟨e.1,e.2,mS.1 e2,by rw[if_pos (by rw[Bool.and_eq_true,decide_eq_true_eq];exact e),if_pos e2]⟩
  ·exact absurd h (by decide)
 ·exact absurd h (by decide)
theorem aR.c{ch:fF}{s:fL}{own per:Int}(hch:jI ch)(hu:oH s)(hp:fh per):aR.call (ch,s,own,per)=some (jz ch s own per):=by
 have ea:∀d y,aR.add d y=y:=fun _ _=>rfl
 have eF:aR.F (ch,s,own,per)=jz ch s own per:=rfl
 rw[aR.run (d:=(ch,s,own,per)) ⟨hch,hu,hp⟩,ea,eF]
theorem fv.c{c:BA}{rev pay:Int}(h:sa c.1)(h2:c.1.2.1.length=c.2.1.length)(h3:c.1.2.1.length≤1000):fv.call (c,rev,pay)=some (tO c rev pay):=by
 have ea:∀d y,fv.add d y=y:=fun _ _=>rfl
 have eF:fv.F (c,rev,pay)=tO c rev pay:=rfl
 rw[fv.run (d:=(c,rev,pay)) ⟨h,h2,h3⟩,ea,eF]
theorem bQ.c{l:List kA}{aV:Int}(h:vU l)(h0:0≤aV∧aV≤1000):bQ.call (l,aV)=some (kf l aV):=bQ.run (d:=(l,aV)) ⟨h,h0.1,h0.2⟩
theorem aS.c{l:List kA}{to:Lk}{aV:Int}(h:vU l)(ht:nX to)(h0:0≤aV∧aV≤1000):aS.call (l,to,aV)=some (iP l to aV):=by
 have ea:∀d y,aS.add d y=y:=fun _ _=>rfl
 have eF:aS.F (l,to,aV)=iP l to aV:=rfl
 rw[aS.run (d:=(l,to,aV)) ⟨h,ht,h0.1,h0.2⟩,ea,eF]
def rq(ch:fF)(kit:js)(me:Int)(to:Lk)(aV:Int):Bool:=kC me 0 1 && (kC aV 0 1000 && (iV to && Ty.beq kU (jB kit) (mn ch me)))
def fX(ch:fF)(kit:js)(me:Int)(dH:fL)(secret:List Int)(to:Lk)(aV:Int):List kA×Int:=
 if rq ch kit me to aV=true then
  (if(jz ch dH (1 - me) (l7 secret)).2=0 then(tO (jz ch dH (1 - me) (l7 secret)).1 (oR kit.2.2.2.2.1 secret) kit.2.1,0) else([],(jz ch dH (1 - me) (l7 secret)).2))
 else([],1)
theorem Hv(b:Int)(s:List Int):fh (oR b s):=(xw _ _).u
theorem yZ{ch:fF}{kit:js}{me:Int}{dH:fL}{secret:List Int}{to:Lk}{aV:Int}(hk:tR kit):vU (fX ch kit me dH secret to aV).1:=by
 unfold fX
 split
 ·split
  ·exact B7 (Hv _ _) hk.2.1
  ·exact⟨Nat.zero_le _,fun y hy=>(by cases hy)⟩
 ·exact⟨Nat.zero_le _,fun y hy=>(by cases hy)⟩
theorem uJ{ch:fF}{kit:js}{me:Int}{dH:fL}{secret:List Int}{to:Lk}{aV:Int}(h:(fX ch kit me dH secret to aV).2=0):rq ch kit me to aV=true∧(jz ch dH (1 - me) (l7 secret)).2=0∧(fX ch kit me dH secret to aV).1=tO (jz ch dH (1 - me) (l7 secret)).1 (oR kit.2.2.2.2.1 secret) kit.2.1:=by
 unfold fX at h ⊢
 split at h
 ·next e=>
  split at h
  ·next e2=>exact⟨e,e2,by rw[if_pos e,if_pos e2]⟩
  ·next e2=>exact absurd h e2
 ·exact absurd h (by decide)
abbrev cV.D:=fF×js×Int×fL×Bs×Lk×Int
def cV.st:cV.D→SA:=fun(ch,kit,me,dH,secret,to,aV)=>([.d iu ch,.d jd kit,.d ti me,.d hZ dH,.d tH secret,.d lV to,.d ti aV],[])
abbrev cV.Y:=(List kA)×Int
abbrev cV.X:=(List kA)×Int
def cV.out:cV.X→aT:=fun x=>⟨.cons (.d (.slice qg) x.1) (.cons (.d ti x.2) (.nil)),[],[]⟩
def cV.add:cV.D→cV.Y→cV.X:=fun(ch,kit,me,dH,secret,to,aV) y=>y
def cV.aq:cV.D→Prop:=fun(ch,kit,me,dH,secret,to,aV)=>jI ch∧tR kit∧oH dH∧Sm secret∧nX to
def cV.F:cV.D→cV.Y:=fun(ch,kit,me,dH,secret,to,aV)=>fX ch kit me dH secret to aV
noncomputable def cV.G:dX:=eX (P:=Tryz.prog) [aQ.sg,cC.sg,dD.sg,aR.sg,cH.sg,fv.sg]
noncomputable def cV.an:ej:= {res:=[some (.slice qg),none]}
noncomputable def cV.A:= @cq Tryz.prog cV.G cV.an 0 Tryz.f31 _ cV.st
abbrev cV.Ok:=cr @cV.A cV.aq cV.add cV.F cV.out
theorem cV.eq{R:Type}(ch:fF)(kit:js)(me:Int)(dH:fL)(secret:Bs)(to:Lk)(aV:Int)(k:aT→Option R):cV.A (ch,kit,me,dH,secret,to,aV) k=
  aC ((gM me (0:Int))) (
   k (cV.out (([]:List kA),(1:Int)))) (
   aC ((na me (1:Int))) (
    k (cV.out (([]:List kA),(1:Int)))) (
    aC ((gM aV (0:Int))) (
     k (cV.out (([]:List kA),(1:Int)))) (
     aC ((na aV (1000:Int))) (
      k (cV.out (([]:List kA),(1:Int)))) (
      ab (aQ.call to) fun x1=>
      aC ((!x1)) (
       k (cV.out (([]:List kA),(1:Int)))) (
       ab (cC.call kit) fun x2=>
       aC (dY me (2:Int)) (
       aC ((!(Ty.beq kU x2 (nth kU ch.2.2.1 (Int.toNat me))))) (
        k (cV.out (([]:List kA),(1:Int)))) (
        ab (dD.call secret) fun x3=>
        ab (aR.call (ch,dH,(bS .i64 (1:Int) me),x3)) fun x4=>
        aC ((qS x4.2 (0:Int))) (
         k (cV.out (([]:List kA),x4.2))) (
         ab (cH.call (kit.2.2.2.2.1,secret)) fun x5=>
         ab (fv.call (x4.1,x5,kit.2.1)) fun x6=>
         k (cV.out (x6,(0:Int)))))) none))))):=by kernel_rfl
theorem cV.ok:cV.Ok:=by
 rintro⟨ch,kit,me,dH,secret,to,aV⟩ ⟨hch,hk,hu,hs,ht⟩
 have hch:jI ch:=hch
 have hk:tR kit:=hk
 have hu:oH dH:=hu
 have hs:Sm secret:=hs
 have ht:nX to:=ht
 have ea:∀d y,cV.add d y=y:=fun _ _=>rfl
 have eF:cV.F (ch,kit,me,dH,secret,to,aV)=fX ch kit me dH secret to aV:=rfl
 rw[cV.eq,ea,eF]
 unfold fX rq
 by_cases h1:me < 0
 ·rw[bB h1,ah,ja (by omega)];rfl
 by_cases h2:me > 1
 ·rw[bm h1,ae,dS h2,ah,ja (by omega)];rfl
 have hme:me=0∨me=1:=by omega
 rw[bm h1,ae,cZ h2,ae,gJ (by omega) (by omega),Bool.true_and]
 by_cases h3:aV < 0
 ·rw[bB h3,ah,ja (by omega)];rfl
 by_cases h4:aV > 1000
 ·rw[bm h3,ae,dS h4,ah,ja (by omega)];rfl
 rw[bm h3,ae,cZ h4,ae,gJ (by omega) (by omega),Bool.true_and]
 have c1:aQ.call to=some (iV to):=aQ.run (d:=to) ⟨ht.1,ht.2⟩
 have c2:cC.call kit=some (jB kit):=cC.run (d:=kit) hk
 rw[c1,aa]
 cases h5:iV to
 ·rfl
 rw[Bool.not_true,ae,Bool.true_and,c2,aa,bz (by omega) (by omega),ah]
 rw[show nth kU ch.2.2.1 (Int.toNat me)=mn ch me from rfl]
 cases h6:Ty.beq kU (jB kit) (mn ch me)
 ·rfl
 rw[Bool.not_true,ae,if_pos rfl,dD.c hs,aa,Bt (by omega)]
 have hp:fh (l7 secret):=qY _
 have c3:=aR.c (own:=1 - me) hch hu hp
 have hmk:=zp (ch:=ch) (s:=dH) (own:=1 - me) (per:=l7 secret)
 generalize l7 secret=per at c3 hmk hp
 rw[c3,aa]
 by_cases h7:(jz ch dH (1 - me) per).2=0
 ·obtain⟨q1,q2,q3,q4⟩:=hmk h7
  have hv:=wN hch hu q3 q1 hp
  rw[q4]
  rw[gO rfl,ae,cH.c hk.2.2.2.2 hs,aa,fv.c hv.1 hv.2.1 (by have:=hv.2.2;omega),aa,if_pos rfl]
 ·rw[iM h7,ah,if_neg h7]
noncomputable def cV.E:=Entry.cF [some iu,some jd,some ti,some hZ,some tH,some lV,some ti] cV.st cV.aq cV.add cV.F cV.out
noncomputable def cV.call:cV.D→Option cV.X:=bC cV.E cV.st
theorem cV.run:bD cV.call cV.aq cV.add cV.F:=cz (cv [.d iu,.d jd,.d ti,.d hZ,.d tB,.d lV,.d ti] fun _=>by kernel_rfl)
noncomputable def cV.sg:SG Tryz.prog:=⟨31,aK,cV.E,.fn 0 (by kernel_rfl) cV.ok trivial⟩
theorem cV.c{ch:fF}{kit:js}{me:Int}{dH:fL}{secret:List Int}{to:Lk}{aV:Int}(hch:jI ch)(hk:tR kit)(hu:oH dH)(hs:Sm secret)(ht:nX to):cV.call (ch,kit,me,dH,secret,to,aV)=some (fX ch kit me dH secret to aV):=by
 have ea:∀d y,cV.add d y=y:=fun _ _=>rfl
 have eF:cV.F (ch,kit,me,dH,secret,to,aV)=fX ch kit me dH secret to aV:=rfl
 rw[cV.run (d:=(ch,kit,me,dH,secret,to,aV)) ⟨hch,hk,hu,hs,ht⟩,ea,eF]
def kG(ch:fF)(kit:js)(me:Int)(dH:fL)(secret:List Int)(to:Lk)(aV:Int):gX×Int:=
 if(fX ch kit me dH secret to aV).2=0 then iP (fX ch kit me dH secret to aV).1 to aV else(F8,(fX ch kit me dH secret to aV).2)
def mH(to:Lk)(aV:Int):List kA→List gX
 |[]=> []
 |x::l=>(if(iP [x] to aV).2=0 then [(iP [x] to aV).1] else [])++mH to aV l
def o9(ch:fF)(kit:js)(me:Int)(dH:fL)(secret:List Int)(to:Lk)(aV:Int):List gX×Int:=
 if(fX ch kit me dH secret to aV).2=0 then(mH to aV (fX ch kit me dH secret to aV).1,0) else([],(fX ch kit me dH secret to aV).2)
def rb(ch:fF)(me:Int)(dH:fL)(aV:Int):Int:=
 if(kC me 0 1 && kC aV 0 1000)=true then(if(jz ch dH (1 - me) 4).2=0 then imax 0 (kf (tO (jz ch dH (1 - me) 4).1 0 0) aV) else 0) else 0
theorem sN{ch:fF}{kit:js}{me:Int}{to:Lk}{aV:Int}(h:rq ch kit me to aV=true):(0≤me∧me≤1)∧(0≤aV∧aV≤1000)∧iV to=true∧Ty.beq kU (jB kit) (mn ch me)=true:=by
 unfold rq at h
 simp only[Bool.and_eq_true,kD]at h
 exact h
abbrev dm.D:=fF×js×Int×fL×Bs×Lk×Int
def dm.st:dm.D→SA:=fun(ch,kit,me,dH,secret,to,aV)=>([.d iu ch,.d jd kit,.d ti me,.d hZ dH,.d tH secret,.d lV to,.d ti aV],[])
abbrev dm.Y:=gX×Int
abbrev dm.X:=gX×Int
def dm.out:dm.X→aT:=fun x=>⟨.cons (.d kq x.1) (.cons (.d ti x.2) (.nil)),[],[]⟩
def dm.add:dm.D→dm.Y→dm.X:=fun(ch,kit,me,dH,secret,to,aV) y=>y
def dm.aq:dm.D→Prop:=fun(ch,kit,me,dH,secret,to,aV)=>jI ch∧tR kit∧oH dH∧Sm secret∧nX to
def dm.F:dm.D→dm.Y:=fun(ch,kit,me,dH,secret,to,aV)=>kG ch kit me dH secret to aV
noncomputable def dm.G:dX:=eX (P:=Tryz.prog) [cV.sg,aS.sg]
noncomputable def dm.an:ej:= {res:=[some kq,none]}
noncomputable def dm.A:= @cq Tryz.prog dm.G dm.an 0 Tryz.f9 _ dm.st
abbrev dm.Ok:=cr @dm.A dm.aq dm.add dm.F dm.out
theorem dm.eq{R:Type}(ch:fF)(kit:js)(me:Int)(dH:fL)(secret:Bs)(to:Lk)(aV:Int)(k:aT→Option R):dm.A (ch,kit,me,dH,secret,to,aV) k=
  ab (cV.call (ch,kit,me,dH,secret,to,aV)) fun x1=>
  aC ((qS x1.2 (0:Int))) (
   k (dm.out ((([]:List jc),(([]:List jA),((0:Int),()))),x1.2))) (
   ab (aS.call (x1.1,to,aV)) fun x2=>
   k (dm.out (x2.1,x2.2))):=by kernel_rfl
theorem dm.ok:dm.Ok:=by
 rintro⟨ch,kit,me,dH,secret,to,aV⟩ ⟨hch,hk,hu,hs,ht⟩
 have hk:tR kit:=hk
 have ht:nX to:=ht
 have ea:∀d y,dm.add d y=y:=fun _ _=>rfl
 have eF:dm.F (ch,kit,me,dH,secret,to,aV)=kG ch kit me dH secret to aV:=rfl
 rw[dm.eq,ea,eF,cV.c hch hk hu hs ht,aa]
 unfold kG
 have hg:=yZ (ch:=ch) (me:=me) (dH:=dH) (secret:=secret) (to:=to) (aV:=aV) hk
 have hm:=uJ (ch:=ch) (kit:=kit) (me:=me) (dH:=dH) (secret:=secret) (to:=to) (aV:=aV)
 generalize fX ch kit me dH secret to aV=r at hg hm
 by_cases h:r.2=0
 ·rw[gO h,ae,if_pos h,aS.c hg ht (sN (hm h).1).2.1,aa]
 ·rw[iM h,ah,if_neg h]
  rfl
noncomputable def dm.E:=Entry.cF [some iu,some jd,some ti,some hZ,some tH,some lV,some ti] dm.st dm.aq dm.add dm.F dm.out
noncomputable def dm.call:dm.D→Option dm.X:=bC dm.E dm.st
theorem dm.run:bD dm.call dm.aq dm.add dm.F:=cz (cv [.d iu,.d jd,.d ti,.d hZ,.d tB,.d lV,.d ti] fun _=>by kernel_rfl)
noncomputable def dm.sg:SG Tryz.prog:=⟨9,aK,dm.E,.fn 0 (by kernel_rfl) dm.ok trivial⟩
abbrev bJ.L0.D:=Int×Lk×(List kA)×Nat×Int×Int×(List gX)
def bJ.L0.st:bJ.L0.D→AS:=fun(rate_2,to_2,l,outL,t37,t38,n57)=>⟨(bu 6 ([.d ti rate_2]++bu 5 ([.eI lV to_2,.undef,.undef,.undef,.d (.slice qg) l,.undef,.cT (.new 57 0) 0 [] 0 0 outL]++bu 18 ([.d ti t37,.d ti t38]++bu 21 [])))),[],(cw 57 [[.obj 0 false (.vec 62 kq n57)],[],[]])⟩
abbrev bJ.L0.Y0:=Nat×(List gX)
abbrev bJ.L0.X0:=Nat×(List gX)
def bJ.L0.bM:bJ.L0.X0→Exit×AS:=fun x=>(.exit 0,⟨(bu 18 ([.cT (.new 57 0) 0 [] 0 0 x.1]++bu 41 [])),[],(cw 57 [[.obj 0 false (.vec 62 kq x.2)],[],[]])⟩)
abbrev bJ.L0.X:=bJ.L0.X0
abbrev bJ.L0.Y:=bJ.L0.Y0
def bJ.L0.out:bJ.L0.X→Out (Exit×AS):=fun x=> .ok (bJ.L0.bM x)
def bJ.L0.add:bJ.L0.D→bJ.L0.Y→bJ.L0.X:=fun(rate_2,to_2,l,outL,t37,t38,n57) y=>y
abbrev bJ.D:=fF×js×Int×fL×Bs×Lk×Int
def bJ.st:bJ.D→SA:=fun(ch,kit,me,dH,secret,to,aV)=>([.d iu ch,.d jd kit,.d ti me,.d hZ dH,.d tH secret,.d lV to,.d ti aV],[])
abbrev bJ.Y:=(List gX)×Int
abbrev bJ.X:=(List gX)×Int
def bJ.out:bJ.X→aT:=fun x=>⟨.cons (.d (.slice kq) x.1) (.cons (.d ti x.2) (.nil)),[],[]⟩
def bJ.add:bJ.D→bJ.Y→bJ.X:=fun(ch,kit,me,dH,secret,to,aV) y=>y
def bJ.aq:bJ.D→Prop:=fun(ch,kit,me,dH,secret,to,aV)=>jI ch∧tR kit∧oH dH∧Sm secret∧nX to
def bJ.F:bJ.D→bJ.Y:=fun(ch,kit,me,dH,secret,to,aV)=>o9 ch kit me dH secret to aV
def bJ.L0.aq:bJ.L0.D→Prop:=fun(aV,to,l,L,m,i,row)=>vU l∧nX to∧(0≤aV∧aV≤1000)∧m=l.length∧L=row.length∧∃k:Nat,k≤l.length∧i=k∧row.length≤k
def bJ.L0.F:bJ.L0.D→bJ.L0.Y:=fun(aV,to,l,L,m,i,row)=>((row++mH to aV (l.drop i.toNat)).length,row++mH to aV (l.drop i.toNat))
noncomputable def bJ.G:dX:=eX (P:=Tryz.prog) [cV.sg,aS.sg]
noncomputable def bJ.L0.E:=cf.cF bJ.L0.st bJ.L0.aq bJ.L0.add bJ.L0.F bJ.L0.out
noncomputable def bJ.L0.call:bJ.L0.D→Option bJ.L0.X:=dO bJ.L0.E bJ.L0.st
noncomputable def bJ.an:ej:= {loops:=ky [(6,{bt:=[6,12,16,18,37,38],sites:=[57],kc:=[⟨18,[],57,66⟩]})],outs:=kr [(6,{bt:=[18],sites:=[57]},{bt:=[14,15]})],gk:=kY [(6,bJ.L0.E)],res:=[some (.slice kq),none]}
noncomputable def bJ.A:= @cq Tryz.prog bJ.G bJ.an 0 Tryz.f10 _ bJ.st
abbrev bJ.Ok:=cr @bJ.A bJ.aq bJ.add bJ.F bJ.out
noncomputable def bJ.L0.R:= @cP Tryz.prog bJ.G bJ.an 0 Tryz.f10 0 _ bJ.L0.st
abbrev bJ.L0.Ok:=fg Tryz.prog bJ.G bJ.an 0 Tryz.f10 0 bJ.L0.st bJ.L0.aq bJ.L0.add bJ.L0.F bJ.L0.out
theorem bJ.L0.run:bD bJ.L0.call bJ.L0.aq bJ.L0.add bJ.L0.F:=fw (fk [.d ti,.d lV,.d (.slice qg),.n,.d ti,.d ti,.d (.slice kq)] fun _=>by kernel_rfl)
theorem bJ.L0.aF:gg @bJ.L0.R bJ.L0.st bJ.L0.aq bJ.L0.add bJ.L0.F bJ.L0.bM bJ.L0.Ok:=gj
theorem bJ.L0.step{R:Type}(rate_2:Int)(to_2:Lk)(l:(List kA))(outL:Nat)(t37:Int)(t38:Int)(n57:(List gX))(kn:AS→Option R)(kx:Exit→AS→Option R):bJ.L0.R (rate_2,to_2,l,outL,t37,t38,n57) kn kx=
  aC ((gM t38 t37)) (
   aC (inc (bw .i64 t38 (1:Int)) (((List.length l):Nat):Int)) (
   aC (inc t38 (((Int.toNat (bw .i64 t38 (1:Int))):Nat):Int)) (
   ab (aS.call ((cut l (Int.toNat t38) ((Int.toNat (bw .i64 t38 (1:Int))) - (Int.toNat t38))),to_2,rate_2)) fun x1=>
   aC ((ia x1.2 (0:Int))) (
    aC (decide (outL≤(List.length n57))) (
    aC (dK (outL+1) 56) (
    kn (bJ.L0.st (rate_2,to_2,l,(outL+1),t37,(bw .i64 t38 (1:Int)),((List.take outL n57)++ [x1.1])))) none) none) (
    kn (bJ.L0.st (rate_2,to_2,l,outL,t37,(bw .i64 t38 (1:Int)),n57)))) none) none) (
   kx (bJ.L0.bM (outL,n57)).1 (bJ.L0.bM (outL,n57)).2):=by kernel_rfl
theorem bJ.eq{R:Type}(ch:fF)(kit:js)(me:Int)(dH:fL)(secret:Bs)(to:Lk)(aV:Int)(k:aT→Option R):bJ.A (ch,kit,me,dH,secret,to,aV) k=
  ab (cV.call (ch,kit,me,dH,secret,to,aV)) fun x1=>
  aC ((qS x1.2 (0:Int))) (
   k (bJ.out (([]:List gX),x1.2))) (
   ab (bJ.L0.call (aV,to,x1.1,0,(((List.length x1.1):Nat):Int),(0:Int),([]:List gX))) fun x4=>
   aC (decide (0=0∧(0+x4.1)≤(List.length x4.2))) (
   k (bJ.out ((cut x4.2 0 x4.1),(0:Int)))) none):=by kernel_rfl
theorem FC{α:Type}{l:List α}{k:Nat}(h:k < l.length):cut l k (k+1 - k)=[l[k]]:=by
 rw[Nat.add_sub_cancel_left]
 unfold cut
 rw[List.drop_eq_getElem_cons h]
 rfl
theorem bJ.L0.ok:bJ.L0.Ok:=by
 refine bJ.L0.aF (fun(aV,to,l,L,m,i,row)=>l.length - i.toNat) ?_
 rintro⟨aV,to,l,L,m,i,row⟩ ⟨hg,ht,hr,rfl,rfl,k,hk,rfl,hrow⟩
 have hk:k≤l.length:=hk
 have hl:l.length≤64:=hg.1
 have hrow:row.length≤k:=hrow
 by_cases h:k < l.length
 ·left
  have hd:mH to aV (l.drop k)=(if(iP [l[k]] to aV).2=0 then [(iP [l[k]] to aV).1] else [])++mH to aV (l.drop (k+1)):=by rw[List.drop_eq_getElem_cons h,mH]
  have g1:vU [l[k]]:=⟨by show 1≤64;decide,fun x hx=>by rw[List.mem_singleton]at hx;subst hx;exact hg.2 _ (List.getElem_mem h)⟩
  have c1:=aS.c (to:=to) (aV:=aV) g1 ht hr
  have e1:∀x:gX,(row++ [x]).length=row.length+1:=fun x=>by rw[List.length_append];rfl
  have ec:=FC h
  generalize iP [l[k]] to aV=r at hd c1
  by_cases hz:r.2=0
  ·refine⟨(aV,to,l,row.length+1,(l.length:Int),((k+1:Nat):Int),row++ [r.1]),⟨hg,ht,hr,rfl,(e1 _).symm,k+1,by omega,rfl,by show(row++ [r.1]).length≤_;rw[e1];omega⟩,by simp only[Int.toNat_natCast];omega,?_,fun kn kx=> ?_⟩
   ·rw[if_pos hz]at hd
    simp only[bJ.L0.add,bJ.L0.F,Int.toNat_natCast,hd,List.append_assoc]
   ·rw[bJ.L0.step,bB (by omega),N.mC (by omega),Int.toNat_natCast,Int.toNat_natCast,ec,c1,kE (by omega) (by omega),kE (by omega) (by omega),aa,eu hz,aD (Nat.le_refl _),eO (by omega) (by omega),List.take_length]
    rfl
  ·refine⟨(aV,to,l,row.length,(l.length:Int),((k+1:Nat):Int),row),⟨hg,ht,hr,rfl,rfl,k+1,by omega,rfl,by show row.length≤_;omega⟩,by simp only[Int.toNat_natCast];omega,?_,fun kn kx=> ?_⟩
   ·rw[if_neg hz,List.nil_append]at hd
    simp only[bJ.L0.add,bJ.L0.F,Int.toNat_natCast,hd]
   ·rw[bJ.L0.step,bB (by omega),N.mC (by omega),Int.toNat_natCast,Int.toNat_natCast,ec,c1,kE (by omega) (by omega),kE (by omega) (by omega),aa,dR hz]
    rfl
 ·right
  obtain rfl:k=l.length:=by omega
  intro R kn kx
  rw[bJ.L0.step,bm (by omega),ae]
  simp only[bJ.L0.add,bJ.L0.F,Int.toNat_natCast,List.drop_length,mH,List.append_nil]
theorem bJ.ok:bJ.Ok:=by
 rintro⟨ch,kit,me,dH,secret,to,aV⟩ ⟨hch,hk,hu,hs,ht⟩
 have hk:tR kit:=hk
 have ht:nX to:=ht
 have ea:∀d y,bJ.add d y=y:=fun _ _=>rfl
 have eF:bJ.F (ch,kit,me,dH,secret,to,aV)=o9 ch kit me dH secret to aV:=rfl
 rw[bJ.eq,ea,eF,cV.c hch hk hu hs ht,aa]
 unfold o9
 have hg:=yZ (ch:=ch) (me:=me) (dH:=dH) (secret:=secret) (to:=to) (aV:=aV) hk
 have hm:=uJ (ch:=ch) (kit:=kit) (me:=me) (dH:=dH) (secret:=secret) (to:=to) (aV:=aV)
 generalize fX ch kit me dH secret to aV=r at hg hm
 by_cases h:r.2=0
 ·rw[gO h,ae,if_pos h,bJ.L0.run (d:=(aV,to,r.1,0,(r.1.length:Int),0,[])) ⟨hg,ht,(sN (hm h).1).2.1,rfl,rfl,0,Nat.zero_le _,rfl,Nat.le_refl _⟩]
  simp only[aa,bJ.L0.add,bJ.L0.F,Int.toNat_zero,List.drop_zero,List.nil_append,Nat.zero_add]
  rw[aD ⟨trivial,Nat.le_refl _⟩,ah,gG rfl]
 ·rw[iM h,ah,if_neg h]
noncomputable def bJ.E:=Entry.cF [some iu,some jd,some ti,some hZ,some tH,some lV,some ti] bJ.st bJ.aq bJ.add bJ.F bJ.out
noncomputable def bJ.call:bJ.D→Option bJ.X:=bC bJ.E bJ.st
theorem bJ.run:bD bJ.call bJ.aq bJ.add bJ.F:=cz (cv [.d iu,.d jd,.d ti,.d hZ,.d tB,.d lV,.d ti] fun _=>by kernel_rfl)
noncomputable def bJ.sg:SG Tryz.prog:=⟨10,aK,bJ.E,.fn 1 (by kernel_rfl) bJ.ok (And.intro (.cF bJ.L0.ok (by kernel_rfl)) trivial)⟩
abbrev dJ.D:=fF×Int×fL×Int
def dJ.st:dJ.D→SA:=fun(ch,me,dH,aV)=>([.d iu ch,.d ti me,.d hZ dH,.d ti aV],[])
abbrev dJ.Y:=Int
abbrev dJ.X:=Int
def dJ.out:dJ.X→aT:=fun x=>⟨.d ti x,[],[]⟩
def dJ.add:dJ.D→dJ.Y→dJ.X:=fun(ch,me,dH,aV) y=>y
def dJ.aq:dJ.D→Prop:=fun(ch,me,dH,aV)=>jI ch∧oH dH
def dJ.F:dJ.D→dJ.Y:=fun(ch,me,dH,aV)=>rb ch me dH aV
noncomputable def dJ.G:dX:=eX (P:=Tryz.prog) [aR.sg,fv.sg,bQ.sg]
noncomputable def dJ.an:ej:= {}
noncomputable def dJ.A:= @cq Tryz.prog dJ.G dJ.an 0 Tryz.f12 _ dJ.st
abbrev dJ.Ok:=cr @dJ.A dJ.aq dJ.add dJ.F dJ.out
theorem dJ.eq{R:Type}(ch:fF)(me:Int)(dH:fL)(aV:Int)(k:aT→Option R):dJ.A (ch,me,dH,aV) k=
  aC ((gM me (0:Int))) (
   k (dJ.out (0:Int))) (
   aC ((na me (1:Int))) (
    k (dJ.out (0:Int))) (
    aC ((gM aV (0:Int))) (
     k (dJ.out (0:Int))) (
     aC ((na aV (1000:Int))) (
      k (dJ.out (0:Int))) (
      ab (aR.call (ch,dH,(bS .i64 (1:Int) me),(4:Int))) fun x1=>
      aC ((qS x1.2 (0:Int))) (
       k (dJ.out (0:Int))) (
       ab (fv.call (x1.1,(0:Int),(0:Int))) fun x2=>
       ab (bQ.call (x2,aV)) fun x3=>
       k (dJ.out (imax (0:Int) x3))))))):=by kernel_rfl
theorem dJ.ok:dJ.Ok:=by
 rintro⟨ch,me,dH,aV⟩ ⟨hch,hu⟩
 have hch:jI ch:=hch
 have hu:oH dH:=hu
 have ea:∀d y,dJ.add d y=y:=fun _ _=>rfl
 have eF:dJ.F (ch,me,dH,aV)=rb ch me dH aV:=rfl
 rw[dJ.eq,ea,eF]
 unfold rb
 by_cases h1:me < 0
 ·rw[bB h1,ah,ja (by omega)];rfl
 by_cases h2:me > 1
 ·rw[bm h1,ae,dS h2,ah,ja (by omega)];rfl
 have hme:me=0∨me=1:=by omega
 rw[bm h1,ae,cZ h2,ae,gJ (by omega) (by omega),Bool.true_and]
 by_cases h3:aV < 0
 ·rw[bB h3,ah,ja (by omega)];rfl
 by_cases h4:aV > 1000
 ·rw[bm h3,ae,dS h4,ah,ja (by omega)];rfl
 have hp:fh 4:=⟨by decide,by decide⟩
 rw[bm h3,ae,cZ h4,ae,gJ (by omega) (by omega),if_pos rfl,Bt (by omega),aR.c (own:=1 - me) hch hu hp,aa]
 have hmk:=zp (ch:=ch) (s:=dH) (own:=1 - me) (per:=4)
 by_cases h7:(jz ch dH (1 - me) 4).2=0
 ·obtain⟨q1,q2,q3,q4⟩:=hmk h7
  have hv:=wN hch hu q3 q1 hp
  have hg:=B7 (c:=fo ch dH (1 - me) 4) qO qO
  rw[q4,gO rfl,ae,fv.c hv.1 hv.2.1 (by have:=hv.2.2;omega),aa,bQ.c hg ⟨by omega,by omega⟩,aa,if_pos rfl]
 ·rw[iM h7,ah,if_neg h7]
noncomputable def dJ.E:=Entry.cF [some iu,some ti,some hZ,some ti] dJ.st dJ.aq dJ.add dJ.F dJ.out
noncomputable def dJ.call:dJ.D→Option dJ.X:=bC dJ.E dJ.st
theorem dJ.run:bD dJ.call dJ.aq dJ.add dJ.F:=cz (cv [.d iu,.d ti,.d hZ,.d ti] fun _=>by kernel_rfl)
noncomputable def dJ.sg:SG Tryz.prog:=⟨12,aK,dJ.E,.fn 0 (by kernel_rfl) dJ.ok trivial⟩
theorem dm.c{ch:fF}{kit:js}{me:Int}{dH:fL}{secret:List Int}{to:Lk}{aV:Int}(hch:jI ch)(hk:tR kit)(hu:oH dH)(hs:Sm secret)(ht:nX to):dm.call (ch,kit,me,dH,secret,to,aV)=some (kG ch kit me dH secret to aV):=by
 have ea:∀d y,dm.add d y=y:=fun _ _=>rfl
 have eF:dm.F (ch,kit,me,dH,secret,to,aV)=kG ch kit me dH secret to aV:=rfl
 rw[dm.run (d:=(ch,kit,me,dH,secret,to,aV)) ⟨hch,hk,hu,hs,ht⟩,ea,eF]
theorem bJ.c{ch:fF}{kit:js}{me:Int}{dH:fL}{secret:List Int}{to:Lk}{aV:Int}(hch:jI ch)(hk:tR kit)(hu:oH dH)(hs:Sm secret)(ht:nX to):bJ.call (ch,kit,me,dH,secret,to,aV)=some (o9 ch kit me dH secret to aV):=by
 have ea:∀d y,bJ.add d y=y:=fun _ _=>rfl
 have eF:bJ.F (ch,kit,me,dH,secret,to,aV)=o9 ch kit me dH secret to aV:=rfl
 rw[bJ.run (d:=(ch,kit,me,dH,secret,to,aV)) ⟨hch,hk,hu,hs,ht⟩,ea,eF]
theorem dJ.c{ch:fF}{me:Int}{dH:fL}{aV:Int}(hch:jI ch)(hu:oH dH):dJ.call (ch,me,dH,aV)=some (rb ch me dH aV):=by
 have ea:∀d y,dJ.add d y=y:=fun _ _=>rfl
 have eF:dJ.F (ch,me,dH,aV)=rb ch me dH aV:=rfl
 rw[dJ.run (d:=(ch,me,dH,aV)) ⟨hch,hu⟩,ea,eF]
end
end Go.Ab
namespace Go.Ab
open Go.Proofs
set_option maxRecDepth 100000
set_option linter.unusedVariables false
set_option linter.unusedSimpArgs false
set_option synthInstance.maxSize 5000
noncomputable section
theorem zJ(m:Int)(q:Nat)(a b:Int)(h1:a^q%m=1%m)(h2:b^q%m=1%m):(a*b%m)^q%m=1%m:=by
 rw[px,Int.mul_pow,Int.mul_emod,h1,h2,←Int.mul_emod,Int.one_mul]
theorem FM{a b:Int}(ha:lf a=true)(hb:lf b=true):lf (lj a b)=true:=by
 refine Eb (mz a b) ?_
 have h1:=(sF ha).1
 have h2:=(sF hb).1
 rw[vk _ _ (by decide)]at h1 h2 ⊢
 exact zJ 4611686018427377339 _ a b h1 h2
theorem y9:∀(l:List Int) (o:Int),lf o=true→lf (l.foldl (fun o p=>lj o (tk p)) o)=true
 |[],_,h=>h
 |p::l,o,h=>y9 l _ (FM h (Ec p))
theorem ng(l:List Int):lf (rW l)=true:=y9 l 1 B1
theorem oI{p a d s:Int}(hp:lf p=true)(ha:0≤a∧a≤1048576)(hd:0≤d∧d≤1048576)(hs:s=0∨lf s=true):nr ([p],(a,(d,(s,()))))=true:=by
 unfold nr xM
 simp only[List.all_cons,List.all_nil,hp,Bool.and_true,Bool.and_eq_true,decide_eq_true_eq,Bool.or_eq_true]
 exact⟨Nat.le_of_ble_eq_true rfl,trivial,ha,hd,hs⟩
theorem Dz.p{p:Int}(h:Dz p):lf p=true:=by
 have:=h.2
 unfold wo at this
 exact(Bool.and_eq_true_iff.1 this).1
theorem jI.wait{ch:fF}(h:jI ch){n:Int}(hn:n=0∨n=1):0≤r9 ch n∧r9 ch n≤1048576:=by
 obtain⟨d,hd,h2⟩:=h.t hn
 unfold r9
 rw[hd,Jf]
 omega
theorem uY{a b:oF}(ha:nr a=true)(hb:nr b=true):iV ([a,b],())=true:=by
 unfold iV
 simp only[List.all_cons,List.all_nil,ha,hb,Bool.and_self,Bool.true_and]
 rfl
theorem zh{a b c:oF}(ha:nr a=true)(hb:nr b=true)(hc:nr c=true):iV ([a,b,c],())=true:=by
 unfold iV
 simp only[List.all_cons,List.all_nil,ha,hb,hc,Bool.and_self,Bool.true_and]
 rfl
theorem zg{a:oF}(ha:nr a=true):iV ([a],())=true:=by
 unfold iV
 simp only[List.all_cons,List.all_nil,ha,Bool.and_self,Bool.true_and]
 rfl
theorem yt:(0:Int)≤0∧(0:Int)≤1048576:=by decide
theorem FY{ch:fF}{s:fL}{own per:Int}(hch:jI ch)(hs:tg ch s)(ho:own=0∨own=1):∀m∈mP ch s own per,iV m.1.2.1=true:=by
 have hp':1 - own=0∨1 - own=1:=by omega
 have b0:=hch.ba ho
 have b1:=hch.ba hp'
 have w:=hch.wait hp'
 intro m hm
 unfold mP at hm
 simp only[List.mem_append]at hm
 rcases hm with hm | hm | hm | hm
 ·split at hm
  ·rw[List.mem_singleton]at hm;subst hm
   exact uY (oI (ng _) yt yt (.inl rfl)) (oI (ng _) yt w (.inl rfl))
  ·cases hm
 ·split at hm
  ·rw[List.mem_singleton]at hm;subst hm
   exact zg (oI b1.2.1.p yt yt (.inl rfl))
  ·cases hm
 ·have h16:nr ([],((0:Int),((16:Int),((0:Int),()))))=true:=by decide
  rcases List.mem_cons.1 hm with rfl | hm
  ·exact uY (oI b0.1.p yt yt (.inl rfl)) h16
  ·rw[List.mem_singleton]at hm;subst hm
   exact uY (oI b1.1.p yt yt (.inl rfl)) h16
 ·obtain⟨c,hc,rfl⟩:=List.mem_map.1 hm
  have g:=nP _ _ hs.ko c (List.mem_filter.1 hc).1
  have hpt:lf c.2.2.2.1=true:=by
   have:=g.pt
   unfold wo at this
   exact(Bool.and_eq_true_iff.1 this).1
  have he:=g.exp
  unfold jN
  split
  ·exact zh (oI (ng _) yt yt (.inl rfl)) (oI (ng _) yt yt (.inr hpt)) (oI (ng _) ⟨by omega,he.2⟩ w (.inl rfl))
  ·exact zh (oI (ng _) yt yt (.inl rfl)) (oI (ng _) yt w (.inr hpt)) (oI (ng _) ⟨by omega,he.2⟩ yt (.inl rfl))
def ml:List iC→Int
 |[]=>0
 |m::l=>m.1.1+ml l
theorem jf:∀(a b:List iC),ml (a++b)=ml a+ml b
 |[],b=>by simp[ml]
 |m::a,b=>by rw[List.cons_append,ml,ml,jf a b];omega
theorem wD{a b:List iC}(h:a.Perm b):ml a=ml b:=by
 induction h with
 |nil=>rfl
 |cons x _ ih=>rw[ml,ml,ih]
 |swap x y l=>simp only[ml];omega
 |trans _ _ h1 h2=>rw[h1,h2]
def jj(m:iC):Bool:= !decide (m.2.1.1=3∨m.2.1.1=4)
def CI(l:List iC):Nat:=(l.filter jj).length
def Ct(l:List iC):Int:=ml (l.filter jj)
theorem CJ{a b:List iC}(h:a.Perm b):CI a=CI b:=(h.filter jj).length_eq
theorem Cu{a b:List iC}(h:a.Perm b):Ct a=Ct b:=wD (h.filter jj)
theorem Ah(rev pay:Int):∀(l:List iC) (os:List oQ),os.length=l.length→(wy rev pay os (l.map fun m=>m.1) (l.map fun m=>m.2.1)).length=CI l∧vW (wy rev pay os (l.map fun m=>m.1) (l.map fun m=>m.2.1))=Ct l
 |[],[],_=>⟨rfl,rfl⟩
 |[],_::_,h=>by cases h
 |_::_,[],h=>by cases h
 |m::l,o::os,h=>by
  have ih:=Ah rev pay l os (by simpa using h)
  simp only[List.map_cons,wy]
  unfold CI Ct pF at*
  rw[List.filter_cons]
  by_cases hg:m.2.1.1=3∨m.2.1.1=4
  ·have:jj m=false:=by unfold jj;rw[aD hg];rfl
   rw[if_pos hg,this,if_neg (by simp),List.nil_append]
   exact ih
  ·have:jj m=true:=by unfold jj;rw[bN hg];rfl
   rw[if_neg hg,this,if_pos rfl,List.singleton_append,List.length_cons,List.length_cons,vW,ml,ih.1,ih.2]
   exact⟨rfl,rfl⟩
theorem mE(own rev theirs mine wait:Int):∀l:List fE,ml (l.map (jN own rev theirs mine wait))=fQ l∧(l.map (jN own rev theirs mine wait)).filter jj=l.map (jN own rev theirs mine wait)
 |[]=>⟨rfl,rfl⟩
 |c::l=>by
  have ih:=mE own rev theirs mine wait l
  have h1:(jN own rev theirs mine wait c).1.1=c.2.2.1∧jj (jN own rev theirs mine wait c)=true:=by
   unfold jN
   split
   ·exact⟨rfl,rfl⟩
   ·exact⟨rfl,rfl⟩
  rw[List.map_cons,ml,fQ,ih.1,h1.1,List.filter_cons,h1.2,if_pos rfl,ih.2]
  exact⟨rfl,rfl⟩
def Ir(n:Int):Int:=if zS n=true then n else 0
def Is(n:Int):Nat:=if zS n=true then 1 else 0
theorem ES(ch:fF)(s:fL)(own per:Int):CI (mP ch s own per)=Is (gK ch s own)+(Is (gK ch s (1 - own))+(fH s.2.2.1).length):=by
 unfold CI mP Is
 rw[List.filter_append,List.filter_append,List.filter_append,List.length_append,List.length_append,List.length_append,(mE ..).2,List.length_map]
 have e3:∀a b:iC,a.2.1.1=3→b.2.1.1=4→([a,b].filter jj).length=0:=fun a b h1 h2=>by
  rw[List.filter_cons,List.filter_cons]
  have q1:jj a=false:=by unfold jj;rw[aD (.inl h1)];rfl
  have q2:jj b=false:=by unfold jj;rw[aD (.inr h2)];rfl
  rw[q1,q2]
  rfl
 rw[e3 _ _ rfl rfl,Nat.zero_add]
 cases zS (gK ch s own) <;> cases zS (gK ch s (1 - own)) <;> rfl
theorem ER(ch:fF)(s:fL)(own per:Int):Ct (mP ch s own per)=Ir (gK ch s own)+(Ir (gK ch s (1 - own))+fQ (fH s.2.2.1)):=by
 unfold Ct mP Ir
 rw[List.filter_append,List.filter_append,List.filter_append,jf,jf,jf,(mE ..).2,(mE ..).1]
 have e3:∀a b:iC,a.2.1.1=3→b.2.1.1=4→ml ([a,b].filter jj)=0:=fun a b h1 h2=>by
  rw[List.filter_cons,List.filter_cons]
  have q1:jj a=false:=by unfold jj;rw[aD (.inl h1)];rfl
  have q2:jj b=false:=by unfold jj;rw[aD (.inr h2)];rfl
  rw[q1,q2]
  rfl
 rw[e3 _ _ rfl rfl,Int.zero_add]
 have e1:∀m:iC,jj m=true→ml ([m].filter jj)=m.1.1:=fun m h=>by
  rw[List.filter_cons,h,if_pos rfl]
  show m.1.1+0=_
  omega
 have e0:ml (([]:List iC).filter jj)=0:=rfl
 congr 1
 ·split
  ·exact e1 _ rfl
  ·exact e0
 ·congr 1
  split
  ·exact e1 _ rfl
  ·exact e0
theorem D2{r:Int}{m n:Int}(h0:0≤m)(h1:m≤n)(h2:n≤16):tW r m≤tW r n:=by
 unfold tW
 split
 ·next h=>
  have e:Fh m≤Fh n:=by unfold Fh;rw[if_pos ⟨h0,by omega⟩,if_pos ⟨by omega,h2⟩];omega
  exact Int.mul_le_mul_of_nonneg_left e h.1
 ·exact Int.le_refl _
theorem zN{ch:fF}{s:fL}(hs:tg ch s){n:Int}(hn:n=0∨n=1):0≤gK ch s n:=by
 have h0:=(hs.D6 hn).1
 have hl:=hs.len
 have h3:(fH s.2.2.1).length≤s.2.2.1.length:=List.length_filter_le _ _
 have hm:=D2 (r:=s.2.2.2.1) (m:=((fH s.2.2.1).length:Int)) (n:=(s.2.2.1.length:Int)) (by omega) (by omega) (by omega)
 have hc:=hs.cost
 unfold gK
 split
 ·next e=>
  rw[←e]at hc
  omega
 ·omega
theorem De{ch:fF}(hch:jI ch)(s:fL){own:Int}(ho:own=0∨own=1): @Eq Int (gK ch s own+gK ch s (1 - own)) (nth ti s.2.1 0+nth ti s.2.1 1 - (tW s.2.2.2.1 (fH s.2.2.1).length+660)):=by
 have hop:=hch.op
 unfold gK
 rcases ho with rfl | rfl <;> rcases hop with e | e <;> rw[e] <;> simp <;> omega
theorem vB:∀(l:List fE),(∀c∈l,yz c)→0≤fQ (fH l)∧fQ (fH l)≤fQ l
 |[],_=>⟨Int.le_refl _,Int.le_refl _⟩
 |c::l,h=>by
  have ih:=vB l fun x hx=>h x (List.mem_cons_of_mem _ hx)
  have hc:=h c List.mem_cons_self
  unfold yz at hc
  rw[tE]
  split
  ·simp only[fQ];omega
  ·simp only[fQ];omega
theorem EP{ch:fF}{s:fL}{own per:Int}(hch:jI ch)(hs:tg ch s)(ho:own=0∨own=1):(∀m∈mP ch s own per,0≤m.1.1)∧ml (mP ch s own per)≤1125899906842624:=by
 have hp':1 - own=0∨1 - own=1:=by omega
 have r0:=zN hs ho
 have r1:=zN hs hp'
 have rs:=De hch s ho
 have ht:=hs.Jh
 have ha:=hch.Aq
 have hsh:=vB _ hs.a
 have hf:=sw s.2.2.2.1 (fH s.2.2.1).length
 refine⟨fun m hm=> ?_,?_⟩
 ·unfold mP at hm
  simp only[List.mem_append]at hm
  rcases hm with hm | hm | hm | hm
  ·split at hm
   ·rw[List.mem_singleton]at hm;subst hm;exact r0
   ·cases hm
  ·split at hm
   ·rw[List.mem_singleton]at hm;subst hm;exact r1
   ·cases hm
  ·rcases List.mem_cons.1 hm with rfl | hm
   ·show(0:Int)≤330;decide
   ·rw[List.mem_singleton]at hm;subst hm;show(0:Int)≤330;decide
  ·obtain⟨c,hc,rfl⟩:=List.mem_map.1 hm
   have:=(hs.a c (List.mem_filter.1 hc).1).1
   unfold jN
   split
   ·exact this
   ·exact this
 ·unfold mP
  rw[jf,jf,jf,(mE ..).1]
  have e0:∀(b:Bool) (n:Int) (l:Lk) (r:qT),0≤n→ml (if b=true then [A2 n l r] else [])≤n:=fun b n l r hn=>by
   cases b
   ·exact hn
   ·show n+0≤n;omega
  have q0:=e0 (zS (gK ch s own)) (gK ch s own) (uU (qc (mn ch own).2.2.1 per) (tQ (mn ch (1 - own)).2.2.2.2.1 per) (r9 ch (1 - own))) ((1:Int),(GG,())) r0
  have q1:=e0 (zS (gK ch s (1 - own))) (gK ch s (1 - own)) (xx [(mn ch (1 - own)).2.1]) ((2:Int),(GG,())) r1
  have q2:∀(a b:Lk) (x y:qT),ml [A2 330 a x,A2 330 b y]=660:=fun _ _ _ _=>rfl
  rw[q2]
  omega
def Bu:List jA→Int
 |[]=>0
 |o::l=>o.1+Bu l
theorem sT:∀(l:List jA) (s:Int),0≤s→(∀o∈l,0≤o.1∧iV o.2.1=true)→s+Bu l≤1125899906842624→kO s l=true
 |[],_,_,_,_=>rfl
 |o::l,s,h0,h,hs=>by
  have ho:=h o List.mem_cons_self
  have hnn:∀(l:List jA),(∀o∈l,0≤o.1∧iV o.2.1=true)→0≤Bu l:=by
   intro l
   induction l with
   |nil=>intro _;exact Int.le_refl _
   |cons x l ih=>
    intro h
    have h1:=(h x List.mem_cons_self).1
    have h2:=ih fun y hy=>h y (List.mem_cons_of_mem _ hy)
    simp only[Bu]
    omega
  have hl:=hnn l fun y hy=>h y (List.mem_cons_of_mem _ hy)
  simp only[Bu]at hs
  rw[kO,ho.2,sT l (s+o.1) (by omega) (fun y hy=>h y (List.mem_cons_of_mem _ hy)) (by omega)]
  unfold nN nv
  rw[aD ⟨h0,by omega⟩,aD ⟨ho.1,by omega⟩,aD (by omega)]
  rfl
theorem Ad:∀l:List iC,Bu (l.map fun m=>m.1)=ml l
 |[]=>rfl
 |m::l=>by rw[List.map_cons,Bu,ml,Ad l]
theorem CL{ch:fF}{s:fL}{own per:Int}(hch:jI ch)(hs:tg ch s)(ho:own=0∨own=1):iq (fo ch s own per).1=true:=by
 have hl:=zO (ch:=ch) (own:=own) (per:=per) hs.len
 have hk:=FY (per:=per) hch hs ho
 have hr:=EP (per:=per) hch hs ho
 have hp:=jo (mP ch s own per)
 have hle:=hp.length_eq
 have hno:=hs.no
 unfold fo ofRow
 unfold iq qM
 have e1:oq [] [((ch.1,(((0:Int),(([]:List Sg),((0:Int),()))),())):jc)]=true:=by
  rw[oq,oq,hch.H8]
  rfl
 rw[e1,sT _ 0 (Int.le_refl _) (fun o hm0=> ?_) ?_,aD ⟨by show 1≤1;decide,by show 1≤64;decide,by show(List.map _ _).length≤64;rw[List.length_map];omega,by show 0≤2*s.1+own;omega⟩]
 ·rfl
 rotate_left
 ·obtain⟨m,hm,rfl⟩:=List.mem_map.1 hm0
  have hm:=s7.1 hm
  exact⟨hr.1 m hm,hk m hm⟩
 ·rw[Ad,wD hp]
  omega
theorem C9{ch:fF}{s:fL}{own per rev pay:Int}(hch:jI ch)(hs:tg ch s)(ho:own=0∨own=1):(tO (fo ch s own per) rev pay).length=Is (gK ch s own)+(Is (gK ch s (1 - own))+(fH s.2.2.1).length)∧
  vW (tO (fo ch s own per) rev pay)=Ir (gK ch s own)+(Ir (gK ch s (1 - own))+fQ (fH s.2.2.1)):=by
 have hok:=CL (per:=per) hch hs ho
 have hm:(jm (fo ch s own per).1).length=(iO (mP ch s own per)).length:=by
  unfold jm mh
  rw[if_pos hok,List.length_map,List.length_range']
  show(List.map _ _).length=_
  rw[List.length_map]
 have e:=Ah rev pay (iO (mP ch s own per)) _ hm
 rw[CJ (jo _),Cu (jo _),ES,ER]at e
 exact e
end
end Go.Ab
namespace Go.Ab
open Go.Proofs
set_option maxRecDepth 100000
set_option linter.unusedVariables false
set_option linter.unusedSimpArgs false
set_option synthInstance.maxSize 5000
noncomputable section
theorem BD{a b:fE}:sh a b=true↔(a.1 < b.1∨a.1=b.1∧a.2.1 < b.2.1):=by
 unfold sh;rw[decide_eq_true_eq]
theorem wB{a b c:fE}(h1:sh a b=true)(h2:sh b c=true):sh a c=true:=by
 rw[BD]at*;omega
def Ix(a b:fE):Prop:=sh a b=true
theorem wJ:∀(l:List fE) (p:fE),nu (some p) l=true↔(∀x∈l,F9 x)∧(p::l).Pairwise Ix
 |[],p=>⟨fun _=>⟨fun x hx=>(by cases hx),List.pairwise_singleton _ _⟩,fun _=>rfl⟩
 |c::l,p=>by
  rw[nu,Bool.and_eq_true,Bool.and_eq_true,wJ l c,mq]
  constructor
  ·rintro⟨h1,h2,h3,h4⟩
   refine⟨fun x hx=> ?_,List.pairwise_cons.2 ⟨fun x hx=> ?_,h4⟩⟩
   ·rcases List.mem_cons.1 hx with rfl | hx
    ·exact h1
    ·exact h3 x hx
   ·rcases List.mem_cons.1 hx with rfl | hx
    ·exact h2
    ·exact wB h2 ((List.pairwise_cons.1 h4).1 x hx)
  ·rintro⟨h1,h2⟩
   have h3:=List.pairwise_cons.1 h2
   exact⟨h1 c List.mem_cons_self,h3.1 c List.mem_cons_self,fun x hx=>h1 x (List.mem_cons_of_mem _ hx),h3.2⟩
theorem wI(l:List fE):nu none l=true↔(∀x∈l,F9 x)∧l.Pairwise Ix:=by
 cases l with
 |nil=>exact⟨fun _=>⟨fun x hx=>(by cases hx),List.Pairwise.nil⟩,fun _=>rfl⟩
 |cons c l=>
  rw[nu,Bool.and_eq_true,wJ l c,mq]
  constructor
  ·rintro⟨h1,h2,h3⟩
   refine⟨fun x hx=> ?_,h3⟩
   rcases List.mem_cons.1 hx with rfl | hx
   ·exact h1
   ·exact h2 x hx
  ·rintro⟨h1,h2⟩
   exact⟨h1 c List.mem_cons_self,fun x hx=>h1 x (List.mem_cons_of_mem _ hx),h2⟩
theorem sD:∀(c:fE) (l:List fE),(qA c l).Perm (c::l)
 |c,[]=>List.Perm.refl _
 |c,x::l=>by
  rw[pR]
  split
  ·exact List.Perm.refl _
  ·exact((sD c l).cons x).trans (List.Perm.swap c x l)
theorem BX:∀(c:fE) (l:List fE),l.Pairwise Ix→l.any (BZ c.1 c.2.1)=false→(qA c l).Pairwise Ix
 |c,[],_,_=>List.pairwise_singleton _ _
 |c,x::l,h,hn=>by
  rw[List.any_cons,Bool.or_eq_false_iff]at hn
  have h':=List.pairwise_cons.1 h
  rw[pR]
  split
  ·next hc=>
   refine List.pairwise_cons.2 ⟨fun y hy=> ?_,h⟩
   rcases List.mem_cons.1 hy with rfl | hy
   ·exact hc
   ·exact wB hc (h'.1 y hy)
  ·next hc=>
   have hx:sh x c=true:=by
    have h1:=hn.1
    unfold BZ ia at h1
    rw[BD]at*
    by_cases e1:x.1=c.1
    ·have e2:¬x.2.1=c.2.1:=fun e=>by
      rw[e1,e]at h1
      simp at h1
     omega
    ·omega
   refine List.pairwise_cons.2 ⟨fun y hy=> ?_,BX c l h'.2 hn.2⟩
   rcases(rh c l y).1 hy with rfl | hy
   ·exact hx
   ·exact h'.1 y hy
theorem wC{a b:List fE}(h:a.Perm b):fQ a=fQ b:=by
 induction h with
 |nil=>rfl
 |cons x _ ih=>rw[fQ,fQ,ih]
 |swap x y l=>simp only[fQ];omega
 |trans _ _ h1 h2=>rw[h1,h2]
theorem B8(n:Int)(c:fE)(l:List fE):fQ (im n (qA c l))=(if c.1=1 - n then c.2.2.1 else 0)+fQ (im n l):=by
 have hp:(im n (qA c l)).Perm (im n (c::l)):=(sD c l).filter _
 rw[wC hp,sS]
 by_cases h:c.1=1 - n
 ·rw[eu h,if_pos rfl,if_pos h,fQ]
 ·rw[dR h,if_neg (by simp),if_neg h];omega
theorem lX(s:fL)(c:fE):(hM s c).2.2.1=qA c s.2.2.1:=rfl
theorem qQ{s:fL}{c:fE}(h2:s.2.1.length=2)(hc:c.1=0∨c.1=1){n:Int}(hn:n=0∨n=1): @Eq Int (nth ti (hM s c).2.1 n.toNat) (nth ti s.2.1 n.toNat - (if c.1=n then c.2.2.1 else 0)):=by
 show nth ti (List.set _ _ _) _=_
 rw[zB h2 _ _ _ hc hn]
 split
 ·next e=>rw[e]
 ·show _=(nth ti s.2.1 n.toNat:Int) - 0
  exact(Int.sub_zero _).symm
theorem Cs{ch:fF}{s:fL}{c:fE}(hch:jI ch)(hu:oH s)(h:(tI ch s c).2=0):tg ch (tI ch s c).1:=by
 obtain⟨e,hs,g,hn,h16,hmost,hh,hcost⟩:=BC h
 rw[e]
 have gs:=EX g.side
 have ga:=g.Aq
 have hlen:=hs.len
 have w0:=qQ (s:=s) (c:=c) hu.2.2 gs (n:=0) (.inl rfl)
 have w1:=qQ (s:=s) (c:=c) hu.2.2 gs (n:=1) (.inr rfl)
 have wc:=qQ (s:=s) (c:=c) hu.2.2 gs gs
 rw[if_pos rfl]at wc
 have ck:=(wI _).1 hs.ko
 have a0:=hs.h0.1
 have a0':=hs.h0.2
 have a1:=hs.h1.1
 have a1':=hs.h1.2
 have hh': @LE.le Int _ 0 (nth ti (hM s c).2.1 c.1.toNat):=hh
 have o0:=B8 0 c s.2.2.1
 have o1:=B8 1 c s.2.2.1
 have q0:=hs.o0
 have q1:=hs.o1
 have ht:=hs.Jh
 have e0:(Int.toNat 0)=0:=rfl
 have e1:(Int.toNat 1)=1:=rfl
 rw[e0]at w0
 rw[e1]at w1
 refine⟨hs.no,?_,?_,hs.aV,?_,?_,?_,?_,?_,?_⟩
 ·unfold Bd
  rcases gs with gc | gc <;> rw[gc]at w0 hh' wc hmost
  ·rw[if_pos rfl]at w0
   rw[e0]at hh'
   exact⟨hh',by rw[w0];omega⟩
  ·rw[if_neg (by decide),Int.sub_zero]at w0
   exact⟨by rw[w0];exact a0,by rw[w0];exact a0'⟩
 ·unfold Bd
  rcases gs with gc | gc <;> rw[gc]at w1 hh' wc hmost
  ·rw[if_neg (by decide),Int.sub_zero]at w1
   exact⟨by rw[w1];exact a1,by rw[w1];exact a1'⟩
  ·rw[if_pos rfl]at w1
   rw[e1]at hh'
   exact⟨hh',by rw[w1];omega⟩
 ·rw[lX,uR];omega
 ·rw[lX,wI]
  refine⟨fun x hx=> ?_,BX c _ ck.2 hn⟩
  rcases(rh c _ x).1 hx with rfl | hx
  ·exact g
  ·exact ck.1 x hx
 ·rw[lX,o0]
  rcases gs with gc | gc <;> rw[gc]at hmost ⊢
  ·rw[if_neg (by decide)];omega
  ·rw[if_pos (by decide)]
   rw[show(1:Int) - 1=0 from rfl]at hmost
   omega
 ·rw[lX,o1]
  rcases gs with gc | gc <;> rw[gc]at hmost ⊢
  ·rw[if_pos (by decide)]
   rw[show(1:Int) - 0=1 from rfl]at hmost
   omega
  ·rw[if_neg (by decide)];omega
 ·rw[lX,wC (sD c _),fQ,w0,w1]
  rcases gs with gc | gc <;> rw[gc]
  ·rw[if_pos rfl,if_neg (by decide)];omega
  ·rw[if_neg (by decide),if_pos rfl];omega
 ·exact hcost
theorem u6{ch:fF}(hch:jI ch):∀(l:List Cr) (s:fL) (i:Nat),oH s→tg ch s→tg ch (nh ch s i l)
 |[],_,_,_,h=>h
 |o::l,s,i,hu,h=>by
  rw[nh]
  split
  ·refine u6 hch l _ _ (Bq hu) ?_
   unfold vI
   split
   ·next e=>exact Cs hch hu e
   ·exact h
  ·exact h
theorem Di{p:pK}(hp:Fl p):tg (uw p) (Dh p):=by
 have ha:=hp.Aq
 have hr:=hp.aV
 have hn:=hp.no
 have ho:p.2.2.2.2.1%2=0∨p.2.2.2.2.1%2=1:=by omega
 unfold Dh
 split
 ·next e=>exact mS.1 e
 ·have hf:tW (p.2.2.2.1%8) 0≤476:=by
   unfold tW
   rw[if_pos ⟨by omega,by omega⟩]
   show p.2.2.2.1%8*68≤476
   omega
  have hf0:=sw (p.2.2.2.1%8) 0
  have key:∀(x y:Int),0≤x→0≤y→x+y=20000+p.2.1→(@GE.ge Int _ (nth ti [x,y] (p.2.2.2.2.1%2).toNat) (tW (p.2.2.2.1%8) 0+660))→tg (uw p) (Bj p [x,y]):=fun x y hx hy hxy hc=>
   ⟨⟨by show 0≤p.2.2.2.2.2.2.1;omega,by show p.2.2.2.2.2.2.1≤_;omega⟩,⟨hx,by show x≤_;omega⟩,⟨hy,by show y≤_;omega⟩,⟨by show 0≤p.2.2.2.1%8;omega,by show p.2.2.2.1%8≤_;omega⟩,Nat.zero_le _,rfl,by show(0:Int)≤_;decide,by show(0:Int)≤_;decide,by show x+y+0=20000+p.2.1;omega,hc⟩
  rcases ho with e | e
  ·have:((oK p).set (p.2.2.2.2.1%2).toNat (20000+p.2.1)).set (1 - p.2.2.2.2.1%2).toNat 0=[20000+p.2.1,0]:=by
    rw[e];rfl
   rw[this]
   refine key _ _ (by omega) (by omega) (by omega) ?_
   rw[e]
   show 20000+p.2.1≥_
   omega
  ·have:((oK p).set (p.2.2.2.2.1%2).toNat (20000+p.2.1)).set (1 - p.2.2.2.2.1%2).toNat 0=[0,20000+p.2.1]:=by
    rw[e];rfl
   rw[this]
   refine key _ _ (by omega) (by omega) (by omega) ?_
   rw[e]
   show 20000+p.2.1≥_
   omega
theorem xi{p:pK}(hp:Fl p):tg (uw p) (Fo p):=u6 (BO hp) _ _ _ (Cg p) (Di hp)
end
end Go.Ab
namespace Go.Ab
open Go.Proofs
set_option maxRecDepth 100000
set_option linter.unusedVariables false
set_option linter.unusedSimpArgs false
set_option synthInstance.maxSize 5000
noncomputable section
theorem BL(a b:oQ):Ty.beq qf a b=true↔a=b:=⟨beq_eq qf a b rfl,fun h=>by rw[h];exact beq_refl qf b rfl⟩
theorem vb{x y:oQ}{v:Bool}(h:¬y=x):∀l:List (oQ×Bool),ki qf y (kK qf x v l)=ki qf y l
 |[]=>by rw[C3,lh,if_neg (fun e=>h ((BL _ _).1 e)),w6]
 |p::l=>by
  rw[vc]
  split
  ·next e=>
   have e:=(BL _ _).1 e
   rw[lh,lh,if_neg (fun e=>h ((BL _ _).1 e)),if_neg (fun e2=>h (((BL _ _).1 e2).trans e.symm))]
  ·rw[lh,lh,vb h l]
theorem BY:∀(l:List jc) (m:List (oQ×Bool)),(∀x∈l,sB x=true∧ki qf x.1 m=none)→(l.map fun x=>x.1).Nodup→oq m l=true
 |[],_,_,_=>rfl
 |x::l,m,h,hn=>by
  rw[List.map_cons,List.nodup_cons]at hn
  have hx:=h x List.mem_cons_self
  have e:re m x=false:=by unfold re;rw[hx.2];rfl
  rw[oq,e,hx.1,BY l _ (fun y hy=>⟨(h y (List.mem_cons_of_mem _ hy)).1,?_⟩) hn.2]
  ·rfl
  ·rw[vb (fun e=>hn.1 (by rw[←e];exact List.mem_map_of_mem hy))]
   exact(h y (List.mem_cons_of_mem _ hy)).2
theorem Cl(rev pay:Int):∀(a:List oQ) (b:List jA) (c:List qT),((wy rev pay a b c).map fun x=>x.1).Sublist a
 |[],_,_=>List.Sublist.refl _
 |_::_,[],_=>List.nil_sublist _
 |_::_,_::_,[]=>List.nil_sublist _
 |o::a,x::b,r::c=>by
  have ih:=Cl rev pay a b c
  rw[wy,List.map_append]
  unfold pF
  split
  ·exact ih.cons o
  ·exact ih.cons_cons o
theorem zn(id:List Int):∀(n k:Nat),(mh id k n).Nodup:=by
 intro n k
 unfold mh
 refine List.Pairwise.map _ (fun a b h e=>h ?_) List.nodup_range'
 have:=congrArg (fun o:oQ=>o.2.1) e
 exact Int.ofNat.inj this
theorem FO{id:List Int}{k n:Nat}{o:oQ}(h:o∈mh id k n):0≤o.2.1∧o.2.1 < k+n:=by
 unfold mh at h
 obtain⟨i,hi,rfl⟩:=List.mem_map.1 h
 have:=List.mem_range'.1 hi
 obtain⟨j,hj,rfl⟩:=this
 show(0:Int)≤((k+1*j:Nat):Int)∧((k+1*j:Nat):Int) < k+n
 omega
theorem Ew(c:BA)(rev pay:Int):((tO c rev pay).map fun x=>x.1).Nodup∧∀x∈tO c rev pay,0≤x.1.2.1∧x.1.2.1 < 64:=by
 unfold tO
 have hs:=Cl rev pay (jm c.1) c.1.2.1 c.2.1
 have hm:(jm c.1).Nodup∧∀o∈jm c.1,0≤o.2.1∧o.2.1 < 64:=by
  unfold jm
  split
  ·next hok=>
   refine⟨zn _ _ _,fun o ho=> ?_⟩
   have:=FO ho
   have:=(xn hok).1
   omega
  ·exact⟨List.nodup_nil,fun o ho=>(by cases ho)⟩
 exact⟨hm.1.sublist hs,fun x hx=>hm.2 _ (hs.subset (List.mem_map_of_mem hx))⟩
theorem F5{l:List kA}{to:Lk}{n:Int}(h1:1≤l.length∧l.length≤64)(hn:(l.map fun x=>x.1).Nodup)(hi:∀x∈l,0≤x.1.2.1∧x.1.2.1 < 64)(hto:iV to=true)(h0:0≤n∧n≤1125899906842624):iq (Ak l to n)=true:=by
 unfold iq qM
 have e1:oq [] (Ak l to n).1=true:=by
  show oq [] (l.map v9)=true
  refine BY _ _ (fun x hx=> ?_) (by rw[List.map_map];exact hn)
  obtain⟨y,hy,rfl⟩:=List.mem_map.1 hx
  have:=hi y hy
  refine⟨?_,rfl⟩
  unfold sB
  show(decide (0≤y.1.2.1∧y.1.2.1 < 64) && _)=true
  rw[aD this]
  rfl
 have e2:kO 0 (Ak l to n).2.1=true:=sT _ 0 (Int.le_refl _) (fun o ho=>by
  have ho:o∈ [(n,(to,()))]:=ho
  rw[List.mem_singleton]at ho
  subst ho
  exact⟨h0.1,hto⟩) (by show 0+(n+0)≤_;omega)
 rw[e1,e2,aD ⟨by show 1≤(l.map v9).length;rw[List.length_map];exact h1.1,by show(l.map v9).length≤64;rw[List.length_map];exact h1.2,by show 1≤64;decide,by show(0:Int)≤0;decide⟩]
 rfl
def HR(x:jc):Int:=10+8*x.2.1.2.1.length+(if x.2.1.2.2.1=0 then 0 else 4)
theorem Dj{t:gX}{i:Nat}{k:Int}(hok:iq t=true)(hi:i < t.1.length)(hk:0 < k∧k < 2305843009213688669):l9 t i 0 [k]=true:=by
 unfold l9
 rw[hok,aD ⟨by omega,by omega,by decide,by decide,Nat.le_of_ble_eq_true rfl⟩]
 simp only[List.any_cons,List.any_nil,qp]
 rw[bN (by omega)]
 rfl
theorem zU:∀(l:List kA) (t:gX) (i:Nat),iq t=true→sa t→i+l.length=t.1.length→(∀x∈l,0 < x.2.2.1∧x.2.2.1 < 2305843009213688669)→(∀(j:Nat) (h:j < t.1.length),j < i→HR t.1[j]=18)→
  ∃t',lT t i l= .inl t'∧iq t'=true∧sa t'∧t'.2=t.2∧t'.1.length=t.1.length∧xm t'=xm t∧kS t'=kS t∧∀x∈t'.1,HR x=18
 |[],t,i,hok,hv,hl,_,hw=>⟨t,rfl,hok,hv,rfl,rfl,rfl,rfl,fun x hx=>by
   obtain⟨j,hj,rfl⟩:=List.getElem_of_mem hx
   exact hw j hj (by simp at hl;omega)⟩
 |x::l,t,i,hok,hv,hl,hk,hw=>by
  have hi:i < t.1.length:=by rw[List.length_cons]at hl;omega
  have hs:=Dj hok hi (hk x List.mem_cons_self)
  have ha:=zW (sc:=0) hv hs qO
  rw[Int.toNat_natCast]at ha
  have e:jT t i 0 [x.2.2.1] 0=(rR t i (s5 t 0 [x.2.2.1] 0),0):=by
   rw[vD,if_pos hs,Int.toNat_natCast]
  obtain⟨t',h1,h2,h3,h4,h5,h6,h7,h8⟩:=zU l (rR t i (s5 t 0 [x.2.2.1] 0)) (i+1) ha.1 ha.2.1 (by rw[vA];rw[List.length_cons]at hl;omega) (fun y hy=>hk y (List.mem_cons_of_mem _ hy)) (fun j hj hji=>by
   have hj':j < t.1.length:=by rw[vA]at hj;exact hj
   have hj2:j < (t.1.set i ((nth jV t.1 i).1,(s5 t 0 [x.2.2.1] 0,()))).length:=hj
   show HR ((t.1.set i ((nth jV t.1 i).1,(s5 t 0 [x.2.2.1] 0,())))[j]'hj2)=18
   rw[List.getElem_set]
   split
   ·rfl
   ·exact hw j hj' (by omega))
  refine⟨t',?_,h2,h3,h4,h5.trans (vA ..),h6.trans ha.2.2.1,h7.trans ha.2.2.2.1,h8⟩
  rw[lT,e,if_pos rfl]
  exact h1
theorem Fi{t:gX}(h:iq t=true)(hw:∀x∈t.1,HR x=18):td t=10+8*t.2.1.length+18*t.1.length:=by
 unfold td
 rw[if_pos h]
 have:∀(l:List jc) (n:Int),(∀x∈l,HR x=18)→l.foldl pJ n=n+18*l.length:=by
  intro l
  induction l with
  |nil=>intro n _;simp
  |cons x l ih=>
   intro n h
   have hx:=h x List.mem_cons_self
   unfold HR at hx
   rw[List.foldl_cons,ih _ fun y hy=>h y (List.mem_cons_of_mem _ hy),List.length_cons]
   unfold pJ
   omega
 exact this _ _ hw
theorem Af{l:List kA}{to:Lk}{aV:Int}(hg:vU l)(ht:nX to)(hto:iV to=true)(h1:1≤l.length)(hn:(l.map fun x=>x.1).Nodup)(hi:∀x∈l,0≤x.1.2.1∧x.1.2.1 < 64)(hk:∀x∈l,0 < x.2.2.1∧x.2.2.1 < 2305843009213688669)
  (h0:1≤kf l aV) (hm:kf l aV≤1125899906842624):∃t,iP l to aV=(t,0)∧iq t=true∧sa t∧t.2=([(kf l aV,(to,()))],((0:Int),()))∧t.1.length=l.length∧td t=18+18*l.length∧kS t=l.map fun x=>x.1:=by
 have hok:=F5 (n:=kf l aV) ⟨h1,hg.1⟩ hn hi hto ⟨by omega,hm⟩
 have hv:=E7 (n:=kf l aV) hg ht
 obtain⟨t,e1,e2,e3,e4,e5,_,e7,e8⟩:=zU l _ 0 hok hv (by show 0+l.length=(l.map v9).length;rw[List.length_map,Nat.zero_add]) hk (fun j _ h=>absurd h (Nat.not_lt_zero _))
 have el:t.1.length=l.length:=e5.trans (List.length_map ..)
 refine⟨t,?_,e2,e3,e4,el,?_,?_⟩
 ·unfold iP
  rw[if_neg (by omega),e1]
 ·have:=Fi e2 e8
  rw[this,el,e4]
  show 10+8*((1:Nat):Int)+_=_
  omega
 ·rw[e7]
  unfold kS
  rw[if_pos hok]
  show(l.map v9).map _=_
  rw[List.map_map]
  rfl
theorem mF(l:List kA)(aV:Int):kf l aV=vW l - aV*(18+18*l.length):=by
 unfold kf
 rw[Int.neg_mul]
 omega
end
end Go.Ab
namespace Go.Ab
open Go.Proofs
set_option maxRecDepth 100000
set_option linter.unusedVariables false
set_option linter.unusedSimpArgs false
set_option synthInstance.maxSize 5000
noncomputable section
theorem aB.c{p:pK}(h:Fl p):aB.call p=some (uw p,pn p,Fo p):=by
 have ea:∀d y,aB.add d y=y:=fun _ _=>rfl
 have eF:aB.F p=(uw p,pn p,Fo p):=rfl
 rw[aB.run (d:=p) h,ea,eF]
def Hx:List Int:=[(1:Int),(0:Int),(0:Int),(0:Int),(0:Int),(0:Int),(0:Int),(0:Int),(0:Int),(0:Int),(0:Int),(0:Int),(0:Int),(0:Int),(0:Int),(0:Int),(0:Int),(0:Int),(0:Int),(0:Int),(0:Int),(0:Int),(0:Int),(0:Int),(0:Int),(0:Int),(0:Int),(0:Int),(0:Int),(0:Int),(0:Int),(0:Int)]
def GC:List Int:=[(2:Int),(0:Int),(0:Int),(0:Int),(0:Int),(0:Int),(0:Int),(0:Int),(0:Int),(0:Int),(0:Int),(0:Int),(0:Int),(0:Int),(0:Int),(0:Int),(0:Int),(0:Int),(0:Int),(0:Int),(0:Int),(0:Int),(0:Int),(0:Int),(0:Int),(0:Int),(0:Int),(0:Int),(0:Int),(0:Int),(0:Int),(0:Int)]
def tC:List Int:=[(9:Int),(0:Int),(0:Int),(0:Int),(0:Int),(0:Int),(0:Int),(0:Int),(0:Int),(0:Int),(0:Int),(0:Int),(0:Int),(0:Int),(0:Int),(0:Int),(0:Int),(0:Int),(0:Int),(0:Int),(0:Int),(0:Int),(0:Int),(0:Int),(0:Int),(0:Int),(0:Int),(0:Int),(0:Int),(0:Int),(0:Int),(0:Int)]
def IG:Cr:=((0:Int),((999:Int),((49:Int),((6:Int),()))))
def EB:pK:=([Hx,GC],((0:Int),((20000:Int),((0:Int),((0:Int),([IG],((3:Int),((List.replicate 32 (0:Int)),()))))))))
theorem qH:Sm tC:=⟨rfl,fun x hx=>by
 have hx:x∈(9:Int)::List.replicate 31 0:=hx
 rcases List.mem_cons.1 hx with rfl | hx
 ·exact⟨by decide,by decide⟩
 ·rw[(List.mem_replicate.1 hx).2];exact⟨by decide,by decide⟩⟩
theorem EC:Fl EB:=⟨rfl,rfl,rfl,by decide,by decide,by decide,by decide,fun o ho=>by
 have ho:o∈ [IG]:=ho
 rw[List.mem_singleton]at ho
 subst ho
 exact⟨by decide,by decide,by decide,by decide,by decide⟩,by decide,by decide⟩
def wb:js:=pk Hx
def sH:js:=pk GC
def gF:fF:=uw EB
theorem Hf:pn EB=[wb,sH]:=rfl
theorem la:jI gF:=BO EC
theorem JA:gV (jR Hx 1)=2072101336324354433:=by rw[nV];decide+kernel
theorem JB:gV (jR GC 1)=1305380350991396904:=by rw[nV];decide+kernel
theorem JC:gV (jR Hx 5)=1029399409459846816:=by rw[nV];decide+kernel
theorem JD:gV (jR GC 5)=2186824319021734715:=by rw[nV];decide+kernel
theorem Jq:gV tC=112257076531728385:=by decide+kernel
theorem Jy:gm 1029399409459846816=4015897993537805363:=by decide+kernel
theorem Jz:gm 2186824319021734715=2261880268583237820:=by decide+kernel
theorem Jp:gm 112257076531728385=575350622446351864:=by decide+kernel
theorem IT:gm 2072101336324354433=832337771889980084:=by decide+kernel
theorem IU:gm 1305380350991396904=97770669543817673:=by decide+kernel
theorem JE:pb qe 4015897993537805363 575350622446351864=1791329418814422355:=by rw[pO];decide+kernel
theorem JF:pb qe 575350622446351864 4015897993537805363=292043013001268827:=by rw[pO];decide+kernel
theorem JG:pb qe 2261880268583237820 575350622446351864=1740878991488293903:=by rw[pO];decide+kernel
theorem JH:pb qe 575350622446351864 2261880268583237820=409497070282374302:=by rw[pO];decide+kernel
theorem Hu:0 < oR wb.2.2.2.2.1 tC:=by
 show 0 < oR (gV (jR Hx 5)) tC
 unfold oR l7
 rw[JC,Jq,Jy,Jp,JE,JF]
 decide+kernel
theorem EN:0 < oR sH.2.2.2.2.1 tC:=by
 show 0 < oR (gV (jR GC 5)) tC
 unfold oR l7
 rw[JD,Jq,Jz,Jp,JG,JH]
 decide+kernel
theorem Fc:Ty.beq kU (jB wb) (mn gF 1)=false:=by
 cases e:Ty.beq kU (jB wb) (mn gF 1)
 ·rfl
 ·have h:=beq_eq kU _ _ rfl e
  have h1:gm (gV (jR Hx 1))=gm (gV (jR GC 1)):=congrArg (fun b:Cq=>b.1) h
  rw[JA,JB,IT,IU]at h1
  exact absurd h1 (by decide)
def HP:fE:=((0:Int),((1:Int),((1000:Int),(gm 7,((50:Int),())))))
def oN:fL:=((3:Int),([(19000:Int),0],([HP],((0:Int),()))))
theorem JI:Dz (gm 7):=yK (by decide) (by decide)
theorem HZ:F9 HP:=⟨JI.2,by decide,by decide,by decide,by decide⟩
theorem Ik:A8 0 IG=HP:=rfl
theorem HG:Fo EB=oN:=by
 have e0:qJ gF (Bj EB [20000,0])=true:=by rfl
 have e1:Dh EB=Bj EB [20000,0]:=by
  unfold Dh
  exact if_pos e0
 have e2:(qJ gF (Bj EB [20000,0]) && yx HP)=true:=by rw[e0,mq.2 HZ];rfl
 have e3:tI gF (Bj EB [20000,0]) HP=(oN,0):=by
  unfold tI
  rw[if_pos e2]
  rfl
 unfold Fo
 rw[e1]
 show nh gF (Bj EB [20000,0]) 0 [IG]=oN
 rw[nh,if_pos (by decide),nh]
 unfold vI
 rw[Ik,e3]
 rfl
theorem rO:oH oN:=by rw[←HG];exact GF _
theorem GB:tg gF oN:=by
 have:=xi EC
 rw[HG]at this
 exact this
theorem ug:gK gF oN 0=18340:=rfl
theorem uh:gK gF oN 1=0:=rfl
theorem Ch:fH oN.2.2.1=[HP]:=rfl
def mU:Lk:=xx [(mn gF 1).2.1]
theorem pG:nX mU:=xT (la.ba (.inr rfl)).2.1.1
theorem yo:iV mU=true:=zg (oI (la.ba (.inr rfl)).2.1.p yt yt (.inl rfl))
theorem Ep{own per:Int}(ho:own=0∨own=1)(hp:lf per=true):jz gF oN own per=(fo gF oN own per,0):=by
 unfold jz
 rw[aD ho,hp,if_pos (show(true && true)=true from rfl),if_pos (mS.2 GB)]
theorem FR{own per rev pay:Int}(ho:own=0∨own=1):(tO (fo gF oN own per) rev pay).length=2∧vW (tO (fo gF oN own per) rev pay)=19340:=by
 have h:=C9 (own:=own) (per:=per) (rev:=rev) (pay:=pay) la GB ho
 rw[Ch]at h
 rcases ho with rfl | rfl
 ·rw[ug,show(1:Int) - 0=1 from rfl,uh]at h
  exact h
 ·rw[uh,show(1:Int) - 1=0 from rfl,ug]at h
  exact h
theorem HV{own per:Int}(ho:own=0∨own=1):∀m∈mP gF oN own per,m.1.1=18340∨m.1.1=330∨m.1.1=1000:=by
 intro m hm
 unfold mP at hm
 simp only[List.mem_append]at hm
 rcases hm with hm | hm | hm | hm
 ·split at hm
  ·next h=>
   rw[List.mem_singleton]at hm;subst hm
   rcases ho with rfl | rfl
   ·left;exact ug
   ·rw[uh]at h;exact absurd h (by decide)
  ·cases hm
 ·split at hm
  ·next h=>
   rw[List.mem_singleton]at hm;subst hm
   rcases ho with rfl | rfl
   ·rw[show(1:Int) - 0=1 from rfl,uh]at h;exact absurd h (by decide)
   ·left;exact ug
  ·cases hm
 ·rcases List.mem_cons.1 hm with rfl | hm
  ·right;left;rfl
  ·rw[List.mem_singleton]at hm;subst hm;right;left;rfl
 ·rw[Ch]at hm
  obtain⟨c,hc,rfl⟩:=List.mem_map.1 hm
  rw[List.mem_singleton]at hc;subst hc
  right;right
  unfold jN
  split <;> rfl
theorem Ev{own per rev pay:Int}(ho:own=0∨own=1):∀x∈tO (fo gF oN own per) rev pay,x.2.1=18340∨x.2.1=330∨x.2.1=1000:=by
 intro y hy
 obtain⟨o,_,x,hx,r,_,_,rfl⟩:=uj _ _ _ _ _ _ hy
 obtain⟨m,hm,rfl⟩:=List.mem_map.1 (show x∈(iO (mP gF oN own per)).map (fun m=>m.1) from hx)
 exact HV ho m (s7.1 hm)
theorem zC{own per rev pay:Int}(hr:0 < rev∧rev < 2305843009213688669)(hp:0 < pay∧pay < 2305843009213688669):∀x∈tO (fo gF oN own per) rev pay,0 < x.2.2.1∧x.2.2.1 < 2305843009213688669:=by
 intro y hy
 obtain⟨o,_,x,hx,r,_,_,rfl⟩:=uj _ _ _ _ _ _ hy
 show 0 < (if r.1=2 then pay else rev)∧(if r.1=2 then pay else rev) < _
 split
 ·exact hp
 ·exact hr
theorem E2{own per rev pay aV:Int}(ho:own=0∨own=1)(hr:0 < rev∧rev < 2305843009213688669)(hp:0 < pay∧pay < 2305843009213688669)(h2:aV=2):∃t,iP (tO (fo gF oN own per) rev pay) mU aV=(t,0)∧iq t=true∧sa t∧t.2=([(19232,(mU,()))],((0:Int),()))∧t.1.length=2∧td t=54:=by
 subst h2
 have h:=FR (own:=own) (per:=per) (rev:=rev) (pay:=pay) ho
 have hg:=B7 (c:=fo gF oN own per) (rev:=rev) (pay:=pay) ⟨by omega,by omega⟩ ⟨by omega,by omega⟩
 have hn:=Ew (fo gF oN own per) rev pay
 have hk:=zC (own:=own) (per:=per) hr hp
 generalize tO (fo gF oN own per) rev pay=l at h hg hn hk
 have hl:kf l 2=19232:=by rw[mF,h.1,h.2];decide
 obtain⟨t,q1,q2,q3,q4,q5,q6,_⟩:=Af (aV:=2) hg pG yo (by omega) hn.1 hn.2 hk (by rw[hl];decide) (by rw[hl];decide)
 rw[hl]at q4
 exact⟨t,q1,q2,q3,q4,by omega,by rw[q6,h.1];decide⟩
theorem GW{own per rev pay:Int}(ho:own=0∨own=1)(hr:0 < rev∧rev < 2305843009213688669)(hp:0 < pay∧pay < 2305843009213688669):∃t:gX,mH mU 30 (tO (fo gF oN own per) rev pay)=[t]∧t.2=([(17260,(mU,()))],((0:Int),())):=by
 have h:=FR (own:=own) (per:=per) (rev:=rev) (pay:=pay) ho
 have hg:=B7 (c:=fo gF oN own per) (rev:=rev) (pay:=pay) ⟨by omega,by omega⟩ ⟨by omega,by omega⟩
 have hn:=Ew (fo gF oN own per) rev pay
 have hk:=zC (own:=own) (per:=per) hr hp
 have ha:=Ev (per:=per) (rev:=rev) (pay:=pay) ho
 generalize tO (fo gF oN own per) rev pay=l at h hg hn hk ha
 match l,h with
 |[x,y],h=>
  have aN:x.2.1+(y.2.1+0)=19340:=h.2
  have ax:=ha x List.mem_cons_self
  have ay:=ha y (List.mem_cons_of_mem _ List.mem_cons_self)
  have no:∀z:kA,z.2.1=1000→iP [z] mU 30=(F8,8):=fun z hz=>by
   have:kf [z] 30= -80:=by rw[mF];show z.2.1+0 - 30*(18+18*1)= -80;omega
   unfold iP
   rw[this]
   rfl
  have yes:∀z:kA,z∈ [x,y]→z.2.1=18340→∃t,iP [z] mU 30=(t,0)∧t.2=([(17260,(mU,()))],((0:Int),())):=fun z hm hz=>by
   have e:kf [z] 30=17260:=by rw[mF];show z.2.1+0 - 30*(18+18*1)=17260;omega
   have hs:∀w∈ [z],w∈ [x,y]:=fun w hw=>by rw[List.mem_singleton]at hw;rw[hw];exact hm
   obtain⟨t,q1,q2,q3,q4,q5,q6,_⟩:=Af (l:=[z]) (aV:=30) ⟨by show 1≤64;decide,fun w hw=>hg.2 w (hs w hw)⟩ pG yo (Nat.le_refl _) (List.pairwise_singleton _ _) (fun w hw=>hn.2 w (hs w hw)) (fun w hw=>hk w (hs w hw)) (by rw[e];decide) (by rw[e];decide)
   rw[e]at q4
   exact⟨t,q1,q4⟩
  have hxy:(x.2.1=18340∧y.2.1=1000)∨(x.2.1=1000∧y.2.1=18340):=by omega
  rcases hxy with⟨h1,h2⟩ | ⟨h1,h2⟩
  ·obtain⟨t,q1,q2⟩:=yes x List.mem_cons_self h1
   refine⟨t,?_,q2⟩
   rw[mH,mH,mH,q1,no y h2]
   rfl
  ·obtain⟨t,q1,q2⟩:=yes y (List.mem_cons_of_mem _ List.mem_cons_self) h2
   refine⟨t,?_,q2⟩
   rw[mH,mH,mH,q1,no x h1]
   rfl
theorem Il:lf (l7 tC)=true:=uS _
theorem Gu{kit:js}{me aV:Int}(hm:me=0∨me=1)(hk:Ty.beq kU (jB kit) (mn gF me)=true)(hr:0≤aV∧aV≤1000):rq gF kit me mU aV=true:=by
 unfold rq
 rw[gJ (by omega) (by omega),gJ hr.1 hr.2,yo,hk]
 rfl
theorem BS{kit:js}{me aV:Int}(hm:me=0∨me=1)(hk:Ty.beq kU (jB kit) (mn gF me)=true)(hr:0≤aV∧aV≤1000):fX gF kit me oN tC mU aV=(tO (fo gF oN (1 - me) (l7 tC)) (oR kit.2.2.2.2.1 tC) kit.2.1,0):=by
 unfold fX
 rw[if_pos (Gu hm hk hr),Ep (by omega) Il]
 rfl
theorem AW{kit:js}{me aV:Int}(hm:me=0∨me=1)(hk:Ty.beq kU (jB kit) (mn gF me)=true)(hr:0≤aV∧aV≤1000):kG gF kit me oN tC mU aV=iP (tO (fo gF oN (1 - me) (l7 tC)) (oR kit.2.2.2.2.1 tC) kit.2.1) mU aV:=by
 unfold kG
 rw[BS hm hk hr]
 rfl
theorem AY(s:List Int):(0 < (pk s).2.1∧(pk s).2.1 < 2305843009213688669):=nR _
theorem EO(b:Int)(s:List Int):oR b s < 2305843009213688669:=(xw _ _).2
theorem BK(b:Cq):Ty.beq kU b b=true:=beq_refl kU b rfl
theorem D4{aV:Int}(hr:0≤aV∧aV≤1000):rb gF 1 oN aV=imax 0 (19340 - aV*54):=by
 unfold rb
 have h:=FR (own:=1 - 1) (per:=4) (rev:=0) (pay:=0) (.inl rfl)
 rw[gJ (by decide) (by decide),gJ hr.1 hr.2,if_pos (show(true && true)=true from rfl),Ep (own:=1 - 1) (.inl rfl) B0,if_pos rfl,mF,h.1,h.2]
 rfl
abbrev cd.D:=Unit
def cd.st:cd.D→SA:=fun _=>([],[])
abbrev cd.Y:=Bool
abbrev cd.X:=Bool
def cd.out:cd.X→aT:=fun x=>⟨.d .bool x,[],[]⟩
def cd.add:cd.D→cd.Y→cd.X:=fun _ y=>y
def cd.aq:cd.D→Prop:=fun _=>True
def cd.F:cd.D→cd.Y:=fun _=>true
noncomputable def cd.G:dX:=eX (P:=Tryz.prog) [aB.sg,fY.sg,dm.sg,bJ.sg,aU.sg,dJ.sg]
noncomputable def cd.an:ej:= {}
noncomputable def cd.A:= @cq Tryz.prog cd.G cd.an 0 Tryz.f7 _ cd.st
abbrev cd.Ok:=cr @cd.A cd.aq cd.add cd.F cd.out
theorem cd.eq{R:Type}(k:aT→Option R):cd.A () k=
  ab (aB.call ([[(1:Int),(0:Int),(0:Int),(0:Int),(0:Int),(0:Int),(0:Int),(0:Int),(0:Int),(0:Int),(0:Int),(0:Int),(0:Int),(0:Int),(0:Int),(0:Int),(0:Int),(0:Int),(0:Int),(0:Int),(0:Int),(0:Int),(0:Int),(0:Int),(0:Int),(0:Int),(0:Int),(0:Int),(0:Int),(0:Int),(0:Int),(0:Int)],[(2:Int),(0:Int),(0:Int),(0:Int),(0:Int),(0:Int),(0:Int),(0:Int),(0:Int),(0:Int),(0:Int),(0:Int),(0:Int),(0:Int),(0:Int),(0:Int),(0:Int),(0:Int),(0:Int),(0:Int),(0:Int),(0:Int),(0:Int),(0:Int),(0:Int),(0:Int),(0:Int),(0:Int),(0:Int),(0:Int),(0:Int),(0:Int)]],((0:Int),((20000:Int),((0:Int),((0:Int),([((0:Int),((999:Int),((49:Int),((6:Int),()))))],((3:Int),((List.replicate 32 (0:Int)),()))))))))) fun x1=>
  aC (decide (1 < (List.length x1.1.2.2.1))) (
  ab (fY.call (nth kU x1.1.2.2.1 1).2.1) fun x2=>
  aC (decide (1 < (List.length x1.2.1))) (
  ab (dm.call (x1.1,(nth jd x1.2.1 1),(1:Int),x1.2.2,[(9:Int),(0:Int),(0:Int),(0:Int),(0:Int),(0:Int),(0:Int),(0:Int),(0:Int),(0:Int),(0:Int),(0:Int),(0:Int),(0:Int),(0:Int),(0:Int),(0:Int),(0:Int),(0:Int),(0:Int),(0:Int),(0:Int),(0:Int),(0:Int),(0:Int),(0:Int),(0:Int),(0:Int),(0:Int),(0:Int),(0:Int),(0:Int)],x2,(2:Int))) fun x3=>
  aC (decide (1 < (List.length x1.2.1))) (
  ab (bJ.call (x1.1,(nth jd x1.2.1 1),(1:Int),x1.2.2,[(9:Int),(0:Int),(0:Int),(0:Int),(0:Int),(0:Int),(0:Int),(0:Int),(0:Int),(0:Int),(0:Int),(0:Int),(0:Int),(0:Int),(0:Int),(0:Int),(0:Int),(0:Int),(0:Int),(0:Int),(0:Int),(0:Int),(0:Int),(0:Int),(0:Int),(0:Int),(0:Int),(0:Int),(0:Int),(0:Int),(0:Int),(0:Int)],x2,(30:Int))) fun x4=>
  aC (decide (0 < (List.length x1.2.1))) (
  ab (dm.call (x1.1,(nth jd x1.2.1 0),(1:Int),x1.2.2,[(9:Int),(0:Int),(0:Int),(0:Int),(0:Int),(0:Int),(0:Int),(0:Int),(0:Int),(0:Int),(0:Int),(0:Int),(0:Int),(0:Int),(0:Int),(0:Int),(0:Int),(0:Int),(0:Int),(0:Int),(0:Int),(0:Int),(0:Int),(0:Int),(0:Int),(0:Int),(0:Int),(0:Int),(0:Int),(0:Int),(0:Int),(0:Int)],x2,(2:Int))) fun x5=>
  aC (decide (1 < (List.length x1.2.1))) (
  ab (dm.call (x1.1,(nth jd x1.2.1 1),(1:Int),((0:Int),((List.replicate 2 (0:Int)),(([]:List fE),((0:Int),())))),[(9:Int),(0:Int),(0:Int),(0:Int),(0:Int),(0:Int),(0:Int),(0:Int),(0:Int),(0:Int),(0:Int),(0:Int),(0:Int),(0:Int),(0:Int),(0:Int),(0:Int),(0:Int),(0:Int),(0:Int),(0:Int),(0:Int),(0:Int),(0:Int),(0:Int),(0:Int),(0:Int),(0:Int),(0:Int),(0:Int),(0:Int),(0:Int)],x2,(2:Int))) fun x6=>
  aC (decide (1 < (List.length x1.2.1))) (
  ab (dm.call (x1.1,(nth jd x1.2.1 1),(1:Int),x1.2.2,[(9:Int),(0:Int),(0:Int),(0:Int),(0:Int),(0:Int),(0:Int),(0:Int),(0:Int),(0:Int),(0:Int),(0:Int),(0:Int),(0:Int),(0:Int),(0:Int),(0:Int),(0:Int),(0:Int),(0:Int),(0:Int),(0:Int),(0:Int),(0:Int),(0:Int),(0:Int),(0:Int),(0:Int),(0:Int),(0:Int),(0:Int),(0:Int)],x2,(1000:Int))) fun x7=>
  aC (decide (1 < (List.length x1.2.1))) (
  ab (dm.call (x1.1,(nth jd x1.2.1 1),(1:Int),x1.2.2,[(9:Int),(0:Int),(0:Int),(0:Int),(0:Int),(0:Int),(0:Int),(0:Int),(0:Int),(0:Int),(0:Int),(0:Int),(0:Int),(0:Int),(0:Int),(0:Int),(0:Int),(0:Int),(0:Int),(0:Int),(0:Int),(0:Int),(0:Int),(0:Int),(0:Int),(0:Int),(0:Int),(0:Int),(0:Int),(0:Int),(0:Int),(0:Int)],(([]:List oF),()),(2:Int))) fun x8=>
  aC (decide (0 < (List.length x1.2.1))) (
  ab (dm.call (x1.1,(nth jd x1.2.1 0),(0:Int),x1.2.2,[(9:Int),(0:Int),(0:Int),(0:Int),(0:Int),(0:Int),(0:Int),(0:Int),(0:Int),(0:Int),(0:Int),(0:Int),(0:Int),(0:Int),(0:Int),(0:Int),(0:Int),(0:Int),(0:Int),(0:Int),(0:Int),(0:Int),(0:Int),(0:Int),(0:Int),(0:Int),(0:Int),(0:Int),(0:Int),(0:Int),(0:Int),(0:Int)],x2,(2:Int))) fun x9=>
  aC ((qS (((List.length x3.1.1):Nat):Int) (2:Int))) (
   k (cd.out false)) (
   aC ((qS (((List.length x3.1.2.1):Nat):Int) (1:Int))) (
    k (cd.out false)) (
    aC ((qS (((List.length x4.1):Nat):Int) (1:Int))) (
     k (cd.out false)) (
     aC ((qS (((List.length x9.1.1):Nat):Int) (2:Int))) (
      k (cd.out false)) (
      aC ((ia x3.2 (0:Int))) (
       aC ((ia x4.2 (0:Int))) (
        aC ((ia x5.2 (1:Int))) (
         aC ((ia x6.2 (14:Int))) (
          aC ((ia x7.2 (8:Int))) (
           aC ((ia x8.2 (1:Int))) (
            aC ((ia x9.2 (0:Int))) (
             aC (dY (0:Int) (((List.length x3.1.2.1):Nat):Int)) (
             aC ((ia (nth nb x3.1.2.1 0).1 (19232:Int))) (
              ab (aU.call x3.1) fun x10=>
              aC ((ia x10 (54:Int))) (
               aC (dY (0:Int) (((List.length x4.1):Nat):Int)) (
               aC ((ia (((List.length (nth kq x4.1 0).2.1):Nat):Int) (1:Int))) (
                aC (dY (0:Int) (((List.length x4.1):Nat):Int)) (
                aC (dY (0:Int) (((List.length (nth kq x4.1 0).2.1):Nat):Int)) (
                aC ((ia (nth nb (nth kq x4.1 0).2.1 0).1 (17260:Int))) (
                 ab (dJ.call (x1.1,(1:Int),x1.2.2,(2:Int))) fun x11=>
                 aC ((ia x11 (19232:Int))) (
                  ab (dJ.call (x1.1,(1:Int),x1.2.2,(1000:Int))) fun x12=>
                  aC ((ia x12 (0:Int))) (
                   ab (dJ.call (x1.1,(2:Int),x1.2.2,(2:Int))) fun x13=>
                   k (cd.out (ia x13 (0:Int)))) (
                   k (cd.out false))) (
                  k (cd.out false))) (
                 k (cd.out false))) none) none) (
                k (cd.out false))) none) (
               k (cd.out false))) (
              k (cd.out false))) none) (
             k (cd.out false))) (
            k (cd.out false))) (
           k (cd.out false))) (
          k (cd.out false))) (
         k (cd.out false))) (
        k (cd.out false))) (
       k (cd.out false))))))) none) none) none) none) none) none) none) none:=by kernel_rfl
theorem cd.ok:cd.Ok:=by
 rintro⟨⟩ _
 have c1:=aB.c EC
 rw[Hf,HG]at c1
 have c2:fY.call (nth kU gF.2.2.1 1).2.1=some mU:=fY.run (d:=(nth kU gF.2.2.1 1).2.1) trivial
 have ku:tR sH:=sK _
 have ka:tR wb:=sK _
 have hb:Ty.beq kU (jB sH) (mn gF 1)=true:=BK _
 have ha:Ty.beq kU (jB wb) (mn gF 0)=true:=BK _
 obtain⟨t1,a1,a2,a3,a4,a5,a6⟩:=E2 (own:=1 - 1) (per:=l7 tC) (.inl rfl) ⟨EN,EO _ _⟩ (AY GC) rfl
 obtain⟨t2,b1,b2⟩:=GW (own:=1 - 1) (per:=l7 tC) (.inl rfl) ⟨EN,EO _ _⟩ (AY GC)
 obtain⟨t3,d1,d2,d3,d4,d5,d6⟩:=E2 (own:=1 - 0) (per:=l7 tC) (.inr rfl) ⟨Hu,EO _ _⟩ (AY Hx) rfl
 have c3:dm.call (gF,sH,1,oN,tC,mU,2)=some (t1,0):=by
  rw[dm.c la ku rO qH pG,AW (.inr rfl) hb (by decide)]
  exact congrArg some a1
 have c4:bJ.call (gF,sH,1,oN,tC,mU,30)=some ([t2],0):=by
  rw[bJ.c la ku rO qH pG]
  unfold o9
  rw[BS (.inr rfl) hb (by decide)]
  exact congrArg (fun z=>some (z,(0:Int))) b1
 have c5:dm.call (gF,wb,1,oN,tC,mU,2)=some (F8,1):=by
  rw[dm.c la ka rO qH pG]
  unfold kG fX rq
  rw[Fc,Bool.and_false,Bool.and_false,Bool.and_false]
  rfl
 have zu:oH Fk:=⟨fun c hc=>(by cases hc),Nat.zero_le _,rfl⟩
 have c6:dm.call (gF,sH,1,Fk,tC,mU,2)=some (F8,14):=by
  have e:jz gF Fk (1 - 1) (l7 tC)=(Jj,14):=by
   unfold jz
   rw[aD (.inl rfl),Il,if_pos (show(true && true)=true from rfl),if_neg (by rw[show qJ gF Fk=false from rfl];decide)]
  rw[dm.c la ku zu qH pG]
  unfold kG fX
  rw[if_pos (Gu (.inr rfl) hb (by decide)),e]
  rfl
 have c7:dm.call (gF,sH,1,oN,tC,mU,1000)=some (F8,8):=by
  rw[dm.c la ku rO qH pG,AW (.inr rfl) hb (by decide)]
  have h:=FR (own:=1 - 1) (per:=l7 tC) (rev:=oR sH.2.2.2.2.1 tC) (pay:=sH.2.1) (.inl rfl)
  unfold iP
  rw[mF,h.1,h.2]
  rfl
 have c8:dm.call (gF,sH,1,oN,tC,(([]:List oF),()),2)=some (F8,1):=by
  rw[dm.c la ku rO qH ⟨fun b hb=>(by cases hb),Nat.zero_le _⟩]
  unfold kG fX rq
  rw[show iV (([]:List oF),())=false from rfl,Bool.false_and,Bool.and_false,Bool.and_false]
  rfl
 have c9:dm.call (gF,wb,0,oN,tC,mU,2)=some (t3,0):=by
  rw[dm.c la ka rO qH pG,AW (.inl rfl) ha (by decide)]
  exact congrArg some d1
 have c10:aU.call t1=some 54:=by
  rw[aU.run (d:=t1) a3]
  exact congrArg some a6
 have c11:dJ.call (gF,1,oN,2)=some 19232:=by
  rw[dJ.c la rO,D4 (by decide)]
  rfl
 have c12:dJ.call (gF,1,oN,1000)=some 0:=by
  rw[dJ.c la rO,D4 (by decide)]
  rfl
 have c13:dJ.call (gF,2,oN,2)=some 0:=by
  rw[dJ.c la rO]
  rfl
 rw[show uw EB=gF from rfl]at c1
 have l1:t1.2.1=[(19232,(mU,()))]:=congrArg (fun z:List jA×(Int×Unit)=>z.1) a4
 have l2:t2.2.1=[(17260,(mU,()))]:=congrArg (fun z:List jA×(Int×Unit)=>z.1) b2
 rw[cd.eq]
 refine(congrArg (fun z=>ab z _) c1).trans ?_
 rw[aa,aD (show 1 < gF.2.2.1.length from Nat.lt_succ_self 1),ah]
 refine(congrArg (fun z=>ab z _) c2).trans ?_
 rw[aa,aD (show 1 < ([wb,sH]:List js).length from Nat.lt_succ_self 1),ah]
 refine(congrArg (fun z=>ab z _) c3).trans ?_
 rw[aa,ah]
 refine(congrArg (fun z=>ab z _) c4).trans ?_
 rw[aa,aD (show 0 < ([wb,sH]:List js).length from Nat.zero_lt_succ 1),ah]
 refine(congrArg (fun z=>ab z _) c5).trans ?_
 rw[aa,ah]
 refine(congrArg (fun z=>ab z _) c6).trans ?_
 rw[aa,ah]
 refine(congrArg (fun z=>ab z _) c7).trans ?_
 rw[aa,ah]
 refine(congrArg (fun z=>ab z _) c8).trans ?_
 rw[aa,ah]
 refine(congrArg (fun z=>ab z _) c9).trans ?_
 rw[aa]
 have n1:(nth kq [t2] 0).2.1=[(17260,(mU,()))]:=l2
 simp only[a5,d5,l1,n1,List.length_cons,List.length_nil]
 rw[c10,c11,c12,c13]
 rfl
noncomputable def cd.E:=Entry.cF [] cd.st cd.aq cd.add cd.F cd.out
noncomputable def cd.call:cd.D→Option cd.X:=bC cd.E cd.st
theorem cd.run:bD cd.call cd.aq cd.add cd.F:=cz (cv [] fun _=>by kernel_rfl)
noncomputable def cd.sg:SG Tryz.prog:=⟨7,aK,cd.E,.fn 0 (by kernel_rfl) cd.ok trivial⟩
end
end Go.Ab
namespace Go.Ab
open Go.Proofs
set_option maxRecDepth 100000
set_option linter.unusedVariables false
set_option linter.unusedSimpArgs false
set_option synthInstance.maxSize 5000
noncomputable section
end
end Go.Ab
namespace Go.Ab
open Go.Proofs
set_option maxRecDepth 100000
set_option linter.unusedVariables false
set_option linter.unusedSimpArgs false
set_option synthInstance.maxSize 5000
noncomputable section
def Gm(b:oF):Bool:=decide (b.1.length≤20)
theorem Bl{t:gX}{i br sc:Int}{ks:List Int}(h:(jT t i br ks sc).2=0):(jT t i br ks sc).1.2=t.2:=by
 rw[vD]at h ⊢
 by_cases e:l9 t i br ks=true
 ·rw[if_pos e];rfl
 ·rw[if_neg e]at h
  exact absurd h (by decide)
theorem vC:∀(l:List kA) (t t':gX) (i:Nat),lT t i l= .inl t'→t'.2=t.2
 |[],t,t',i,h=>by
  rw[lT]at h
  injection h with h
  rw[h]
 |x::l,t,t',i,h=>by
  rw[lT]at h
  split at h
  ·next e=>exact(vC l _ t' _ h).trans (Bl e)
  ·cases h
theorem xg:∀(l:List kA) (t:gX) (i:Nat) (e:Int),lT t i l= .inr e→e≠0
 |[],t,i,e,h=>by rw[lT]at h;cases h
 |x::l,t,i,e,h=>by
  rw[lT]at h
  split at h
  ·exact xg l _ _ e h
  ·next hn=>
   injection h with h
   rw[←h]
   exact hn
theorem Dr(l:List kA)(to:Lk)(aV:Int):((iP l to aV).2=0∧(iP l to aV).1.2.1.length=1)∨((iP l to aV).2≠0∧(iP l to aV).1.2.1.length=0):=by
 unfold iP
 split
 ·right
  exact⟨by decide,rfl⟩
 ·cases h:lT (Ak l to (kf l aV)) 0 l with
  |inl t=>
   left
   refine⟨rfl,?_⟩
   show t.2.1.length=1
   rw[vC _ _ _ _ h]
   rfl
  |inr e=>
   right
   exact⟨xg _ _ _ _ h,rfl⟩
theorem Cz{x:Int}{n:Nat}(h:(x=0∧n=1)∨(x≠0∧n=0)):Ty.beq .bool (ia x 0) (ia ((n:Nat):Int) 1)=true:=by
 rcases h with⟨h1,h2⟩ | ⟨h1,h2⟩
 ·subst h2
  rw[eu h1];rfl
 ·subst h2
  rw[dR h1];rfl
abbrev aO.L0.D:=Int×Int×pK×Lk×Bool×Int×fF×(List js)×fL
def aO.L0.st:aO.L0.D→AS:=fun(me_2,rate_2,p_2,to_2,head,i,n10,n11,n12)=>⟨([.undef,.d ti me_2,.d ti rate_2,.undef,.eI xj p_2,.undef,.undef,.eI lV to_2,.undef,.d .bool head,.ptr (.new 10 0) 0 [] 0,.ptr (.new 11 0) 0 [] 0,.ptr (.new 12 0) 0 [] 0,.d ti i]++bu 170 []),[],(cw 10 ([[.obj 0 false (.d iu n10)],[.obj 0 false (.d (.arr 2 jd) n11)],[.obj 0 false (.d hZ n12)]]++cw 171 []))⟩
abbrev aO.L0.Y0:=Unit
abbrev aO.L0.X0:=Bool
def aO.L0.bM:aO.L0.X0→Exit×AS:=fun x=>(.ret,⟨(bu 8 ([.d .bool x]++bu 175 [])),[],(List.replicate 184 [])⟩)
abbrev aO.L0.Y1:=Unit
abbrev aO.L0.X1:=Int×Int×pK×Lk×Bool×fF×(List js)×fL
def aO.L0.iG:aO.L0.X1→Exit×AS:=fun x=>(.exit 0,⟨([.undef,.d ti x.1,.d ti x.2.1,.undef,.eI xj x.2.2.1,.undef,.undef,.eI lV x.2.2.2.1,.undef,.d .bool x.2.2.2.2.1,.ptr (.new 10 0) 0 [] 0,.ptr (.new 11 0) 0 [] 0,.ptr (.new 12 0) 0 [] 0]++bu 171 []),[],(cw 10 ([[.obj 0 false (.d iu x.2.2.2.2.2.1)],[.obj 0 false (.d (.arr 2 jd) x.2.2.2.2.2.2.1)],[.obj 0 false (.d hZ x.2.2.2.2.2.2.2)]]++cw 171 []))⟩)
abbrev aO.L0.X:=(aO.L0.X0)⊕(aO.L0.X1)
abbrev aO.L0.Y:=(aO.L0.Y0)⊕(aO.L0.Y1)
def aO.L0.out:aO.L0.X→Out (Exit×AS):=fun x=> .br x.isLeft (.get x.getLeft? fun a=> .ok (aO.L0.bM a)) (.get x.getRight? fun b=> .ok (aO.L0.iG b))
def aO.L0.add:aO.L0.D→aO.L0.Y→aO.L0.X:=fun(me_2,rate_2,p_2,to_2,head,i,n10,n11,n12) y=>match y with | .inl y=> .inl head | .inr z=> .inr ((me_2,rate_2,p_2,to_2,head,n10,n11,n12))
abbrev aO.nJ.X:=Int×Int×pK×Lk×Bool×Bool×Int×(List gX)×Int×Bool×fF×(List js)×fL×gX
def aO.nJ.st:aO.nJ.X→AS:=fun(me,aV,p,to,head,may,e,l,f,t101,n10,n11,n12,n16)=>⟨([.undef,.d ti me,.d ti aV,.undef,.eI xj p,.undef,.undef,.eI lV to,.undef,.d .bool head,.ptr (.new 10 0) 0 [] 0,.ptr (.new 11 0) 0 [] 0,.ptr (.new 12 0) 0 [] 0,.undef,.d .bool may,.undef,.ptr (.new 16 0) 0 [] 0,.d ti e,.d (.slice kq) l,.d ti f]++bu 81 ([.d .bool t101]++bu 82 [])),[],(cw 10 ([[.obj 0 false (.d iu n10)],[.obj 0 false (.d (.arr 2 jd) n11)],[.obj 0 false (.d hZ n12)],[],[],[],[.obj 0 false (.d kq n16)]]++cw 167 []))⟩
noncomputable def aO.nJ.J:oW:=oW.of {bt:=[1,2,4,7,9,10,11,12,14,16,17,18,19,101],sites:=[10,11,12,16]} aO.nJ.st
noncomputable def aO.nJ.fin:aO.nJ.X→Option aO.nJ.X:=fun x=>(aO.nJ.J).Gh .normal (aO.nJ.st x)
theorem aO.nJ.jZ(x:aO.nJ.X):aO.nJ.fin x=some x:=oW.A7 (fk [.d ti,.d ti,.d xj,.d lV,.d .bool,.d .bool,.d ti,.d (.slice kq),.d ti,.d .bool,.d iu,.d (.slice jd),.d hZ,.d kq] fun _=>by kernel_rfl) x
abbrev aO.mB.X:=Int×Int×pK×Lk×Bool×Bool×fF×(List js)×fL
def aO.mB.st:aO.mB.X→AS:=fun(me,aV,p,to,head,may,n10,n11,n12)=>⟨([.undef,.d ti me,.d ti aV,.undef,.eI xj p,.undef,.undef,.eI lV to,.undef,.d .bool head,.ptr (.new 10 0) 0 [] 0,.ptr (.new 11 0) 0 [] 0,.ptr (.new 12 0) 0 [] 0,.undef,.d .bool may]++bu 169 []),[],(cw 10 ([[.obj 0 false (.d iu n10)],[.obj 0 false (.d (.arr 2 jd) n11)],[.obj 0 false (.d hZ n12)]]++cw 171 []))⟩
noncomputable def aO.mB.J:oW:=oW.of {bt:=[1,2,4,7,9,10,11,12,14],sites:=[10,11,12]} aO.mB.st
noncomputable def aO.mB.fin:aO.mB.X→Option aO.mB.X:=fun x=>(aO.mB.J).Gh .normal (aO.mB.st x)
theorem aO.mB.jZ(x:aO.mB.X):aO.mB.fin x=some x:=oW.A7 (fk [.d ti,.d ti,.d xj,.d lV,.d .bool,.d .bool,.d iu,.d (.slice jd),.d hZ] fun _=>by kernel_rfl) x
abbrev aO.nK.X:=Int×Int×pK×Lk×Bool×Bool×fF×(List js)×fL×js
def aO.nK.st:aO.nK.X→AS:=fun(me,aV,p,to,head,may,n10,n11,n12,n15)=>⟨([.undef,.d ti me,.d ti aV,.undef,.eI xj p,.undef,.undef,.eI lV to,.undef,.d .bool head,.ptr (.new 10 0) 0 [] 0,.ptr (.new 11 0) 0 [] 0,.ptr (.new 12 0) 0 [] 0,.undef,.d .bool may,.ptr (.new 15 0) 0 [] 0]++bu 168 []),[],(cw 10 ([[.obj 0 false (.d iu n10)],[.obj 0 false (.d (.arr 2 jd) n11)],[.obj 0 false (.d hZ n12)],[],[],[.obj 0 false (.d jd n15)]]++cw 168 []))⟩
noncomputable def aO.nK.J:oW:=oW.of {bt:=[1,2,4,7,9,10,11,12,14,15],sites:=[10,11,12,15]} aO.nK.st
noncomputable def aO.nK.fin:aO.nK.X→Option aO.nK.X:=fun x=>(aO.nK.J).Gh .normal (aO.nK.st x)
theorem aO.nK.jZ(x:aO.nK.X):aO.nK.fin x=some x:=oW.A7 (fk [.d ti,.d ti,.d xj,.d lV,.d .bool,.d .bool,.d iu,.d (.slice jd),.d hZ,.d jd] fun _=>by kernel_rfl) x
abbrev aO.D:=pK×Int×Int×Lk
def aO.st:aO.D→SA:=fun(p,me,aV,to)=>([.d xj p,.d ti me,.d ti aV,.d lV to],[])
abbrev aO.Y:=Bool
abbrev aO.X:=Bool
def aO.out:aO.X→aT:=fun x=>⟨.d .bool x,[],[]⟩
def aO.add:aO.D→aO.Y→aO.X:=fun(p,me,aV,to) y=>y
def aO.L0.aq:aO.L0.D→Prop:=fun(me,aV,p,to,head,i,ch,kits,s)=>to.1.length≤1000000000∧∃k:Nat,k≤to.1.length∧i=k
def aO.L0.F:aO.L0.D→aO.L0.Y:=fun(me,aV,p,to,head,i,ch,kits,s)=>if(List.drop (Int.toNat i) to.1).all Gm then .inr () else .inl ()
def aO.aq:aO.D→Prop:=fun(p,me,aV,to)=>Fl p∧Sm p.2.2.2.2.2.2.2.1∧(-9223372036854775808≤me∧me≤9223372036854775807)∧(-9223372036854775808≤aV∧aV≤9223372036854775807)∧nX to
def aO.F:aO.D→aO.Y:=fun _=>true
noncomputable def aO.G:dX:=eX (P:=Tryz.prog) [cd.sg,aB.sg,dm.sg,bJ.sg,aQ.sg,dJ.sg,cC.sg]
noncomputable def aO.L0.E:=cf.cF aO.L0.st aO.L0.aq aO.L0.add aO.L0.F aO.L0.out
noncomputable def aO.L0.call:aO.L0.D→Option aO.L0.X:=dO aO.L0.E aO.L0.st
noncomputable def aO.an:ej:= {loops:=ky [(6,{bt:=[1,2,4,7,9,10,11,12,13],sites:=[10,11,12]})],outs:=kr [(6,{bt:=[1,2,4,7,9,10,11,12],sites:=[10,11,12]},{bt:=[8]})],gk:=kY [(6,aO.L0.E)],Gk:=kY [(16,aO.nJ.J)],Gl:=kY [(11,aO.mB.J),(14,aO.nK.J)]}
noncomputable def aO.A:= @cq Tryz.prog aO.G aO.an 0 Tryz.f3 _ aO.st
abbrev aO.Ok:=cr @aO.A aO.aq aO.add aO.F aO.out
noncomputable def aO.L0.R:= @cP Tryz.prog aO.G aO.an 0 Tryz.f3 0 _ aO.L0.st
abbrev aO.L0.Ok:=fg Tryz.prog aO.G aO.an 0 Tryz.f3 0 aO.L0.st aO.L0.aq aO.L0.add aO.L0.F aO.L0.out
theorem aO.L0.run:bD aO.L0.call aO.L0.aq aO.L0.add aO.L0.F:=fw (fk [.d ti,.d ti,.d xj,.d lV,.d .bool,.d ti,.d iu,.d (.slice jd),.d hZ] fun _=>by kernel_rfl)
theorem aO.L0.aF:oU @aO.L0.R aO.L0.st aO.L0.aq aO.L0.add aO.L0.F aO.L0.out aO.L0.Ok:=p9
theorem aO.L0.step{R:Type}(me_2:Int)(rate_2:Int)(p_2:pK)(to_2:Lk)(head:Bool)(i:Int)(n10:fF)(n11:(List js))(n12:fL)(kn:AS→Option R)(kx:Exit→AS→Option R):aO.L0.R (me_2,rate_2,p_2,to_2,head,i,n10,n11,n12) kn kx=
  aC ((gM i (((List.length to_2.1):Nat):Int))) (
   aC (dY i (((List.length to_2.1):Nat):Int)) (
   aC ((na (((List.length (nth oS to_2.1 (Int.toNat i)).1):Nat):Int) (20:Int))) (
    kx (aO.L0.bM head).1 (aO.L0.bM head).2) (
    kn (aO.L0.st (me_2,rate_2,p_2,to_2,head,(bw .i64 i (1:Int)),n10,n11,n12)))) none) (
   kx (aO.L0.iG (me_2,rate_2,p_2,to_2,head,n10,n11,n12)).1 (aO.L0.iG (me_2,rate_2,p_2,to_2,head,n10,n11,n12)).2):=by kernel_rfl
theorem aO.eq{R:Type}(p:pK)(me:Int)(aV:Int)(to:Lk)(k:aT→Option R):aO.A (p,me,aV,to) k=
  ab (cd.call ()) fun x4=>
  ab (aB.call p) fun x8=>
  aC ((na (((List.length to.1):Nat):Int) (4:Int))) (
   k (aO.out x4)) (
   ab (aO.L0.call (me,aV,p,to,x4,(0:Int),x8.1,x8.2.1,x8.2.2)) fun x12=>
   aC (x12.isLeft) (
    ab (x12.getLeft?) fun a13=>
    k (aO.out a13)) (
    ab (x12.getRight?) fun b14=>
    ab (
     aC ((ia b14.1 (0:Int))) (
      aC ((kX b14.2.1 (0:Int))) (
       aO.mB.fin (b14.1,b14.2.1,b14.2.2.1,b14.2.2.2.1,b14.2.2.2.2.1,(wX b14.2.1 (1000:Int)),b14.2.2.2.2.2.1,b14.2.2.2.2.2.2.1,b14.2.2.2.2.2.2.2)) (
       aO.mB.fin (b14.1,b14.2.1,b14.2.2.1,b14.2.2.2.1,b14.2.2.2.2.1,false,b14.2.2.2.2.2.1,b14.2.2.2.2.2.2.1,b14.2.2.2.2.2.2.2))) (
      aC ((ia b14.1 (1:Int))) (
       aC ((kX b14.2.1 (0:Int))) (
        aO.mB.fin (b14.1,b14.2.1,b14.2.2.1,b14.2.2.2.1,b14.2.2.2.2.1,(wX b14.2.1 (1000:Int)),b14.2.2.2.2.2.1,b14.2.2.2.2.2.2.1,b14.2.2.2.2.2.2.2)) (
        aO.mB.fin (b14.1,b14.2.1,b14.2.2.1,b14.2.2.2.1,b14.2.2.2.2.1,false,b14.2.2.2.2.2.1,b14.2.2.2.2.2.2.1,b14.2.2.2.2.2.2.2))) (
       aO.mB.fin (b14.1,b14.2.1,b14.2.2.1,b14.2.2.2.1,b14.2.2.2.2.1,false,b14.2.2.2.2.2.1,b14.2.2.2.2.2.2.1,b14.2.2.2.2.2.2.2)))) fun x15=>
    aC (decide (0 < (List.length x15.2.2.2.2.2.2.2.1))) (
    ab (
     aC ((ia x15.1 (1:Int))) (
      aC (decide (1 < (List.length x15.2.2.2.2.2.2.2.1))) (
      aO.nK.fin (x15.1,x15.2.1,x15.2.2.1,x15.2.2.2.1,x15.2.2.2.2.1,x15.2.2.2.2.2.1,x15.2.2.2.2.2.2.1,x15.2.2.2.2.2.2.2.1,x15.2.2.2.2.2.2.2.2,(nth jd x15.2.2.2.2.2.2.2.1 1))) none) (
      aO.nK.fin (x15.1,x15.2.1,x15.2.2.1,x15.2.2.2.1,x15.2.2.2.2.1,x15.2.2.2.2.2.1,x15.2.2.2.2.2.2.1,x15.2.2.2.2.2.2.2.1,x15.2.2.2.2.2.2.2.2,(nth jd x15.2.2.2.2.2.2.2.1 0)))) fun x16=>
    ab (dm.call (x16.2.2.2.2.2.2.1,x16.2.2.2.2.2.2.2.2.2,x16.1,x16.2.2.2.2.2.2.2.2.1,x16.2.2.1.2.2.2.2.2.2.2.1,x16.2.2.2.1,x16.2.1)) fun x20=>
    ab (bJ.call (x16.2.2.2.2.2.2.1,x16.2.2.2.2.2.2.2.2.2,x16.1,x16.2.2.2.2.2.2.2.2.1,x16.2.2.1.2.2.2.2.2.2.2.1,x16.2.2.2.1,x16.2.1)) fun x24=>
    ab (
     aC ((!x16.2.2.2.2.2.1)) (
      aO.nJ.fin (x16.1,x16.2.1,x16.2.2.1,x16.2.2.2.1,x16.2.2.2.2.1,x16.2.2.2.2.2.1,x20.2,x24.1,x24.2,true,x16.2.2.2.2.2.2.1,x16.2.2.2.2.2.2.2.1,x16.2.2.2.2.2.2.2.2.1,x20.1)) (
      ab (aQ.call x16.2.2.2.1) fun x30=>
      aO.nJ.fin (x16.1,x16.2.1,x16.2.2.1,x16.2.2.2.1,x16.2.2.2.2.1,x16.2.2.2.2.2.1,x20.2,x24.1,x24.2,(!x30),x16.2.2.2.2.2.2.1,x16.2.2.2.2.2.2.2.1,x16.2.2.2.2.2.2.2.2.1,x20.1))) fun x31=>
    aC (x31.2.2.2.2.2.2.2.2.2.1) (
     aC (x31.2.2.2.2.1) (
      aC ((ia x31.2.2.2.2.2.2.1 (1:Int))) (
       aC ((ia x31.2.2.2.2.2.2.2.2.1 (1:Int))) (
        aC ((ia (((List.length x31.2.2.2.2.2.2.2.2.2.2.2.2.2.1):Nat):Int) (0:Int))) (
         aC ((ia (((List.length x31.2.2.2.2.2.2.2.1):Nat):Int) (0:Int))) (
          aC (x31.2.2.2.2.2.1) (
           k (aO.out true)) (
           ab (dJ.call (x31.2.2.2.2.2.2.2.2.2.2.1,x31.1,x31.2.2.2.2.2.2.2.2.2.2.2.2.1,x31.2.1)) fun x33=>
           k (aO.out (ia x33 (0:Int))))) (
          k (aO.out false))) (
         k (aO.out false))) (
        k (aO.out false))) (
       k (aO.out false))) (
      k (aO.out false))) (
     aC (dY (bS .i64 (1:Int) x31.1) (2:Int)) (
     aC (decide ((Int.toNat (bS .i64 (1:Int) x31.1)) < (List.length x31.2.2.2.2.2.2.2.2.2.2.2.1))) (
     aC (decide ((((Int.toNat (bS .i64 (1:Int) x31.1))*37)+0)=(0+((Int.toNat (bS .i64 (1:Int) x31.1))*37)))) (
     ab (dm.call (x31.2.2.2.2.2.2.2.2.2.2.1,(nth jd x31.2.2.2.2.2.2.2.2.2.2.2.1 (Int.toNat (bS .i64 (1:Int) x31.1))),x31.1,x31.2.2.2.2.2.2.2.2.2.2.2.2.1,x31.2.2.1.2.2.2.2.2.2.2.1,x31.2.2.2.1,x31.2.1)) fun x37=>
     aC (decide (0 < (List.length x31.2.2.2.2.2.2.2.2.2.2.2.1))) (
     aC (decide (1 < (List.length x31.2.2.2.2.2.2.2.2.2.2.2.1))) (
     aC (x31.2.2.2.2.1) (
      aC ((ia x31.2.2.2.2.2.2.2.2.1 (0:Int))) (
       aC ((Ty.beq .bool (ia x31.2.2.2.2.2.2.1 (0:Int)) (ia (((List.length x31.2.2.2.2.2.2.2.2.2.2.2.2.2.2.1):Nat):Int) (1:Int)))) (
        aC ((!(!(Ty.beq jd (nth jd x31.2.2.2.2.2.2.2.2.2.2.2.1 0) (nth jd x31.2.2.2.2.2.2.2.2.2.2.2.1 1))))) (
         k (aO.out true)) (
         aC ((ia x37.2 (1:Int))) (
          k (aO.out true)) (
          aC (decide (0 < (List.length x31.2.2.2.2.2.2.2.2.2.2.2.1))) (
          ab (cC.call (nth jd x31.2.2.2.2.2.2.2.2.2.2.2.1 0)) fun x40=>
          aC (decide (1 < (List.length x31.2.2.2.2.2.2.2.2.2.2.2.1))) (
          ab (cC.call (nth jd x31.2.2.2.2.2.2.2.2.2.2.2.1 1)) fun x41=>
          k (aO.out (Ty.beq kU x40 x41))) none) none))) (
        k (aO.out false))) (
       k (aO.out false))) (
      k (aO.out false))) none) none) none) none) none)) none)):=by kernel_rfl
theorem aO.L0.ok:aO.L0.Ok:=by
 refine aO.L0.aF (fun(me,aV,p,to,head,i,ch,kits,s)=>to.1.length - Int.toNat i) ?_
 rintro⟨me,aV,p,to,head,i,ch,kits,s⟩ ⟨hlen,k,hk,rfl⟩
 have hlen:to.1.length≤1000000000:=hlen
 have hk:k≤to.1.length:=hk
 by_cases h:k < to.1.length
 ·have n1:nth oS to.1 k=to.1[k]:=dT (t:=oS) h
  have hd:(List.drop k to.1).all Gm=(Gm to.1[k] && (List.drop (k+1) to.1).all Gm):=by rw[List.drop_eq_getElem_cons h,List.all_cons]
  have step:∀ {R:Type} (kn:AS→Option R) (kx:Exit→AS→Option R),aO.L0.R (me,aV,p,to,head,(k:Int),ch,kits,s) kn kx=aC (Gm to.1[k]) (kn (aO.L0.st (me,aV,p,to,head,((k+1:Nat):Int),ch,kits,s))) (kx (aO.L0.bM head).1 (aO.L0.bM head).2):=by
   intro R kn kx
   rw[aO.L0.step,bB (by omega),bz (show(0:Int)≤(k:Int) by omega) (by omega),Int.toNat_natCast,n1]
   simp only[ah]
   unfold Gm
   rw[N.mC (by omega)]
   by_cases hb:to.1[k].1.length≤20
   ·rw[cZ (by omega),aD hb];rfl
   ·rw[dS (by omega),bN hb];rfl
  cases hp:Gm to.1[k]
  ·right
   refine⟨aO.L0.bM head,?_,fun kn kx=> ?_⟩
   ·simp only[aO.L0.add,aO.L0.F,Int.toNat_natCast,hd,hp,Bool.false_and,Bool.false_eq_true,if_false]
    rfl
   ·rw[step,hp,ae]
  ·left
   refine⟨(me,aV,p,to,head,((k+1:Nat):Int),ch,kits,s),⟨hlen,k+1,by omega,rfl⟩,by simp only[Int.toNat_natCast];omega,?_,fun kn kx=> ?_⟩
   ·simp only[aO.L0.add,aO.L0.F,Int.toNat_natCast,hd,hp,Bool.true_and]
   ·rw[step,hp,ah]
 ·right
  obtain rfl:k=to.1.length:=by omega
  refine⟨aO.L0.iG (me,aV,p,to,head,ch,kits,s),?_,fun kn kx=> ?_⟩
  ·simp only[aO.L0.add,aO.L0.F,Int.toNat_natCast,List.drop_length]
   rfl
  ·rw[aO.L0.step,bm (by omega),ae]
theorem aO.tail{p:pK}{me aV:Int}{to:Lk}{mb:Bool}{ch:fF}{kits:List js}{s:fL}{kit k0 k1:js}(hch:jI ch)(hu:oH s)(hs:tg ch s)(hper:Sm p.2.2.2.2.2.2.2.1)(ht:nX to)(hme: -9223372036854775808≤me∧me≤9223372036854775807)
    (hks:kits=[k0,k1]) (hu0:tR k0) (hu1:tR k1) (hb0:mn ch 0=jB k0) (hb1:mn ch 1=jB k1) (hkit:kit=if me=1 then k1 else k0) (hmb:mb=(decide (me=0∨me=1) && kC aV 0 1000)):
   (
    ab (dm.call ((me,aV,p,to,true,mb,ch,kits,s,kit).2.2.2.2.2.2.1,(me,aV,p,to,true,mb,ch,kits,s,kit).2.2.2.2.2.2.2.2.2,(me,aV,p,to,true,mb,ch,kits,s,kit).1,(me,aV,p,to,true,mb,ch,kits,s,kit).2.2.2.2.2.2.2.2.1,(me,aV,p,to,true,mb,ch,kits,s,kit).2.2.1.2.2.2.2.2.2.2.1,(me,aV,p,to,true,mb,ch,kits,s,kit).2.2.2.1,(me,aV,p,to,true,mb,ch,kits,s,kit).2.1)) fun x20=>
    ab (bJ.call ((me,aV,p,to,true,mb,ch,kits,s,kit).2.2.2.2.2.2.1,(me,aV,p,to,true,mb,ch,kits,s,kit).2.2.2.2.2.2.2.2.2,(me,aV,p,to,true,mb,ch,kits,s,kit).1,(me,aV,p,to,true,mb,ch,kits,s,kit).2.2.2.2.2.2.2.2.1,(me,aV,p,to,true,mb,ch,kits,s,kit).2.2.1.2.2.2.2.2.2.2.1,(me,aV,p,to,true,mb,ch,kits,s,kit).2.2.2.1,(me,aV,p,to,true,mb,ch,kits,s,kit).2.1)) fun x24=>
    ab (
     aC ((!(me,aV,p,to,true,mb,ch,kits,s,kit).2.2.2.2.2.1)) (
      aO.nJ.fin ((me,aV,p,to,true,mb,ch,kits,s,kit).1,(me,aV,p,to,true,mb,ch,kits,s,kit).2.1,(me,aV,p,to,true,mb,ch,kits,s,kit).2.2.1,(me,aV,p,to,true,mb,ch,kits,s,kit).2.2.2.1,(me,aV,p,to,true,mb,ch,kits,s,kit).2.2.2.2.1,(me,aV,p,to,true,mb,ch,kits,s,kit).2.2.2.2.2.1,x20.2,x24.1,x24.2,true,(me,aV,p,to,true,mb,ch,kits,s,kit).2.2.2.2.2.2.1,(me,aV,p,to,true,mb,ch,kits,s,kit).2.2.2.2.2.2.2.1,(me,aV,p,to,true,mb,ch,kits,s,kit).2.2.2.2.2.2.2.2.1,x20.1)) (
      ab (aQ.call (me,aV,p,to,true,mb,ch,kits,s,kit).2.2.2.1) fun x30=>
      aO.nJ.fin ((me,aV,p,to,true,mb,ch,kits,s,kit).1,(me,aV,p,to,true,mb,ch,kits,s,kit).2.1,(me,aV,p,to,true,mb,ch,kits,s,kit).2.2.1,(me,aV,p,to,true,mb,ch,kits,s,kit).2.2.2.1,(me,aV,p,to,true,mb,ch,kits,s,kit).2.2.2.2.1,(me,aV,p,to,true,mb,ch,kits,s,kit).2.2.2.2.2.1,x20.2,x24.1,x24.2,(!x30),(me,aV,p,to,true,mb,ch,kits,s,kit).2.2.2.2.2.2.1,(me,aV,p,to,true,mb,ch,kits,s,kit).2.2.2.2.2.2.2.1,(me,aV,p,to,true,mb,ch,kits,s,kit).2.2.2.2.2.2.2.2.1,x20.1))) fun x31=>
    aC (x31.2.2.2.2.2.2.2.2.2.1) (
     aC (x31.2.2.2.2.1) (
      aC ((ia x31.2.2.2.2.2.2.1 (1:Int))) (
       aC ((ia x31.2.2.2.2.2.2.2.2.1 (1:Int))) (
        aC ((ia (((List.length x31.2.2.2.2.2.2.2.2.2.2.2.2.2.1):Nat):Int) (0:Int))) (
         aC ((ia (((List.length x31.2.2.2.2.2.2.2.1):Nat):Int) (0:Int))) (
          aC (x31.2.2.2.2.2.1) (
           some (aO.out true)) (
           ab (dJ.call (x31.2.2.2.2.2.2.2.2.2.2.1,x31.1,x31.2.2.2.2.2.2.2.2.2.2.2.2.1,x31.2.1)) fun x33=>
           some (aO.out (ia x33 (0:Int))))) (
          some (aO.out false))) (
         some (aO.out false))) (
        some (aO.out false))) (
       some (aO.out false))) (
      some (aO.out false))) (
     aC (dY (bS .i64 (1:Int) x31.1) (2:Int)) (
     aC (decide ((Int.toNat (bS .i64 (1:Int) x31.1)) < (List.length x31.2.2.2.2.2.2.2.2.2.2.2.1))) (
     aC (decide ((((Int.toNat (bS .i64 (1:Int) x31.1))*37)+0)=(0+((Int.toNat (bS .i64 (1:Int) x31.1))*37)))) (
     ab (dm.call (x31.2.2.2.2.2.2.2.2.2.2.1,(nth jd x31.2.2.2.2.2.2.2.2.2.2.2.1 (Int.toNat (bS .i64 (1:Int) x31.1))),x31.1,x31.2.2.2.2.2.2.2.2.2.2.2.2.1,x31.2.2.1.2.2.2.2.2.2.2.1,x31.2.2.2.1,x31.2.1)) fun x37=>
     aC (decide (0 < (List.length x31.2.2.2.2.2.2.2.2.2.2.2.1))) (
     aC (decide (1 < (List.length x31.2.2.2.2.2.2.2.2.2.2.2.1))) (
     aC (x31.2.2.2.2.1) (
      aC ((ia x31.2.2.2.2.2.2.2.2.1 (0:Int))) (
       aC ((Ty.beq .bool (ia x31.2.2.2.2.2.2.1 (0:Int)) (ia (((List.length x31.2.2.2.2.2.2.2.2.2.2.2.2.2.2.1):Nat):Int) (1:Int)))) (
        aC ((!(!(Ty.beq jd (nth jd x31.2.2.2.2.2.2.2.2.2.2.2.1 0) (nth jd x31.2.2.2.2.2.2.2.2.2.2.2.1 1))))) (
         some (aO.out true)) (
         aC ((ia x37.2 (1:Int))) (
          some (aO.out true)) (
          aC (decide (0 < (List.length x31.2.2.2.2.2.2.2.2.2.2.2.1))) (
          ab (cC.call (nth jd x31.2.2.2.2.2.2.2.2.2.2.2.1 0)) fun x40=>
          aC (decide (1 < (List.length x31.2.2.2.2.2.2.2.2.2.2.2.1))) (
          ab (cC.call (nth jd x31.2.2.2.2.2.2.2.2.2.2.2.1 1)) fun x41=>
          some (aO.out (Ty.beq kU x40 x41))) none) none))) (
        some (aO.out false))) (
       some (aO.out false))) (
      some (aO.out false))) none) none) none) none) none))=some (aO.out true):=by
  subst hks
  have huk:tR kit:=by
    rw[hkit]
    split
    · exact hu1
    · exact hu0
  have c1:=dm.c (me:=me) (aV:=aV) hch huk hu hper ht
  have c2:=bJ.c (me:=me) (aV:=aV) hch huk hu hper ht
  have c3:aQ.call to=some (iV to):=aQ.run (d:=to) ⟨ht.1,ht.2⟩
  have hp9:lf (l7 p.2.2.2.2.2.2.2.1)=true:=uS _
  have cj:∀q:js,tR q→dm.call (ch,q,me,s,p.2.2.2.2.2.2.2.1,to,aV)=some (kG ch q me s p.2.2.2.2.2.2.2.1 to aV):=fun q hq=>dm.c hch hq hu hper ht
  have cb:∀q:js,tR q→cC.call q=some (jB q):=fun q hq=>cC.run (d:=q) hq
  simp only[]
  rw[c1,aa,c2,aa,c3]
  by_cases hbad:(mb && iV to)=true
  · obtain⟨hm,hlk⟩:=Bool.and_eq_true_iff.1 hbad
    rw[hm]at hmb
    have hmb:=hmb.symm
    rw[Bool.and_eq_true,decide_eq_true_eq,kD]at hmb
    obtain⟨hme2,hr⟩:=hmb
    have hown:mn ch me=jB kit:=by
      rw[hkit]
      rcases hme2 with rfl | rfl
      · rw[if_neg (by decide)];exact hb0
      · rw[if_pos rfl];exact hb1
    have hmay:rq ch kit me to aV=true:=by
      unfold rq
      rw[gJ (by omega) (by omega),gJ hr.1 hr.2,hlk,hown,BK]
      rfl
    have hmk:jz ch s (1 - me) (l7 p.2.2.2.2.2.2.2.1)=(fo ch s (1 - me) (l7 p.2.2.2.2.2.2.2.1),0):=by
      unfold jz
      rw[aD (show 1 - me=0∨1 - me=1 by omega),hp9,if_pos (show(true && true)=true from rfl),if_pos (mS.2 hs)]
    have hf:(fX ch kit me s p.2.2.2.2.2.2.2.1 to aV).2=0:=by
      unfold fX
      rw[if_pos hmay,hmk]
      rfl
    have hE:(o9 ch kit me s p.2.2.2.2.2.2.2.1 to aV).2=0:=by unfold o9;rw[if_pos hf]
    have hJ:=Dr (fX ch kit me s p.2.2.2.2.2.2.2.1 to aV).1 to aV
    have hJ2:kG ch kit me s p.2.2.2.2.2.2.2.1 to aV=iP (fX ch kit me s p.2.2.2.2.2.2.2.1 to aV).1 to aV:=by unfold kG;rw[if_pos hf]
    rw[←hJ2]at hJ
    have hX:∀q:js,Ty.beq kU (jB q) (jB kit)=false→(kG ch q me s p.2.2.2.2.2.2.2.1 to aV).2=1:=fun q hq=>by
      unfold kG fX rq
      rw[hown,hq,Bool.and_false,Bool.and_false,Bool.and_false]
      rfl
    generalize kG ch kit me s p.2.2.2.2.2.2.2.1 to aV=J at*
    generalize o9 ch kit me s p.2.2.2.2.2.2.2.1 to aV=E at*
    rw[hm,hlk]
    simp only[Bool.not_true,ae,aa,aO.nJ.jZ,ah]
    rw[Bt (by omega),bz (by omega) (by omega),ah,aD (show(1 - me).toNat < ([k0,k1]:List js).length by show _ < 2;omega),ah,aD (show(1 - me).toNat*37+0=0+(1 - me).toNat*37 by omega),ah]
    have ho:∃q,nth jd [k0,k1] (1 - me).toNat=q∧tR q∧(Ty.beq kU (jB q) (jB kit)=true→Ty.beq kU (jB k0) (jB k1)=true):=by
      rcases hme2 with rfl | rfl
      · refine⟨k1,rfl,hu1,fun h=> ?_⟩
        rw[if_neg (by decide)]at hkit
        rw[hkit]at h
        rw[beq_eq kU _ _ rfl h]
        exact BK _
      · refine⟨k0,rfl,hu0,fun h=> ?_⟩
        rw[if_pos rfl]at hkit
        rw[hkit]at h
        exact h
    obtain⟨q,e1,e2,e3⟩:=ho
    rw[e1,cj q e2,aa]
    have hXq:=hX q
    generalize kG ch q me s p.2.2.2.2.2.2.2.1 to aV=X at hXq
    rw[aD (show 0 < ([k0,k1]:List js).length from Nat.zero_lt_succ 1),ah,aD (show 1 < ([k0,k1]:List js).length from Nat.lt_succ_self 1),ah,eu hE,ah,Cz hJ,ah]
    rw[show nth jd [k0,k1] 0=k0 from rfl,show nth jd [k0,k1] 1=k1 from rfl]
    cases hkk:Ty.beq jd k0 k1
    · by_cases hX1:X.2=1
      · rw[eu hX1];rfl
      · rw[dR hX1,ae,cb k0 hu0,aa,ah,cb k1 hu1,aa]
        have:Ty.beq kU (jB q) (jB kit)=true:=by
          cases e:Ty.beq kU (jB q) (jB kit)
          · exact absurd (hXq e) hX1
          · rfl
        rw[e3 this]
        rfl
    · rfl
  · have hno:rq ch kit me to aV=false:=by
      cases e:rq ch kit me to aV
      · rfl
      · obtain⟨q1,q2,q3,_⟩:=sN e
        refine absurd ?_ hbad
        rw[hmb,aD (show me=0∨me=1 by omega),gJ q2.1 q2.2,q3]
        rfl
    have hf:fX ch kit me s p.2.2.2.2.2.2.2.1 to aV=([],1):=by
      unfold fX
      rw[if_neg (by rw[hno];decide)]
    have hJ:kG ch kit me s p.2.2.2.2.2.2.2.1 to aV=(F8,1):=by unfold kG;rw[hf];rfl
    have hE:o9 ch kit me s p.2.2.2.2.2.2.2.1 to aV=([],1):=by unfold o9;rw[hf];rfl
    rw[hJ,hE]
    cases hm:mb
    · have hg:rb ch me s aV=0:=by
        unfold rb
        rw[if_neg]
        intro h
        rw[Bool.and_eq_true,kD]at h
        rw[hm]at hmb
        rw[aD (show me=0∨me=1 by omega),h.2]at hmb
        exact absurd hmb (by decide)
      simp only[Bool.not_false,ah,aO.nJ.jZ,aa]
      rw[dJ.c hch hu,hg]
      rfl
    · have hlk:iV to=false:=by
        cases e:iV to
        · rfl
        · rw[hm,e]at hbad;exact absurd rfl hbad
      rw[hlk]
      simp only[Bool.not_true,Bool.not_false,ae,ah,aO.nJ.jZ,aa]
      rfl
theorem aO.ok:aO.Ok:=by
 rintro⟨p,me,aV,to⟩ ⟨hp,hper,hme,hr,ht⟩
 have hp:Fl p:=hp
 have hme: -9223372036854775808≤me∧me≤9223372036854775807:=hme
 have ht:nX to:=ht
 have hch:=BO hp
 have hu:=GF p
 have hs:=xi hp
 have c1:cd.call ()=some true:=cd.run (d:=()) trivial
 rw[aO.eq,c1,aa,aB.c hp,aa]
 by_cases h4:to.1.length > 4
 ·rw[dS (by omega),ah]
  rfl
 have hb0:mn (uw p) 0=jB (pk (nth tH p.1 0)):=rfl
 have hb1:mn (uw p) 1=jB (pk (nth tH p.1 1)):=rfl
 have hks:pn p=[pk (nth tH p.1 0),pk (nth tH p.1 1)]:=rfl
 have hu0:=sK (nth tH p.1 0)
 have hu1:=sK (nth tH p.1 1)
 generalize pk (nth tH p.1 0)=k0 at*
 generalize pk (nth tH p.1 1)=k1 at*
 generalize uw p=ch at*
 generalize Fo p=s at*
 rw[hks]
 rw[cZ (by omega),ae,aO.L0.run (d:=(me,aV,p,to,true,0,ch,[k0,k1],s)) ⟨by show to.1.length≤1000000000;omega,0,Nat.zero_le _,rfl⟩]
 simp only[aa,aO.L0.add,aO.L0.F]
 by_cases hall:(List.drop (Int.toNat 0) to.1).all Gm=true
 rotate_left
 ·rw[if_neg hall]
  rfl
 rw[if_pos hall]
 simp only[Sum.isLeft_inr,ae,Sum.getRight?_inr,aa]
 have l0:(0:Nat) < ([k0,k1]:List js).length:=Nat.zero_lt_succ 1
 have l1:(1:Nat) < ([k0,k1]:List js).length:=Nat.lt_succ_self 1
 have n0:nth jd [k0,k1] 0=k0:=rfl
 have n1:nth jd [k0,k1] 1=k1:=rfl
 by_cases h0:me=0
 ·have e1:ia me 0=true:=eu h0
  have e2:ia me 1=false:=dR (by omega)
  have kk:k0=if me=1 then k1 else k0:=by rw[if_neg (by omega)]
  by_cases hr0:aV≥0
  ·simp only[e1,e2,gQ hr0,ah,ae,aO.mB.jZ,aO.nK.jZ,aa,aD l0,n0]
   exact aO.tail hch hu hs hper ht hme rfl hu0 hu1 hb0 hb1 kk (by rw[aD (.inl h0)];unfold kC;rw[aD hr0];rfl)
  ·simp only[e1,e2,fx hr0,ah,ae,aO.mB.jZ,aO.nK.jZ,aa,aD l0,n0]
   exact aO.tail hch hu hs hper ht hme rfl hu0 hu1 hb0 hb1 kk (by rw[ja (by omega),Bool.and_false])
 ·have e1:ia me 0=false:=dR h0
  by_cases h1:me=1
  ·have e2:ia me 1=true:=eu h1
   have kk:k1=if me=1 then k1 else k0:=by rw[if_pos h1]
   by_cases hr0:aV≥0
   ·simp only[e1,e2,gQ hr0,ah,ae,aO.mB.jZ,aO.nK.jZ,aa,aD l0,aD l1,n1]
    exact aO.tail hch hu hs hper ht hme rfl hu0 hu1 hb0 hb1 kk (by rw[aD (.inr h1)];unfold kC;rw[aD hr0];rfl)
   ·simp only[e1,e2,fx hr0,ah,ae,aO.mB.jZ,aO.nK.jZ,aa,aD l0,aD l1,n1]
    exact aO.tail hch hu hs hper ht hme rfl hu0 hu1 hb0 hb1 kk (by rw[ja (by omega),Bool.and_false])
  ·have e2:ia me 1=false:=dR h1
   have kk:k0=if me=1 then k1 else k0:=by rw[if_neg h1]
   simp only[e1,e2,ah,ae,aO.mB.jZ,aO.nK.jZ,aa,aD l0,n0]
   exact aO.tail hch hu hs hper ht hme rfl hu0 hu1 hb0 hb1 kk (by rw[bN (by rintro(x | x);exact h0 x;exact h1 x),Bool.false_and])
noncomputable def aO.E:=Entry.cF [some xj,some ti,some ti,some lV] aO.st aO.aq aO.add aO.F aO.out
noncomputable def aO.call:aO.D→Option aO.X:=bC aO.E aO.st
theorem aO.run:bD aO.call aO.aq aO.add aO.F:=cz (cv [.d xj,.d ti,.d ti,.d lV] fun _=>by kernel_rfl)
noncomputable def aO.sg:SG Tryz.prog:=⟨3,aK,aO.E,.fn 1 (by kernel_rfl) aO.ok (And.intro (.cF aO.L0.ok (by kernel_rfl)) trivial)⟩
end
end Go.Ab
