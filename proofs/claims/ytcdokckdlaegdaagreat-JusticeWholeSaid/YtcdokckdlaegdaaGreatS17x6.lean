/-
  Made short by a program of mine (wip/tools/mini.py).
-/
import Derived.Test.YtcdokckdlaegdaaGreatS17x5
set_option linter.unusedVariables false
set_option linter.unusedSimpArgs false
namespace Go.Ab
open Go.Proofs
set_option maxRecDepth 100000
set_option linter.unusedVariables false
set_option linter.unusedSimpArgs false
set_option synthInstance.maxSize 5000
abbrev bn.L0.D:=Bs×Nat×Int×(List Int)
def bn.L0.st:bn.L0.D→AS:=fun(h_2,outL,i,n7)=>⟨([.undef,.undef,.undef,.fj tH h_2,.undef,.cT (.new 7 0) 0 [] 0 0 outL,.d ti i]++bw 14 []),[],(cC 7 ([[.obj 0 false (.vec 5 tb n7)]]++cC 13 []))⟩
abbrev bn.L0.Y0:=Nat×(List Int)
abbrev bn.L0.X0:=Nat×(List Int)
def bn.L0.bK:bn.L0.X0→Exit×AS:=fun x=>(.exit 0,⟨(bw 5 ([.cT (.new 7 0) 0 [] 0 0 x.1]++bw 15 [])),[],(cC 7 ([[.obj 0 false (.vec 5 tb x.2)]]++cC 13 []))⟩)
abbrev bn.L0.X:=bn.L0.X0
abbrev bn.L0.Y:=bn.L0.Y0
def bn.L0.out:bn.L0.X→Out (Exit×AS):=fun x=> .ok (bn.L0.bK x)
def bn.L0.add:bn.L0.D→bn.L0.Y→bn.L0.X:=fun(h_2,outL,i,n7) y=>y
abbrev bn.D:=Bs×Bs
def bn.st:bn.D→SA:=fun(b,h)=>([.d tB b,.d tH h],[])
abbrev bn.Y:=Bs
abbrev bn.X:=Bs
def bn.out:bn.X→aT:=fun x=>⟨.d tB x,[],[]⟩
def bn.add:bn.D→bn.Y→bn.X:=fun(b,h) y=>y
def bn.L0.aq:bn.L0.D→Prop:=fun(h,m,i,l)=>h.length=32∧m=l.length∧∃k:Nat,k≤32∧i=k∧l.length≤100000000+k
def bn.L0.F:bn.L0.D→bn.L0.Y:=fun(h,m,i,l)=>((l++h.drop i.toNat).length,l++h.drop i.toNat)
def bn.aq:bn.D→Prop:=fun(b,h)=>b.length≤90000000∧h.length=32
def bn.F:bn.D→bn.Y:=fun(b,h)=>b++h
noncomputable def bn.G:dU:=eZ (P:=Tryz.prog) []
noncomputable def bn.L0.E:=cf.cD bn.L0.st bn.L0.aq bn.L0.add bn.L0.F bn.L0.out
noncomputable def bn.L0.call:bn.L0.D→Option bn.L0.X:=dL bn.L0.E bn.L0.st
noncomputable def bn.an:eu:= {bZ:=[7],loops:=ki [(3,{bu:=[3,5,6],sites:=[7],j6:=[⟨5,[],7,135⟩]})],outs:=kh [(3,{bu:=[5],sites:=[7]},{bu:=[4]})],gq:=lv [(3,bn.L0.E)],res:=[some tB]}
noncomputable def bn.A:= @cq Tryz.prog bn.G bn.an 0 Tryz.f114 _ bn.st
abbrev bn.Ok:=cr @bn.A bn.aq bn.add bn.F bn.out
noncomputable def bn.L0.R:= @cM Tryz.prog bn.G bn.an 0 Tryz.f114 0 _ bn.L0.st
abbrev bn.L0.Ok:=fk Tryz.prog bn.G bn.an 0 Tryz.f114 0 bn.L0.st bn.L0.aq bn.L0.add bn.L0.F bn.L0.out
theorem bn.L0.run:bD bn.L0.call bn.L0.aq bn.L0.add bn.L0.F:=fy (fx [.d tH,.n,.d ti,.d tB] fun _=>by kernel_rfl)
theorem bn.L0.aE:fY @bn.L0.R bn.L0.st bn.L0.aq bn.L0.add bn.L0.F bn.L0.bK bn.L0.Ok:=gj
theorem bn.L0.step{R:Type}(h_2:Bs)(outL:Nat)(i:Int)(n7:(List Int))(kn:AS→Option R)(kx:Exit→AS→Option R):bn.L0.R (h_2,outL,i,n7) kn kx=
  aD ((gM i (32:Int))) (
   aD (dZ i (32:Int)) (
   aD (decide (outL≤(List.length n7))) (
   aD (dK (outL+1) 1) (
   kn (bn.L0.st (h_2,(outL+1),(bo .i64 i (1:Int)),((List.take outL n7)++ [(nth tb h_2 (Int.toNat i))])))) none) none) none) (
   kx (bn.L0.bK (outL,n7)).1 (bn.L0.bK (outL,n7)).2):=by kernel_rfl
theorem bn.eq{R:Type}(b:Bs)(h:Bs)(k:aT→Option R):bn.A (b,h) k=
 aD (dK (0+(List.length b)) 1) (
 ab (bn.L0.call (h,(0+(List.length b)),(0:Int),((List.take 0 (List.replicate 0 (0:Int)))++b))) fun x1=>
 aD (decide (0=0∧(0+x1.1)≤(List.length x1.2))) (
 k (bn.out (cut x1.2 0 x1.1))) none) none:=by kernel_rfl
theorem bn.L0.ok:bn.L0.Ok:=by
 refine bn.L0.aE (fun(_,_,i,_)=>(32 - i).toNat) ?_
 rintro⟨h,m,i,l⟩ ⟨h32,rfl,k,hk,rfl,hl⟩
 have h32:h.length=32:=h32
 have hl:l.length≤100000000+k:=hl
 by_cases hlt:k < 32
 ·left
  have n1:nth tb h k=h[k]:=dS (t:=tb) (by omega)
  have el:(l++ [h[k]]).length=l.length+1:=by rw[List.length_append];rfl
  refine⟨(h,l.length+1,((k+1:Nat):Int),l++ [h[k]]),⟨h32,el.symm,k+1,by omega,rfl,by show(l++ [h[k]]).length≤_;omega⟩,by show(32 - ((k+1:Nat):Int)).toNat < (32 - (k:Int)).toNat;omega,?_,fun kn kx=> ?_⟩
  ·simp only[bn.L0.add,bn.L0.F,Int.toNat_natCast]
   rw[List.drop_eq_getElem_cons (show k < h.length by omega),List.append_assoc,List.singleton_append]
  ·rw[bn.L0.step,bB (by omega),ah,bz (by omega) (by omega),ah,aL (Nat.le_refl _),ah,eR (by omega) (by omega),ah,N.mq (by omega),Int.toNat_natCast,n1,List.take_length]
 ·right
  obtain rfl:k=32:=by omega
  intro T kn kx
  rw[bn.L0.step,bk (by omega),ae]
  simp only[bn.L0.add,bn.L0.F,Int.toNat_natCast]
  rw[List.drop_of_length_le (by omega),List.append_nil]
theorem bn.ok:bn.Ok:=by
 rintro⟨b,h⟩ ⟨hb,h32⟩
 have hb:b.length≤90000000:=hb
 have h32:h.length=32:=h32
 rw[bn.eq]
 simp only[Nat.zero_add,List.take_zero,List.nil_append]
 rw[eR (by omega) (by omega),ah,bn.L0.run (d:=(h,b.length,0,b)) ⟨h32,rfl,0,by omega,rfl,by omega⟩]
 simp only[aa,bn.L0.add,bn.L0.F,Int.toNat_zero,List.drop_zero,Nat.le_refl,and_self,decide_true,ah,gI,bn.add,bn.F]
noncomputable def bn.E:=Entry.cD [some tB,some tH] bn.st bn.aq bn.add bn.F bn.out
noncomputable def bn.call:bn.D→Option bn.X:=bC bn.E bn.st
theorem bn.run:bD bn.call bn.aq bn.add bn.F:=cw (cv [.d tB,.d tB] fun _=>by kernel_rfl)
noncomputable def bn.sg:SG Tryz.prog:=⟨114,aK,bn.E,.fn 1 (by kernel_rfl) bn.ok (And.intro (.cD bn.L0.ok (by kernel_rfl)) trivial)⟩
noncomputable section
def H9:ByteArray:=⟨#[107,105,116]⟩
theorem zH:∃f:List Int→Int→List Int,∀s n,f s n=ym H9 [s,[n]]:=⟨_,fun _ _=>rfl⟩
def jM:List Int→Int→List Int:=Classical.choose zH
theorem nP(s:List Int)(n:Int):jM s n=ym H9 [s,[n]]:=Classical.choose_spec zH s n
theorem EA(s:List Int)(n:Int):Sm (jM s n):=by rw[nP];exact vA _ _
def uM(seed:List Int):lC:=(gV (jM seed 1),(gV (jM seed 2),(gV (jM seed 3),(gV (jM seed 4),(gV (jM seed 5),(jM seed 6,()))))))
def oS(k:lC):Cp:=(gu k.1,(gu k.2.1,(gu k.2.2.1,(gu k.2.2.2.1,(gu k.2.2.2.2.1,())))))
def yw(k:lC):Prop:=fo k.1∧fo k.2.1∧fo k.2.2.1∧fo k.2.2.2.1∧fo k.2.2.2.2.1
theorem o9(h:List Int):fo (gV h):=by have:=nL h;exact⟨by omega,by omega⟩
theorem xP(s:List Int):yw (uM s):=⟨o9 _,o9 _,o9 _,o9 _,o9 _⟩
theorem yN{k:Int}(h0:0 < k)(h1:k < 2305843009213688669):Dx (gu k):=by
 refine⟨qW k,?_⟩
 unfold we
 rw[zb,Bool.true_and]
 exact iM (fun e=>H2 (n:=k.toNat) (by omega) (by omega) (by rw[←Ft k (by omega)];exact e))
theorem o8(h:List Int):Dx (gu (gV h)):=yN (nL h).1 (nL h).2
theorem BE(s:List Int):GA (oS (uM s)):=⟨o8 _,o8 _,o8 _,o8 _,o8 _⟩
abbrev dv.D:=Bs×Int
def dv.st:dv.D→SA:=fun(seed,n)=>([.d tH seed,.d tb n],[])
abbrev dv.Y:=Bs
abbrev dv.X:=Bs
def dv.out:dv.X→aT:=fun x=>⟨.d tH x,[],[]⟩
def dv.add:dv.D→dv.Y→dv.X:=fun(seed,n) y=>y
def dv.aq:dv.D→Prop:=fun(s,_)=>s.length=32
def dv.F:dv.D→dv.Y:=fun(s,n)=>jM s n
noncomputable def dv.G:dU:=eZ (P:=Tryz.prog) [bn.sg,di.sg]
noncomputable def dv.an:eu:= {}
noncomputable def dv.A:= @cq Tryz.prog dv.G dv.an 0 Tryz.f61 _ dv.st
abbrev dv.Ok:=cr @dv.A dv.aq dv.add dv.F dv.out
theorem dv.eq{R:Type}(seed:Bs)(n:Int)(k:aT→Option R):dv.A (seed,n) k=
 ab (bn.call ((List.replicate 0 (0:Int)),seed)) fun x1=>
 ab (di.call ((⟨#[107,105,116]⟩:ByteArray),[x1,[n]])) fun x2=>
 k (dv.out x2):=by kernel_rfl
theorem dv.ok:dv.Ok:=by
 rintro⟨s,n⟩ hs
 have hs:s.length=32:=hs
 rw[dv.eq,bn.run (d:=(List.replicate 0 0,s)) ⟨by decide,hs⟩]
 simp only[aa,bn.add,bn.F]
 rw[show(List.replicate 0 (0:Int)++s)=s from rfl,di.run (d:=((⟨#[107,105,116]⟩:ByteArray),[s,[n]])) (vC (by decide) (by omega) (by show 1≤_;decide))]
 simp only[aa,di.add,di.F,dv.add,dv.F,nP]
 rfl
noncomputable def dv.E:=Entry.cD [some tH,some tb] dv.st dv.aq dv.add dv.F dv.out
noncomputable def dv.call:dv.D→Option dv.X:=bC dv.E dv.st
theorem dv.run:bD dv.call dv.aq dv.add dv.F:=cw (cv [.d tB,.d tb] fun _=>by kernel_rfl)
noncomputable def dv.sg:SG Tryz.prog:=⟨61,aK,dv.E,.fn 0 (by kernel_rfl) dv.ok trivial⟩
abbrev eC.D:=Bs
def eC.st:eC.D→SA:=fun seed=>([.d tH seed],[])
abbrev eC.Y:=lC
abbrev eC.X:=lC
def eC.out:eC.X→aT:=fun x=>⟨.d nR x,[],[]⟩
def eC.add:eC.D→eC.Y→eC.X:=fun seed y=>y
def eC.aq:eC.D→Prop:=fun s=>s.length=32
def eC.F:eC.D→eC.Y:=fun s=>uM s
noncomputable def eC.G:dU:=eZ (P:=Tryz.prog) [dv.sg,bl.sg]
noncomputable def eC.an:eu:= {}
noncomputable def eC.A:= @cq Tryz.prog eC.G eC.an 0 Tryz.f25 _ eC.st
abbrev eC.Ok:=cr @eC.A eC.aq eC.add eC.F eC.out
theorem eC.eq{R:Type}(seed:Bs)(k:aT→Option R):eC.A seed k=
 ab (dv.call (seed,(1:Int))) fun x1=>
 ab (bl.call x1) fun x2=>
 ab (dv.call (seed,(2:Int))) fun x3=>
 ab (bl.call x3) fun x4=>
 ab (dv.call (seed,(3:Int))) fun x5=>
 ab (bl.call x5) fun x6=>
 ab (dv.call (seed,(4:Int))) fun x7=>
 ab (bl.call x7) fun x8=>
 ab (dv.call (seed,(5:Int))) fun x9=>
 ab (bl.call x9) fun x10=>
 ab (dv.call (seed,(6:Int))) fun x11=>
 k (eC.out (x2,(x4,(x6,(x8,(x10,(x11,()))))))):=by kernel_rfl
theorem eC.ok:eC.Ok:=by
 intro s hs
 have q:∀n,dv.call (s,n)=some (jM s n):=fun n=>dv.run (d:=(s,n)) hs
 have r:∀n,bl.call (jM s n)=some (gV (jM s n)):=fun n=>bl.run (d:=jM s n) (EA s n)
 rw[eC.eq]
 simp only[q,r,aa]
 rfl
noncomputable def eC.E:=Entry.cD [some tH] eC.st eC.aq eC.add eC.F eC.out
noncomputable def eC.call:eC.D→Option eC.X:=bC eC.E eC.st
theorem eC.run:bD eC.call eC.aq eC.add eC.F:=cw (cv [.d tB] fun _=>by kernel_rfl)
noncomputable def eC.sg:SG Tryz.prog:=⟨25,aK,eC.E,.fn 0 (by kernel_rfl) eC.ok trivial⟩
abbrev eS.D:=lC
def eS.st:eS.D→SA:=fun kv=>([.d nR kv],[])
abbrev eS.Y:=Cp
abbrev eS.X:=Cp
def eS.out:eS.X→aT:=fun x=>⟨.d ma x,[],[]⟩
def eS.add:eS.D→eS.Y→eS.X:=fun kv y=>y
def eS.aq:eS.D→Prop:=fun k=>yw k
def eS.F:eS.D→eS.Y:=fun k=>oS k
noncomputable def eS.G:dU:=eZ (P:=Tryz.prog) [cY.sg]
noncomputable def eS.an:eu:= {}
noncomputable def eS.A:= @cq Tryz.prog eS.G eS.an 0 Tryz.f26 _ eS.st
abbrev eS.Ok:=cr @eS.A eS.aq eS.add eS.F eS.out
theorem eS.eq{R:Type}(kv:lC)(k:aT→Option R):eS.A kv k=
 ab (cY.call kv.1) fun x1=>
 ab (cY.call kv.2.1) fun x2=>
 ab (cY.call kv.2.2.1) fun x3=>
 ab (cY.call kv.2.2.2.1) fun x4=>
 ab (cY.call kv.2.2.2.2.1) fun x5=>
 k (eS.out (x1,(x2,(x3,(x4,(x5,())))))):=by kernel_rfl
theorem eS.ok:eS.Ok:=by
 rintro k ⟨h1,h2,h3,h4,h5⟩
 rw[eS.eq,cY.run (d:=k.1) h1]
 simp only[aa,cY.add,cY.F]
 rw[cY.run (d:=k.2.1) h2]
 simp only[aa,cY.add,cY.F]
 rw[cY.run (d:=k.2.2.1) h3]
 simp only[aa,cY.add,cY.F]
 rw[cY.run (d:=k.2.2.2.1) h4]
 simp only[aa,cY.add,cY.F]
 rw[cY.run (d:=k.2.2.2.2.1) h5]
 rfl
noncomputable def eS.E:=Entry.cD [some nR] eS.st eS.aq eS.add eS.F eS.out
noncomputable def eS.call:eS.D→Option eS.X:=bC eS.E eS.st
theorem eS.run:bD eS.call eS.aq eS.add eS.F:=cw (cv [.d nR] fun _=>by kernel_rfl)
noncomputable def eS.sg:SG Tryz.prog:=⟨26,aK,eS.E,.fn 0 (by kernel_rfl) eS.ok trivial⟩
def yh(o:Cq):Int:=1+o.2.2.2.1%2305843009213688668
theorem FW{o:Cq}:0 < yh o∧yh o < 2305843009213688669:=by
 unfold yh;omega
abbrev eY.D:=Cq
def eY.st:eY.D→SA:=fun o=>([.d Fl o],[])
abbrev eY.Y:=Int
abbrev eY.X:=Int
def eY.out:eY.X→aT:=fun x=>⟨.d tu x,[],[]⟩
def eY.add:eY.D→eY.Y→eY.X:=fun o y=>y
def eY.aq:eY.D→Prop:=fun o=>fo o.2.2.2.1
def eY.F:eY.D→eY.Y:=fun o=>yh o
noncomputable def eY.G:dU:=eZ (P:=Tryz.prog) []
noncomputable def eY.an:eu:= {}
noncomputable def eY.A:= @cq Tryz.prog eY.G eY.an 0 Tryz.f29 _ eY.st
abbrev eY.Ok:=cr @eY.A eY.aq eY.add eY.F eY.out
theorem eY.eq{R:Type}(o:Cq)(k:aT→Option R):eY.A o k=
 k (eY.out (bo .u64 (1:Int) (fI o.2.2.2.1 (2305843009213688668:Int)))):=by kernel_rfl
theorem eY.ok:eY.Ok:=by
 intro o ho
 have:=ho.1
 rw[eY.eq,gS ho.1]
 have e:bo .u64 1 (o.2.2.2.1%2305843009213688668)=yh o:=by
  unfold yh
  rw[iX,Int.emod_eq_of_lt (by omega) (by omega)]
 rw[e]
 rfl
noncomputable def eY.E:=Entry.cD [some Fl] eY.st eY.aq eY.add eY.F eY.out
noncomputable def eY.call:eY.D→Option eY.X:=bC eY.E eY.st
theorem eY.run:bD eY.call eY.aq eY.add eY.F:=cw (cv [.d Fl] fun _=>by kernel_rfl)
noncomputable def eY.sg:SG Tryz.prog:=⟨29,aK,eY.E,.fn 0 (by kernel_rfl) eY.ok trivial⟩
abbrev aB.L0.D:=tc×Int×fF×(List lC)×Int×(List Int)×(Int×Unit)×(List lC)×fF
def aB.L0.st:aB.L0.D→AS:=fun(p_2,i,n2,n3,n4,n4_2,n4_3,n5,n6)=>⟨([.undef,.fj EY p_2,.ptr (.new 2 0) 0 [] 0,.ptr (.new 3 0) 0 [] 0,.ptr (.new 4 0) 0 [] 0,.ptr (.new 5 0) 0 [] 0,.ptr (.new 6 0) 0 [] 0,.d ti i]++bw 130 []),[],([[],[],[.obj 0 false (.d iu n2)],[.obj 0 false (.d (.arr 2 nR) n3)],[.obj 0 false (.pr (.d ti n4) (.pr (.d (.arr 2 ti) n4_2) (.pr (.dQ) (.d (.pair ti .unit) n4_3))))],[.obj 0 false (.d (.arr 2 nR) n5)],[.obj 0 false (.d iu n6)]]++cC 131 [])⟩
abbrev aB.L0.Y0:=fF
abbrev aB.L0.X0:=(tc×fF×(List lC)×Int×(List Int)×(Int×Unit)×(List lC))×(fF)
def aB.L0.bK:aB.L0.X0→Exit×AS:=fun x=>(.exit 0,⟨([.undef,.fj EY x.1.1,.ptr (.new 2 0) 0 [] 0,.ptr (.new 3 0) 0 [] 0,.ptr (.new 4 0) 0 [] 0,.ptr (.new 5 0) 0 [] 0,.ptr (.new 6 0) 0 [] 0]++bw 131 []),[],([[],[],[.obj 0 false (.d iu x.1.2.1)],[.obj 0 false (.d (.arr 2 nR) x.1.2.2.1)],[.obj 0 false (.pr (.d ti x.1.2.2.2.1) (.pr (.d (.arr 2 ti) x.1.2.2.2.2.1) (.pr (.dQ) (.d (.pair ti .unit) x.1.2.2.2.2.2.1))))],[.obj 0 false (.d (.arr 2 nR) x.1.2.2.2.2.2.2)],[.obj 0 false (.d iu x.2)]]++cC 131 [])⟩)
abbrev aB.L0.X:=aB.L0.X0
abbrev aB.L0.Y:=aB.L0.Y0
def aB.L0.out:aB.L0.X→Out (Exit×AS):=fun x=> .ok (aB.L0.bK x)
def aB.L0.add:aB.L0.D→aB.L0.Y→aB.L0.X:=fun(p_2,i,n2,n3,n4,n4_2,n4_3,n5,n6) y=>((p_2,n2,n3,n4,n4_2,n4_3,n5),y)
abbrev aB.L1.D:=tc×Int×fF×(List lC)×Int×(List Int)×(Int×Unit)×(List lC)×fF×fL
def aB.L1.st:aB.L1.D→AS:=fun(p_3,i_2,n2_2,n3_2,n4_4,n4_5,n4_6,n5_2,n6_2,n8)=>⟨([.undef,.fj EY p_3,.ptr (.new 2 0) 0 [] 0,.ptr (.new 3 0) 0 [] 0,.ptr (.new 4 0) 0 [] 0,.ptr (.new 5 0) 0 [] 0,.ptr (.new 6 0) 0 [] 0,.undef,.ptr (.new 8 0) 0 [] 0,.undef,.d ti i_2]++bw 127 []),[],([[],[],[.obj 0 false (.d iu n2_2)],[.obj 0 false (.d (.arr 2 nR) n3_2)],[.obj 0 false (.pr (.d ti n4_4) (.pr (.d (.arr 2 ti) n4_5) (.pr (.dQ) (.d (.pair ti .unit) n4_6))))],[.obj 0 false (.d (.arr 2 nR) n5_2)],[.obj 0 false (.d iu n6_2)],[],[.obj 0 false (.d hZ n8)]]++cC 129 [])⟩
abbrev aB.L1.Y0:=fL
abbrev aB.L1.X0:=(fF×(List lC)×Int×(List Int)×(Int×Unit)×(List lC)×fF)×(fL)
def aB.L1.bK:aB.L1.X0→Exit×AS:=fun x=>(.exit 2,⟨([.undef,.undef,.ptr (.new 2 0) 0 [] 0,.ptr (.new 3 0) 0 [] 0,.ptr (.new 4 0) 0 [] 0,.ptr (.new 5 0) 0 [] 0,.ptr (.new 6 0) 0 [] 0,.undef,.ptr (.new 8 0) 0 [] 0]++bw 129 []),[],([[],[],[.obj 0 false (.d iu x.1.1)],[.obj 0 false (.d (.arr 2 nR) x.1.2.1)],[.obj 0 false (.pr (.d ti x.1.2.2.1) (.pr (.d (.arr 2 ti) x.1.2.2.2.1) (.pr (.dQ) (.d (.pair ti .unit) x.1.2.2.2.2.1))))],[.obj 0 false (.d (.arr 2 nR) x.1.2.2.2.2.2.1)],[.obj 0 false (.d iu x.1.2.2.2.2.2.2)],[],[.obj 0 false (.d hZ x.2)]]++cC 129 [])⟩)
abbrev aB.L1.X:=aB.L1.X0
abbrev aB.L1.Y:=aB.L1.Y0
def aB.L1.out:aB.L1.X→Out (Exit×AS):=fun x=> .ok (aB.L1.bK x)
def aB.L1.add:aB.L1.D→aB.L1.Y→aB.L1.X:=fun(p_3,i_2,n2_2,n3_2,n4_4,n4_5,n4_6,n5_2,n6_2,n8) y=>((n2_2,n3_2,n4_4,n4_5,n4_6,n5_2,n6_2),y)
abbrev aB.D:=tc
def aB.st:aB.D→SA:=fun p=>([.d EY p],[])
abbrev aB.Y:=fF×(List lC)×fL
abbrev aB.X:=fF×(List lC)×fL
def aB.out:aB.X→aT:=fun x=>⟨.cons (.d iu x.1) (.cons (.d (.arr 2 nR) x.2.1) (.cons (.d hZ x.2.2) (.nil))),[],[]⟩
def aB.add:aB.D→aB.Y→aB.X:=fun p y=>y
def IG(o:Cq):Prop:=(0≤o.1∧o.1 < 256)∧(0≤o.2.1∧o.2.1 < 65536)∧(0≤o.2.2.1∧o.2.2.1 < 65536)∧fo o.2.2.2.1
structure Fi(p:tc):Prop where
 len:p.1.length=2
 s0:(nth tH p.1 0).length=32
 s1:(nth tH p.1 1).length=32
 yH:0≤p.2.1∧p.2.1 < 4294967296
 own:0≤p.2.2.1∧p.2.2.1 < 4294967296
 bp:0≤p.2.2.2.1∧p.2.2.2.1 < 256
 op:0≤p.2.2.2.2.1∧p.2.2.2.2.1 < 256
 IS:∀o∈p.2.2.2.2.2.1,IG o
 room:p.2.2.2.2.2.1.length≤9223372036854775807
 no:0≤p.2.2.2.2.2.2.1∧p.2.2.2.2.2.2.1 < 65536
def A7(i:Nat)(o:Cq):fG:=(o.1%2,((i:Int)+1,(1+o.2.1,(gu (yh o),(1+o.2.2.1,())))))
def vB(ch:fF)(s:fL)(i:Nat)(o:Cq):fL:=if(tD ch s (A7 i o)).2=0 then(tD ch s (A7 i o)).1 else s
def mZ(ch:fF):fL→Nat→List Cq→fL
 |s,_,[]=>s
 |s,i,o::l=>if i < 20 then mZ ch (vB ch s i o) (i+1) l else s
def qg(p:tc):List lC:=[uM (nth tH p.1 0),uM (nth tH p.1 1)]
def vR(p:tc):fF:=pY (20000+p.2.1) (oS (uM (nth tH p.1 0))) (oS (uM (nth tH p.1 1))) (p.2.2.2.2.1%2)
def oE(p:tc):List Int:=[p.2.2.1%(20000+p.2.1+1),20000+p.2.1 - p.2.2.1%(20000+p.2.1+1)]
def Bi(p:tc)(l:List Int):fL:=(p.2.2.2.2.2.2.1,(l,(([]:List fG),(p.2.2.2.1%8,()))))
def Dg(p:tc):fL:=if pv (vR p) (Bi p (oE p))=true then Bi p (oE p) else Bi p (((oE p).set (p.2.2.2.2.1%2).toNat (20000+p.2.1)).set (1 - p.2.2.2.2.1%2).toNat 0)
def Fk(p:tc):fL:=mZ (vR p) (Dg p) 0 p.2.2.2.2.2.1
theorem BJ{p:tc}(h:Fi p):jn (vR p):=by
 have:=h.yH
 have:=h.op
 exact⟨_,_,_,_,rfl,by omega,by omega,BE _,BE _,by omega⟩
theorem re:∀(c:fG) (l:List fG) (x:fG),x∈qy c l↔x=c∨x∈l
 |c,[],x=>by simp[qy,qz,tI]
 |c,y::l,x=>by
  rw[pK]
  split
  ·simp
  ·rw[List.mem_cons,re c l x,List.mem_cons]
   constructor
   ·rintro(h | h | h) <;> simp[h]
   ·rintro(h | h | h) <;> simp[h]
theorem Bz{ch:fF}{s:fL}{c:fG}(h:(tD ch s c).2=0):(tD ch s c).1=hJ s c∧qO ch s∧F5 c∧s.2.2.1.any (BW c.1 c.2.1)=false∧s.2.2.1.length≠16∧
  fC (im (1 - c.1) s.2.2.1)+c.2.2.1≤1125899906842624∧0≤nth ti (hJ s c).2.1 c.1.toNat∧tG (hJ s c).2.2.2.1 (hJ s c).2.2.1.length+660≤nth ti (hJ s c).2.1 ch.2.2.2.2.1.toNat:=by
 unfold tD at h ⊢
 split at h
 ·next e=>
  rw[if_pos e]
  split at h
  ·exact absurd h (by decide)
  ·next e1=>
   rw[if_neg e1]
   split at h
   ·exact absurd h (by decide)
   ·next e2=>
    rw[if_neg e2]
    split at h
    ·exact absurd h (by decide)
    ·next e3=>
     rw[if_neg e3]
     split at h
     ·exact absurd h (by decide)
     ·next e4=>
      rw[if_neg e4]
      split at h
      ·exact absurd h (by decide)
      ·next e5=>
       rw[if_neg e5]
       split at h
       ·exact absurd h (by decide)
       ·next e6=>
        rw[if_neg e6]
        have e':=Bool.and_eq_true_iff.1 e
        exact⟨rfl,lR.1 e'.1,mi.1 e'.2,by simpa using e1,e2,by omega,Int.not_lt.1 e4,Int.not_lt.1 e5⟩
 ·exact absurd h (by decide)
theorem Bo{ch:fF}{s:fL}{i:Nat}{o:Cq}(h:nG s):nG (vB ch s i o):=by
 unfold vB
 split
 ·next e=>
  obtain⟨e1,hs,_⟩:=Bz e
  rw[e1]
  refine⟨fun c hc=> ?_,?_,?_⟩
  ·have hc:c∈qy (A7 i o) s.2.2.1:=hc
   rcases(re _ _ _).1 hc with rfl | hc
   ·exact qW _
   ·exact h.1 c hc
  ·show(qy _ _).length≤1000
   rw[uK]
   have:=hs.len
   omega
  ·show(List.set _ _ _).length=2
   rw[List.length_set]
   exact h.2.2
 ·exact h
theorem Ek{ch:fF}:∀(l:List Cq) (s:fL) (i:Nat),nG s→nG (mZ ch s i l)
 |[],_,_,h=>h
 |o::l,s,i,h=>by
  rw[mZ]
  split
  ·exact Ek l _ _ (Bo h)
  ·exact h
theorem EP(p:tc)(l:List Int)(h:l.length=2):nG (Bi p l):=⟨fun c hc=>(by cases hc),Nat.zero_le _,h⟩
theorem Cd(p:tc):nG (Dg p):=by
 unfold Dg
 split
 ·exact EP p _ rfl
 ·exact EP p _ (by rw[List.length_set,List.length_set];rfl)
theorem Gx(p:tc):nG (Fk p):=Ek _ _ _ (Cd p)
def tz(i:Nat)(ks:List lC)(ch:fF):fF:=(ch.1,(ch.2.1,(ch.2.2.1.set i (oS (nth nR ks i)),(ch.2.2.2.1.set i (te (5+i)),ch.2.2.2.2))))
def aB.L0.aq:aB.L0.D→Prop:=fun(p,i,z1,z2,z3,z4,z5,ks,ch)=>ks.length=2∧(∀k∈ks,yw k)∧ch.2.2.1.length=2∧ch.2.2.2.1.length=2∧(i=0∨i=1∨i=2)
def aB.L0.F:aB.L0.D→aB.L0.Y:=fun(p,i,z1,z2,z3,z4,z5,ks,ch)=>if i=0 then tz 1 ks (tz 0 ks ch) else if i=1 then tz 1 ks ch else ch
def aB.L1.aq:aB.L1.D→Prop:=fun(p,i,z1,z2,z3,z4,z5,ks,ch,s)=>jn ch∧nG s∧(∀o∈p.2.2.2.2.2.1,IG o)∧p.2.2.2.2.2.1.length≤9223372036854775807∧∃k:Nat,k≤p.2.2.2.2.2.1.length∧i=k
def aB.L1.F:aB.L1.D→aB.L1.Y:=fun(p,i,z1,z2,z3,z4,z5,ks,ch,s)=>mZ ch s i.toNat (p.2.2.2.2.2.1.drop i.toNat)
def aB.aq:aB.D→Prop:=fun p=>Fi p
def aB.F:aB.D→aB.Y:=fun p=>(vR p,qg p,Fk p)
noncomputable def aB.G:dU:=eZ (P:=Tryz.prog) [eC.sg,eS.sg,aF.sg,eY.sg,dk.sg,dV.sg]
noncomputable def aB.L0.E:=cf.cD aB.L0.st aB.L0.aq aB.L0.add aB.L0.F aB.L0.out
noncomputable def aB.L0.call:aB.L0.D→Option aB.L0.X:=dL aB.L0.E aB.L0.st
noncomputable def aB.L1.E:=cf.cD aB.L1.st aB.L1.aq aB.L1.add aB.L1.F aB.L1.out
noncomputable def aB.L1.call:aB.L1.D→Option aB.L1.X:=dL aB.L1.E aB.L1.st
noncomputable def aB.an:eu:= {loops:=ki [(4,{bu:=[1,2,3,4,5,6,7],sites:=[2,3,4,5,6]}),(16,{bu:=[1,2,3,4,5,6,8,10],sites:=[2,3,4,5,6,8],yV:=[⟨8,[.arr],hZ⟩]})],outs:=kh [(4,{bu:=[1,2,3,4,5,6],sites:=[2,3,4,5,6]},{bu:=[2,3,4]}),(16,{bu:=[2,3,4,5,6,8],sites:=[2,3,4,5,6,8]},{bu:=[2,3,4]})],gq:=lv [(4,aB.L0.E),(16,aB.L1.E)]}
noncomputable def aB.A:= @cq Tryz.prog aB.G aB.an 0 Tryz.f8 _ aB.st
abbrev aB.Ok:=cr @aB.A aB.aq aB.add aB.F aB.out
noncomputable def aB.L0.R:= @cM Tryz.prog aB.G aB.an 0 Tryz.f8 0 _ aB.L0.st
abbrev aB.L0.Ok:=fk Tryz.prog aB.G aB.an 0 Tryz.f8 0 aB.L0.st aB.L0.aq aB.L0.add aB.L0.F aB.L0.out
noncomputable def aB.L1.R:= @cM Tryz.prog aB.G aB.an 0 Tryz.f8 1 _ aB.L1.st
abbrev aB.L1.Ok:=fk Tryz.prog aB.G aB.an 0 Tryz.f8 1 aB.L1.st aB.L1.aq aB.L1.add aB.L1.F aB.L1.out
theorem aB.L0.run:bD aB.L0.call aB.L0.aq aB.L0.add aB.L0.F:=fy (fx [.d EY,.d ti,.d iu,.d (.slice nR),.d ti,.d (.slice ti),.d (.pair ti .unit),.d (.slice nR),.d iu] fun _=>by kernel_rfl)
theorem aB.L0.aE:fY @aB.L0.R aB.L0.st aB.L0.aq aB.L0.add aB.L0.F aB.L0.bK aB.L0.Ok:=gj
theorem aB.L0.step{R:Type}(p_2:tc)(i:Int)(n2:fF)(n3:(List lC))(n4:Int)(n4_2:(List Int))(n4_3:(Int×Unit))(n5:(List lC))(n6:fF)(kn:AS→Option R)(kx:Exit→AS→Option R):aB.L0.R (p_2,i,n2,n3,n4,n4_2,n4_3,n5,n6) kn kx=
  aD ((gM i (2:Int))) (
   aD (dZ i (2:Int)) (
   aD (decide ((Int.toNat i) < (List.length n5))) (
   aD (decide ((((Int.toNat i)*37)+0)=(0+((Int.toNat i)*37)))) (
   ab (eS.call (nth nR n5 (Int.toNat i))) fun x1=>
   aD (dZ i (2:Int)) (
   aD (decide ((Int.toNat i) < (List.length n6.2.2.1))) (
   aD (decide ((33+(1+(((Int.toNat i)*5)+0)))=(34+((Int.toNat i)*5)))) (
   aD (decide ((Int.toNat i) < (List.length n6.2.2.1))) (
   aD (dZ i (2:Int)) (
   aD (decide ((Int.toNat i) < (List.length n6.2.2.2.1))) (
   aD (decide ((33+(1+(10+(((Int.toNat i)*6)+0))))=(44+((Int.toNat i)*6)))) (
   aD (decide ((Int.toNat i) < (List.length n6.2.2.2.1))) (
   kn (aB.L0.st (p_2,(bo .i64 i (1:Int)),n2,n3,n4,n4_2,n4_3,n5,(n6.1,(n6.2.1,((List.set n6.2.2.1 (Int.toNat i) x1),((List.set n6.2.2.2.1 (Int.toNat i) ((100:Int),((200:Int),((bo .i64 (5:Int) i),((16:Int),((1:Int),((1125899906842624:Int),()))))))),n6.2.2.2.2))))))) none) none) none) none) none) none) none) none) none) none) none) (
   kx (aB.L0.bK ((p_2,n2,n3,n4,n4_2,n4_3,n5),n6)).1 (aB.L0.bK ((p_2,n2,n3,n4,n4_2,n4_3,n5),n6)).2):=by kernel_rfl
theorem aB.L1.run:bD aB.L1.call aB.L1.aq aB.L1.add aB.L1.F:=fy (fx [.d EY,.d ti,.d iu,.d (.slice nR),.d ti,.d (.slice ti),.d (.pair ti .unit),.d (.slice nR),.d iu,.d hZ] fun _=>by kernel_rfl)
theorem aB.L1.aE:fY @aB.L1.R aB.L1.st aB.L1.aq aB.L1.add aB.L1.F aB.L1.bK aB.L1.Ok:=gj
theorem aB.L1.step{R:Type}(p_3:tc)(i_2:Int)(n2_2:fF)(n3_2:(List lC))(n4_4:Int)(n4_5:(List Int))(n4_6:(Int×Unit))(n5_2:(List lC))(n6_2:fF)(n8:fL)(kn:AS→Option R)(kx:Exit→AS→Option R):aB.L1.R (p_3,i_2,n2_2,n3_2,n4_4,n4_5,n4_6,n5_2,n6_2,n8) kn kx=
  aD ((gM i_2 (((List.length p_3.2.2.2.2.2.1):Nat):Int))) (
   aD ((gM i_2 (20:Int))) (
    aD (dZ i_2 (((List.length p_3.2.2.2.2.2.1):Nat):Int)) (
    ab (eY.call (nth Fl p_3.2.2.2.2.2.1 (Int.toNat i_2))) fun x1=>
    ab (dk.call x1) fun x2=>
    ab (dV.call (n6_2,n8,((dG .i64 (fI (nth Fl p_3.2.2.2.2.2.1 (Int.toNat i_2)).1 (2:Int))),((bo .i64 i_2 (1:Int)),((bo .i64 (1:Int) (dG .i64 (nth Fl p_3.2.2.2.2.2.1 (Int.toNat i_2)).2.1)),(x2,((bo .i64 (1:Int) (dG .i64 (nth Fl p_3.2.2.2.2.2.1 (Int.toNat i_2)).2.2.1)),()))))))) fun x3=>
    aD ((jO x3.2 (0:Int))) (
     kn (aB.L1.st (p_3,(bo .i64 i_2 (1:Int)),n2_2,n3_2,n4_4,n4_5,n4_6,n5_2,n6_2,x3.1))) (
     kn (aB.L1.st (p_3,(bo .i64 i_2 (1:Int)),n2_2,n3_2,n4_4,n4_5,n4_6,n5_2,n6_2,n8)))) none) (
    kx (aB.L1.bK ((n2_2,n3_2,n4_4,n4_5,n4_6,n5_2,n6_2),n8)).1 (aB.L1.bK ((n2_2,n3_2,n4_4,n4_5,n4_6,n5_2,n6_2),n8)).2)) (
   kx (aB.L1.bK ((n2_2,n3_2,n4_4,n4_5,n4_6,n5_2,n6_2),n8)).1 (aB.L1.bK ((n2_2,n3_2,n4_4,n4_5,n4_6,n5_2,n6_2),n8)).2):=by kernel_rfl
theorem aB.eq{R:Type}(p:tc)(k:aT→Option R):aB.A p k=
  ab (eC.call (nth tH p.1 0)) fun x1=>
  ab (eC.call (nth tH p.1 1)) fun x2=>
  ab (aB.L0.call (p,(0:Int),(((List.replicate 32 (0:Int)),((0:Int),())),((0:Int),((List.replicate 2 ((0:Int),((0:Int),((0:Int),((0:Int),((0:Int),())))))),((List.replicate 2 ((0:Int),((0:Int),((0:Int),((0:Int),((0:Int),((0:Int),()))))))),((0:Int),()))))),(List.replicate 2 ((0:Int),((0:Int),((0:Int),((0:Int),((0:Int),((List.replicate 32 (0:Int)),()))))))),(0:Int),(List.replicate 2 (0:Int)),((0:Int),()),[x1,x2],(((List.replicate 32 (0:Int)),((0:Int),())),((bo .i64 (20000:Int) (dG .i64 p.2.1)),((List.replicate 2 ((0:Int),((0:Int),((0:Int),((0:Int),((0:Int),())))))),((List.replicate 2 ((0:Int),((0:Int),((0:Int),((0:Int),((0:Int),((0:Int),()))))))),((dG .i64 (fI p.2.2.2.2.1 (2:Int))),()))))))) fun x4=>
  aD (iK (bo .i64 x4.2.2.1 (1:Int))) (
  ab (aF.call (x4.2,((dG .i64 x4.1.1.2.2.2.2.2.2.1),([(fI (dG .i64 x4.1.1.2.2.1) (bo .i64 x4.2.2.1 (1:Int))),(bV .i64 x4.2.2.1 (fI (dG .i64 x4.1.1.2.2.1) (bo .i64 x4.2.2.1 (1:Int))))],(([]:List fG),((dG .i64 (fI x4.1.1.2.2.2.1 (8:Int))),())))))) fun x5=>
  aD ((!x5)) (
   aD (dZ x4.2.2.2.2.2.1 (2:Int)) (
   aD (decide ((Int.toNat x4.2.2.2.2.2.1) < 2)) (
   aD (decide ((1+(((Int.toNat x4.2.2.2.2.2.1)*1)+0))=(1+((Int.toNat x4.2.2.2.2.2.1)*1)))) (
   aD (decide ((Int.toNat x4.2.2.2.2.2.1) < 2)) (
   aD (dZ (bV .i64 (1:Int) x4.2.2.2.2.2.1) (2:Int)) (
   aD (decide ((Int.toNat (bV .i64 (1:Int) x4.2.2.2.2.2.1)) < (List.length (List.set [(fI (dG .i64 x4.1.1.2.2.1) (bo .i64 x4.2.2.1 (1:Int))),(bV .i64 x4.2.2.1 (fI (dG .i64 x4.1.1.2.2.1) (bo .i64 x4.2.2.1 (1:Int))))] (Int.toNat x4.2.2.2.2.2.1) x4.2.2.1)))) (
   aD (decide ((1+(((Int.toNat (bV .i64 (1:Int) x4.2.2.2.2.2.1))*1)+0))=(1+((Int.toNat (bV .i64 (1:Int) x4.2.2.2.2.2.1))*1)))) (
   aD (decide ((Int.toNat (bV .i64 (1:Int) x4.2.2.2.2.2.1)) < (List.length (List.set [(fI (dG .i64 x4.1.1.2.2.1) (bo .i64 x4.2.2.1 (1:Int))),(bV .i64 x4.2.2.1 (fI (dG .i64 x4.1.1.2.2.1) (bo .i64 x4.2.2.1 (1:Int))))] (Int.toNat x4.2.2.2.2.2.1) x4.2.2.1)))) (
   ab (aB.L1.call (x4.1.1,(0:Int),x4.1.2.1,x4.1.2.2.1,x4.1.2.2.2.1,x4.1.2.2.2.2.1,x4.1.2.2.2.2.2.1,x4.1.2.2.2.2.2.2,x4.2,((dG .i64 x4.1.1.2.2.2.2.2.2.1),((List.set (List.set [(fI (dG .i64 x4.1.1.2.2.1) (bo .i64 x4.2.2.1 (1:Int))),(bV .i64 x4.2.2.1 (fI (dG .i64 x4.1.1.2.2.1) (bo .i64 x4.2.2.1 (1:Int))))] (Int.toNat x4.2.2.2.2.2.1) x4.2.2.1) (Int.toNat (bV .i64 (1:Int) x4.2.2.2.2.2.1)) (0:Int)),(([]:List fG),((dG .i64 (fI x4.1.1.2.2.2.1 (8:Int))),())))))) fun x12=>
   k (aB.out (x12.1.2.2.2.2.2.2,x12.1.2.2.2.2.2.1,x12.2))) none) none) none) none) none) none) none) none) (
   ab (aB.L1.call (x4.1.1,(0:Int),x4.1.2.1,x4.1.2.2.1,x4.1.2.2.2.1,x4.1.2.2.2.2.1,x4.1.2.2.2.2.2.1,x4.1.2.2.2.2.2.2,x4.2,((dG .i64 x4.1.1.2.2.2.2.2.2.1),([(fI (dG .i64 x4.1.1.2.2.1) (bo .i64 x4.2.2.1 (1:Int))),(bV .i64 x4.2.2.1 (fI (dG .i64 x4.1.1.2.2.1) (bo .i64 x4.2.2.1 (1:Int))))],(([]:List fG),((dG .i64 (fI x4.1.1.2.2.2.1 (8:Int))),())))))) fun x13=>
   k (aB.out (x13.1.2.2.2.2.2.2,x13.1.2.2.2.2.2.1,x13.2)))) none:=by kernel_rfl
theorem aB.L0.round{p:tc}{z1:fF}{z2:List lC}{z3:Int}{z4:List Int}{z5:Int×Unit}{ks:List lC}{ch:fF}(k:Nat)(hk:k < 2)(h1:ks.length=2)(h2:∀k∈ks,yw k)(h3:ch.2.2.1.length=2)(h4:ch.2.2.2.1.length=2)
  {R:Type} (kn:AS→Option R) (kx:Exit→AS→Option R):aB.L0.R (p,(k:Int),z1,z2,z3,z4,z5,ks,ch) kn kx=kn (aB.L0.st (p,((k+1:Nat):Int),z1,z2,z3,z4,z5,ks,tz k ks ch)):=by
 have hm:yw (nth nR ks k):=by
  rw[dS (t:=nR) (by omega:k < ks.length)]
  exact h2 _ (List.getElem_mem _)
 have i1:k < ks.length:=by omega
 have i3:k < ch.2.2.1.length:=by omega
 have i5:k < ch.2.2.2.1.length:=by omega
 rw[aB.L0.step,bB (by omega),bz (by omega) (by omega),Int.toNat_natCast]
 rw[aL i1,aL (show k*37+0=0+k*37 by omega),aL i3,aL (show 33+(1+(k*5+0))=34+k*5 by omega),aL i5,aL (show 33+(1+(10+(k*6+0)))=44+k*6 by omega),N.mq (by omega),eS.run (d:=nth nR ks k) hm]
 simp only[ah,aa,eS.add,eS.F]
 rw[cR (by omega) (by omega)]
 rfl
theorem pQ{k:Nat}{ks:List lC}{ch:fF}(h3:ch.2.2.1.length=2)(h4:ch.2.2.2.1.length=2):(tz k ks ch).2.2.1.length=2∧(tz k ks ch).2.2.2.1.length=2:=
 ⟨by show(List.set _ _ _).length=2;rw[List.length_set];exact h3,by show(List.set _ _ _).length=2;rw[List.length_set];exact h4⟩
theorem aB.L0.ok:aB.L0.Ok:=by
 refine aB.L0.aE (fun(_,i,_)=>(2 - i).toNat) ?_
 rintro⟨p,i,z1,z2,z3,z4,z5,ks,ch⟩ ⟨h1,h2,h3,h4,hi⟩
 rcases hi with rfl | rfl | rfl
 ·left
  refine⟨(p,1,z1,z2,z3,z4,z5,ks,tz 0 ks ch),⟨h1,h2,(pQ h3 h4).1,(pQ h3 h4).2,.inr (.inl rfl)⟩,by show(2 - (1:Int)).toNat < (2 - (0:Int)).toNat;decide,?_,fun kn kx=>aB.L0.round 0 (by omega) h1 h2 h3 h4 kn kx⟩
  simp only[aB.L0.add,aB.L0.F]
  rfl
 ·left
  refine⟨(p,2,z1,z2,z3,z4,z5,ks,tz 1 ks ch),⟨h1,h2,(pQ h3 h4).1,(pQ h3 h4).2,.inr (.inr rfl)⟩,by show(2 - (2:Int)).toNat < (2 - (1:Int)).toNat;decide,?_,fun kn kx=>aB.L0.round 1 (by omega) h1 h2 h3 h4 kn kx⟩
  simp only[aB.L0.add,aB.L0.F]
  rfl
 ·right
  intro R kn kx
  rw[aB.L0.step,bk (by omega),ae]
  simp only[aB.L0.add,aB.L0.F]
  rfl
theorem aB.L1.ok:aB.L1.Ok:=by
 refine aB.L1.aE (fun(p,i,_)=>p.2.2.2.2.2.1.length - i.toNat) ?_
 rintro⟨p,i,z1,z2,z3,z4,z5,ks,ch,s⟩ ⟨hch,hu,ho,hl,k,hk,rfl⟩
 have hk:k≤p.2.2.2.2.2.1.length:=hk
 have hl:p.2.2.2.2.2.1.length≤9223372036854775807:=hl
 have ho:∀o∈p.2.2.2.2.2.1,IG o:=ho
 by_cases h:k < p.2.2.2.2.2.1.length
 ·have n1:nth Fl p.2.2.2.2.2.1 k=p.2.2.2.2.2.1[k]:=dS (t:=Fl) h
  have hd:p.2.2.2.2.2.1.drop k=p.2.2.2.2.2.1[k]::p.2.2.2.2.2.1.drop (k+1):=List.drop_eq_getElem_cons h
  by_cases h20:k < 20
  ·left
   obtain⟨g1,g2,g3,g4⟩:=ho _ (List.getElem_mem h)
   refine⟨(p,((k+1:Nat):Int),z1,z2,z3,z4,z5,ks,ch,vB ch s k p.2.2.2.2.2.1[k]),⟨hch,Bo hu,ho,hl,k+1,by omega,rfl⟩,by simp only[Int.toNat_natCast];omega,?_,fun kn kx=> ?_⟩
   ·simp only[aB.L1.add,aB.L1.F,Int.toNat_natCast,hd,mZ,h20,if_true]
   ·rw[aB.L1.step,bB (by omega),ah,bB (by omega),ah,bz (by omega) (by omega),ah,Int.toNat_natCast,n1,eY.run (d:=p.2.2.2.2.2.1[k]) g4]
    simp only[aa,eY.add,eY.F]
    have:=FW (o:=p.2.2.2.2.2.1[k])
    rw[dk.run (d:=yh p.2.2.2.2.2.1[k]) ⟨by omega,by omega⟩]
    simp only[aa,dk.add,dk.F]
    rw[gS g1.1,km (by omega) (by omega),km (by omega) (by omega),km (by omega) (by omega),N.mq (by omega),cR (by omega) (by omega),cR (by omega) (by omega)]
    rw[show(p.2.2.2.2.2.1[k].1%2,(((k+1:Nat):Int),(1+p.2.2.2.2.2.1[k].2.1,(gu (yh p.2.2.2.2.2.1[k]),(1+p.2.2.2.2.2.1[k].2.2.1,())))))=A7 k p.2.2.2.2.2.1[k] from rfl]
    rw[dV.run (d:=(ch,s,A7 k p.2.2.2.2.2.1[k])) ⟨hch,hu,qW _⟩]
    simp only[aa,dV.add,dV.F,vB]
    by_cases e:(tD ch s (A7 k p.2.2.2.2.2.1[k])).2=0
    ·rw[fg e,ah,if_pos e]
    ·rw[eo e,ae,if_neg e]
  ·right
   intro R kn kx
   rw[aB.L1.step,bB (by omega),ah,bk (by omega),ae]
   simp only[aB.L1.add,aB.L1.F,Int.toNat_natCast,hd,mZ,h20,if_false]
 ·right
  obtain rfl:k=p.2.2.2.2.2.1.length:=by omega
  intro R kn kx
  rw[aB.L1.step,bk (by omega),ae]
  simp only[aB.L1.add,aB.L1.F,Int.toNat_natCast,List.drop_length,mZ]
theorem aB.ok:aB.Ok:=by
 rintro p hp
 have hp:Fi p:=hp
 have ha:=hp.yH
 have hw:=hp.own
 have ho:=hp.op
 have hr:=hp.bp
 have hn:=hp.no
 have hch:=BJ hp
 have l1:∀(z1:fF) (z2:List lC) (z3:Int) (z4:List Int) (z5:Int×Unit) (s:fL),nG s→
   aB.L1.call (p,0,z1,z2,z3,z4,z5,qg p,vR p,s)=some ((z1,z2,z3,z4,z5,qg p,vR p),mZ (vR p) s 0 p.2.2.2.2.2.1):=fun z1 z2 z3 z4 z5 s hs=>
  aB.L1.run (d:=(p,0,z1,z2,z3,z4,z5,qg p,vR p,s)) ⟨hch,hs,hp.IS,hp.room,0,Nat.zero_le _,rfl⟩
 have l0:∀(z1:fF) (z2:List lC) (z3:Int) (z4:List Int) (z5:Int×Unit),aB.L0.call (p,0,z1,z2,z3,z4,z5,qg p,((List.replicate 32 0,(0,())),(20000+p.2.1,(List.replicate 2 ((0:Int),((0:Int),((0:Int),((0:Int),((0:Int),()))))),(List.replicate 2 ((0:Int),((0:Int),((0:Int),((0:Int),((0:Int),((0:Int),())))))),(p.2.2.2.2.1%2,()))))))=some ((p,z1,z2,z3,z4,z5,qg p),vR p):=fun z1 z2 z3 z4 z5=>
  aB.L0.run (d:=(p,0,z1,z2,z3,z4,z5,qg p,((List.replicate 32 0,(0,())),(20000+p.2.1,(List.replicate 2 ((0:Int),((0:Int),((0:Int),((0:Int),((0:Int),()))))),(List.replicate 2 ((0:Int),((0:Int),((0:Int),((0:Int),((0:Int),((0:Int),())))))),(p.2.2.2.2.1%2,()))))))) ⟨rfl,fun k hk=>by
   rcases List.mem_cons.1 hk with rfl | hk
   ·exact xP _
   ·rw[List.mem_singleton]at hk
    subst hk
    exact xP _,rfl,rfl,.inl rfl⟩
 rw[aB.eq,eC.run (d:=nth tH p.1 0) hp.s0]
 simp only[aa,eC.add,eC.F]
 rw[eC.run (d:=nth tH p.1 1) hp.s1]
 simp only[aa,eC.add,eC.F]
 rw[gS ho.1,km (x:=p.2.1) (by omega) (by omega),km (x:=p.2.2.2.2.1%2) (by omega) (by omega),cR (x:=20000) (by omega) (by omega)]
 refine(congrArg (fun z=>ab z _) (l0 _ _ _ _ _)).trans ?_
 have e1:(vR p).2.1=20000+p.2.1:=rfl
 have e2:(vR p).2.2.2.2.1=p.2.2.2.2.1%2:=rfl
 have hm:0≤p.2.2.1%(20000+p.2.1+1)∧p.2.2.1%(20000+p.2.1+1) < 20000+p.2.1+1:=⟨Int.emod_nonneg _ (by omega),Int.emod_lt_of_pos _ (by omega)⟩
 simp only[aa,e1,e2]
 rw[cR (x:=20000+p.2.1) (by omega) (by omega),gS hr.1,km (x:=p.2.2.1) (by omega) (by omega),gS hw.1,km (x:=p.2.2.2.2.2.2.1) (by omega) (by omega),km (x:=p.2.2.2.1%8) (by omega) (by omega),fi (x:=20000+p.2.1) (by omega) (by omega),fi (x:=1) (by omega) (by omega)]
 rw[show iK (20000+p.2.1+1)=true by unfold iK;rw[bN (by omega)];rfl,ah]
 rw[show((p.2.2.2.2.2.2.1,([p.2.2.1%(20000+p.2.1+1),20000+p.2.1 - p.2.2.1%(20000+p.2.1+1)],(([]:List fG),(p.2.2.2.1%8,())))):fL)=Bi p (oE p) from rfl]
 rw[aF.run (d:=(vR p,Bi p (oE p))) ⟨hch,EP p _ rfl⟩]
 simp only[aa,aF.add,aF.F]
 rw[show [p.2.2.1%(20000+p.2.1+1),20000+p.2.1 - p.2.2.1%(20000+p.2.1+1)]=oE p from rfl]
 cases hok:pv (vR p) (Bi p (oE p))
 ·have e3:Dg p=Bi p (((oE p).set (p.2.2.2.2.1%2).toNat (20000+p.2.1)).set (1 - p.2.2.2.2.1%2).toNat 0):=by
   unfold Dg
   rw[hok]
   rfl
  have i1:dZ (p.2.2.2.2.1%2) 2=true:=bz (by omega) (by omega)
  have i2:(p.2.2.2.2.1%2).toNat < 2:=by omega
  have i3:1+((p.2.2.2.2.1%2).toNat*1+0)=1+(p.2.2.2.2.1%2).toNat*1:=by omega
  have j1:dZ (1 - p.2.2.2.2.1%2) 2=true:=bz (by omega) (by omega)
  have j2:(1 - p.2.2.2.2.1%2).toNat < ((oE p).set (p.2.2.2.2.1%2).toNat (20000+p.2.1)).length:=by
   rw[List.length_set];show _ < 2;omega
  have j3:1+((1 - p.2.2.2.2.1%2).toNat*1+0)=1+(1 - p.2.2.2.2.1%2).toNat*1:=by omega
  rw[Bool.not_false]
  simp only[i1,aL i2,aL i3,j1,aL j2,aL j3,ah]
  have lm:=fun z1 z2 z3 z4 z5=>l1 z1 z2 z3 z4 z5 (Dg p) (Cd p)
  rw[e3]at lm
  refine(congrArg (fun z=>ab z _) (lm _ _ _ _ _)).trans ?_
  simp only[aa,aB.add,aB.F,Fk,e3]
 ·have e3:Dg p=Bi p (oE p):=by
   unfold Dg
   rw[hok]
   rfl
  rw[Bool.not_true,ae]
  have lm:=fun z1 z2 z3 z4 z5=>l1 z1 z2 z3 z4 z5 (Dg p) (Cd p)
  rw[e3]at lm
  refine(congrArg (fun z=>ab z _) (lm _ _ _ _ _)).trans ?_
  simp only[aa,aB.add,aB.F,Fk,e3]
noncomputable def aB.E:=Entry.cD [some EY] aB.st aB.aq aB.add aB.F aB.out
noncomputable def aB.call:aB.D→Option aB.X:=bC aB.E aB.st
theorem aB.run:bD aB.call aB.aq aB.add aB.F:=cw (cv [.d EY] fun _=>by kernel_rfl)
noncomputable def aB.sg:SG Tryz.prog:=⟨8,aK,aB.E,.fn 2 (by kernel_rfl) aB.ok (And.intro (.cD aB.L0.ok (by kernel_rfl)) (And.intro (.cD aB.L1.ok (by kernel_rfl)) trivial))⟩
end
end Go.Ab
namespace Go.Ab
open Go.Proofs
set_option maxRecDepth 100000
set_option linter.unusedVariables false
set_option linter.unusedSimpArgs false
set_option synthInstance.maxSize 5000
noncomputable section
def FM:ByteArray:=⟨#[109,105,120]⟩
def pZ:ByteArray:=⟨#[114,101,118,111,107,101]⟩
theorem BM:∃f:ByteArray→Int→Int→Int,∀n a b,f n a b=gV (ym n [iA a,iA b]):=⟨_,fun _ _ _=>rfl⟩
def o4:ByteArray→Int→Int→Int:=Classical.choose BM
theorem pH(n:ByteArray)(a b:Int):o4 n a b=gV (ym n [iA a,iA b]):=Classical.choose_spec BM n a b
def mS(s:List Int):Int:=gu (gV s)
def pX(b p:Int):Int:=rU [b,gu (o4 FM p b)]
def tM(b p:Int):Int:=rU [nA b (o4 pZ b p),nA p (o4 pZ p b)]
def oN(b:Int)(s:List Int):Int:=DB (A5 b (o4 pZ (gu b) (mS s))) (A5 (gV s) (o4 pZ (mS s) (gu b)))
theorem yZ(n:ByteArray)(a b:Int):fo (o4 n a b):=by rw[pH];exact o9 _
abbrev dN.D:=Int
def dN.st:dN.D→SA:=fun p=>([.d tu p],[])
abbrev dN.Y:=Bs
abbrev dN.X:=Bs
def dN.out:dN.X→aT:=fun x=>⟨.d tB x,[],[]⟩
def dN.add:dN.D→dN.Y→dN.X:=fun p y=>y
def dN.aq:dN.D→Prop:=fun _=>True
def dN.F:dN.D→dN.Y:=fun n=>iA n
noncomputable def dN.G:dU:=eZ (P:=Tryz.prog) []
noncomputable def dN.an:eu:= {loops:=ki [(3,{bu:=[0,3,5],sites:=[3]})],outs:=kh [(3,{bu:=[3],sites:=[3]},{bu:=[2],sites:=[3]})],res:=[some tB]}
noncomputable def dN.A:= @cq Tryz.prog dN.G dN.an 12 Tryz.f162 _ dN.st
abbrev dN.Ok:=cr @dN.A dN.aq dN.add dN.F dN.out
theorem dN.eq{R:Type}(p:Int)(k:aT→Option R):dN.A p k=
 k (dN.out [(dG .u8 (bW .u64 p (56:Int))),(dG .u8 (bW .u64 p (48:Int))),(dG .u8 (bW .u64 p (40:Int))),(dG .u8 (bW .u64 p (32:Int))),(dG .u8 (bW .u64 p (24:Int))),(dG .u8 (bW .u64 p (16:Int))),(dG .u8 (bW .u64 p (8:Int))),(dG .u8 (bW .u64 p (0:Int)))]):=by kernel_rfl
theorem dN.ok:dN.Ok:=by
 intro n _
 rw[dN.eq,uh]
 rfl
noncomputable def dN.E:=Entry.cD [some tu] dN.st dN.aq dN.add dN.F dN.out
noncomputable def dN.call:dN.D→Option dN.X:=bC dN.E dN.st
theorem dN.run:bD dN.call dN.aq dN.add dN.F:=cw (cv [.d tu] fun _=>by kernel_rfl)
noncomputable def dN.sg:SG Tryz.prog:=⟨162,aK,dN.E,.fn 1 (by kernel_rfl) dN.ok (And.intro (.none (by kernel_rfl)) trivial)⟩
abbrev aP.L0.D:=ByteArray×Nat×Bs×Int×Int×(List Bs)
def aP.L0.st:aP.L0.D→AS:=fun(name_2,partsL,t8,t9,t10,n18)=>⟨([.d .str name_2]++bw 4 ([.cT (.new 18 0) 0 [] 0 0 partsL,.undef,.undef,.d tU t8,.d ti t9,.d ti t10]++bw 13 [])),[],(cC 18 ([[.obj 0 false (.vec 135 tB n18)]]++cC 5 []))⟩
abbrev aP.L0.Y0:=Nat×(List Bs)
abbrev aP.L0.X0:=(ByteArray)×(Nat×(List Bs))
def aP.L0.bK:aP.L0.X0→Exit×AS:=fun x=>(.exit 0,⟨([.d .str x.1]++bw 4 ([.cT (.new 18 0) 0 [] 0 0 x.2.1]++bw 18 [])),[],(cC 18 ([[.obj 0 false (.vec 135 tB x.2.2)]]++cC 5 []))⟩)
abbrev aP.L0.X:=aP.L0.X0
abbrev aP.L0.Y:=aP.L0.Y0
def aP.L0.out:aP.L0.X→Out (Exit×AS):=fun x=> .ok (aP.L0.bK x)
def aP.L0.add:aP.L0.D→aP.L0.Y→aP.L0.X:=fun(name_2,partsL,t8,t9,t10,n18) y=>(name_2,y)
abbrev aP.D:=ByteArray×Bs
def aP.st:aP.D→SA:=fun(name,points)=>([.d .str name,.d tU points],[])
abbrev aP.Y:=Int
abbrev aP.X:=Int
def aP.out:aP.X→aT:=fun x=>⟨.d tu x,[],[]⟩
def aP.add:aP.D→aP.Y→aP.X:=fun(name,points) y=>y
def aP.L0.aq:aP.L0.D→Prop:=fun(name,L,ps,m,i,row)=>(ps).length≤1000000∧∃k:Nat,k≤(ps).length∧i=k∧m=(ps).length∧L=(row).length∧(row).length≤1000000+k
def aP.L0.F:aP.L0.D→aP.L0.Y:=fun(name,L,ps,m,i,row)=>(L+(List.drop (Int.toNat i) ps).length,row++(List.drop (Int.toNat i) ps).map iA)
def aP.aq:aP.D→Prop:=fun(name,ps)=>name.size≤100∧ps.length=2
def aP.F:aP.D→aP.Y:=fun(name,ps)=>o4 name (nth tu ps 0) (nth tu ps 1)
noncomputable def aP.G:dU:=eZ (P:=Tryz.prog) [dN.sg,cG.sg,bG.sg]
noncomputable def aP.L0.E:=cf.cD aP.L0.st aP.L0.aq aP.L0.add aP.L0.F aP.L0.out
noncomputable def aP.L0.call:aP.L0.D→Option aP.L0.X:=dL aP.L0.E aP.L0.st
noncomputable def aP.an:eu:= {loops:=ki [(3,{bu:=[0,5,8,9,10],sites:=[18],j6:=[⟨5,[],18,199⟩]})],outs:=kh [(3,{bu:=[0,5],sites:=[18]},{bu:=[4]})],gq:=lv [(3,aP.L0.E)]}
noncomputable def aP.A:= @cq Tryz.prog aP.G aP.an 0 Tryz.f124 _ aP.st
abbrev aP.Ok:=cr @aP.A aP.aq aP.add aP.F aP.out
noncomputable def aP.L0.R:= @cM Tryz.prog aP.G aP.an 0 Tryz.f124 0 _ aP.L0.st
abbrev aP.L0.Ok:=fk Tryz.prog aP.G aP.an 0 Tryz.f124 0 aP.L0.st aP.L0.aq aP.L0.add aP.L0.F aP.L0.out
theorem aP.L0.run:bD aP.L0.call aP.L0.aq aP.L0.add aP.L0.F:=fy (fx [.d .str,.n,.d tU,.d ti,.d ti,.d (.slice tB)] fun _=>by kernel_rfl)
theorem aP.L0.aE:fY @aP.L0.R aP.L0.st aP.L0.aq aP.L0.add aP.L0.F aP.L0.bK aP.L0.Ok:=gj
theorem aP.L0.step{R:Type}(name_2:ByteArray)(partsL:Nat)(t8:Bs)(t9:Int)(t10:Int)(n18:(List Bs))(kn:AS→Option R)(kx:Exit→AS→Option R):aP.L0.R (name_2,partsL,t8,t9,t10,n18) kn kx=
  aD ((gM t10 t9)) (
   aD (dZ t10 (((List.length t8):Nat):Int)) (
   ab (dN.call (nth tu t8 (Int.toNat t10))) fun x1=>
   aD (decide (partsL≤(List.length n18))) (
   aD (dK (partsL+1) 24) (
   kn (aP.L0.st (name_2,(partsL+1),t8,t9,(bo .i64 t10 (1:Int)),((List.take partsL n18)++ [x1])))) none) none) none) (
   kx (aP.L0.bK (name_2,(partsL,n18))).1 (aP.L0.bK (name_2,(partsL,n18))).2):=by kernel_rfl
theorem aP.eq{R:Type}(name:ByteArray)(points:Bs)(k:aT→Option R):aP.A (name,points) k=
 ab (aP.L0.call (name,0,points,(((List.length points):Nat):Int),(0:Int),([]:List Bs))) fun x3=>
 aD (decide (0=0∧(0+x3.2.1)≤(List.length x3.2.2))) (
 ab (cG.call (x3.1,(cut x3.2.2 0 x3.2.1))) fun x4=>
 ab (bG.call x4) fun x5=>
 k (aP.out x5)) none:=by kernel_rfl
theorem aP.L0.ok:aP.L0.Ok:=by
 refine aP.L0.aE (fun(name,L,ps,m,i,row)=>(ps).length - Int.toNat i) ?_
 rintro⟨name,L,ps,m,i,row⟩ ⟨hlen,k,hk,rfl,rfl,rfl,hrow⟩
 have hlen:(ps).length≤1000000:=hlen
 have hk:k≤(ps).length:=hk
 have hrow:(row).length≤1000000+k:=hrow
 by_cases h:k < (ps).length
 ·left
  have n1:nth tu ps k=ps[k]:=dS (t:=tu) h
  have hd:List.drop k ps=ps[k]::List.drop (k+1) ps:=List.drop_eq_getElem_cons h
  refine⟨(name,(row).length+1,ps,((ps).length:Int),((k+1:Nat):Int),row++ [iA ps[k]]),⟨hlen,k+1,by omega,rfl,rfl,by rw[List.length_append];rfl,by rw[List.length_append];show(row).length+1≤_;omega⟩,by simp only[Int.toNat_natCast];omega,?_,fun kn kx=> ?_⟩
  ·simp only[aP.L0.add,aP.L0.F,Int.toNat_natCast,hd,List.map_cons,List.length_cons,List.append_assoc,List.singleton_append]
   rw[show ∀a c:Nat,a+1+c=a+(c+1) from fun a c=>by omega]
  ·rw[aP.L0.step,bB (by omega),bz (show(0:Int)≤(k:Int) by omega) (by omega),Int.toNat_natCast,n1]
   simp only[ah]
   rw[dN.run (d:=ps[k]) trivial]
   simp only[aa,dN.add,dN.F]
   rw[aL (Nat.le_refl _),eR (by omega) (by omega),N.mq (by omega),List.take_length]
   rfl
 ·right
  obtain rfl:k=(ps).length:=by omega
  intro R kn kx
  rw[aP.L0.step,bk (by omega),ae]
  simp only[aP.L0.add,aP.L0.F,Int.toNat_natCast,List.drop_length,List.map_nil,List.append_nil,List.length_nil,Nat.add_zero]
theorem aP.ok:aP.Ok:=by
 rintro⟨name,ps⟩ ⟨hn,h2⟩
 have h2:ps.length=2:=h2
 match ps,h2 with
 |[a,b],_=>
  rw[aP.eq,aP.L0.run (d:=(name,0,[a,b],(([a,b].length:Nat):Int),0,[])) ⟨by show 2≤_;decide,0,Nat.zero_le _,rfl,rfl,rfl,Nat.zero_le _⟩]
  simp only[aa,aP.L0.add,aP.L0.F,Int.toNat_zero,List.drop_zero,List.nil_append,Nat.zero_add,List.map_cons,List.map_nil,List.length_cons,List.length_nil]
  rw[aL ⟨trivial,by decide⟩,ah,show cut [iA a,iA b] 0 (1+1)=[iA a,iA b] from gI (l:=[iA a,iA b]) (n:=1+1) rfl,cG.run (d:=(name,[iA a,iA b])) (vC hn (by rw[cO];omega) (by rw[cO];omega))]
  simp only[aa,cG.add,cG.F]
  rw[bG.run (d:=tag (bA name) [iA a,iA b]) (vA _ _)]
  simp only[aa,bG.add,bG.F,aP.add,aP.F,pH,ym]
  rfl
noncomputable def aP.E:=Entry.cD [some .str,some tU] aP.st aP.aq aP.add aP.F aP.out
noncomputable def aP.call:aP.D→Option aP.X:=bC aP.E aP.st
theorem aP.run:bD aP.call aP.aq aP.add aP.F:=cw (cv [.d .str,.d tU] fun _=>by kernel_rfl)
noncomputable def aP.sg:SG Tryz.prog:=⟨124,aK,aP.E,.fn 1 (by kernel_rfl) aP.ok (And.intro (.cD aP.L0.ok (by kernel_rfl)) trivial)⟩
theorem aP.c{n:ByteArray}(h:n.size≤100)(a b:Int):aP.call (n,[a,b])=some (o4 n a b):=aP.run (d:=(n,[a,b])) ⟨h,rfl⟩
theorem dk.c{k:Int}(h:fo k):dk.call k=some (gu k):=dk.run (d:=k) h
theorem fO.c{a b:Int}(h:fo a)(h2:fo b):fO.call (a,b)=some (rU [a,b]):=fO.run (d:=(a,b)) ⟨h,h2⟩
theorem dw.c{a b:Int}(h:fo a)(h2:fo b):dw.call (a,b)=some (nA a b):=dw.run (d:=(a,b)) ⟨h,h2⟩
theorem fS.c{a b:Int}(h:fo a)(h2:fo b):fS.call (a,b)=some (A5 a b):=fS.run (d:=(a,b)) ⟨h,h2⟩
theorem gd.c{a b:Int}(h:fo a)(h2:fo b):gd.call (a,b)=some (DB a b):=gd.run (d:=(a,b)) ⟨h,h2⟩
theorem bG.c{s:List Int}(h:Sm s):bG.call s=some (gV s):=bG.run (d:=s) h
theorem G8(a b:Int):aP.call ((⟨#[109,105,120]⟩:ByteArray),[a,b])=some (o4 FM a b):=aP.c (n:=FM) (by decide) a b
theorem xO(a b:Int):aP.call ((⟨#[114,101,118,111,107,101]⟩:ByteArray),[a,b])=some (o4 pZ a b):=aP.c (n:=pZ) (by decide) a b
theorem zQ(a b:Int):fo (nA a b):=(Ca _ _).u
abbrev db.D:=lC
def db.st:db.D→SA:=fun kv=>([.d nR kv],[])
abbrev db.Y:=Cp
abbrev db.X:=Cp
def db.out:db.X→aT:=fun x=>⟨.d ma x,[],[]⟩
def db.add:db.D→db.Y→db.X:=fun kv y=>y
def db.aq:db.D→Prop:=fun k=>yw k
def db.F:db.D→db.Y:=fun k=>oS k
noncomputable def db.G:dU:=eZ (P:=Tryz.prog) [dk.sg]
noncomputable def db.an:eu:= {}
noncomputable def db.A:= @cq Tryz.prog db.G db.an 0 Tryz.f13 _ db.st
abbrev db.Ok:=cr @db.A db.aq db.add db.F db.out
theorem db.eq{R:Type}(kv:lC)(k:aT→Option R):db.A kv k=
 ab (dk.call kv.1) fun x1=>
 ab (dk.call kv.2.1) fun x2=>
 ab (dk.call kv.2.2.1) fun x3=>
 ab (dk.call kv.2.2.2.1) fun x4=>
 ab (dk.call kv.2.2.2.2.1) fun x5=>
 k (db.out (x1,(x2,(x3,(x4,(x5,())))))):=by kernel_rfl
theorem db.ok:db.Ok:=by
 rintro k ⟨h1,h2,h3,h4,h5⟩
 rw[db.eq,dk.c h1,aa,dk.c h2,aa,dk.c h3,aa,dk.c h4,aa,dk.c h5,aa]
 rfl
noncomputable def db.E:=Entry.cD [some nR] db.st db.aq db.add db.F db.out
noncomputable def db.call:db.D→Option db.X:=bC db.E db.st
theorem db.run:bD db.call db.aq db.add db.F:=cw (cv [.d nR] fun _=>by kernel_rfl)
noncomputable def db.sg:SG Tryz.prog:=⟨13,aK,db.E,.fn 0 (by kernel_rfl) db.ok trivial⟩
abbrev dD.D:=Bs
def dD.st:dD.D→SA:=fun secret=>([.d tH secret],[])
abbrev dD.Y:=Int
abbrev dD.X:=Int
def dD.out:dD.X→aT:=fun x=>⟨.d tu x,[],[]⟩
def dD.add:dD.D→dD.Y→dD.X:=fun secret y=>y
def dD.aq:dD.D→Prop:=fun s=>Sm s
def dD.F:dD.D→dD.Y:=fun s=>mS s
noncomputable def dD.G:dU:=eZ (P:=Tryz.prog) [bG.sg,dk.sg]
noncomputable def dD.an:eu:= {}
noncomputable def dD.A:= @cq Tryz.prog dD.G dD.an 0 Tryz.f45 _ dD.st
abbrev dD.Ok:=cr @dD.A dD.aq dD.add dD.F dD.out
theorem dD.eq{R:Type}(secret:Bs)(k:aT→Option R):dD.A secret k=
 ab (bG.call secret) fun x1=>
 ab (dk.call x1) fun x2=>
 k (dD.out x2):=by kernel_rfl
theorem dD.ok:dD.Ok:=by
 intro s hs
 rw[dD.eq,bG.c hs,aa,dk.c (o9 s),aa]
 rfl
noncomputable def dD.E:=Entry.cD [some tH] dD.st dD.aq dD.add dD.F dD.out
noncomputable def dD.call:dD.D→Option dD.X:=bC dD.E dD.st
theorem dD.run:bD dD.call dD.aq dD.add dD.F:=cw (cv [.d tB] fun _=>by kernel_rfl)
noncomputable def dD.sg:SG Tryz.prog:=⟨45,aK,dD.E,.fn 0 (by kernel_rfl) dD.ok trivial⟩
theorem dD.c{s:List Int}(h:Sm s):dD.call s=some (mS s):=dD.run (d:=s) h
abbrev fJ.D:=Int×Int
def fJ.st:fJ.D→SA:=fun(base,per)=>([.d tu base,.d tu per],[])
abbrev fJ.Y:=Int
abbrev fJ.X:=Int
def fJ.out:fJ.X→aT:=fun x=>⟨.d tu x,[],[]⟩
def fJ.add:fJ.D→fJ.Y→fJ.X:=fun(base,per) y=>y
def fJ.aq:fJ.D→Prop:=fun(b,_)=>fo b
def fJ.F:fJ.D→fJ.Y:=fun(b,p)=>pX b p
noncomputable def fJ.G:dU:=eZ (P:=Tryz.prog) [aP.sg,dk.sg,fO.sg]
noncomputable def fJ.an:eu:= {}
noncomputable def fJ.A:= @cq Tryz.prog fJ.G fJ.an 0 Tryz.f79 _ fJ.st
abbrev fJ.Ok:=cr @fJ.A fJ.aq fJ.add fJ.F fJ.out
theorem fJ.eq{R:Type}(base:Int)(per:Int)(k:aT→Option R):fJ.A (base,per) k=
 ab (aP.call ((⟨#[109,105,120]⟩:ByteArray),[per,base])) fun x1=>
 ab (dk.call x1) fun x2=>
 ab (fO.call (base,x2)) fun x3=>
 k (fJ.out x3):=by kernel_rfl
theorem fJ.ok:fJ.Ok:=by
 rintro⟨b,p⟩ hb
 rw[fJ.eq,G8,aa,dk.c (yZ FM p b),aa,fO.c hb (qW _),aa]
 have ea:∀d y,fJ.add d y=y:=fun _ _=>rfl
 have eF:fJ.F (b,p)=pX b p:=rfl
 rw[ea,eF]
 unfold pX
 rfl
noncomputable def fJ.E:=Entry.cD [some tu,some tu] fJ.st fJ.aq fJ.add fJ.F fJ.out
noncomputable def fJ.call:fJ.D→Option fJ.X:=bC fJ.E fJ.st
theorem fJ.run:bD fJ.call fJ.aq fJ.add fJ.F:=cw (cv [.d tu,.d tu] fun _=>by kernel_rfl)
noncomputable def fJ.sg:SG Tryz.prog:=⟨79,aK,fJ.E,.fn 0 (by kernel_rfl) fJ.ok trivial⟩
abbrev cE.D:=Int×Int
def cE.st:cE.D→SA:=fun(base,per)=>([.d tu base,.d tu per],[])
abbrev cE.Y:=Int
abbrev cE.X:=Int
def cE.out:cE.X→aT:=fun x=>⟨.d tu x,[],[]⟩
def cE.add:cE.D→cE.Y→cE.X:=fun(base,per) y=>y
def cE.aq:cE.D→Prop:=fun(b,p)=>fo b∧fo p
def cE.F:cE.D→cE.Y:=fun(b,p)=>tM b p
noncomputable def cE.G:dU:=eZ (P:=Tryz.prog) [aP.sg,dw.sg,fO.sg]
noncomputable def cE.an:eu:= {}
noncomputable def cE.A:= @cq Tryz.prog cE.G cE.an 0 Tryz.f78 _ cE.st
abbrev cE.Ok:=cr @cE.A cE.aq cE.add cE.F cE.out
theorem cE.eq{R:Type}(base:Int)(per:Int)(k:aT→Option R):cE.A (base,per) k=
 ab (aP.call ((⟨#[114,101,118,111,107,101]⟩:ByteArray),[base,per])) fun x1=>
 ab (dw.call (base,x1)) fun x2=>
 ab (aP.call ((⟨#[114,101,118,111,107,101]⟩:ByteArray),[per,base])) fun x3=>
 ab (dw.call (per,x3)) fun x4=>
 ab (fO.call (x2,x4)) fun x5=>
 k (cE.out x5):=by kernel_rfl
theorem cE.ok:cE.Ok:=by
 rintro⟨b,p⟩ ⟨hb,hp⟩
 have hb:fo b:=hb
 have hp:fo p:=hp
 have e1:=xO b p
 have e2:=xO p b
 have u1:=yZ pZ b p
 have u2:=yZ pZ p b
 have ea:∀d y,cE.add d y=y:=fun _ _=>rfl
 have eF:cE.F (b,p)=tM b p:=rfl
 rw[ea,eF]
 unfold tM
 generalize o4 pZ b p=x at e1 u1
 generalize o4 pZ p b=y at e2 u2
 have q1:=dw.c hb u1
 have q2:=dw.c hp u2
 have q3:=fO.c (zQ b x) (zQ p y)
 generalize nA b x=v at q1 q3
 generalize nA p y=w at q2 q3
 generalize rU [v,w]=z at q3
 rw[cE.eq,e1,aa,q1,aa,e2,aa,q2,aa,q3,aa]
noncomputable def cE.E:=Entry.cD [some tu,some tu] cE.st cE.aq cE.add cE.F cE.out
noncomputable def cE.call:cE.D→Option cE.X:=bC cE.E cE.st
theorem cE.run:bD cE.call cE.aq cE.add cE.F:=cw (cv [.d tu,.d tu] fun _=>by kernel_rfl)
noncomputable def cE.sg:SG Tryz.prog:=⟨78,aK,cE.E,.fn 0 (by kernel_rfl) cE.ok trivial⟩
abbrev cH.D:=Int×Bs
def cH.st:cH.D→SA:=fun(base,secret)=>([.d tu base,.d tH secret],[])
abbrev cH.Y:=Int
abbrev cH.X:=Int
def cH.out:cH.X→aT:=fun x=>⟨.d tu x,[],[]⟩
def cH.add:cH.D→cH.Y→cH.X:=fun(base,secret) y=>y
def cH.aq:cH.D→Prop:=fun(b,s)=>fo b∧Sm s
def cH.F:cH.D→cH.Y:=fun(b,s)=>oN b s
noncomputable def cH.G:dU:=eZ (P:=Tryz.prog) [dk.sg,dD.sg,aP.sg,fS.sg,bG.sg,gd.sg]
noncomputable def cH.an:eu:= {}
noncomputable def cH.A:= @cq Tryz.prog cH.G cH.an 0 Tryz.f73 _ cH.st
abbrev cH.Ok:=cr @cH.A cH.aq cH.add cH.F cH.out
theorem cH.eq{R:Type}(base:Int)(secret:Bs)(k:aT→Option R):cH.A (base,secret) k=
 ab (dk.call base) fun x1=>
 ab (dD.call secret) fun x2=>
 ab (aP.call ((⟨#[114,101,118,111,107,101]⟩:ByteArray),[x1,x2])) fun x3=>
 ab (fS.call (base,x3)) fun x4=>
 ab (bG.call secret) fun x5=>
 ab (aP.call ((⟨#[114,101,118,111,107,101]⟩:ByteArray),[x2,x1])) fun x6=>
 ab (fS.call (x5,x6)) fun x7=>
 ab (gd.call (x4,x7)) fun x8=>
 k (cH.out x8):=by kernel_rfl
theorem cH.ok:cH.Ok:=by
 rintro⟨b,s⟩ ⟨hb,hs⟩
 rw[cH.eq,dk.c hb,aa,dD.c hs,aa,xO,aa,fS.c hb (yZ pZ _ _),aa,bG.c hs,aa,xO,aa,fS.c (o9 s) (yZ pZ _ _),aa,gd.c (xX _ _).u (xX _ _).u,aa]
 have ea:∀d y,cH.add d y=y:=fun _ _=>rfl
 have eF:cH.F (b,s)=oN b s:=rfl
 rw[ea,eF]
 unfold oN
 rfl
noncomputable def cH.E:=Entry.cD [some tu,some tH] cH.st cH.aq cH.add cH.F cH.out
noncomputable def cH.call:cH.D→Option cH.X:=bC cH.E cH.st
theorem cH.run:bD cH.call cH.aq cH.add cH.F:=cw (cv [.d tu,.d tB] fun _=>by kernel_rfl)
noncomputable def cH.sg:SG Tryz.prog:=⟨73,aK,cH.E,.fn 0 (by kernel_rfl) cH.ok trivial⟩
theorem fJ.c{b:Int}(h:fo b)(p:Int):fJ.call (b,p)=some (pX b p):=by
 have ea:∀d y,fJ.add d y=y:=fun _ _=>rfl
 have eF:fJ.F (b,p)=pX b p:=rfl
 rw[fJ.run (d:=(b,p)) h,ea,eF]
theorem cE.c{b p:Int}(h:fo b)(h2:fo p):cE.call (b,p)=some (tM b p):=by
 have ea:∀d y,cE.add d y=y:=fun _ _=>rfl
 have eF:cE.F (b,p)=tM b p:=rfl
 rw[cE.run (d:=(b,p)) ⟨h,h2⟩,ea,eF]
theorem cH.c{b:Int}{s:List Int}(h:fo b)(h2:Sm s):cH.call (b,s)=some (oN b s):=by
 have ea:∀d y,cH.add d y=y:=fun _ _=>rfl
 have eF:cH.F (b,s)=oN b s:=rfl
 rw[cH.run (d:=(b,s)) ⟨h,h2⟩,ea,eF]
abbrev ed.D:=Int
def ed.st:ed.D→SA:=fun n=>([.d ti n],[])
abbrev ed.Y:=Bool
abbrev ed.X:=Bool
def ed.out:ed.X→aT:=fun x=>⟨.d .bool x,[],[]⟩
def ed.add:ed.D→ed.Y→ed.X:=fun n y=>y
def ed.aq:ed.D→Prop:=fun _=>True
def ed.F:ed.D→ed.Y:=fun n=>decide (n=0∨n=1)
noncomputable def ed.G:dU:=eZ (P:=Tryz.prog) []
noncomputable def ed.an:eu:= {}
noncomputable def ed.A:= @cq Tryz.prog ed.G ed.an 0 Tryz.f40 _ ed.st
abbrev ed.Ok:=cr @ed.A ed.aq ed.add ed.F ed.out
theorem ed.eq{R:Type}(n:Int)(k:aT→Option R):ed.A n k=
  aD ((jO n (0:Int))) (
   k (ed.out true)) (
   k (ed.out (jO n (1:Int)))):=by kernel_rfl
theorem ed.ok:ed.Ok:=by
 intro(n:Int) _
 rw[ed.eq]
 simp only[ed.add,ed.F]
 by_cases h:n=0
 ·rw[fg h,ah,aL (.inl h)]
 ·rw[eo h,ae]
  by_cases h2:n=1
  ·rw[fg h2,aL (.inr h2)]
  ·rw[eo h2,bN (by rintro(x | x);exact h x;exact h2 x)]
noncomputable def ed.E:=Entry.cD [some ti] ed.st ed.aq ed.add ed.F ed.out
noncomputable def ed.call:ed.D→Option ed.X:=bC ed.E ed.st
theorem ed.run:bD ed.call ed.aq ed.add ed.F:=cw (cv [.d ti] fun _=>by kernel_rfl)
noncomputable def ed.sg:SG Tryz.prog:=⟨40,aK,ed.E,.fn 0 (by kernel_rfl) ed.ok trivial⟩
abbrev bh.L0.D:=Int×fF×Nat×(List fG)×Int×Int×(List fG)
def bh.L0.st:bh.L0.D→AS:=fun(own_2,ch_2,outL,t11,t12,t13,n27)=>⟨([.undef,.undef,.d ti own_2,.fj iu ch_2,.undef,.undef,.undef,.cT (.new 27 0) 0 [] 0 0 outL,.undef,.undef,.undef,.d (.slice gl) t11,.d ti t12,.d ti t13]++bw 16 []),[],(cC 27 [[.obj 0 false (.vec 75 gl n27)],[],[]])⟩
abbrev bh.L0.Y0:=Nat×(List fG)
abbrev bh.L0.X0:=Nat×(List fG)
def bh.L0.bK:bh.L0.X0→Exit×AS:=fun x=>(.exit 0,⟨(bw 7 ([.cT (.new 27 0) 0 [] 0 0 x.1]++bw 22 [])),[],(cC 27 [[.obj 0 false (.vec 75 gl x.2)],[],[]])⟩)
abbrev bh.L0.X:=bh.L0.X0
abbrev bh.L0.Y:=bh.L0.Y0
def bh.L0.out:bh.L0.X→Out (Exit×AS):=fun x=> .ok (bh.L0.bK x)
def bh.L0.add:bh.L0.D→bh.L0.Y→bh.L0.X:=fun(own_2,ch_2,outL,t11,t12,t13,n27) y=>y
abbrev bh.D:=fF×fL×Int
def bh.st:bh.D→SA:=fun(ch,sv,own)=>([.d iu ch,.d hZ sv,.d ti own],[])
abbrev bh.Y:=(List fG)
abbrev bh.X:=(List fG)
def bh.out:bh.X→aT:=fun x=>⟨.d (.slice gl) x,[],[]⟩
def bh.add:bh.D→bh.Y→bh.X:=fun(ch,sv,own) y=>y
def vo(n:Int):Bool:=lk n 100
def dT(l:List fG):List fG:=l.filter fun c=>vo c.2.2.1
theorem nf(c:fG)(l:List fG):dT (c::l)=if vo c.2.2.1=true then c::dT l else dT l:=by
 unfold dT
 rw[List.filter_cons]
def bh.L0.aq:bh.L0.D→Prop:=fun(own,ch,L,l,m,i,row)=>jn ch∧(own=0∨own=1)∧l.length≤1000∧m=l.length∧L=row.length∧∃k:Nat,k≤l.length∧i=k∧row.length≤k
def bh.L0.F:bh.L0.D→bh.L0.Y:=fun(own,ch,L,l,m,i,row)=>((row++dT (l.drop i.toNat)).length,row++dT (l.drop i.toNat))
def bh.aq:bh.D→Prop:=fun(ch,s,own)=>jn ch∧(own=0∨own=1)∧s.2.2.1.length≤1000
def bh.F:bh.D→bh.Y:=fun(_,s,_)=>dT s.2.2.1
noncomputable def bh.G:dU:=eZ (P:=Tryz.prog) [cz.sg]
noncomputable def bh.L0.E:=cf.cD bh.L0.st bh.L0.aq bh.L0.add bh.L0.F bh.L0.out
noncomputable def bh.L0.call:bh.L0.D→Option bh.L0.X:=dL bh.L0.E bh.L0.st
noncomputable def bh.an:eu:= {loops:=ki [(3,{bu:=[2,3,7,11,12,13],sites:=[27],j6:=[⟨7,[],27,51⟩]})],outs:=kh [(3,{bu:=[7],sites:=[27]},{bu:=[6]})],gq:=lv [(3,bh.L0.E)],res:=[some (.slice gl)]}
noncomputable def bh.A:= @cq Tryz.prog bh.G bh.an 0 Tryz.f84 _ bh.st
abbrev bh.Ok:=cr @bh.A bh.aq bh.add bh.F bh.out
noncomputable def bh.L0.R:= @cM Tryz.prog bh.G bh.an 0 Tryz.f84 0 _ bh.L0.st
abbrev bh.L0.Ok:=fk Tryz.prog bh.G bh.an 0 Tryz.f84 0 bh.L0.st bh.L0.aq bh.L0.add bh.L0.F bh.L0.out
theorem bh.L0.run:bD bh.L0.call bh.L0.aq bh.L0.add bh.L0.F:=fy (fx [.d ti,.d iu,.n,.d (.slice gl),.d ti,.d ti,.d (.slice gl)] fun _=>by kernel_rfl)
theorem bh.L0.aE:fY @bh.L0.R bh.L0.st bh.L0.aq bh.L0.add bh.L0.F bh.L0.bK bh.L0.Ok:=gj
theorem bh.L0.step{R:Type}(own_2:Int)(ch_2:fF)(outL:Nat)(t11:(List fG))(t12:Int)(t13:Int)(n27:(List fG))(kn:AS→Option R)(kx:Exit→AS→Option R):bh.L0.R (own_2,ch_2,outL,t11,t12,t13,n27) kn kx=
  aD ((gM t13 t12)) (
   aD (dZ t13 (((List.length t11):Nat):Int)) (
   aD (dZ own_2 (2:Int)) (
   ab (cz.call ((nth iY ch_2.2.2.2.1 (Int.toNat own_2)),(nth gl t11 (Int.toNat t13)).2.2.1)) fun x1=>
   aD (x1) (
    aD (decide (outL≤(List.length n27))) (
    aD (dK (outL+1) 40) (
    kn (bh.L0.st (own_2,ch_2,(outL+1),t11,t12,(bo .i64 t13 (1:Int)),((List.take outL n27)++ [(nth gl t11 (Int.toNat t13))])))) none) none) (
    kn (bh.L0.st (own_2,ch_2,outL,t11,t12,(bo .i64 t13 (1:Int)),n27)))) none) none) (
   kx (bh.L0.bK (outL,n27)).1 (bh.L0.bK (outL,n27)).2):=by kernel_rfl
theorem bh.eq{R:Type}(ch:fF)(sv:fL)(own:Int)(k:aT→Option R):bh.A (ch,sv,own) k=
 ab (bh.L0.call (own,ch,0,sv.2.2.1,(((List.length sv.2.2.1):Nat):Int),(0:Int),([]:List fG))) fun x3=>
 aD (decide (0=0∧(0+x3.1)≤(List.length x3.2))) (
 k (bh.out (cut x3.2 0 x3.1))) none:=by kernel_rfl
theorem jn.shown{ch:fF}(h:jn ch){own:Int}(ho:own=0∨own=1)(n:Int):cz.call (nth iY ch.2.2.2.1 own.toNat,n)=some (vo n):=by
 obtain⟨d,hd,_⟩:=h.t ho
 rw[hd,cz.run (d:=(te d,n)) trivial]
 rfl
theorem bh.L0.ok:bh.L0.Ok:=by
 refine bh.L0.aE (fun(_,_,_,l,_,i,_)=>l.length - i.toNat) ?_
 rintro⟨own,ch,L,l,m,i,row⟩ ⟨hch,ho,hl,rfl,rfl,k,hk,rfl,hr⟩
 have hk:k≤l.length:=hk
 have hl:l.length≤1000:=hl
 have hr:row.length≤k:=hr
 have ho:own=0∨own=1:=ho
 have hch:jn ch:=hch
 by_cases h:k < l.length
 ·left
  have n1:nth gl l k=l[k]:=dS (t:=gl) h
  have hd:dT (l.drop k)=if vo l[k].2.2.1=true then l[k]::dT (l.drop (k+1)) else dT (l.drop (k+1)):=by rw[List.drop_eq_getElem_cons h,nf]
  have e1:(row++ [l[k]]).length=row.length+1:=by rw[List.length_append];rfl
  cases hs:vo l[k].2.2.1
  ·refine⟨(own,ch,row.length,l,(l.length:Int),((k+1:Nat):Int),row),⟨hch,ho,hl,rfl,rfl,k+1,by omega,rfl,by show row.length≤_;omega⟩,by simp only[Int.toNat_natCast];omega,?_,fun kn kx=> ?_⟩
   ·rw[hs,if_neg (by simp)]at hd
    simp only[bh.L0.add,bh.L0.F,Int.toNat_natCast,hd]
   ·rw[bh.L0.step,bB (by omega),bz (by omega) (by omega),bz (by omega) (by omega),Int.toNat_natCast,n1,hch.shown ho,hs,N.mq (by omega)]
    rfl
  ·refine⟨(own,ch,row.length+1,l,(l.length:Int),((k+1:Nat):Int),row++ [l[k]]),⟨hch,ho,hl,rfl,e1.symm,k+1,by omega,rfl,by show(row++ [l[k]]).length≤_;omega⟩,by simp only[Int.toNat_natCast];omega,?_,fun kn kx=> ?_⟩
   ·rw[hs,if_pos rfl]at hd
    simp only[bh.L0.add,bh.L0.F,Int.toNat_natCast,hd,List.append_assoc,List.singleton_append]
   ·rw[bh.L0.step,bB (by omega),bz (by omega) (by omega),bz (by omega) (by omega),Int.toNat_natCast,n1,hch.shown ho,hs,N.mq (by omega),aL (Nat.le_refl _),eR (by omega) (by omega),List.take_length]
    rfl
 ·right
  obtain rfl:k=l.length:=by omega
  intro R kn kx
  rw[bh.L0.step,bk (by omega),ae]
  simp only[bh.L0.add,bh.L0.F,Int.toNat_natCast,List.drop_length,dT,List.filter_nil,List.append_nil]
theorem bh.ok:bh.Ok:=by
 rintro⟨ch,s,own⟩ ⟨hch,ho,hl⟩
 rw[bh.eq,bh.L0.run (d:=(own,ch,0,s.2.2.1,(s.2.2.1.length:Int),0,[])) ⟨hch,ho,hl,rfl,rfl,0,Nat.zero_le _,rfl,Nat.zero_le _⟩]
 simp only[aa,bh.L0.add,bh.L0.F,Int.toNat_zero,List.drop_zero,List.nil_append,bh.add,bh.F]
 rw[aL ⟨trivial,by omega⟩,ah,gI (by omega)]
noncomputable def bh.E:=Entry.cD [some iu,some hZ,some ti] bh.st bh.aq bh.add bh.F bh.out
noncomputable def bh.call:bh.D→Option bh.X:=bC bh.E bh.st
theorem bh.run:bD bh.call bh.aq bh.add bh.F:=cw (cv [.d iu,.d hZ,.d ti] fun _=>by kernel_rfl)
noncomputable def bh.sg:SG Tryz.prog:=⟨84,aK,bh.E,.fn 1 (by kernel_rfl) bh.ok (And.intro (.cD bh.L0.ok (by kernel_rfl)) trivial)⟩
def dP(ch:fF)(s:fL)(f:Int):Int:=nth ti s.2.1 f.toNat - (if f=ch.2.2.2.2.1 then tG s.2.2.2.1 (dT s.2.2.1).length+660 else 0)
abbrev eg.D:=fF×fL×Int×Int
def eg.st:eg.D→SA:=fun(ch,sv,own,of)=>([.d iu ch,.d hZ sv,.d ti own,.d ti of],[])
abbrev eg.Y:=Int
abbrev eg.X:=Int
def eg.out:eg.X→aT:=fun x=>⟨.d ti x,[],[]⟩
def eg.add:eg.D→eg.Y→eg.X:=fun(ch,sv,own,of) y=>y
def eg.aq:eg.D→Prop:=fun(ch,s,own,of)=>jn ch∧qO ch s∧(own=0∨own=1)∧(of=0∨of=1)
def eg.F:eg.D→eg.Y:=fun(ch,s,_,of)=>dP ch s of
noncomputable def eg.G:dU:=eZ (P:=Tryz.prog) [bh.sg,dY.sg]
noncomputable def eg.an:eu:= {}
noncomputable def eg.A:= @cq Tryz.prog eg.G eg.an 0 Tryz.f42 _ eg.st
abbrev eg.Ok:=cr @eg.A eg.aq eg.add eg.F eg.out
theorem eg.eq{R:Type}(ch:fF)(sv:fL)(own:Int)(of:Int)(k:aT→Option R):eg.A (ch,sv,own,of) k=
  aD (dZ of (2:Int)) (
  aD ((jO of ch.2.2.2.2.1)) (
   ab (bh.call (ch,sv,own)) fun x1=>
   ab (dY.call (sv.2.2.2.1,(((List.length x1):Nat):Int))) fun x2=>
   k (eg.out (bV .i64 (nth ti sv.2.1 (Int.toNat of)) (bo .i64 x2 (660:Int))))) (
   k (eg.out (nth ti sv.2.1 (Int.toNat of))))) none:=by kernel_rfl
theorem eg.ok:eg.Ok:=by
 rintro⟨ch,s,own,of⟩ ⟨hch,hs,ho,hf⟩
 have hch:jn ch:=hch
 have hs:qO ch s:=hs
 have hf:of=0∨of=1:=hf
 have hl:=hs.len
 have hv:=hs.BP hf
 have hv0:=hv.1
 have hv1:=hv.2
 have hfe:=o5 s.2.2.2.1 (dT s.2.2.1).length
 rw[eg.eq,bz (by omega) (by omega),ah]
 simp only[eg.add,eg.F,dP]
 by_cases h:of=ch.2.2.2.2.1
 ·rw[fg h,ah,bh.run (d:=(ch,s,own)) ⟨hch,ho,by show s.2.2.1.length≤1000;omega⟩]
  simp only[aa,bh.add,bh.F]
  rw[dY.run (d:=(s.2.2.2.1,((dT s.2.2.1).length:Int))) trivial]
  simp only[aa,dY.add,dY.F]
  rw[cR (by omega) (by omega),fi (by omega) (by omega),if_pos h]
 ·rw[eo h,ae,if_neg h,Int.sub_zero]
noncomputable def eg.E:=Entry.cD [some iu,some hZ,some ti,some ti] eg.st eg.aq eg.add eg.F eg.out
noncomputable def eg.call:eg.D→Option eg.X:=bC eg.E eg.st
theorem eg.run:bD eg.call eg.aq eg.add eg.F:=cw (cv [.d iu,.d hZ,.d ti,.d ti] fun _=>by kernel_rfl)
noncomputable def eg.sg:SG Tryz.prog:=⟨42,aK,eg.E,.fn 0 (by kernel_rfl) eg.ok trivial⟩
abbrev er.D:=fF×fL×Int×Int
def er.st:er.D→SA:=fun(ch,sv,own,of)=>([.d iu ch,.d hZ sv,.d ti own,.d ti of],[])
abbrev er.Y:=Int
abbrev er.X:=Int
def er.out:er.X→aT:=fun x=>⟨.d ti x,[],[]⟩
def er.add:er.D→er.Y→er.X:=fun(ch,sv,own,of) y=>y
def er.aq:er.D→Prop:=fun(ch,s,_,_)=>jn ch∧nG s
def er.F:er.D→er.Y:=fun(ch,s,own,of)=>if(decide (own=0∨own=1) && (decide (of=0∨of=1) && pv ch s))=true then dP ch s of else 0
noncomputable def er.G:dU:=eZ (P:=Tryz.prog) [ed.sg,ak.sg,eg.sg]
noncomputable def er.an:eu:= {}
noncomputable def er.A:= @cq Tryz.prog er.G er.an 0 Tryz.f15 _ er.st
abbrev er.Ok:=cr @er.A er.aq er.add er.F er.out
theorem er.eq{R:Type}(ch:fF)(sv:fL)(own:Int)(of:Int)(k:aT→Option R):er.A (ch,sv,own,of) k=
  ab (ed.call own) fun x1=>
  aD ((!x1)) (
   k (er.out (0:Int))) (
   ab (ed.call of) fun x2=>
   aD ((!x2)) (
    k (er.out (0:Int))) (
    ab (ak.call (ch,sv)) fun x3=>
    aD ((!x3)) (
     k (er.out (0:Int))) (
     ab (eg.call (ch,sv,own,of)) fun x4=>
     k (er.out x4)))):=by kernel_rfl
theorem er.ok:er.Ok:=by
 rintro⟨ch,s,own,of⟩ ⟨hch,hu⟩
 rw[er.eq,ed.run (d:=own) trivial]
 simp only[aa,ed.add,ed.F,er.add,er.F]
 by_cases h1:own=0∨own=1
 rotate_left
 ·rw[bN h1];rfl
 rw[aL h1,ed.run (d:=of) trivial]
 simp only[aa,ed.add,ed.F,Bool.not_true,ae]
 by_cases h2:of=0∨of=1
 rotate_left
 ·rw[bN h2];rfl
 rw[aL h2,ak.run (d:=(ch,s)) ⟨hch,hu⟩]
 simp only[aa,ak.add,ak.F,Bool.not_true,ae]
 cases h3:pv ch s
 ·rfl
 rw[Bool.not_true,ae,eg.run (d:=(ch,s,own,of)) ⟨hch,lR.1 h3,h1,h2⟩]
 rfl
noncomputable def er.E:=Entry.cD [some iu,some hZ,some ti,some ti] er.st er.aq er.add er.F er.out
noncomputable def er.call:er.D→Option er.X:=bC er.E er.st
theorem er.run:bD er.call er.aq er.add er.F:=cw (cv [.d iu,.d hZ,.d ti,.d ti] fun _=>by kernel_rfl)
noncomputable def er.sg:SG Tryz.prog:=⟨15,aK,er.E,.fn 0 (by kernel_rfl) er.ok trivial⟩
end
end Go.Ab
namespace Go.Ab
open Go.Proofs
set_option maxRecDepth 100000
set_option linter.unusedVariables false
set_option linter.unusedSimpArgs false
set_option synthInstance.maxSize 5000
def DP(a b:iD):Int:=Ex [pV a.1.1 b.1.1,AG (cut a.2.2.1 0 32) (cut b.2.2.1 0 32),pV a.2.1.1 b.2.1.1,pV a.2.1.2.1.1 b.2.1.2.1.1,pV a.2.1.2.1.2.1 b.2.1.2.1.2.1]
abbrev gB.D:=iD×iD
def gB.st:gB.D→SA:=fun(a,b)=>([.d jl a,.d jl b],[])
abbrev gB.Y:=Int
abbrev gB.X:=Int
def gB.out:gB.X→aT:=fun x=>⟨.d ti x,[],[]⟩
def gB.add:gB.D→gB.Y→gB.X:=fun(a,b) y=>y
def gB.aq:gB.D→Prop:=fun _=>True
def gB.F:gB.D→gB.Y:=fun(a,b)=>DP a b
noncomputable def gB.G:dU:=eZ (P:=Tryz.prog) [fw.sg,gw.sg,fp.sg]
noncomputable def gB.an:eu:= {}
noncomputable def gB.A:= @cq Tryz.prog gB.G gB.an 0 Tryz.f86 _ gB.st
abbrev gB.Ok:=cr @gB.A gB.aq gB.add gB.F gB.out
theorem gB.eq{R:Type}(a:iD)(b:iD)(k:aT→Option R):gB.A (a,b) k=
 ab (fw.call (a.1.1,b.1.1)) fun x1=>
 ab (gw.call ((cut a.2.2.1 0 32),(cut b.2.2.1 0 32))) fun x2=>
 ab (fw.call (a.2.1.1,b.2.1.1)) fun x3=>
 ab (fw.call (a.2.1.2.1.1,b.2.1.2.1.1)) fun x4=>
 ab (fw.call (a.2.1.2.1.2.1,b.2.1.2.1.2.1)) fun x5=>
 ab (fp.call [x1,x2,x3,x4,x5]) fun x6=>
 k (gB.out x6):=by kernel_rfl
theorem gB.ok:gB.Ok:=by
 rintro⟨a,b⟩ _
 have ci:∀x y:Int,fw.call (x,y)=some (pV x y):=fun x y=>fw.run (d:=(x,y)) trivial
 rw[gB.eq,gw.run (d:=(cut a.2.2.1 0 32,cut b.2.2.1 0 32)) trivial]
 simp only[ci,aa,gw.add,gw.F]
 rw[fp.run (by show 5≤_;decide)]
 rfl
noncomputable def gB.E:=Entry.cD [some jl,some jl] gB.st gB.aq gB.add gB.F gB.out
noncomputable def gB.call:gB.D→Option gB.X:=bC gB.E gB.st
theorem gB.run:bD gB.call gB.aq gB.add gB.F:=cw (cv [.d jl,.d jl] fun _=>by kernel_rfl)
noncomputable def gB.sg:SG Tryz.prog:=⟨86,aK,gB.E,.fn 0 (by kernel_rfl) gB.ok trivial⟩
abbrev bF.L0.D:=Nat×Int×Int×Int×(List iD)
def bF.L0.st:bF.L0.D→AS:=fun(dataL_2,a_2,b_2,i,o0_2)=>⟨([.cT (.dI 0) 0 [] 0 0 dataL_2,.d ti a_2,.d ti b_2,.fn 86 (.nil)]++bw 4 ([.d ti i]++bw 44 [])),[.obj 0 false (.vec 181 jl o0_2)],(List.replicate 53 [])⟩
abbrev bF.L0.Y0:=(List iD)
abbrev bF.L0.X0:=(List iD)
def bF.L0.bK:bF.L0.X0→Exit×AS:=fun x=>(.exit 0,⟨(bw 53 []),[.obj 0 false (.vec 181 jl x)],(List.replicate 53 [])⟩)
abbrev bF.L0.X:=bF.L0.X0
abbrev bF.L0.Y:=bF.L0.Y0
def bF.L0.out:bF.L0.X→Out (Exit×AS):=fun x=> .ok (bF.L0.bK x)
def bF.L0.add:bF.L0.D→bF.L0.Y→bF.L0.X:=fun(dataL_2,a_2,b_2,i,o0_2) y=>y
abbrev bF.L1.D:=Nat×Int×Int×Int×Int×(List iD)
def bF.L1.st:bF.L1.D→AS:=fun(dataL_3,a_3,b_3,i_2,j,o0_3)=>⟨([.cT (.dI 0) 0 [] 0 0 dataL_3,.d ti a_3,.d ti b_3,.fn 86 (.nil)]++bw 4 ([.d ti i_2,.d ti j]++bw 43 [])),[.obj 0 false (.vec 181 jl o0_3)],(List.replicate 53 [])⟩
abbrev bF.L1.Y0:=(List iD)
abbrev bF.L1.X0:=(Nat×Int×Int×Int)×((List iD))
def bF.L1.bK:bF.L1.X0→Exit×AS:=fun x=>(.exit 2,⟨([.cT (.dI 0) 0 [] 0 0 x.1.1,.d ti x.1.2.1,.d ti x.1.2.2.1,.fn 86 (.nil)]++bw 4 ([.d ti x.1.2.2.2]++bw 44 [])),[.obj 0 false (.vec 181 jl x.2)],(List.replicate 53 [])⟩)
abbrev bF.L1.X:=bF.L1.X0
abbrev bF.L1.Y:=bF.L1.Y0
def bF.L1.out:bF.L1.X→Out (Exit×AS):=fun x=> .ok (bF.L1.bK x)
def bF.L1.add:bF.L1.D→bF.L1.Y→bF.L1.X:=fun(dataL_3,a_3,b_3,i_2,j,o0_3) y=>((dataL_3,a_3,b_3,i_2),y)
abbrev bF.D:=Nat×Int×Int×(List iD)
def bF.st:bF.D→SA:=fun(dataL,a,b,o0)=>([.cT (.dI 0) 0 [] 0 0 dataL,.d ti a,.d ti b,.fn 86 (.nil)],[.obj 0 false (.vec 181 jl o0)])
abbrev bF.Y:=(List iD)
abbrev bF.X:=(List iD)
def bF.out:bF.X→aT:=fun x=>⟨.nil,[.obj 0 false (.vec 181 jl x)],[]⟩
def bF.add:bF.D→bF.Y→bF.X:=fun(dataL,a,b,o0) y=>y
def DJ:Nat→List iD→List iD
 | 0,l=>l
 |j+1,l=>if DP (nth jl l (j+1)) (nth jl l j) < 0 then DJ j ((l.set (j+1) (nth jl l j)).set j (nth jl l (j+1))) else l
def y8:Nat→Nat→List iD→List iD
 | 0,_,l=>l
 |m+1,i,l=>y8 m (i+1) (DJ i l)
def iO(l:List iD):List iD:=y8 (l.length - 1) 1 l
theorem uk:∀(j:Nat) (l:List iD),j < l.length→(DJ j l).Perm l
 | 0,l,_=>List.Perm.refl _
 |j+1,l,h=>by
  rw[DJ]
  split
  ·have n1:nth jl l (j+1)=l[j+1]:=dS (t:=jl) h
   have n2:nth jl l j=l[j]:=dS (t:=jl) (by omega)
   refine(uk j _ (by rw[List.length_set,List.length_set];omega)).trans ?_
   rw[n1,n2]
   exact List.set_set_perm h (by omega)
  ·exact List.Perm.refl _
theorem wR:∀(m i:Nat) (l:List iD),i+m≤l.length→(y8 m i l).Perm l
 | 0,_,_,_=>List.Perm.refl _
 |m+1,i,l,h=>by
  rw[y8]
  have hb:=uk i l (by omega)
  exact(wR m (i+1) _ (by rw[hb.length_eq];omega)).trans hb
theorem jk(l:List iD):(iO l).Perm l:=by
 unfold iO
 by_cases h:l.length=0
 ·have:l=[]:=List.eq_nil_of_length_eq_zero h
  subst this
  exact List.Perm.refl _
 ·exact wR _ _ _ (by omega)
def bF.L1.aq:bF.L1.D→Prop:=fun(n,a,b,i,j,l)=>n=l.length∧l.length≤1000∧a=0∧∃k:Nat,k < l.length∧j=k
def bF.L1.F:bF.L1.D→bF.L1.Y:=fun(n,a,b,i,j,l)=>DJ j.toNat l
def bF.L0.aq:bF.L0.D→Prop:=fun(n,a,b,i,l)=>n=l.length∧l.length≤1000∧((a=0∧b=l.length∧∃k:Nat,i=k)∨i≥b)
def bF.L0.F:bF.L0.D→bF.L0.Y:=fun(n,a,b,i,l)=>y8 (b - i).toNat i.toNat l
def bF.aq:bF.D→Prop:=fun(n,a,b,l)=>n=l.length∧l.length≤1000∧((a=0∧b=l.length)∨(a=b∧0 < a∧a≤1000))
def bF.F:bF.D→bF.Y:=fun(n,a,b,l)=>if a=0 then iO l else l
noncomputable def bF.G:dU:=eZ (P:=Tryz.prog) [gB.sg]
noncomputable def bF.L0.E:=cf.cD bF.L0.st bF.L0.aq bF.L0.add bF.L0.F bF.L0.out
noncomputable def bF.L0.call:bF.L0.D→Option bF.L0.X:=dL bF.L0.E bF.L0.st
noncomputable def bF.L1.E:=cf.cD bF.L1.st bF.L1.aq bF.L1.add bF.L1.F bF.L1.out
noncomputable def bF.L1.call:bF.L1.D→Option bF.L1.X:=dL bF.L1.E bF.L1.st
noncomputable def bF.an:eu:= {loops:=ki [(1,{bu:=[0,1,2,3,8]}),(4,{bu:=[0,1,2,3,8,9]})],outs:=kh [(1,{},{}),(4,{bu:=[0,1,2,3,8]},{})],gq:=lv [(1,bF.L0.E),(4,bF.L1.E)]}
noncomputable def bF.A:= @cq Tryz.prog bF.G bF.an 0 Tryz.f166 _ bF.st
abbrev bF.Ok:=cr @bF.A bF.aq bF.add bF.F bF.out
noncomputable def bF.L0.R:= @cM Tryz.prog bF.G bF.an 0 Tryz.f166 0 _ bF.L0.st
abbrev bF.L0.Ok:=fk Tryz.prog bF.G bF.an 0 Tryz.f166 0 bF.L0.st bF.L0.aq bF.L0.add bF.L0.F bF.L0.out
noncomputable def bF.L1.R:= @cM Tryz.prog bF.G bF.an 0 Tryz.f166 1 _ bF.L1.st
abbrev bF.L1.Ok:=fk Tryz.prog bF.G bF.an 0 Tryz.f166 1 bF.L1.st bF.L1.aq bF.L1.add bF.L1.F bF.L1.out
theorem bF.L0.run:bD bF.L0.call bF.L0.aq bF.L0.add bF.L0.F:=fy (fx [.n,.d ti,.d ti,.d ti,.d (.slice jl)] fun _=>by kernel_rfl)
theorem bF.L0.aE:fY @bF.L0.R bF.L0.st bF.L0.aq bF.L0.add bF.L0.F bF.L0.bK bF.L0.Ok:=gj
theorem bF.L0.step{R:Type}(dataL_2:Nat)(a_2:Int)(b_2:Int)(i:Int)(o0_2:(List iD))(kn:AS→Option R)(kx:Exit→AS→Option R):bF.L0.R (dataL_2,a_2,b_2,i,o0_2) kn kx=
  aD ((gM i b_2)) (
   ab (bF.L1.call (dataL_2,a_2,b_2,i,i,o0_2)) fun x1=>
   kn (bF.L0.st (x1.1.1,x1.1.2.1,x1.1.2.2.1,(bo .i64 x1.1.2.2.2 (1:Int)),x1.2))) (
   kx (bF.L0.bK o0_2).1 (bF.L0.bK o0_2).2):=by kernel_rfl
theorem bF.L1.run:bD bF.L1.call bF.L1.aq bF.L1.add bF.L1.F:=fy (fx [.n,.d ti,.d ti,.d ti,.d ti,.d (.slice jl)] fun _=>by kernel_rfl)
theorem bF.L1.aE:fY @bF.L1.R bF.L1.st bF.L1.aq bF.L1.add bF.L1.F bF.L1.bK bF.L1.Ok:=gj
theorem bF.L1.step{R:Type}(dataL_3:Nat)(a_3:Int)(b_3:Int)(i_2:Int)(j:Int)(o0_3:(List iD))(kn:AS→Option R)(kx:Exit→AS→Option R):bF.L1.R (dataL_3,a_3,b_3,i_2,j,o0_3) kn kx=
  aD ((mX j a_3)) (
   aD (dZ j ((dataL_3:Nat):Int)) (
   aD (decide ((0+(Int.toNat j)) < (List.length o0_3))) (
   aD (decide ((((0+(Int.toNat j))*40)+0)=(0+((Int.toNat j)*40)))) (
   aD (dZ (bV .i64 j (1:Int)) ((dataL_3:Nat):Int)) (
   aD (decide ((0+(Int.toNat (bV .i64 j (1:Int)))) < (List.length o0_3))) (
   aD (decide ((((0+(Int.toNat (bV .i64 j (1:Int))))*40)+0)=(0+((Int.toNat (bV .i64 j (1:Int)))*40)))) (
   ab (gB.call ((nth jl o0_3 (0+(Int.toNat j))),(nth jl o0_3 (0+(Int.toNat (bV .i64 j (1:Int))))))) fun x1=>
   aD ((gM x1 (0:Int))) (
    aD (dZ (bV .i64 j (1:Int)) ((dataL_3:Nat):Int)) (
    aD (decide ((0+(Int.toNat (bV .i64 j (1:Int)))) < (List.length o0_3))) (
    aD (decide ((((0+(Int.toNat (bV .i64 j (1:Int))))*40)+0)=(0+((Int.toNat (bV .i64 j (1:Int)))*40)))) (
    aD (dZ j ((dataL_3:Nat):Int)) (
    aD (decide ((0+(Int.toNat j)) < (List.length o0_3))) (
    aD (decide ((((0+(Int.toNat j))*40)+0)=(0+((Int.toNat j)*40)))) (
    aD (dZ j ((dataL_3:Nat):Int)) (
    aD (decide ((0+(Int.toNat j)) < (List.length o0_3))) (
    aD (decide ((((0+(Int.toNat j))*40)+0)=(0+((Int.toNat j)*40)))) (
    aD (decide ((0+(Int.toNat j)) < (List.length o0_3))) (
    aD (dZ (bV .i64 j (1:Int)) ((dataL_3:Nat):Int)) (
    aD (decide ((0+(Int.toNat (bV .i64 j (1:Int)))) < (List.length (List.set o0_3 (0+(Int.toNat j)) (nth jl o0_3 (0+(Int.toNat (bV .i64 j (1:Int))))))))) (
    aD (decide ((((0+(Int.toNat (bV .i64 j (1:Int))))*40)+0)=(0+((Int.toNat (bV .i64 j (1:Int)))*40)))) (
    aD (decide ((0+(Int.toNat (bV .i64 j (1:Int)))) < (List.length (List.set o0_3 (0+(Int.toNat j)) (nth jl o0_3 (0+(Int.toNat (bV .i64 j (1:Int))))))))) (
    kn (bF.L1.st (dataL_3,a_3,b_3,i_2,(bV .i64 j (1:Int)),(List.set (List.set o0_3 (0+(Int.toNat j)) (nth jl o0_3 (0+(Int.toNat (bV .i64 j (1:Int)))))) (0+(Int.toNat (bV .i64 j (1:Int)))) (nth jl o0_3 (0+(Int.toNat j))))))) none) none) none) none) none) none) none) none) none) none) none) none) none) none) (
    kx (bF.L1.bK ((dataL_3,a_3,b_3,i_2),o0_3)).1 (bF.L1.bK ((dataL_3,a_3,b_3,i_2),o0_3)).2)) none) none) none) none) none) none) (
   kx (bF.L1.bK ((dataL_3,a_3,b_3,i_2),o0_3)).1 (bF.L1.bK ((dataL_3,a_3,b_3,i_2),o0_3)).2):=by kernel_rfl
theorem bF.eq{R:Type}(dataL:Nat)(a:Int)(b:Int)(o0:(List iD))(k:aT→Option R):bF.A (dataL,a,b,o0) k=
 ab (bF.L0.call (dataL,a,b,(bo .i64 a (1:Int)),o0)) fun x3=>
 k (bF.out x3):=by kernel_rfl
theorem bF.L1.ok:bF.L1.Ok:=by
 refine bF.L1.aE (fun(n,a,b,i,j,l)=>j.toNat) ?_
 rintro⟨n,a,b,i,j,l⟩ ⟨rfl,hl,rfl,k,hk,rfl⟩
 have hk:k < l.length:=hk
 have hl:l.length≤1000:=hl
 cases k with
 |zero=>
  right
  intro R kn kx
  rw[bF.L1.step,dj (by omega),ae]
  rfl
 |succ k=>
  have e:bV .i64 ((k+1:Nat):Int) 1=(k:Int):=by rw[fi (by omega) (by omega)];omega
  have e1:((l.set (k+1) (nth jl l k)).length)=l.length:=List.length_set
  have c1:gB.call (nth jl l (k+1),nth jl l k)=some (DP (nth jl l (k+1)) (nth jl l k)):=gB.run (d:=(nth jl l (k+1),nth jl l k)) trivial
  have step:∀ {R:Type} (kn:AS→Option R) (kx:Exit→AS→Option R),bF.L1.R (l.length,0,b,i,((k+1:Nat):Int),l) kn kx=aD (decide (DP (nth jl l (k+1)) (nth jl l k) < 0)) (kn (bF.L1.st (l.length,0,b,i,(k:Int),(l.set (k+1) (nth jl l k)).set k (nth jl l (k+1))))) (kx (bF.L1.bK ((l.length,0,b,i),l)).1 (bF.L1.bK ((l.length,0,b,i),l)).2):=by
   intro R kn kx
   rw[bF.L1.step,e,Int.toNat_natCast,Int.toNat_natCast]
   simp only[Nat.zero_add]
   rw[e1,c1,ee (by omega),bz (by omega) (by omega),bz (i:=(k:Int)) (by omega) (by omega),aL hk,aL (show k < l.length by omega),aL (show(k+1)*40+0=(k+1)*40 from rfl),aL (show k*40+0=k*40 from rfl)]
   simp only[ah,aa]
   rfl
  by_cases hc:DP (nth jl l (k+1)) (nth jl l k) < 0
  ·left
   refine⟨(l.length,0,b,i,(k:Int),(l.set (k+1) (nth jl l k)).set k (nth jl l (k+1))),⟨by rw[List.length_set,List.length_set],by show(List.set _ _ _).length≤1000;rw[List.length_set,List.length_set];exact hl,rfl,k,by show k < (List.set _ _ _).length;rw[List.length_set,List.length_set];omega,rfl⟩,by simp only[Int.toNat_natCast];omega,?_,fun kn kx=> ?_⟩
   ·simp only[bF.L1.add,bF.L1.F,Int.toNat_natCast]
    rw[DJ,if_pos hc]
   ·rw[step,aL hc,ah]
  ·right
   intro R kn kx
   rw[step,bN hc,ae]
   simp only[bF.L1.add,bF.L1.F,Int.toNat_natCast]
   rw[DJ,if_neg hc]
theorem bF.L0.ok:bF.L0.Ok:=by
 refine bF.L0.aE (fun(n,a,b,i,l)=>(b - i).toNat) ?_
 rintro⟨n,a,b,i,l⟩ ⟨rfl,hl,h⟩
 have hl:l.length≤1000:=hl
 by_cases hi:i < b
 ·left
  rcases h with⟨rfl,rfl,k,rfl⟩ | h
  ·have hk:k < l.length:=by omega
   have hp:=uk k l hk
   have hpl:(DJ k l).length=l.length:=hp.length_eq
   refine⟨(l.length,0,(l.length:Int),((k+1:Nat):Int),DJ k l),⟨hpl.symm,by show(DJ k l).length≤_;rw[hpl];exact hl,.inl ⟨rfl,by show(l.length:Int)=((DJ k l).length:Int);rw[hpl],k+1,rfl⟩⟩,by show((l.length:Int) - ((k+1:Nat):Int)).toNat < ((l.length:Int) - (k:Int)).toNat;omega,?_,fun kn kx=> ?_⟩
   ·simp only[bF.L0.add,bF.L0.F,Int.toNat_natCast]
    rw[show((l.length:Int) - (k:Int)).toNat=((l.length:Int) - ((k+1:Nat):Int)).toNat+1 by omega,y8]
   ·rw[bF.L0.step,bB hi,ah,bF.L1.run (d:=(l.length,0,(l.length:Int),(k:Int),(k:Int),l)) ⟨rfl,hl,rfl,k,hk,rfl⟩]
    simp only[aa,bF.L1.add,bF.L1.F,Int.toNat_natCast]
    rw[N.mq (by omega)]
  ·exact absurd hi (by show ¬i < b;omega)
 ·right
  intro R kn kx
  rw[bF.L0.step,bk hi,ae]
  simp only[bF.L0.add,bF.L0.F]
  rw[show(b - i).toNat=0 by omega,y8]
theorem bF.ok:bF.Ok:=by
 rintro⟨n,a,b,l⟩ ⟨rfl,hl,h⟩
 have hl:l.length≤1000:=hl
 rw[bF.eq]
 rcases h with⟨rfl,rfl⟩ | ⟨rfl,h0,h1⟩
 ·rw[show bo .i64 0 1=1 from rfl,bF.L0.run (d:=(l.length,0,(l.length:Int),1,l)) ⟨rfl,hl,.inl ⟨rfl,rfl,1,rfl⟩⟩]
  simp only[aa,bF.L0.add,bF.L0.F,bF.add,bF.F,if_true,iO]
  rw[show((l.length:Int) - 1).toNat=l.length - 1 by omega]
  rfl
 ·have h1:a≤1000:=h1
  have h0:0 < a:=h0
  rw[cR (by omega) (by omega),bF.L0.run (d:=(l.length,a,a,a+1,l)) ⟨rfl,hl,.inr (by show a+1≥a;omega)⟩]
  simp only[aa,bF.L0.add,bF.L0.F,bF.add,bF.F]
  rw[show(a - (a+1)).toNat=0 by omega,y8,if_neg (by omega)]
noncomputable def bF.E:=Entry.cD [none,some ti,some ti,none] bF.st bF.aq bF.add bF.F bF.out
noncomputable def bF.call:bF.D→Option bF.X:=bC bF.E bF.st
theorem bF.run:bD bF.call bF.aq bF.add bF.F:=cw (cv [.n,.d ti,.d ti,.d (.slice jl)] fun _=>by kernel_rfl)
noncomputable def bF.sg:SG Tryz.prog:=⟨166,aK,bF.E,.fn 2 (by kernel_rfl) bF.ok (And.intro (.cD bF.L0.ok (by kernel_rfl)) (And.intro (.cD bF.L1.ok (by kernel_rfl)) trivial))⟩
abbrev aN.L0.D:=Nat×Int×Int×Int×Int×(List iD)
def aN.L0.st:aN.L0.D→AS:=fun(dataL_2,n_2,blockSize,a,b,o0_2)=>⟨([.cT (.dI 0) 0 [] 0 0 dataL_2,.d ti n_2,.fn 86 (.nil),.undef,.undef,.undef,.d ti blockSize,.d ti a,.d ti b]++bw 54 []),[.obj 0 false (.vec 181 jl o0_2)],(List.replicate 63 [])⟩
abbrev aN.L0.Y0:=Int×(List iD)
abbrev aN.L0.X0:=(Nat×Int×Int)×(Int×(List iD))
def aN.L0.bK:aN.L0.X0→Exit×AS:=fun x=>(.exit 0,⟨([.cT (.dI 0) 0 [] 0 0 x.1.1,.d ti x.1.2.1,.fn 86 (.nil),.undef,.undef,.undef,.d ti x.1.2.2,.d ti x.2.1]++bw 55 []),[.obj 0 false (.vec 181 jl x.2.2)],(List.replicate 63 [])⟩)
abbrev aN.L0.X:=aN.L0.X0
abbrev aN.L0.Y:=aN.L0.Y0
def aN.L0.out:aN.L0.X→Out (Exit×AS):=fun x=> .ok (aN.L0.bK x)
def aN.L0.add:aN.L0.D→aN.L0.Y→aN.L0.X:=fun(dataL_2,n_2,blockSize,a,b,o0_2) y=>((dataL_2,n_2,blockSize),y)
abbrev aN.L1.D:=Nat×Int×Int×(List iD)
def aN.L1.st:aN.L1.D→AS:=fun(dataL_3,n_3,blockSize_2,o0_3)=>⟨([.cT (.dI 0) 0 [] 0 0 dataL_3,.d ti n_3,.fn 86 (.nil),.undef,.undef,.undef,.d ti blockSize_2]++bw 56 []),[.obj 0 false (.vec 181 jl o0_3)],(List.replicate 63 [])⟩
abbrev aN.L1.Y0:=(List iD)
abbrev aN.L1.X0:=(List iD)
def aN.L1.bK:aN.L1.X0→Exit×AS:=fun x=>(.exit 2,⟨(bw 63 []),[.obj 0 false (.vec 181 jl x)],(List.replicate 63 [])⟩)
abbrev aN.L1.X:=aN.L1.X0
abbrev aN.L1.Y:=aN.L1.Y0
def aN.L1.out:aN.L1.X→Out (Exit×AS):=fun x=> .ok (aN.L1.bK x)
def aN.L1.add:aN.L1.D→aN.L1.Y→aN.L1.X:=fun(dataL_3,n_3,blockSize_2,o0_3) y=>y
abbrev aN.L2.D:=Nat×Int×Int×Int×Int×(List iD)
def aN.L2.st:aN.L2.D→AS:=fun(dataL_4,n_4,blockSize_3,a_2,b_2,o0_4)=>⟨([.cT (.dI 0) 0 [] 0 0 dataL_4,.d ti n_4,.fn 86 (.nil),.undef,.undef,.undef,.d ti blockSize_3,.d ti a_2,.d ti b_2]++bw 54 []),[.obj 0 false (.vec 181 jl o0_4)],(List.replicate 63 [])⟩
abbrev aN.L2.Y0:=Unit
abbrev aN.L2.X0:=Nat×Int×Int×Int×(List iD)
def aN.L2.bK:aN.L2.X0→Exit×AS:=fun x=>(.exit 4,⟨([.cT (.dI 0) 0 [] 0 0 x.1,.d ti x.2.1,.fn 86 (.nil),.undef,.undef,.undef,.d ti x.2.2.1,.d ti x.2.2.2.1]++bw 55 []),[.obj 0 false (.vec 181 jl x.2.2.2.2)],(List.replicate 63 [])⟩)
abbrev aN.L2.X:=aN.L2.X0
abbrev aN.L2.Y:=aN.L2.Y0
def aN.L2.out:aN.L2.X→Out (Exit×AS):=fun x=> .ok (aN.L2.bK x)
def aN.L2.add:aN.L2.D→aN.L2.Y→aN.L2.X:=fun(dataL_4,n_4,blockSize_3,a_2,b_2,o0_4) y=>(dataL_4,n_4,blockSize_3,a_2,o0_4)
abbrev aN.D:=Nat×Int×(List iD)
def aN.st:aN.D→SA:=fun(dataL,n,o0)=>([.cT (.dI 0) 0 [] 0 0 dataL,.d ti n,.fn 86 (.nil)],[.obj 0 false (.vec 181 jl o0)])
abbrev aN.Y:=(List iD)
abbrev aN.X:=(List iD)
def aN.out:aN.X→aT:=fun x=>⟨.nil,[.obj 0 false (.vec 181 jl x)],[]⟩
def aN.add:aN.D→aN.Y→aN.X:=fun(dataL,n,o0) y=>y
def aN.L0.aq:aN.L0.D→Prop:=fun(m,n,z,a,b,l)=>m=l.length∧n=l.length∧z=20∧l.length≤20∧((a=0∧b=20)∨(a=20∧b=40))
def aN.L0.F:aN.L0.D→aN.L0.Y:=fun(m,n,z,a,b,l)=>if a=0∧n=20 then(20,iO l) else(a,l)
def aN.L1.aq:aN.L1.D→Prop:=fun(m,n,z,l)=>n≤z
def aN.L1.F:aN.L1.D→aN.L1.Y:=fun(m,n,z,l)=>l
def aN.L2.aq:aN.L2.D→Prop:=fun _=>False
def aN.L2.F:aN.L2.D→aN.L2.Y:=fun _=>()
def aN.aq:aN.D→Prop:=fun(m,n,l)=>m=l.length∧n=l.length∧l.length≤20
def aN.F:aN.D→aN.Y:=fun(m,n,l)=>iO l
noncomputable def aN.G:dU:=eZ (P:=Tryz.prog) [bF.sg]
noncomputable def aN.L0.E:=cf.cD aN.L0.st aN.L0.aq aN.L0.add aN.L0.F aN.L0.out
noncomputable def aN.L0.call:aN.L0.D→Option aN.L0.X:=dL aN.L0.E aN.L0.st
noncomputable def aN.L1.E:=cf.cD aN.L1.st aN.L1.aq aN.L1.add aN.L1.F aN.L1.out
noncomputable def aN.L1.call:aN.L1.D→Option aN.L1.X:=dL aN.L1.E aN.L1.st
noncomputable def aN.L2.E:=cf.cD aN.L2.st aN.L2.aq aN.L2.add aN.L2.F aN.L2.out
noncomputable def aN.L2.call:aN.L2.D→Option aN.L2.X:=dL aN.L2.E aN.L2.st
noncomputable def aN.an:eu:= {loops:=ki [(2,{bu:=[0,1,2,6,7,8]}),(7,{bu:=[0,1,2,6]}),(9,{bu:=[0,1,2,6,7,8]})],outs:=kh [(2,{bu:=[0,1,2,6,7]},{}),(7,{},{}),(9,{bu:=[0,1,2,6,7]},{})],gq:=lv [(2,aN.L0.E),(7,aN.L1.E),(9,aN.L2.E)]}
noncomputable def aN.A:= @cq Tryz.prog aN.G aN.an 0 Tryz.f131 _ aN.st
abbrev aN.Ok:=cr @aN.A aN.aq aN.add aN.F aN.out
noncomputable def aN.L0.R:= @cM Tryz.prog aN.G aN.an 0 Tryz.f131 0 _ aN.L0.st
abbrev aN.L0.Ok:=fk Tryz.prog aN.G aN.an 0 Tryz.f131 0 aN.L0.st aN.L0.aq aN.L0.add aN.L0.F aN.L0.out
noncomputable def aN.L1.R:= @cM Tryz.prog aN.G aN.an 0 Tryz.f131 1 _ aN.L1.st
abbrev aN.L1.Ok:=fk Tryz.prog aN.G aN.an 0 Tryz.f131 1 aN.L1.st aN.L1.aq aN.L1.add aN.L1.F aN.L1.out
abbrev aN.L2.Ok:=fk Tryz.prog aN.G aN.an 0 Tryz.f131 2 aN.L2.st aN.L2.aq aN.L2.add aN.L2.F aN.L2.out
theorem aN.L0.run:bD aN.L0.call aN.L0.aq aN.L0.add aN.L0.F:=fy (fx [.n,.d ti,.d ti,.d ti,.d ti,.d (.slice jl)] fun _=>by kernel_rfl)
theorem aN.L0.aE:fY @aN.L0.R aN.L0.st aN.L0.aq aN.L0.add aN.L0.F aN.L0.bK aN.L0.Ok:=gj
theorem aN.L0.step{R:Type}(dataL_2:Nat)(n_2:Int)(blockSize:Int)(a:Int)(b:Int)(o0_2:(List iD))(kn:AS→Option R)(kx:Exit→AS→Option R):aN.L0.R (dataL_2,n_2,blockSize,a,b,o0_2) kn kx=
  aD ((yz b n_2)) (
   ab (bF.call (dataL_2,a,b,o0_2)) fun x1=>
   kn (aN.L0.st (dataL_2,n_2,blockSize,b,(bo .i64 b blockSize),x1))) (
   kx (aN.L0.bK ((dataL_2,n_2,blockSize),(a,o0_2))).1 (aN.L0.bK ((dataL_2,n_2,blockSize),(a,o0_2))).2):=by kernel_rfl
theorem aN.L1.run:bD aN.L1.call aN.L1.aq aN.L1.add aN.L1.F:=fy (fx [.n,.d ti,.d ti,.d (.slice jl)] fun _=>by kernel_rfl)
theorem aN.L1.aE:fY @aN.L1.R aN.L1.st aN.L1.aq aN.L1.add aN.L1.F aN.L1.bK aN.L1.Ok:=gj
theorem aN.L1.step{R:Type}(dataL_3:Nat)(n_3:Int)(blockSize_2:Int)(o0_3:(List iD))(kn:AS→Option R)(kx:Exit→AS→Option R):aN.L1.R (dataL_3,n_3,blockSize_2,o0_3) kn kx=
  aD ((gM blockSize_2 n_3)) (
   ab (aN.L2.call (dataL_3,n_3,blockSize_2,(0:Int),(eK .i64 (2:Int) blockSize_2),o0_3)) fun x1=>
   aD ((gM (bo .i64 x1.2.2.2.1 x1.2.2.1) x1.2.1)) (
    none) (
    kn (aN.L1.st (x1.1,x1.2.1,(eK .i64 x1.2.2.1 (2:Int)),x1.2.2.2.2)))) (
   kx (aN.L1.bK o0_3).1 (aN.L1.bK o0_3).2):=by kernel_rfl
theorem aN.eq{R:Type}(dataL:Nat)(n:Int)(o0:(List iD))(k:aT→Option R):aN.A (dataL,n,o0) k=
 ab (aN.L0.call (dataL,n,(20:Int),(0:Int),(20:Int),o0)) fun x2=>
 ab (bF.call (x2.1.1,x2.2.1,x2.1.2.1,x2.2.2)) fun x3=>
 ab (aN.L1.call (x2.1.1,x2.1.2.1,x2.1.2.2,x3)) fun x5=>
 k (aN.out x5):=by kernel_rfl
theorem aN.L2.ok:aN.L2.Ok:=fun d h=>h.elim
theorem aN.L1.ok:aN.L1.Ok:=by
 refine aN.L1.aE (fun _=>0) ?_
 rintro⟨m,n,z,l⟩ h
 have h:n≤z:=h
 right
 intro R kn kx
 rw[aN.L1.step,bk (by omega),ae]
 rfl
theorem aN.L0.ok:aN.L0.Ok:=by
 refine aN.L0.aE (fun(m,n,z,a,b,l)=>(40 - b).toNat) ?_
 rintro⟨m,n,z,a,b,l⟩ ⟨rfl,rfl,rfl,hl,h⟩
 have hl:l.length≤20:=hl
 rcases h with⟨rfl,rfl⟩ | ⟨rfl,rfl⟩
 ·by_cases h20:l.length=20
  ·left
   have hp:=(jk l).length_eq
   refine⟨((iO l).length,((iO l).length:Int),20,20,40,iO l),⟨rfl,rfl,rfl,by show(iO l).length≤20;omega,.inr ⟨rfl,rfl⟩⟩,by show(40 - (40:Int)).toNat < (40 - (20:Int)).toNat;decide,?_,fun kn kx=> ?_⟩
   ·simp only[aN.L0.add,aN.L0.F]
    rw[if_neg (fun h=>absurd h.1 (by decide)),if_pos ⟨by trivial,by omega⟩,hp]
   ·rw[aN.L0.step,pa (by omega),ah,bF.run (d:=(l.length,0,20,l)) ⟨rfl,by show l.length≤1000;omega,.inl ⟨rfl,by show(20:Int)=(l.length:Int);omega⟩⟩]
    simp only[aa,bF.add,bF.F,if_true]
    rw[show bo .i64 20 20=40 from rfl,hp]
  ·right
   intro R kn kx
   rw[aN.L0.step,kV (by omega),ae]
   simp only[aN.L0.add,aN.L0.F]
   rw[if_neg (fun h=>h20 (by have:=h.2;omega))]
 ·right
  intro R kn kx
  rw[aN.L0.step,kV (by omega),ae]
  simp only[aN.L0.add,aN.L0.F]
  rw[if_neg (fun h=>absurd h.1 (by decide))]
theorem aN.ok:aN.Ok:=by
 rintro⟨m,n,l⟩ ⟨rfl,rfl,hl⟩
 have hl:l.length≤20:=hl
 have hp:=(jk l).length_eq
 rw[aN.eq,aN.L0.run (d:=(l.length,(l.length:Int),20,0,20,l)) ⟨rfl,rfl,rfl,hl,.inl ⟨rfl,rfl⟩⟩]
 simp only[aa,aN.L0.add,aN.L0.F,aN.add,aN.F]
 by_cases h20:l.length=20
 ·rw[if_pos ⟨by trivial,by omega⟩]
  rw[bF.run (d:=(l.length,20,(l.length:Int),iO l)) ⟨by show l.length=(iO l).length;omega,by show(iO l).length≤1000;omega,.inr ⟨by show(20:Int)=(l.length:Int);omega,by decide,by decide⟩⟩]
  simp only[aa,bF.add,bF.F]
  rw[if_neg (by decide),aN.L1.run (d:=(l.length,(l.length:Int),20,iO l)) (by show(l.length:Int)≤20;omega)]
  rfl
 ·rw[if_neg (fun h=>h20 (by have:=h.2;omega))]
  rw[bF.run (d:=(l.length,0,(l.length:Int),l)) ⟨rfl,by show l.length≤1000;omega,.inl ⟨rfl,rfl⟩⟩]
  simp only[aa,bF.add,bF.F,if_true]
  rw[aN.L1.run (d:=(l.length,(l.length:Int),20,iO l)) (by show(l.length:Int)≤20;omega)]
  rfl
noncomputable def aN.E:=Entry.cD [none,some ti,none] aN.st aN.aq aN.add aN.F aN.out
noncomputable def aN.call:aN.D→Option aN.X:=bC aN.E aN.st
theorem aN.run:bD aN.call aN.aq aN.add aN.F:=cw (cv [.n,.d ti,.d (.slice jl)] fun _=>by kernel_rfl)
noncomputable def aN.sg:SG Tryz.prog:=⟨131,aK,aN.E,.fn 3 (by kernel_rfl) aN.ok (And.intro (.cD aN.L0.ok (by kernel_rfl)) (And.intro (.cD aN.L1.ok (by kernel_rfl)) (And.intro (.cD aN.L2.ok (by kernel_rfl)) trivial)))⟩
abbrev gh.D:=Nat×(List iD)
def gh.st:gh.D→SA:=fun(xL,o0)=>([.cT (.dI 0) 0 [] 0 0 xL,.fn 86 (.nil)],[.obj 0 false (.vec 181 jl o0)])
abbrev gh.Y:=(List iD)
abbrev gh.X:=(List iD)
def gh.out:gh.X→aT:=fun x=>⟨.nil,[.obj 0 false (.vec 181 jl x)],[]⟩
def gh.add:gh.D→gh.Y→gh.X:=fun(xL,o0) y=>y
def gh.aq:gh.D→Prop:=fun(m,l)=>m=l.length∧l.length≤20
def gh.F:gh.D→gh.Y:=fun(m,l)=>iO l
noncomputable def gh.G:dU:=eZ (P:=Tryz.prog) [aN.sg]
noncomputable def gh.an:eu:= {}
noncomputable def gh.A:= @cq Tryz.prog gh.G gh.an 0 Tryz.f85 _ gh.st
abbrev gh.Ok:=cr @gh.A gh.aq gh.add gh.F gh.out
theorem gh.eq{R:Type}(xL:Nat)(o0:(List iD))(k:aT→Option R):gh.A (xL,o0) k=
 ab (aN.call (xL,((xL:Nat):Int),o0)) fun x1=>
 k (gh.out x1):=by kernel_rfl
theorem gh.ok:gh.Ok:=by
 rintro⟨m,l⟩ ⟨rfl,hl⟩
 rw[gh.eq,aN.run (d:=(l.length,(l.length:Int),l)) ⟨rfl,rfl,hl⟩]
 rfl
noncomputable def gh.E:=Entry.cD [none,none] gh.st gh.aq gh.add gh.F gh.out
noncomputable def gh.call:gh.D→Option gh.X:=bC gh.E gh.st
theorem gh.run:bD gh.call gh.aq gh.add gh.F:=cw (cv [.n,.d (.slice jl)] fun _=>by kernel_rfl)
noncomputable def gh.sg:SG Tryz.prog:=⟨85,aK,gh.E,.fn 0 (by kernel_rfl) gh.ok trivial⟩
set_option synthInstance.maxSize 5000
noncomputable section
def Gy:fG:=((0:Int),((0:Int),((0:Int),((0:Int),((0:Int),())))))
theorem Eh:∃f:Lk→List Int,∀l,f l=Ix l:=⟨_,fun _=>rfl⟩
def IP:Lk→List Int:=Classical.choose Eh
theorem Ha(l:Lk):IP l=Ix l:=Classical.choose_spec Eh l
theorem fN.c{l:Lk}(h:oM l):fN.call l=some (IP l):=by
 rw[fN.run (d:=l) h,Ha]
 simp only[fN.add,fN.F]
def A2(n:Int)(l:Lk)(r:qR):iD:=((n,(l,())),(r,(IP l,())))
abbrev fu.D:=Int×Lk×qR
def fu.st:fu.D→SA:=fun(amount,l,role)=>([.d ti amount,.d nS l,.d yl role,.ptr (.dI 0) 0 [] 0],[.obj 0 false (.dQ)])
abbrev fu.Y:=(List iD)
abbrev fu.X:=(List iD)
def fu.out:fu.X→aT:=fun x=>⟨.nil,[.obj 0 false (.cT (.new 0 0) 0 [] 0 0 1)],[.obj 0 false (.vec 181 jl x)]⟩
def fu.add:fu.D→fu.Y→fu.X:=fun(amount,l,role) y=>y
def fu.aq:fu.D→Prop:=fun(n,l,r)=>oM l
def fu.F:fu.D→fu.Y:=fun(n,l,r)=> [A2 n l r]
noncomputable def fu.G:dU:=eZ (P:=Tryz.prog) [fN.sg]
noncomputable def fu.an:eu:= {}
noncomputable def fu.A:= @cq Tryz.prog fu.G fu.an 0 Tryz.f80 _ fu.st
abbrev fu.Ok:=cr @fu.A fu.aq fu.add fu.F fu.out
theorem fu.eq{R:Type}(amount:Int)(l:Lk)(role:qR)(k:aT→Option R):fu.A (amount,l,role) k=
 ab (fN.call l) fun x1=>
 k (fu.out [((amount,(l,())),(role,(x1,())))]):=by kernel_rfl
theorem fu.ok:fu.Ok:=by
 rintro⟨n,l,r⟩ hl
 rw[fu.eq,fN.c hl]
 rfl
noncomputable def fu.E:=Entry.cD [some ti,some nS,some yl,none] fu.st fu.aq fu.add fu.F fu.out
noncomputable def fu.call:fu.D→Option fu.X:=bC fu.E fu.st
theorem fu.run:bD fu.call fu.aq fu.add fu.F:=cw (cv [.d ti,.d nS,.d yl] fun _=>by kernel_rfl)
noncomputable def fu.sg:SG Tryz.prog:=⟨80,aK,fu.E,.fn 0 (by kernel_rfl) fu.ok trivial⟩
abbrev fh.D:=Int×Lk×qR×Nat×(List iD)
def fh.st:fh.D→SA:=fun(amount,l,role,o0L,o1)=>([.d ti amount,.d nS l,.d yl role,.ptr (.dI 0) 0 [] 0],[.obj 0 false (.cT (.dI 1) 0 [] 0 0 o0L),.obj 0 false (.vec 181 jl o1)])
abbrev fh.Y:=Nat×(List iD)
abbrev fh.X:=Nat×(List iD)
def fh.out:fh.X→aT:=fun x=>⟨.nil,[.obj 0 false (.cT (.dI 1) 1 [] 0 0 x.1),.obj 1 false (.vec 181 jl x.2)],[]⟩
def fh.add:fh.D→fh.Y→fh.X:=fun(amount,l,role,o0L,o1) y=>y
def fh.aq:fh.D→Prop:=fun(n,l,r,m,row)=>oM l∧m=row.length∧row.length≤1000
def fh.F:fh.D→fh.Y:=fun(n,l,r,m,row)=>(row.length+1,row++ [A2 n l r])
noncomputable def fh.G:dU:=eZ (P:=Tryz.prog) [fN.sg]
noncomputable def fh.an:eu:= {}
noncomputable def fh.A:= @cq Tryz.prog fh.G fh.an 0 Tryz.f80 _ fh.st
abbrev fh.Ok:=cr @fh.A fh.aq fh.add fh.F fh.out
theorem fh.eq{R:Type}(amount:Int)(l:Lk)(role:qR)(o0L:Nat)(o1:(List iD))(k:aT→Option R):fh.A (amount,l,role,o0L,o1) k=
 ab (fN.call l) fun x1=>
 aD (decide (o0L≤(List.length o1))) (
 aD (dK (o0L+1) 112) (
 k (fh.out ((o0L+1),((List.take o0L o1)++ [((amount,(l,())),(role,(x1,())))])))) none) none:=by kernel_rfl
theorem fh.ok:fh.Ok:=by
 rintro⟨n,l,r,m,row⟩ ⟨hl,rfl,hr⟩
 have hr:row.length≤1000:=hr
 rw[fh.eq,fN.c hl,aa,aL (Nat.le_refl _),ah,eR (by omega) (by omega),ah,List.take_length]
 rfl
noncomputable def fh.E:=Entry.cD [some ti,some nS,some yl,none] fh.st fh.aq fh.add fh.F fh.out
noncomputable def fh.call:fh.D→Option fh.X:=bC fh.E fh.st
theorem fh.run:bD fh.call fh.aq fh.add fh.F:=cw (cv [.d ti,.d nS,.d yl,.n,.d (.slice jl)] fun _=>by kernel_rfl)
noncomputable def fh.sg:SG Tryz.prog:=⟨80,aK,fh.E,.fn 0 (by kernel_rfl) fh.ok trivial⟩
noncomputable def put.E:Entry:=Entry.alt Hj [some ti,some nS,some yl,none] (X:=fu.X) (Y:=fh.X) fu.E.run fh.E.run fu.E.out fh.E.out
noncomputable def put.sg:SG Tryz.prog:=⟨80,aK,put.E,lU.alt fu.sg.h fh.sg.h⟩
theorem fu.at{n:Int}{l:Lk}{r:qR}(hl:oM l):Av (Y:=fh.X) (fu.call (n,l,r))=some ([A2 n l r],default):=by rw[fu.run (d:=(n,l,r)) hl];rfl
theorem fh.at{n:Int}{l:Lk}{r:qR}{m:Nat}{row:List iD}(hl:oM l)(hm:m=row.length)(hr:row.length≤1000):qT (X:=fu.X) (fh.call (n,l,r,m,row))=some (default,row.length+1,row++ [A2 n l r]):=by rw[fh.run (d:=(n,l,r,m,row)) ⟨hl,hm,hr⟩];rfl
theorem sI{l:Lk}(h:∀b∈l.1,HL b)(h2:l.1.length≤100):oM l:=⟨h,by omega⟩
theorem vP{p a d s:Int}(hp:fo p)(hs:fo s):HL ([p],(a,(d,(s,())))):=⟨fun x hx=>by rw[List.mem_singleton.1 hx];exact hp,hs⟩
theorem qL:fo 0:=⟨by decide,by decide⟩
theorem zl{a b d:Int}(ha:fo a)(hb:fo b):oM (uN a b d):=sI (fun x hx=>by
 rcases List.mem_cons.1 hx with rfl | hx
 ·exact vP hb qL
 ·rw[List.mem_singleton.1 hx];exact vP ha qL) (by show 2≤_;decide)
theorem xR{a:Int}(ha:fo a):oM (xt [a]):=sI (fun x hx=>by rw[List.mem_singleton.1 hx];exact vP ha qL) (by show 1≤_;decide)
theorem og{a:Int}(ha:fo a):oM (nU a):=sI (fun x hx=>by
 rcases List.mem_cons.1 hx with rfl | hx
 ·exact vP ha qL
 ·rw[List.mem_singleton.1 hx];exact⟨fun y hy=>(by cases hy),qL⟩) (by show 2≤_;decide)
def Gj(rev theirs mine wait:Int)(c:fG):Lk:=([([rev],((0:Int),((0:Int),((0:Int),())))),([theirs],((0:Int),((0:Int),(c.2.2.2.1,())))),([mine],(c.2.2.2.2.1,(wait,((0:Int),()))))],())
def Gk(rev theirs mine wait:Int)(c:fG):Lk:=([([rev],((0:Int),((0:Int),((0:Int),())))),([mine],((0:Int),(wait,(c.2.2.2.1,())))),([theirs],(c.2.2.2.2.1,((0:Int),((0:Int),()))))],())
theorem Gh{rev theirs mine wait:Int}{c:fG}(h1:fo rev)(h2:fo theirs)(h3:fo mine)(h4:fo c.2.2.2.1):oM (Gj rev theirs mine wait c):=sI (fun x hx=>by
 rcases List.mem_cons.1 hx with rfl | hx
 ·exact vP h1 qL
 rcases List.mem_cons.1 hx with rfl | hx
 ·exact vP h2 h4
 ·rw[List.mem_singleton.1 hx];exact vP h3 qL) (by show 3≤_;decide)
theorem Gi{rev theirs mine wait:Int}{c:fG}(h1:fo rev)(h2:fo theirs)(h3:fo mine)(h4:fo c.2.2.2.1):oM (Gk rev theirs mine wait c):=sI (fun x hx=>by
 rcases List.mem_cons.1 hx with rfl | hx
 ·exact vP h1 qL
 rcases List.mem_cons.1 hx with rfl | hx
 ·exact vP h3 h4
 ·rw[List.mem_singleton.1 hx];exact vP h2 qL) (by show 3≤_;decide)
def jH(own rev theirs mine wait:Int)(c:fG):iD:=if c.1=own then A2 c.2.2.1 (Gj rev theirs mine wait c) ((5:Int),(c,())) else A2 c.2.2.1 (Gk rev theirs mine wait c) ((6:Int),(c,()))
def mU(ch:fF)(n:Int):Cp:=nth ma ch.2.2.1 n.toNat
def rY(ch:fF)(n:Int):Int:=(nth iY ch.2.2.2.1 n.toNat).2.2.1
def mH(ch:fF)(s:fL)(own per:Int):List iD:=
 (if vo (dP ch s own)=true then [A2 (dP ch s own) (uN (pX (mU ch own).2.2.1 per) (tM (mU ch (1 - own)).2.2.2.2.1 per) (rY ch (1 - own))) ((1:Int),(Gy,()))] else [])++
 ((if vo (dP ch s (1 - own))=true then [A2 (dP ch s (1 - own)) (xt [(mU ch (1 - own)).2.1]) ((2:Int),(Gy,()))] else [])++
 ([A2 330 (nU (mU ch own).1) ((3:Int),(Gy,())),A2 330 (nU (mU ch (1 - own)).1) ((4:Int),(Gy,()))]++
 (dT s.2.2.1).map (jH own (tM (mU ch (1 - own)).2.2.2.2.1 per) (pX (mU ch (1 - own)).2.2.2.1 per) (pX (mU ch own).2.2.2.1 per) (rY ch (1 - own)))))
def ofRow(ch:fF)(s:fL)(own:Int)(l:List iD):Aq:=(([(ch.1,(((0:Int),(([]:List Sg),((0:Int),()))),()))],(l.map (fun m=>m.1),(2*s.1+own,()))),(l.map (fun m=>m.2.1),()))
def eQ(ch:fF)(s:fL)(own per:Int):Aq:=ofRow ch s own (iO (mH ch s own per))
def Jd:Aq:=((([]:List ja),(([]:List jw),((0:Int),()))),(([]:List qR),()))
def kb(ch:fF)(s:fL)(own per:Int):Aq×Int:=if(decide (own=0∨own=1) && lq per)=true then(if pv ch s=true then(eQ ch s own per,0) else(Jd,14)) else(Jd,1)
abbrev aQ.L0.D:=Int×fF×fL×Int×Int×Int×Int×(List fG)×Int×Int×(Int×Unit)×Nat×(List iD)
def aQ.L0.st:aQ.L0.D→AS:=fun(own_2,ch_2,sv_2,wait,rev,mine,theirs,t139,t140,t141,n8,n15L,n96)=>⟨([.undef,.undef,.d ti own_2,.undef,.fj iu ch_2,.fj hZ sv_2,.undef,.undef,.ptr (.new 8 0) 0 [] 0,.undef,.undef,.d ti wait,.d tu rev,.d tu mine,.d tu theirs,.ptr (.new 15 0) 0 [] 0,.fn 80 (.cons (.ptr (.new 15 0) 0 [] 0) (.nil))]++bw 122 ([.d (.slice gl) t139,.d ti t140,.d ti t141]++bw 82 [])),[],(cC 8 ([[.obj 0 false (.pr (.pr (.dQ) (.pr (.dQ) (.d (.pair ti .unit) n8))) (.pr (.dQ) (.d .unit ())))]]++cC 6 ([[.obj 0 false (.cT (.new 96 0) 0 [] 0 0 n15L)]]++cC 80 ([[.obj 0 false (.vec 181 jl n96)]]++cC 127 []))))⟩
abbrev aQ.L0.Y0:=Nat×(List iD)
abbrev aQ.L0.X0:=(Int×fF×fL×(Int×Unit))×(Nat×(List iD))
def aQ.L0.bK:aQ.L0.X0→Exit×AS:=fun x=>(.exit 1,⟨([.undef,.undef,.d ti x.1.1,.undef,.fj iu x.1.2.1,.fj hZ x.1.2.2.1,.undef,.undef,.ptr (.new 8 0) 0 [] 0]++bw 6 ([.ptr (.new 15 0) 0 [] 0]++bw 208 [])),[],(cC 8 ([[.obj 0 false (.pr (.pr (.dQ) (.pr (.dQ) (.d (.pair ti .unit) x.1.2.2.2))) (.pr (.dQ) (.d .unit ())))]]++cC 6 ([[.obj 0 false (.cT (.new 96 0) 0 [] 0 0 x.2.1)]]++cC 80 ([[.obj 0 false (.vec 181 jl x.2.2)]]++cC 127 []))))⟩)
abbrev aQ.L0.X:=aQ.L0.X0
abbrev aQ.L0.Y:=aQ.L0.Y0
def aQ.L0.out:aQ.L0.X→Out (Exit×AS):=fun x=> .ok (aQ.L0.bK x)
def aQ.L0.add:aQ.L0.D→aQ.L0.Y→aQ.L0.X:=fun(own_2,ch_2,sv_2,wait,rev,mine,theirs,t139,t140,t141,n8,n15L,n96) y=>((own_2,ch_2,sv_2,n8),y)
abbrev aQ.L1.D:=Nat×Int×Int×(Int×Unit)×(List ja)×Nat×(Int×Unit)×Nat×(List iD)×(List jw)×(List qR)
def aQ.L1.st:aQ.L1.D→AS:=fun(t200L,t201,t202,n8_2,n24,n24L,n24_2,n24L_2,n96_2,n212,n220)=>⟨(bw 8 ([.ptr (.new 8 0) 0 [] 0]++bw 15 ([.ptr (.new 24 0) 0 [] 0]++bw 175 ([.cT (.new 96 0) 0 [] 0 0 t200L,.d ti t201,.d ti t202]++bw 21 [])))),[],(cC 8 ([[.obj 0 false (.pr (.pr (.dQ) (.pr (.dQ) (.d (.pair ti .unit) n8_2))) (.pr (.dQ) (.d .unit ())))]]++cC 15 ([[.obj 0 false (.pr (.pr (.d (.slice jR) n24) (.pr (.cT (.new 212 0) 0 [] 0 0 n24L) (.d (.pair ti .unit) n24_2))) (.pr (.cT (.new 220 0) 0 [] 0 0 n24L_2) (.d .unit ())))]]++cC 71 ([[.obj 0 false (.vec 181 jl n96_2)]]++cC 115 ([[.obj 0 false (.vec 100 mR n212)]]++cC 7 [[.obj 0 false (.vec 95 yl n220)],[],[],[]])))))⟩
abbrev aQ.L1.Y0:=Nat×Nat×(List jw)×(List qR)
abbrev aQ.L1.X0:=((Int×Unit)×(List ja)×(Int×Unit))×(Nat×Nat×(List jw)×(List qR))
def aQ.L1.bK:aQ.L1.X0→Exit×AS:=fun x=>(.exit 3,⟨(bw 8 ([.ptr (.new 8 0) 0 [] 0]++bw 15 ([.ptr (.new 24 0) 0 [] 0]++bw 199 []))),[],(cC 8 ([[.obj 0 false (.pr (.pr (.dQ) (.pr (.dQ) (.d (.pair ti .unit) x.1.1))) (.pr (.dQ) (.d .unit ())))]]++cC 15 ([[.obj 0 false (.pr (.pr (.d (.slice jR) x.1.2.1) (.pr (.cT (.new 212 0) 0 [] 0 0 x.2.1) (.d (.pair ti .unit) x.1.2.2))) (.pr (.cT (.new 220 0) 0 [] 0 0 x.2.2.1) (.d .unit ())))]]++cC 187 ([[.obj 0 false (.vec 100 mR x.2.2.2.1)]]++cC 7 [[.obj 0 false (.vec 95 yl x.2.2.2.2)],[],[],[]]))))⟩)
abbrev aQ.L1.X:=aQ.L1.X0
abbrev aQ.L1.Y:=aQ.L1.Y0
def aQ.L1.out:aQ.L1.X→Out (Exit×AS):=fun x=> .ok (aQ.L1.bK x)
def aQ.L1.add:aQ.L1.D→aQ.L1.Y→aQ.L1.X:=fun(t200L,t201,t202,n8_2,n24,n24L,n24_2,n24L_2,n96_2,n212,n220) y=>((n8_2,n24,n24_2),y)
abbrev aQ.D:=fF×fL×Int×Int
def aQ.st:aQ.D→SA:=fun(ch,sv,own,per)=>([.d iu ch,.d hZ sv,.d ti own,.d tu per],[])
abbrev aQ.Y:=Aq×Int
abbrev aQ.X:=Aq×Int
def aQ.out:aQ.X→aT:=fun x=>⟨.cons (.d HA x.1) (.cons (.d ti x.2) (.nil)),[],[]⟩
def aQ.add:aQ.D→aQ.Y→aQ.X:=fun(ch,sv,own,per) y=>y
def aQ.L0.aq:aQ.L0.D→Prop:=fun(own,ch,s,wait,rev,mine,theirs,l,m,i,z,L,row)=>(∀c∈l,fo c.2.2.2.1)∧(fo rev∧fo mine∧fo theirs)∧l.length≤16∧m=l.length∧L=row.length∧∃k:Nat,k≤l.length∧i=k∧row.length≤4+k
def aQ.L0.F:aQ.L0.D→aQ.L0.Y:=fun(own,ch,s,wait,rev,mine,theirs,l,m,i,z,L,row)=>((row++(l.drop i.toNat).map (jH own rev theirs mine wait)).length,row++(l.drop i.toNat).map (jH own rev theirs mine wait))
def aQ.L1.aq:aQ.L1.D→Prop:=fun(L,m,i,z,ins,lo,note,lr,row,outs,roles)=>L=row.length∧m=row.length∧lo=outs.length∧lr=roles.length∧row.length≤1000∧∃k:Nat,k≤row.length∧i=k∧outs.length≤k∧roles.length≤k
def aQ.L1.F:aQ.L1.D→aQ.L1.Y:=fun(L,m,i,z,ins,lo,note,lr,row,outs,roles)=>((outs++(row.drop i.toNat).map (fun m=>m.1)).length,(roles++(row.drop i.toNat).map (fun m=>m.2.1)).length,outs++(row.drop i.toNat).map (fun m=>m.1),roles++(row.drop i.toNat).map (fun m=>m.2.1))
def aQ.aq:aQ.D→Prop:=fun(ch,s,own,per)=>jn ch∧nG s∧fo per
def aQ.F:aQ.D→aQ.Y:=fun(ch,s,own,per)=>kb ch s own per
noncomputable def aQ.G:dU:=eZ (P:=Tryz.prog) [ed.sg,cP.sg,ak.sg,cE.sg,fJ.sg,eg.sg,cz.sg,fa.sg,put.sg,gf.sg,cF.sg,bh.sg,gh.sg]
noncomputable def aQ.L0.E:=cf.cD aQ.L0.st aQ.L0.aq aQ.L0.add aQ.L0.F aQ.L0.out
noncomputable def aQ.L0.call:aQ.L0.D→Option aQ.L0.X:=dL aQ.L0.E aQ.L0.st
noncomputable def aQ.L1.E:=cf.cD aQ.L1.st aQ.L1.aq aQ.L1.add aQ.L1.F aQ.L1.out
noncomputable def aQ.L1.call:aQ.L1.D→Option aQ.L1.X:=dL aQ.L1.E aQ.L1.st
noncomputable def aQ.an:eu:= {loops:=ki [(20,{bu:=[2,4,5,8,11,12,13,14,15,16,139,140,141],sites:=[8,15,96,117,126],j6:=[⟨15,[.arr],96,0⟩]}),(32,{bu:=[8,24,200,201,202],sites:=[8,24,96,212,220],j6:=[⟨24,[.fst,.snd,.fst],212,60⟩,⟨24,[.snd,.fst],220,81⟩]})],outs:=kh [(20,{bu:=[2,4,5,8,15],sites:=[8,15,96]},{bu:=[8,9]}),(32,{bu:=[8,24],sites:=[8,24,212,220]},{bu:=[8,9]})],gq:=lv [(20,aQ.L0.E),(32,aQ.L1.E)],res:=[some HA,none]}
noncomputable def aQ.A:= @cq Tryz.prog aQ.G aQ.an 0 Tryz.f37 _ aQ.st
abbrev aQ.Ok:=cr @aQ.A aQ.aq aQ.add aQ.F aQ.out
noncomputable def aQ.L0.R:= @cM Tryz.prog aQ.G aQ.an 0 Tryz.f37 0 _ aQ.L0.st
abbrev aQ.L0.Ok:=fk Tryz.prog aQ.G aQ.an 0 Tryz.f37 0 aQ.L0.st aQ.L0.aq aQ.L0.add aQ.L0.F aQ.L0.out
noncomputable def aQ.L1.R:= @cM Tryz.prog aQ.G aQ.an 0 Tryz.f37 1 _ aQ.L1.st
abbrev aQ.L1.Ok:=fk Tryz.prog aQ.G aQ.an 0 Tryz.f37 1 aQ.L1.st aQ.L1.aq aQ.L1.add aQ.L1.F aQ.L1.out
theorem aQ.L0.run:bD aQ.L0.call aQ.L0.aq aQ.L0.add aQ.L0.F:=fy (fx [.d ti,.d iu,.d hZ,.d ti,.d tu,.d tu,.d tu,.d (.slice gl),.d ti,.d ti,.d (.pair ti .unit),.n,.d (.slice jl)] fun _=>by kernel_rfl)
theorem aQ.L0.aE:fY @aQ.L0.R aQ.L0.st aQ.L0.aq aQ.L0.add aQ.L0.F aQ.L0.bK aQ.L0.Ok:=gj
theorem aQ.L0.step{R:Type}(own_2:Int)(ch_2:fF)(sv_2:fL)(wait:Int)(rev:Int)(mine:Int)(theirs:Int)(t139:(List fG))(t140:Int)(t141:Int)(n8:(Int×Unit))(n15L:Nat)(n96:(List iD))(kn:AS→Option R)(kx:Exit→AS→Option R):aQ.L0.R (own_2,ch_2,sv_2,wait,rev,mine,theirs,t139,t140,t141,n8,n15L,n96) kn kx=
  aD ((gM t141 t140)) (
   aD (dZ t141 (((List.length t139):Nat):Int)) (
   aD ((jO (nth gl t139 (Int.toNat t141)).1 own_2)) (
    ab (qT (X:=fu.X) (fh.call ((nth gl t139 (Int.toNat t141)).2.2.1,([([rev],((0:Int),((0:Int),((0:Int),())))),([theirs],((0:Int),((0:Int),((nth gl t139 (Int.toNat t141)).2.2.2.1,())))),([mine],((nth gl t139 (Int.toNat t141)).2.2.2.2.1,(wait,((0:Int),()))))],()),((5:Int),((nth gl t139 (Int.toNat t141)),())),n15L,n96))) fun x1=>
    kn (aQ.L0.st (own_2,ch_2,sv_2,wait,rev,mine,theirs,t139,t140,(bo .i64 t141 (1:Int)),n8,x1.2.1,x1.2.2))) (
    ab (qT (X:=fu.X) (fh.call ((nth gl t139 (Int.toNat t141)).2.2.1,([([rev],((0:Int),((0:Int),((0:Int),())))),([mine],((0:Int),(wait,((nth gl t139 (Int.toNat t141)).2.2.2.1,())))),([theirs],((nth gl t139 (Int.toNat t141)).2.2.2.2.1,((0:Int),((0:Int),()))))],()),((6:Int),((nth gl t139 (Int.toNat t141)),())),n15L,n96))) fun x2=>
    kn (aQ.L0.st (own_2,ch_2,sv_2,wait,rev,mine,theirs,t139,t140,(bo .i64 t141 (1:Int)),n8,x2.2.1,x2.2.2)))) none) (
   kx (aQ.L0.bK ((own_2,ch_2,sv_2,n8),(n15L,n96))).1 (aQ.L0.bK ((own_2,ch_2,sv_2,n8),(n15L,n96))).2):=by kernel_rfl
theorem aQ.L1.run:bD aQ.L1.call aQ.L1.aq aQ.L1.add aQ.L1.F:=fy (fx [.n,.d ti,.d ti,.d (.pair ti .unit),.d (.slice jR),.n,.d (.pair ti .unit),.n,.d (.slice jl),.d (.slice mR),.d (.slice yl)] fun _=>by kernel_rfl)
theorem aQ.L1.aE:fY @aQ.L1.R aQ.L1.st aQ.L1.aq aQ.L1.add aQ.L1.F aQ.L1.bK aQ.L1.Ok:=gj
theorem aQ.L1.step{R:Type}(t200L:Nat)(t201:Int)(t202:Int)(n8_2:(Int×Unit))(n24:(List ja))(n24L:Nat)(n24_2:(Int×Unit))(n24L_2:Nat)(n96_2:(List iD))(n212:(List jw))(n220:(List qR))(kn:AS→Option R)(kx:Exit→AS→Option R):aQ.L1.R (t200L,t201,t202,n8_2,n24,n24L,n24_2,n24L_2,n96_2,n212,n220) kn kx=
  aD ((gM t202 t201)) (
   aD (dZ t202 ((t200L:Nat):Int)) (
   aD (decide ((0+(Int.toNat t202)) < (List.length n96_2))) (
   aD (decide ((((0+(Int.toNat t202))*40)+0)=(0+((Int.toNat t202)*40)))) (
   aD (decide (n24L≤(List.length n212))) (
   aD (dK (n24L+1) 32) (
   aD (decide (n24L_2≤(List.length n220))) (
   aD (dK (n24L_2+1) 48) (
   kn (aQ.L1.st (t200L,t201,(bo .i64 t202 (1:Int)),n8_2,n24,(n24L+1),n24_2,(n24L_2+1),n96_2,((List.take n24L n212)++ [(nth jl n96_2 (0+(Int.toNat t202))).1]),((List.take n24L_2 n220)++ [(nth jl n96_2 (0+(Int.toNat t202))).2.1])))) none) none) none) none) none) none) none) (
   kx (aQ.L1.bK ((n8_2,n24,n24_2),(n24L,n24L_2,n212,n220))).1 (aQ.L1.bK ((n8_2,n24,n24_2),(n24L,n24L_2,n212,n220))).2):=by kernel_rfl
theorem aQ.eq{R:Type}(ch:fF)(sv:fL)(own:Int)(per:Int)(k:aT→Option R):aQ.A (ch,sv,own,per) k=
  ab (ed.call own) fun x1=>
  aD ((!x1)) (
   k (aQ.out (((([]:List ja),(([]:List jw),((0:Int),()))),(([]:List qR),())),(1:Int)))) (
   ab (cP.call per) fun x2=>
   aD ((!x2)) (
    k (aQ.out (((([]:List ja),(([]:List jw),((0:Int),()))),(([]:List qR),())),(1:Int)))) (
    ab (ak.call (ch,sv)) fun x3=>
    aD ((!x3)) (
     k (aQ.out (((([]:List ja),(([]:List jw),((0:Int),()))),(([]:List qR),())),(14:Int)))) (
     aD (dZ (bV .i64 (1:Int) own) (2:Int)) (
     aD (dZ (bV .i64 (1:Int) own) (2:Int)) (
     ab (cE.call ((nth ma ch.2.2.1 (Int.toNat (bV .i64 (1:Int) own))).2.2.2.2.1,per)) fun x4=>
     aD (dZ own (2:Int)) (
     ab (fJ.call ((nth ma ch.2.2.1 (Int.toNat own)).2.2.2.1,per)) fun x5=>
     aD (dZ (bV .i64 (1:Int) own) (2:Int)) (
     ab (fJ.call ((nth ma ch.2.2.1 (Int.toNat (bV .i64 (1:Int) own))).2.2.2.1,per)) fun x6=>
     ab (eg.call (ch,sv,own,own)) fun x7=>
     aD (dZ own (2:Int)) (
     ab (cz.call ((nth iY ch.2.2.2.1 (Int.toNat own)),x7)) fun x8=>
     aD (x8) (
      aD (dZ own (2:Int)) (
      ab (fJ.call ((nth ma ch.2.2.1 (Int.toNat own)).2.2.1,per)) fun x9=>
      ab (fa.call (x9,x4,(nth iY ch.2.2.2.1 (Int.toNat (bV .i64 (1:Int) own))).2.2.1)) fun x10=>
      ab (Av (Y:=fh.X) (fu.call (x7,x10,((1:Int),(((0:Int),((0:Int),((0:Int),((0:Int),((0:Int),()))))),()))))) fun x11=>
      ab (eg.call (ch,sv,own,(bV .i64 (1:Int) own))) fun x12=>
      aD (dZ own (2:Int)) (
      ab (cz.call ((nth iY ch.2.2.2.1 (Int.toNat own)),x12)) fun x13=>
      aD (x13) (
       aD (dZ (bV .i64 (1:Int) own) (2:Int)) (
       ab (gf.call (nth ma ch.2.2.1 (Int.toNat (bV .i64 (1:Int) own))).2.1) fun x14=>
       ab (qT (X:=fu.X) (fh.call (x12,x14,((2:Int),(((0:Int),((0:Int),((0:Int),((0:Int),((0:Int),()))))),())),1,x11.1))) fun x15=>
       aD (dZ own (2:Int)) (
       ab (cF.call (nth ma ch.2.2.1 (Int.toNat own)).1) fun x16=>
       ab (qT (X:=fu.X) (fh.call ((330:Int),x16,((3:Int),(((0:Int),((0:Int),((0:Int),((0:Int),((0:Int),()))))),())),x15.2.1,x15.2.2))) fun x17=>
       aD (dZ (bV .i64 (1:Int) own) (2:Int)) (
       ab (cF.call (nth ma ch.2.2.1 (Int.toNat (bV .i64 (1:Int) own))).1) fun x18=>
       ab (qT (X:=fu.X) (fh.call ((330:Int),x18,((4:Int),(((0:Int),((0:Int),((0:Int),((0:Int),((0:Int),()))))),())),x17.2.1,x17.2.2))) fun x19=>
       ab (bh.call (ch,sv,own)) fun x20=>
       ab (aQ.L0.call (own,ch,sv,(nth iY ch.2.2.2.1 (Int.toNat (bV .i64 (1:Int) own))).2.2.1,x4,x5,x6,x20,(((List.length x20):Nat):Int),(0:Int),((0:Int),()),x19.2.1,x19.2.2)) fun x24=>
       ab (gh.call (x24.2.1,x24.2.2)) fun x25=>
       ab (aQ.L1.call (x24.2.1,((x24.2.1:Nat):Int),(0:Int),x24.1.2.2.2,[(x24.1.2.1.1,(((0:Int),(([]:List Sg),((0:Int),()))),()))],0,((bo .i64 (eK .i64 (2:Int) x24.1.2.2.1.1) x24.1.1),()),0,x25,([]:List jw),([]:List qR))) fun x26=>
       aD (decide (0=0∧(0+x26.2.1)≤(List.length x26.2.2.2.1))) (
       aD (decide (0=0∧(0+x26.2.2.1)≤(List.length x26.2.2.2.2))) (
       k (aQ.out (((x26.1.2.1,((cut x26.2.2.2.1 0 x26.2.1),x26.1.2.2)),((cut x26.2.2.2.2 0 x26.2.2.1),())),(0:Int)))) none) none) none) none) none) (
       aD (dZ own (2:Int)) (
       ab (cF.call (nth ma ch.2.2.1 (Int.toNat own)).1) fun x27=>
       ab (qT (X:=fu.X) (fh.call ((330:Int),x27,((3:Int),(((0:Int),((0:Int),((0:Int),((0:Int),((0:Int),()))))),())),1,x11.1))) fun x28=>
       aD (dZ (bV .i64 (1:Int) own) (2:Int)) (
       ab (cF.call (nth ma ch.2.2.1 (Int.toNat (bV .i64 (1:Int) own))).1) fun x29=>
       ab (qT (X:=fu.X) (fh.call ((330:Int),x29,((4:Int),(((0:Int),((0:Int),((0:Int),((0:Int),((0:Int),()))))),())),x28.2.1,x28.2.2))) fun x30=>
       ab (bh.call (ch,sv,own)) fun x31=>
       ab (aQ.L0.call (own,ch,sv,(nth iY ch.2.2.2.1 (Int.toNat (bV .i64 (1:Int) own))).2.2.1,x4,x5,x6,x31,(((List.length x31):Nat):Int),(0:Int),((0:Int),()),x30.2.1,x30.2.2)) fun x32=>
       ab (gh.call (x32.2.1,x32.2.2)) fun x33=>
       ab (aQ.L1.call (x32.2.1,((x32.2.1:Nat):Int),(0:Int),x32.1.2.2.2,[(x32.1.2.1.1,(((0:Int),(([]:List Sg),((0:Int),()))),()))],0,((bo .i64 (eK .i64 (2:Int) x32.1.2.2.1.1) x32.1.1),()),0,x33,([]:List jw),([]:List qR))) fun x34=>
       aD (decide (0=0∧(0+x34.2.1)≤(List.length x34.2.2.2.1))) (
       aD (decide (0=0∧(0+x34.2.2.1)≤(List.length x34.2.2.2.2))) (
       k (aQ.out (((x34.1.2.1,((cut x34.2.2.2.1 0 x34.2.1),x34.1.2.2)),((cut x34.2.2.2.2 0 x34.2.2.1),())),(0:Int)))) none) none) none) none)) none) none) (
      ab (eg.call (ch,sv,own,(bV .i64 (1:Int) own))) fun x35=>
      aD (dZ own (2:Int)) (
      ab (cz.call ((nth iY ch.2.2.2.1 (Int.toNat own)),x35)) fun x36=>
      aD (x36) (
       aD (dZ (bV .i64 (1:Int) own) (2:Int)) (
       ab (gf.call (nth ma ch.2.2.1 (Int.toNat (bV .i64 (1:Int) own))).2.1) fun x37=>
       ab (Av (Y:=fh.X) (fu.call (x35,x37,((2:Int),(((0:Int),((0:Int),((0:Int),((0:Int),((0:Int),()))))),()))))) fun x38=>
       aD (dZ own (2:Int)) (
       ab (cF.call (nth ma ch.2.2.1 (Int.toNat own)).1) fun x39=>
       ab (qT (X:=fu.X) (fh.call ((330:Int),x39,((3:Int),(((0:Int),((0:Int),((0:Int),((0:Int),((0:Int),()))))),())),1,x38.1))) fun x40=>
       aD (dZ (bV .i64 (1:Int) own) (2:Int)) (
       ab (cF.call (nth ma ch.2.2.1 (Int.toNat (bV .i64 (1:Int) own))).1) fun x41=>
       ab (qT (X:=fu.X) (fh.call ((330:Int),x41,((4:Int),(((0:Int),((0:Int),((0:Int),((0:Int),((0:Int),()))))),())),x40.2.1,x40.2.2))) fun x42=>
       ab (bh.call (ch,sv,own)) fun x43=>
       ab (aQ.L0.call (own,ch,sv,(nth iY ch.2.2.2.1 (Int.toNat (bV .i64 (1:Int) own))).2.2.1,x4,x5,x6,x43,(((List.length x43):Nat):Int),(0:Int),((0:Int),()),x42.2.1,x42.2.2)) fun x44=>
       ab (gh.call (x44.2.1,x44.2.2)) fun x45=>
       ab (aQ.L1.call (x44.2.1,((x44.2.1:Nat):Int),(0:Int),x44.1.2.2.2,[(x44.1.2.1.1,(((0:Int),(([]:List Sg),((0:Int),()))),()))],0,((bo .i64 (eK .i64 (2:Int) x44.1.2.2.1.1) x44.1.1),()),0,x45,([]:List jw),([]:List qR))) fun x46=>
       aD (decide (0=0∧(0+x46.2.1)≤(List.length x46.2.2.2.1))) (
       aD (decide (0=0∧(0+x46.2.2.1)≤(List.length x46.2.2.2.2))) (
       k (aQ.out (((x46.1.2.1,((cut x46.2.2.2.1 0 x46.2.1),x46.1.2.2)),((cut x46.2.2.2.2 0 x46.2.2.1),())),(0:Int)))) none) none) none) none) none) (
       aD (dZ own (2:Int)) (
       ab (cF.call (nth ma ch.2.2.1 (Int.toNat own)).1) fun x47=>
       ab (Av (Y:=fh.X) (fu.call ((330:Int),x47,((3:Int),(((0:Int),((0:Int),((0:Int),((0:Int),((0:Int),()))))),()))))) fun x48=>
       aD (dZ (bV .i64 (1:Int) own) (2:Int)) (
       ab (cF.call (nth ma ch.2.2.1 (Int.toNat (bV .i64 (1:Int) own))).1) fun x49=>
       ab (qT (X:=fu.X) (fh.call ((330:Int),x49,((4:Int),(((0:Int),((0:Int),((0:Int),((0:Int),((0:Int),()))))),())),1,x48.1))) fun x50=>
       ab (bh.call (ch,sv,own)) fun x51=>
       ab (aQ.L0.call (own,ch,sv,(nth iY ch.2.2.2.1 (Int.toNat (bV .i64 (1:Int) own))).2.2.1,x4,x5,x6,x51,(((List.length x51):Nat):Int),(0:Int),((0:Int),()),x50.2.1,x50.2.2)) fun x52=>
       ab (gh.call (x52.2.1,x52.2.2)) fun x53=>
       ab (aQ.L1.call (x52.2.1,((x52.2.1:Nat):Int),(0:Int),x52.1.2.2.2,[(x52.1.2.1.1,(((0:Int),(([]:List Sg),((0:Int),()))),()))],0,((bo .i64 (eK .i64 (2:Int) x52.1.2.2.1.1) x52.1.1),()),0,x53,([]:List jw),([]:List qR))) fun x54=>
       aD (decide (0=0∧(0+x54.2.1)≤(List.length x54.2.2.2.1))) (
       aD (decide (0=0∧(0+x54.2.2.1)≤(List.length x54.2.2.2.2))) (
       k (aQ.out (((x54.1.2.1,((cut x54.2.2.2.1 0 x54.2.1),x54.1.2.2)),((cut x54.2.2.2.2 0 x54.2.2.1),())),(0:Int)))) none) none) none) none)) none)) none) none) none) none) none))):=by kernel_rfl
theorem aQ.L0.ok:aQ.L0.Ok:=by
 refine aQ.L0.aE (fun(own,ch,s,wait,rev,mine,theirs,l,m,i,z,L,row)=>l.length - i.toNat) ?_
 rintro⟨own,ch,s,wait,rev,mine,theirs,l,m,i,z,L,row⟩ ⟨hc,⟨h1,h2,h3⟩,hl,rfl,rfl,k,hk,rfl,hr⟩
 have hk:k≤l.length:=hk
 have hl:l.length≤16:=hl
 have hr:row.length≤4+k:=hr
 have h1:fo rev:=h1
 have h2:fo mine:=h2
 have h3:fo theirs:=h3
 by_cases h:k < l.length
 ·left
  have n1:nth gl l k=l[k]:=dS (t:=gl) h
  have hp:fo l[k].2.2.2.1:=hc _ (List.getElem_mem h)
  have hd:(l.drop k).map (jH own rev theirs mine wait)=jH own rev theirs mine wait l[k]::(l.drop (k+1)).map (jH own rev theirs mine wait):=by rw[List.drop_eq_getElem_cons h,List.map_cons]
  have e1:∀x:iD,(row++ [x]).length=row.length+1:=fun x=>by rw[List.length_append];rfl
  refine⟨(own,ch,s,wait,rev,mine,theirs,l,(l.length:Int),((k+1:Nat):Int),z,row.length+1,row++ [jH own rev theirs mine wait l[k]]),⟨hc,⟨h1,h2,h3⟩,hl,rfl,(e1 _).symm,k+1,by omega,rfl,by show(row++ [_]).length≤_;rw[e1];omega⟩,by simp only[Int.toNat_natCast];omega,?_,fun kn kx=> ?_⟩
  ·simp only[aQ.L0.add,aQ.L0.F,Int.toNat_natCast,hd,List.append_assoc,List.singleton_append]
  ·rw[aQ.L0.step,bB (by omega),bz (by omega) (by omega),Int.toNat_natCast,n1,N.mq (by omega)]
   simp only[ah]
   unfold jH
   by_cases ho:l[k].1=own
   ·rw[fg ho,ah,if_pos ho]
    refine(congrArg (fun z=>ab z _) (fh.at (Gh h1 h3 h2 hp) rfl (by omega))).trans ?_
    rfl
   ·rw[eo ho,ae,if_neg ho]
    refine(congrArg (fun z=>ab z _) (fh.at (Gi h1 h3 h2 hp) rfl (by omega))).trans ?_
    rfl
 ·right
  obtain rfl:k=l.length:=by omega
  intro R kn kx
  rw[aQ.L0.step,bk (by omega),ae]
  simp only[aQ.L0.add,aQ.L0.F,Int.toNat_natCast,List.drop_length,List.map_nil,List.append_nil]
theorem aQ.L1.ok:aQ.L1.Ok:=by
 refine aQ.L1.aE (fun(L,m,i,z,ins,lo,note,lr,row,outs,roles)=>row.length - i.toNat) ?_
 rintro⟨L,m,i,z,ins,lo,note,lr,row,outs,roles⟩ ⟨rfl,rfl,rfl,rfl,hl,k,hk,rfl,ho,hr⟩
 have hk:k≤row.length:=hk
 have hl:row.length≤1000:=hl
 have ho:outs.length≤k:=ho
 have hr:roles.length≤k:=hr
 by_cases h:k < row.length
 ·left
  have n1:nth jl row k=row[k]:=dS (t:=jl) h
  have hd:row.drop k=row[k]::row.drop (k+1):=List.drop_eq_getElem_cons h
  have e1:(outs++ [row[k].1]).length=outs.length+1:=by rw[List.length_append];rfl
  have e2:(roles++ [row[k].2.1]).length=roles.length+1:=by rw[List.length_append];rfl
  refine⟨(row.length,(row.length:Int),((k+1:Nat):Int),z,ins,outs.length+1,note,roles.length+1,row,outs++ [row[k].1],roles++ [row[k].2.1]),⟨rfl,rfl,e1.symm,e2.symm,hl,k+1,by omega,rfl,by show(outs++ [_]).length≤_;rw[e1];omega,by show(roles++ [_]).length≤_;rw[e2];omega⟩,by simp only[Int.toNat_natCast];omega,?_,fun kn kx=> ?_⟩
  ·simp only[aQ.L1.add,aQ.L1.F,Int.toNat_natCast,hd,List.map_cons,List.append_assoc,List.singleton_append]
  ·rw[aQ.L1.step,bB (by omega),bz (by omega) (by omega),Int.toNat_natCast]
   simp only[Nat.zero_add]
   rw[n1,N.mq (by omega),aL h,aL (show k*40+0=k*40 from rfl),aL (Nat.le_refl _),aL (Nat.le_refl _),eR (by omega) (by omega),eR (by omega) (by omega),List.take_length,List.take_length]
   simp only[ah]
 ·right
  obtain rfl:k=row.length:=by omega
  intro R kn kx
  rw[aQ.L1.step,bk (by omega),ae]
  simp only[aQ.L1.add,aQ.L1.F,Int.toNat_natCast,List.drop_length,List.map_nil,List.append_nil]
theorem aQ.tail{ch:fF}{s:fL}{own wait rev mine theirs:Int}(hch:jn ch)(hu:nG s)(hs:qO ch s)(ho:own=0∨own=1)(h1:fo rev)(h2:fo mine)(h3:fo theirs){RL:Nat}{R:List iD}(hL:RL=R.length)(hR:R.length≤4):
   (ab (bh.call (ch,s,own)) fun x20=>
    ab (aQ.L0.call (own,ch,s,wait,rev,mine,theirs,x20,(((List.length x20):Nat):Int),(0:Int),((0:Int),()),RL,R)) fun x24=>
    ab (gh.call (x24.2.1,x24.2.2)) fun x25=>
    ab (aQ.L1.call (x24.2.1,((x24.2.1:Nat):Int),(0:Int),x24.1.2.2.2,[(x24.1.2.1.1,(((0:Int),(([]:List Sg),((0:Int),()))),()))],0,((bo .i64 (eK .i64 (2:Int) x24.1.2.2.1.1) x24.1.1),()),0,x25,([]:List jw),([]:List qR))) fun x26=>
    aD (decide (0=0∧(0+x26.2.1)≤(List.length x26.2.2.2.1))) (
    aD (decide (0=0∧(0+x26.2.2.1)≤(List.length x26.2.2.2.2))) (
    some (aQ.out (((x26.1.2.1,((cut x26.2.2.2.1 0 x26.2.1),x26.1.2.2)),((cut x26.2.2.2.2 0 x26.2.2.1),())),(0:Int)))) none) none)=some (aQ.out (ofRow ch s own (iO (R++(dT s.2.2.1).map (jH own rev theirs mine wait))),0)):=by
  subst hL
  have hl:=hs.len
  have hsl:(dT s.2.2.1).length≤16:=Nat.le_trans (List.length_filter_le _ _) hl
  have hno:=hs.no
  rw[bh.run (d:=(ch,s,own)) ⟨hch,ho,by show s.2.2.1.length≤1000;omega⟩]
  simp only[aa,bh.add,bh.F]
  rw[aQ.L0.run (d:=(own,ch,s,wait,rev,mine,theirs,dT s.2.2.1,((dT s.2.2.1).length:Int),0,(0,()),R.length,R)) ⟨fun c hc=>hu.1 c ((List.mem_filter.1 hc).1),⟨h1,h2,h3⟩,hsl,rfl,rfl,0,Nat.zero_le _,rfl,by omega⟩]
  simp only[aa,aQ.L0.add,aQ.L0.F,Int.toNat_zero,List.drop_zero]
  have hq:(R++(dT s.2.2.1).map (jH own rev theirs mine wait)).length≤20:=by rw[List.length_append,List.length_map];omega
  generalize R++(dT s.2.2.1).map (jH own rev theirs mine wait)=Q at hq
  rw[gh.run (d:=(Q.length,Q)) ⟨rfl,hq⟩]
  simp only[aa,gh.add,gh.F]
  have hp:=(jk Q).length_eq
  rw[iw (by omega) (by omega),cR (by omega) (by omega)]
  rw[aQ.L1.run (d:=(Q.length,(Q.length:Int),0,(0,()),[(ch.1,(((0:Int),(([]:List Sg),((0:Int),()))),()))],0,(2*s.1+own,()),0,iO Q,[],[])) ⟨hp.symm,by show(Q.length:Int)=((iO Q).length:Int);rw[hp],rfl,rfl,by show(iO Q).length≤1000;omega,0,Nat.zero_le _,rfl,Nat.le_refl _,Nat.le_refl _⟩]
  simp only[aa,aQ.L1.add,aQ.L1.F,Int.toNat_zero,List.drop_zero,List.nil_append,Nat.zero_add]
  rw[aL ⟨trivial,Nat.le_refl _⟩,ah,aL ⟨trivial,Nat.le_refl _⟩,ah,gI rfl,gI rfl]
  rfl
theorem jn.ba{ch:fF}(h:jn ch){n:Int}(hn:n=0∨n=1):GA (mU ch n):=by
 obtain⟨a,b0,b1,o,rfl,_,_,h1,h2,_⟩:=h
 rcases hn with rfl | rfl
 ·exact h1
 ·exact h2
theorem lZ(l:List Int):fo (rU l):=(Ch l).u
theorem aQ.ok:aQ.Ok:=by
 rintro⟨ch,s,own,per⟩ ⟨hch,hu,hp⟩
 have hch:jn ch:=hch
 have hu:nG s:=hu
 have hp:fo per:=hp
 rw[aQ.eq,ed.run (d:=own) trivial]
 simp only[aa,ed.add,ed.F,aQ.add,aQ.F,kb, -eq_self]
 by_cases ho:own=0∨own=1
 rotate_left
 ·rw[bN ho];rfl
 rw[aL ho,Bool.not_true,ae,cP.run (d:=per) hp]
 simp only[aa,cP.add,cP.F, -eq_self]
 cases hq:lq per
 ·rfl
 rw[Bool.not_true,ae,ak.run (d:=(ch,s)) ⟨hch,hu⟩]
 simp only[aa,ak.add,ak.F,Bool.and_self,if_true, -eq_self]
 cases hok:pv ch s
 ·rfl
 have hs:=lR.1 hok
 have hp':1 - own=0∨1 - own=1:=by omega
 have b0:=hch.ba ho
 have b1:=hch.ba hp'
 have i1:dZ own 2=true:=bz (by omega) (by omega)
 have i2:dZ (1 - own) 2=true:=bz (by omega) (by omega)
 have eB:∀n:Int,nth ma ch.2.2.1 n.toNat=mU ch n:=fun _=>rfl
 have eW:∀n:Int,(nth iY ch.2.2.2.1 n.toNat).2.2.1=rY ch n:=fun _=>rfl
 have c1:cE.call ((mU ch (1 - own)).2.2.2.2.1,per)=some (tM (mU ch (1 - own)).2.2.2.2.1 per):=cE.c b1.2.2.2.2.1 hp
 have c2:fJ.call ((mU ch own).2.2.2.1,per)=some (pX (mU ch own).2.2.2.1 per):=fJ.c b0.2.2.2.1.1 per
 have c3:fJ.call ((mU ch (1 - own)).2.2.2.1,per)=some (pX (mU ch (1 - own)).2.2.2.1 per):=fJ.c b1.2.2.2.1.1 per
 have c4:fJ.call ((mU ch own).2.2.1,per)=some (pX (mU ch own).2.2.1 per):=fJ.c b0.2.2.1.1 per
 have c5:eg.call (ch,s,own,own)=some (dP ch s own):=eg.run (d:=(ch,s,own,own)) ⟨hch,hs,ho,ho⟩
 have c6:eg.call (ch,s,own,1 - own)=some (dP ch s (1 - own)):=eg.run (d:=(ch,s,own,1 - own)) ⟨hch,hs,ho,hp'⟩
 have c7:∀a b c:Int,fa.call (a,b,c)=some (uN a b c):=fun a b c=>fa.run (d:=(a,b,c)) trivial
 have c8:∀a:Int,gf.call a=some (xt [a]):=fun a=>gf.run (d:=a) trivial
 have c9:∀a:Int,cF.call a=some (nU a):=fun a=>cF.run (d:=a) trivial
 have u1:fo (tM (mU ch (1 - own)).2.2.2.2.1 per):=lZ _
 have u2:fo (pX (mU ch own).2.2.2.1 per):=lZ _
 have u3:fo (pX (mU ch (1 - own)).2.2.2.1 per):=lZ _
 have k1:oM (uN (pX (mU ch own).2.2.1 per) (tM (mU ch (1 - own)).2.2.2.2.1 per) (rY ch (1 - own))):=zl (lZ _) u1
 have k2:oM (xt [(mU ch (1 - own)).2.1]):=xR b1.2.1.1
 have k3:oM (nU (mU ch own).1):=og b0.1.1
 have k4:oM (nU (mU ch (1 - own)).1):=og b1.1.1
 have hsh:=fun n=>hch.shown ho n
 rw[Ad (by omega)]
 simp only[eB,eW,i1,i2,ah,Bool.not_true,ae,c1,c2,c3,c4,c5,c6,c7,c8,c9,hsh,aa, -eq_self]
 unfold eQ mH
 cases hA:vo (dP ch s own) <;> cases hB:vo (dP ch s (1 - own))
 ·simp only[ah,ae,if_true,Bool.false_eq_true,if_false,List.nil_append, -eq_self]
  refine(congrArg (fun z=>ab z _) (fu.at k3)).trans ?_
  simp only[aa, -eq_self]
  refine(congrArg (fun z=>ab z _) (fh.at k4 ?_ ?_)).trans ?_
  ·rfl
  ·exact Nat.le_of_ble_eq_true rfl
  simp only[aa, -eq_self]
  exact aQ.tail hch hu hs ho u1 u2 u3 rfl (Nat.le_of_ble_eq_true rfl)
 ·simp only[ah,ae,if_true,Bool.false_eq_true,if_false,List.nil_append, -eq_self]
  refine(congrArg (fun z=>ab z _) (fu.at k2)).trans ?_
  simp only[aa, -eq_self]
  refine(congrArg (fun z=>ab z _) (fh.at k3 ?_ ?_)).trans ?_
  ·rfl
  ·exact Nat.le_of_ble_eq_true rfl
  simp only[aa, -eq_self]
  refine(congrArg (fun z=>ab z _) (fh.at k4 ?_ ?_)).trans ?_
  ·rfl
  ·exact Nat.le_of_ble_eq_true rfl
  simp only[aa, -eq_self]
  exact aQ.tail hch hu hs ho u1 u2 u3 rfl (Nat.le_of_ble_eq_true rfl)
 ·simp only[ah,ae,if_true,Bool.false_eq_true,if_false,List.nil_append, -eq_self]
  refine(congrArg (fun z=>ab z _) (fu.at k1)).trans ?_
  simp only[aa, -eq_self]
  refine(congrArg (fun z=>ab z _) (fh.at k3 ?_ ?_)).trans ?_
  ·rfl
  ·exact Nat.le_of_ble_eq_true rfl
  simp only[aa, -eq_self]
  refine(congrArg (fun z=>ab z _) (fh.at k4 ?_ ?_)).trans ?_
  ·rfl
  ·exact Nat.le_of_ble_eq_true rfl
  simp only[aa, -eq_self]
  exact aQ.tail hch hu hs ho u1 u2 u3 rfl (Nat.le_of_ble_eq_true rfl)
 ·simp only[ah,ae,if_true, -eq_self]
  refine(congrArg (fun z=>ab z _) (fu.at k1)).trans ?_
  simp only[aa, -eq_self]
  refine(congrArg (fun z=>ab z _) (fh.at k2 ?_ ?_)).trans ?_
  ·rfl
  ·exact Nat.le_of_ble_eq_true rfl
  simp only[aa, -eq_self]
  refine(congrArg (fun z=>ab z _) (fh.at k3 ?_ ?_)).trans ?_
  ·rfl
  ·exact Nat.le_of_ble_eq_true rfl
  simp only[aa, -eq_self]
  refine(congrArg (fun z=>ab z _) (fh.at k4 ?_ ?_)).trans ?_
  ·rfl
  ·exact Nat.le_of_ble_eq_true rfl
  simp only[aa, -eq_self]
  exact aQ.tail hch hu hs ho u1 u2 u3 rfl (Nat.le_of_ble_eq_true rfl)
noncomputable def aQ.E:=Entry.cD [some iu,some hZ,some ti,some tu] aQ.st aQ.aq aQ.add aQ.F aQ.out
noncomputable def aQ.call:aQ.D→Option aQ.X:=bC aQ.E aQ.st
theorem aQ.run:bD aQ.call aQ.aq aQ.add aQ.F:=cw (cv [.d iu,.d hZ,.d ti,.d tu] fun _=>by kernel_rfl)
noncomputable def aQ.sg:SG Tryz.prog:=⟨37,aK,aQ.E,.fn 2 (by kernel_rfl) aQ.ok (And.intro (.cD aQ.L0.ok (by kernel_rfl)) (And.intro (.cD aQ.L1.ok (by kernel_rfl)) trivial))⟩
end
end Go.Ab
namespace Go.Ab
open Go.Proofs
set_option maxRecDepth 100000
set_option linter.unusedVariables false
set_option linter.unusedSimpArgs false
set_option synthInstance.maxSize 5000
noncomputable section
def pz(rev pay:Int)(o:oL)(x:jw)(r:qR):List kP:=if r.1=3∨r.1=4 then [] else [(o,(x.1,((if r.1=2 then pay else rev),())))]
def wj(rev pay:Int):List oL→List jw→List qR→List kP
 |o::os,x::xs,r::rs=>pz rev pay o x r++wj rev pay os xs rs
 |_,_,_=> []
def sa(c:Aq)(rev pay:Int):List kP:=wj rev pay (ji c.1) c.1.2.1 c.2.1
def vO:List kP→Int
 |[]=>0
 |x::l=>x.2.1+vO l
def jK(l:List kP)(bp:Int):Int:= -bp*(18+18*l.length)+vO l
structure Jq(x:kP):Prop where
 id:Sm x.1.1
 yH:0≤x.2.1∧x.2.1≤1125899906842624
 key:fo x.2.2.1
def vM(l:List kP):Prop:=l.length≤64∧∀x∈l,Jq x
theorem Ci(rev pay:Int):∀(a:List oL) (b:List jw) (c:List qR),(wj rev pay a b c).length≤a.length
 |[],_,_=>Nat.le_refl _
 |_::_,[],_=>Nat.zero_le _
 |_::_,_::_,[]=>Nat.zero_le _
 |o::a,x::b,r::c=>by
  have:=Ci rev pay a b c
  rw[wj,List.length_append,List.length_cons]
  have h1:(pz rev pay o x r).length≤1:=by unfold pz;split <;> simp
  omega
theorem ud(rev pay:Int):∀(a:List oL) (b:List jw) (c:List qR) (y:kP),y∈wj rev pay a b c→∃o∈a,∃x∈b,∃r∈c,¬(r.1=3∨r.1=4)∧y=(o,(x.1,((if r.1=2 then pay else rev),())))
 |[],_,_,_,h=>by simp[wj]at h
 |_::_,[],_,_,h=>by simp[wj]at h
 |_::_,_::_,[],_,h=>by simp[wj]at h
 |o::a,x::b,r::c,y,h=>by
  rw[wj,List.mem_append]at h
  rcases h with h | h
  ·unfold pz at h
   split at h
   ·cases h
   ·next hr=>
    rw[List.mem_singleton]at h
    exact⟨o,List.mem_cons_self,x,List.mem_cons_self,r,List.mem_cons_self,hr,h⟩
  ·obtain⟨o',h1,x',h2,r',h3,h4⟩:=ud rev pay a b c y h
   exact⟨o',List.mem_cons_of_mem _ h1,x',List.mem_cons_of_mem _ h2,r',List.mem_cons_of_mem _ h3,h4⟩
abbrev da.D:=Int
def da.st:da.D→SA:=fun many=>([.d ti many],[])
abbrev da.Y:=Int
abbrev da.X:=Int
def da.out:da.X→aT:=fun x=>⟨.d ti x,[],[]⟩
def da.add:da.D→da.Y→da.X:=fun many y=>y
def da.aq:da.D→Prop:=fun n=>0≤n∧n≤1000
def da.F:da.D→da.Y:=fun n=>18+18*n
noncomputable def da.G:dU:=eZ (P:=Tryz.prog) []
noncomputable def da.an:eu:= {}
noncomputable def da.A:= @cq Tryz.prog da.G da.an 0 Tryz.f90 _ da.st
abbrev da.Ok:=cr @da.A da.aq da.add da.F da.out
theorem da.eq{R:Type}(many:Int)(k:aT→Option R):da.A many k=
 k (da.out (bo .i64 (bo .i64 (10:Int) (eK .i64 (18:Int) many)) (8:Int))):=by kernel_rfl
theorem da.ok:da.Ok:=by
 rintro(n:Int) ⟨h0,h1⟩
 have h0:(0:Int)≤n:=h0
 have h1:n≤(1000:Int):=h1
 have e1:eK .i64 18 n=18*n:=iw (by omega) (by omega)
 have e2:bo .i64 10 (18*n)=10+18*n:=cR (by omega) (by omega)
 have e3:bo .i64 (10+18*n) 8=18+18*n:=by rw[cR (by omega) (by omega)];omega
 rw[da.eq,e1,e2,e3]
 rfl
noncomputable def da.E:=Entry.cD [some ti] da.st da.aq da.add da.F da.out
noncomputable def da.call:da.D→Option da.X:=bC da.E da.st
theorem da.run:bD da.call da.aq da.add da.F:=cw (cv [.d ti] fun _=>by kernel_rfl)
noncomputable def da.sg:SG Tryz.prog:=⟨90,aK,da.E,.fn 0 (by kernel_rfl) da.ok trivial⟩
abbrev fB.L0.D:=Int×Int×Aq×Nat×(List oL)×Int×Int×(List kP)
def fB.L0.st:fB.L0.D→AS:=fun(rev_2,pay_2,c_2,outL,t13,t14,t15,n46)=>⟨([.undef,.d tu rev_2,.d tu pay_2,.fj HA c_2,.undef,.undef,.undef,.cT (.new 46 0) 0 [] 0 0 outL]++bw 5 ([.d (.slice p9) t13,.d ti t14,.d ti t15]++bw 33 [])),[],(cC 46 [[.obj 0 false (.vec 171 qa n46)],[],[]])⟩
abbrev fB.L0.Y0:=Nat×(List kP)
abbrev fB.L0.X0:=Nat×(List kP)
def fB.L0.bK:fB.L0.X0→Exit×AS:=fun x=>(.exit 0,⟨(bw 7 ([.cT (.new 46 0) 0 [] 0 0 x.1]++bw 41 [])),[],(cC 46 [[.obj 0 false (.vec 171 qa x.2)],[],[]])⟩)
abbrev fB.L0.X:=fB.L0.X0
abbrev fB.L0.Y:=fB.L0.Y0
def fB.L0.out:fB.L0.X→Out (Exit×AS):=fun x=> .ok (fB.L0.bK x)
def fB.L0.add:fB.L0.D→fB.L0.Y→fB.L0.X:=fun(rev_2,pay_2,c_2,outL,t13,t14,t15,n46) y=>y
abbrev fB.D:=Aq×Int×Int
def fB.st:fB.D→SA:=fun(c,rev,pay)=>([.d HA c,.d tu rev,.d tu pay],[])
abbrev fB.Y:=(List kP)
abbrev fB.X:=(List kP)
def fB.out:fB.X→aT:=fun x=>⟨.d (.slice qa) x,[],[]⟩
def fB.add:fB.D→fB.Y→fB.X:=fun(c,rev,pay) y=>y
def fB.L0.aq:fB.L0.D→Prop:=fun(rev,pay,c,L,os,m,i,row)=>os.length≤c.1.2.1.length∧c.1.2.1.length=c.2.1.length∧os.length≤1000∧m=os.length∧L=row.length∧∃k:Nat,k≤os.length∧i=k∧row.length≤k
def fB.L0.F:fB.L0.D→fB.L0.Y:=fun(rev,pay,c,L,os,m,i,row)=>((row++wj rev pay (os.drop i.toNat) (c.1.2.1.drop i.toNat) (c.2.1.drop i.toNat)).length,row++wj rev pay (os.drop i.toNat) (c.1.2.1.drop i.toNat) (c.2.1.drop i.toNat))
def fB.aq:fB.D→Prop:=fun(c,_,_)=>rZ c.1∧c.1.2.1.length=c.2.1.length∧c.1.2.1.length≤1000
def fB.F:fB.D→fB.Y:=fun(c,rev,pay)=>sa c rev pay
noncomputable def fB.G:dU:=eZ (P:=Tryz.prog) [bT.sg]
noncomputable def fB.L0.E:=cf.cD fB.L0.st fB.L0.aq fB.L0.add fB.L0.F fB.L0.out
noncomputable def fB.L0.call:fB.L0.D→Option fB.L0.X:=dL fB.L0.E fB.L0.st
noncomputable def fB.an:eu:= {loops:=ki [(3,{bu:=[1,2,3,7,13,14,15],sites:=[46],j6:=[⟨7,[],46,113⟩]})],outs:=kh [(3,{bu:=[7],sites:=[46]},{bu:=[6]})],gq:=lv [(3,fB.L0.E)],res:=[some (.slice qa)]}
noncomputable def fB.A:= @cq Tryz.prog fB.G fB.an 0 Tryz.f39 _ fB.st
abbrev fB.Ok:=cr @fB.A fB.aq fB.add fB.F fB.out
noncomputable def fB.L0.R:= @cM Tryz.prog fB.G fB.an 0 Tryz.f39 0 _ fB.L0.st
abbrev fB.L0.Ok:=fk Tryz.prog fB.G fB.an 0 Tryz.f39 0 fB.L0.st fB.L0.aq fB.L0.add fB.L0.F fB.L0.out
theorem fB.L0.run:bD fB.L0.call fB.L0.aq fB.L0.add fB.L0.F:=fy (fx [.d tu,.d tu,.d HA,.n,.d (.slice p9),.d ti,.d ti,.d (.slice qa)] fun _=>by kernel_rfl)
theorem fB.L0.aE:fY @fB.L0.R fB.L0.st fB.L0.aq fB.L0.add fB.L0.F fB.L0.bK fB.L0.Ok:=gj
theorem fB.L0.step{R:Type}(rev_2:Int)(pay_2:Int)(c_2:Aq)(outL:Nat)(t13:(List oL))(t14:Int)(t15:Int)(n46:(List kP))(kn:AS→Option R)(kx:Exit→AS→Option R):fB.L0.R (rev_2,pay_2,c_2,outL,t13,t14,t15,n46) kn kx=
  aD ((gM t15 t14)) (
   aD (dZ t15 (((List.length t13):Nat):Int)) (
   aD (dZ t15 (((List.length c_2.1.2.1):Nat):Int)) (
   aD (dZ t15 (((List.length c_2.2.1):Nat):Int)) (
   aD ((jO (nth yl c_2.2.1 (Int.toNat t15)).1 (3:Int))) (
    aD ((jO (nth yl c_2.2.1 (Int.toNat t15)).1 (3:Int))) (
     kn (fB.L0.st (rev_2,pay_2,c_2,outL,t13,t14,(bo .i64 t15 (1:Int)),n46))) (
     aD ((jO (nth yl c_2.2.1 (Int.toNat t15)).1 (2:Int))) (
      aD (decide (outL≤(List.length n46))) (
      aD (dK (outL+1) 56) (
      kn (fB.L0.st (rev_2,pay_2,c_2,(outL+1),t13,t14,(bo .i64 t15 (1:Int)),((List.take outL n46)++ [((nth p9 t13 (Int.toNat t15)),((nth mR c_2.1.2.1 (Int.toNat t15)).1,(pay_2,())))])))) none) none) (
      aD (decide (outL≤(List.length n46))) (
      aD (dK (outL+1) 56) (
      kn (fB.L0.st (rev_2,pay_2,c_2,(outL+1),t13,t14,(bo .i64 t15 (1:Int)),((List.take outL n46)++ [((nth p9 t13 (Int.toNat t15)),((nth mR c_2.1.2.1 (Int.toNat t15)).1,(rev_2,())))])))) none) none))) (
    aD ((jO (nth yl c_2.2.1 (Int.toNat t15)).1 (4:Int))) (
     kn (fB.L0.st (rev_2,pay_2,c_2,outL,t13,t14,(bo .i64 t15 (1:Int)),n46))) (
     aD ((jO (nth yl c_2.2.1 (Int.toNat t15)).1 (2:Int))) (
      aD (decide (outL≤(List.length n46))) (
      aD (dK (outL+1) 56) (
      kn (fB.L0.st (rev_2,pay_2,c_2,(outL+1),t13,t14,(bo .i64 t15 (1:Int)),((List.take outL n46)++ [((nth p9 t13 (Int.toNat t15)),((nth mR c_2.1.2.1 (Int.toNat t15)).1,(pay_2,())))])))) none) none) (
      aD (decide (outL≤(List.length n46))) (
      aD (dK (outL+1) 56) (
      kn (fB.L0.st (rev_2,pay_2,c_2,(outL+1),t13,t14,(bo .i64 t15 (1:Int)),((List.take outL n46)++ [((nth p9 t13 (Int.toNat t15)),((nth mR c_2.1.2.1 (Int.toNat t15)).1,(rev_2,())))])))) none) none)))) none) none) none) (
   kx (fB.L0.bK (outL,n46)).1 (fB.L0.bK (outL,n46)).2):=by kernel_rfl
theorem fB.eq{R:Type}(c:Aq)(rev:Int)(pay:Int)(k:aT→Option R):fB.A (c,rev,pay) k=
 ab (bT.call c.1) fun x1=>
 ab (fB.L0.call (rev,pay,c,0,x1,(((List.length x1):Nat):Int),(0:Int),([]:List kP))) fun x2=>
 aD (decide (0=0∧(0+x2.1)≤(List.length x2.2))) (
 k (fB.out (cut x2.2 0 x2.1))) none:=by kernel_rfl
theorem fB.L0.ok:fB.L0.Ok:=by
 refine fB.L0.aE (fun(rev,pay,c,L,os,m,i,row)=>os.length - i.toNat) ?_
 rintro⟨rev,pay,c,L,os,m,i,row⟩ ⟨ho,hr,hl,rfl,rfl,k,hk,rfl,hrow⟩
 have hk:k≤os.length:=hk
 have ho:os.length≤c.1.2.1.length:=ho
 have hr:c.1.2.1.length=c.2.1.length:=hr
 have hl:os.length≤1000:=hl
 have hrow:row.length≤k:=hrow
 by_cases h:k < os.length
 ·left
  have n1:nth p9 os k=os[k]:=dS (t:=p9) h
  have n2:nth mR c.1.2.1 k=c.1.2.1[k]:=dS (t:=mR) (by omega)
  have n3:nth yl c.2.1 k=c.2.1[k]:=dS (t:=yl) (by omega)
  have hd:wj rev pay (os.drop k) (c.1.2.1.drop k) (c.2.1.drop k)=pz rev pay os[k] c.1.2.1[k] c.2.1[k]++wj rev pay (os.drop (k+1)) (c.1.2.1.drop (k+1)) (c.2.1.drop (k+1)):=by
   rw[List.drop_eq_getElem_cons h,List.drop_eq_getElem_cons (show k < c.1.2.1.length by omega),List.drop_eq_getElem_cons (show k < c.2.1.length by omega),wj]
  have e1:∀x:kP,(row++ [x]).length=row.length+1:=fun x=>by rw[List.length_append];rfl
  have key:∀(t:List kP),t.length≤1→(row++t).length≤k+1:=fun t ht=>by rw[List.length_append];omega
  refine⟨(rev,pay,c,(row++pz rev pay os[k] c.1.2.1[k] c.2.1[k]).length,os,(os.length:Int),((k+1:Nat):Int),row++pz rev pay os[k] c.1.2.1[k] c.2.1[k]),⟨ho,hr,hl,rfl,rfl,k+1,by omega,rfl,key _ (by unfold pz;split <;> simp)⟩,by simp only[Int.toNat_natCast];omega,?_,fun kn kx=> ?_⟩
  ·simp only[fB.L0.add,fB.L0.F,Int.toNat_natCast,hd,List.append_assoc]
  ·rw[fB.L0.step,bB (by omega),bz (by omega) (by omega),bz (by omega) (by omega),bz (by omega) (by omega),Int.toNat_natCast,n1,n2,n3,N.mq (by omega),aL (Nat.le_refl _),eR (by omega) (by omega),List.take_length]
   simp only[ah]
   unfold pz
   by_cases h3:c.2.1[k].1=3
   ·rw[fg h3,if_pos (.inl h3),List.append_nil];rfl
   ·rw[eo h3,ae]
    by_cases h4:c.2.1[k].1=4
    ·rw[fg h4,if_pos (.inr h4),List.append_nil];rfl
    ·rw[eo h4,ae,if_neg (by rintro(x | x);exact h3 x;exact h4 x),e1]
     by_cases h2:c.2.1[k].1=2
     ·rw[fg h2,if_pos h2];rfl
     ·rw[eo h2,if_neg h2];rfl
 ·right
  obtain rfl:k=os.length:=by omega
  intro R kn kx
  rw[fB.L0.step,bk (by omega),ae]
  simp only[fB.L0.add,fB.L0.F,Int.toNat_natCast,List.drop_length,wj,List.append_nil]
theorem wT(t:hP):(ji t).length≤t.2.1.length:=by
 unfold ji l8
 split
 ·rw[List.length_map,List.length_range'];exact Nat.le_refl _
 ·exact Nat.zero_le _
theorem fB.ok:fB.Ok:=by
 rintro⟨c,rev,pay⟩ ⟨hv,hr,hl⟩
 have hl:c.1.2.1.length≤1000:=hl
 have hm:=wT c.1
 have e:bT.call c.1=some (ji c.1):=bT.run (d:=c.1) hv
 rw[fB.eq,e,aa]
 have ea:∀d y,fB.add d y=y:=fun _ _=>rfl
 have eF:fB.F (c,rev,pay)=sa c rev pay:=rfl
 rw[ea,eF]
 unfold sa
 generalize ji c.1=os at hm
 rw[fB.L0.run (d:=(rev,pay,c,0,os,(os.length:Int),0,[])) ⟨hm,hr,by show os.length≤1000;omega,rfl,rfl,0,Nat.zero_le _,rfl,Nat.le_refl _⟩]
 simp only[aa,fB.L0.add,fB.L0.F,Int.toNat_zero,List.drop_zero,List.nil_append,Nat.zero_add]
 rw[aL ⟨trivial,Nat.le_refl _⟩,ah,gI rfl]
noncomputable def fB.E:=Entry.cD [some HA,some tu,some tu] fB.st fB.aq fB.add fB.F fB.out
noncomputable def fB.call:fB.D→Option fB.X:=bC fB.E fB.st
theorem fB.run:bD fB.call fB.aq fB.add fB.F:=cw (cv [.d HA,.d tu,.d tu] fun _=>by kernel_rfl)
noncomputable def fB.sg:SG Tryz.prog:=⟨39,aK,fB.E,.fn 1 (by kernel_rfl) fB.ok (And.intro (.cD fB.L0.ok (by kernel_rfl)) trivial)⟩
abbrev bQ.L0.D:=Int×(List kP)×Int×Int
def bQ.L0.st:bQ.L0.D→AS:=fun(n,t14,t15,t16)=>⟨(bw 5 ([.d ti n]++bw 8 ([.d (.slice qa) t14,.d ti t15,.d ti t16]++bw 9 []))),[],(List.replicate 26 [])⟩
abbrev bQ.L0.Y0:=Int
abbrev bQ.L0.X0:=Int
def bQ.L0.bK:bQ.L0.X0→Exit×AS:=fun x=>(.exit 0,⟨(bw 5 ([.d ti x]++bw 20 [])),[],(List.replicate 26 [])⟩)
abbrev bQ.L0.X:=bQ.L0.X0
abbrev bQ.L0.Y:=bQ.L0.Y0
def bQ.L0.out:bQ.L0.X→Out (Exit×AS):=fun x=> .ok (bQ.L0.bK x)
def bQ.L0.add:bQ.L0.D→bQ.L0.Y→bQ.L0.X:=fun(n,t14,t15,t16) y=>y
abbrev bQ.D:=(List kP)×Int
def bQ.st:bQ.D→SA:=fun(l,bp)=>([.d (.slice qa) l,.d ti bp],[])
abbrev bQ.Y:=Int
abbrev bQ.X:=Int
def bQ.out:bQ.X→aT:=fun x=>⟨.d ti x,[],[]⟩
def bQ.add:bQ.D→bQ.Y→bQ.X:=fun(l,bp) y=>y
def bQ.L0.aq:bQ.L0.D→Prop:=fun(n,l,m,i)=>(∀x∈l,0≤x.2.1∧x.2.1≤1125899906842624)∧l.length≤64∧m=l.length∧∃k:Nat,k≤l.length∧i=k∧ -100000000≤n∧n≤1125899906842624*k
def bQ.L0.F:bQ.L0.D→bQ.L0.Y:=fun(n,l,m,i)=>n+vO (l.drop i.toNat)
def bQ.aq:bQ.D→Prop:=fun(l,bp)=>vM l∧0≤bp∧bp≤1000
def bQ.F:bQ.D→bQ.Y:=fun(l,bp)=>jK l bp
noncomputable def bQ.G:dU:=eZ (P:=Tryz.prog) [da.sg]
noncomputable def bQ.L0.E:=cf.cD bQ.L0.st bQ.L0.aq bQ.L0.add bQ.L0.F bQ.L0.out
noncomputable def bQ.L0.call:bQ.L0.D→Option bQ.L0.X:=dL bQ.L0.E bQ.L0.st
noncomputable def bQ.an:eu:= {loops:=ki [(3,{bu:=[5,14,15,16]})],outs:=kh [(3,{bu:=[5]},{bu:=[4]})],gq:=lv [(3,bQ.L0.E)]}
noncomputable def bQ.A:= @cq Tryz.prog bQ.G bQ.an 0 Tryz.f38 _ bQ.st
abbrev bQ.Ok:=cr @bQ.A bQ.aq bQ.add bQ.F bQ.out
noncomputable def bQ.L0.R:= @cM Tryz.prog bQ.G bQ.an 0 Tryz.f38 0 _ bQ.L0.st
abbrev bQ.L0.Ok:=fk Tryz.prog bQ.G bQ.an 0 Tryz.f38 0 bQ.L0.st bQ.L0.aq bQ.L0.add bQ.L0.F bQ.L0.out
theorem bQ.L0.run:bD bQ.L0.call bQ.L0.aq bQ.L0.add bQ.L0.F:=fy (fx [.d ti,.d (.slice qa),.d ti,.d ti] fun _=>by kernel_rfl)
theorem bQ.L0.aE:fY @bQ.L0.R bQ.L0.st bQ.L0.aq bQ.L0.add bQ.L0.F bQ.L0.bK bQ.L0.Ok:=gj
theorem bQ.L0.step{R:Type}(n:Int)(t14:(List kP))(t15:Int)(t16:Int)(kn:AS→Option R)(kx:Exit→AS→Option R):bQ.L0.R (n,t14,t15,t16) kn kx=
  aD ((gM t16 t15)) (
   aD (dZ t16 (((List.length t14):Nat):Int)) (
   kn (bQ.L0.st ((bo .i64 n (nth qa t14 (Int.toNat t16)).2.1),t14,t15,(bo .i64 t16 (1:Int))))) none) (
   kx (bQ.L0.bK n).1 (bQ.L0.bK n).2):=by kernel_rfl
theorem bQ.eq{R:Type}(l:(List kP))(bp:Int)(k:aT→Option R):bQ.A (l,bp) k=
 ab (da.call (((List.length l):Nat):Int)) fun x1=>
 ab (bQ.L0.call ((eK .i64 (G6 .i64 bp) x1),l,(((List.length l):Nat):Int),(0:Int))) fun x2=>
 k (bQ.out x2):=by kernel_rfl
theorem bQ.L0.ok:bQ.L0.Ok:=by
 refine bQ.L0.aE (fun(n,l,m,i)=>l.length - i.toNat) ?_
 rintro⟨n,l,m,i⟩ ⟨ha,hl,rfl,k,hk,rfl,h0,h1⟩
 have hk:k≤l.length:=hk
 have hl:l.length≤64:=hl
 have h0: -100000000≤n:=h0
 have h1:n≤1125899906842624*k:=h1
 by_cases h:k < l.length
 ·left
  have n1:nth qa l k=l[k]:=dS (t:=qa) h
  have hx:0≤l[k].2.1∧l[k].2.1≤1125899906842624:=ha _ (List.getElem_mem h)
  refine⟨(n+l[k].2.1,l,(l.length:Int),((k+1:Nat):Int)),⟨ha,hl,rfl,k+1,by omega,rfl,by omega,by omega⟩,by simp only[Int.toNat_natCast];omega,?_,fun kn kx=> ?_⟩
  ·simp only[bQ.L0.add,bQ.L0.F,Int.toNat_natCast]
   rw[List.drop_eq_getElem_cons h,vO,Int.add_assoc]
  ·rw[bQ.L0.step,bB (by omega),bz (by omega) (by omega),Int.toNat_natCast,n1,N.mq (by omega),cR (by omega) (by omega)]
   simp only[ah]
 ·right
  obtain rfl:k=l.length:=by omega
  intro R kn kx
  rw[bQ.L0.step,bk (by omega),ae]
  simp only[bQ.L0.add,bQ.L0.F,Int.toNat_natCast,List.drop_length,vO,Int.add_zero]
theorem bQ.ok:bQ.Ok:=by
 rintro⟨l,bp⟩ ⟨hg,h0,h1⟩
 have h0:(0:Int)≤bp:=h0
 have h1:bp≤(1000:Int):=h1
 have hl:l.length≤64:=hg.1
 have hm:=rq (r:=bp) (w:=18+18*(l.length:Int)) (a:=1000) (b:=1170) h0 h1 (by omega) (by omega)
 have e0:G6 .i64 bp= -bp:=by unfold G6;rw[lG (by omega) (by omega)];omega
 have e1: -bp*(18+18*(l.length:Int))= -(bp*(18+18*(l.length:Int))):=Int.neg_mul _ _
 have e4: -100000000≤ -bp*(18+18*(l.length:Int)):=by rw[e1];omega
 have e5: -bp*(18+18*(l.length:Int))≤1125899906842624*((0:Nat):Int):=by rw[e1];omega
 have e2:eK .i64 (-bp) (18+18*(l.length:Int))= -bp*(18+18*(l.length:Int)):=iw (by rw[e1];omega) (by rw[e1];omega)
 have e3:da.call ((l.length:Nat):Int)=some (18+18*(l.length:Int)):=da.run (d:=((l.length:Nat):Int)) ⟨by show(0:Int)≤((l.length:Nat):Int);omega,by show((l.length:Nat):Int)≤1000;omega⟩
 rw[bQ.eq,e3,aa,e0,e2]
 rw[bQ.L0.run (d:=(-bp*(18+18*(l.length:Int)),l,(l.length:Int),0)) ⟨fun x hx=>(hg.2 x hx).yH,hl,rfl,0,Nat.zero_le _,rfl,e4,e5⟩]
 simp only[aa,bQ.L0.add,bQ.L0.F,Int.toNat_zero,List.drop_zero,bQ.add,bQ.F,jK]
noncomputable def bQ.E:=Entry.cD [some (.slice qa),some ti] bQ.st bQ.aq bQ.add bQ.F bQ.out
noncomputable def bQ.call:bQ.D→Option bQ.X:=bC bQ.E bQ.st
theorem bQ.run:bD bQ.call bQ.aq bQ.add bQ.F:=cw (cv [.d (.slice qa),.d ti] fun _=>by kernel_rfl)
noncomputable def bQ.sg:SG Tryz.prog:=⟨38,aK,bQ.E,.fn 1 (by kernel_rfl) bQ.ok (And.intro (.cD bQ.L0.ok (by kernel_rfl)) trivial)⟩
abbrev gD.D:=Int×Int×hP×Int
def gD.st:gD.D→SA:=fun(i,kv,o0,o1)=>([.d ti i,.d tu kv,.ptr (.dI 0) 0 [] 0,.ptr (.dI 1) 0 [] 0],[.obj 0 false (.d kN o0),.obj 0 false (.d ti o1)])
abbrev gD.Y:=Bool×hP×Int
abbrev gD.X:=Bool×hP×Int
def gD.out:gD.X→aT:=fun x=>⟨.d .bool x.1,[.obj 0 false (.d kN x.2.1),.obj 0 false (.d ti x.2.2)],[]⟩
def gD.add:gD.D→gD.Y→gD.X:=fun(i,kv,o0,o1) y=>y
def gD.aq:gD.D→Prop:=fun(_,k,t,_)=>rZ t∧fo k
def gD.F:gD.D→gD.Y:=fun(i,k,t,_)=>(jO (kG t i 0 [k] 0).2 0,kG t i 0 [k] 0)
noncomputable def gD.G:dU:=eZ (P:=Tryz.prog) [bR.sg]
noncomputable def gD.an:eu:= {yV:=[⟨2,[.arr],kN⟩]}
noncomputable def gD.A:= @cq Tryz.prog gD.G gD.an 0 Tryz.f74 _ gD.st
abbrev gD.Ok:=cr @gD.A gD.aq gD.add gD.F gD.out
theorem gD.eq{R:Type}(i:Int)(kv:Int)(o0:hP)(o1:Int)(k:aT→Option R):gD.A (i,kv,o0,o1) k=
 ab (bR.call (o0,i,(0:Int),[kv],(0:Int))) fun x1=>
 k (gD.out ((jO x1.2 (0:Int)),x1.1,x1.2)):=by kernel_rfl
theorem gD.ok:gD.Ok:=by
 rintro⟨i,k,t,e⟩ ⟨hv,hk⟩
 rw[gD.eq,bR.run (d:=(t,i,0,[k],0)) ⟨hv,fun x hx=>by rw[List.mem_singleton]at hx;subst hx;exact hk,Nat.le_of_ble_eq_true rfl⟩]
 rfl
noncomputable def gD.E:=Entry.cD [some ti,some tu,none,none] gD.st gD.aq gD.add gD.F gD.out
noncomputable def gD.call:gD.D→Option gD.X:=bC gD.E gD.st
theorem gD.run:bD gD.call gD.aq gD.add gD.F:=cw (cv [.d ti,.d tu,.d kN,.d ti] fun _=>by kernel_rfl)
noncomputable def gD.sg:SG Tryz.prog:=⟨74,aK,gD.E,.fn 0 (by kernel_rfl) gD.ok trivial⟩
abbrev aR.L0.D:=(List kP)×Lk×Int×(List kP)×Int×Int×(Int×Unit)×Nat×(Int×Unit)×(List ja)
def aR.L0.st:aR.L0.D→AS:=fun(l_2,to_2,n,t22,t23,t24,n6,n9L,n9,n34)=>⟨([.d (.slice qa) l_2,.undef,.undef,.undef,.fj nS to_2,.undef,.ptr (.new 6 0) 0 [] 0,.undef,.d ti n,.ptr (.new 9 0) 0 [] 0]++bw 12 ([.d (.slice qa) t22,.d ti t23,.d ti t24]++bw 35 [])),[],(cC 6 ([[.obj 0 false (.pr (.dQ) (.pr (.dQ) (.d (.pair ti .unit) n6)))],[],[],[.obj 0 false (.pr (.cT (.new 34 0) 0 [] 0 0 n9L) (.pr (.dQ) (.d (.pair ti .unit) n9)))]]++cC 24 ([[.obj 0 false (.vec 93 jR n34)]]++cC 25 [])))⟩
abbrev aR.L0.Y0:=Nat×(List ja)
abbrev aR.L0.X0:=((List kP)×Lk×Int×(Int×Unit)×(Int×Unit))×(Nat×(List ja))
def aR.L0.bK:aR.L0.X0→Exit×AS:=fun x=>(.exit 0,⟨([.d (.slice qa) x.1.1,.undef,.undef,.undef,.fj nS x.1.2.1,.undef,.ptr (.new 6 0) 0 [] 0,.undef,.d ti x.1.2.2.1,.ptr (.new 9 0) 0 [] 0]++bw 50 []),[],(cC 6 ([[.obj 0 false (.pr (.dQ) (.pr (.dQ) (.d (.pair ti .unit) x.1.2.2.2.1)))],[],[],[.obj 0 false (.pr (.cT (.new 34 0) 0 [] 0 0 x.2.1) (.pr (.dQ) (.d (.pair ti .unit) x.1.2.2.2.2)))]]++cC 24 ([[.obj 0 false (.vec 93 jR x.2.2)]]++cC 25 [])))⟩)
abbrev aR.L0.X:=aR.L0.X0
abbrev aR.L0.Y:=aR.L0.Y0
def aR.L0.out:aR.L0.X→Out (Exit×AS):=fun x=> .ok (aR.L0.bK x)
def aR.L0.add:aR.L0.D→aR.L0.Y→aR.L0.X:=fun(l_2,to_2,n,t22,t23,t24,n6,n9L,n9,n34) y=>((l_2,to_2,n,n6,n9),y)
abbrev aR.L1.D:=(List kP)×Int×Int×(Int×Unit)×hP×Int
def aR.L1.st:aR.L1.D→AS:=fun(t43,t44,t45,n6_2,n9_2,n12)=>⟨(bw 6 ([.ptr (.new 6 0) 0 [] 0,.undef,.undef,.ptr (.new 9 0) 0 [] 0,.undef,.undef,.ptr (.new 12 0) 0 [] 0,.fn 74 (.cons (.ptr (.new 9 0) 0 [] 0) (.cons (.ptr (.new 12 0) 0 [] 0) (.nil)))]++bw 29 ([.d (.slice qa) t43,.d ti t44,.d ti t45]++bw 14 []))),[],(cC 6 ([[.obj 0 false (.pr (.dQ) (.pr (.dQ) (.d (.pair ti .unit) n6_2)))],[],[],[.obj 0 false (.d kN n9_2)],[],[],[.obj 0 false (.d ti n12)]]++cC 47 []))⟩
abbrev aR.L1.Y0:=Int×(Int×Unit)
abbrev aR.L1.X0:=Int×(Int×Unit)
def aR.L1.bK:aR.L1.X0→Exit×AS:=fun x=>(.ret,⟨(bw 6 ([.ptr (.new 6 0) 0 [] 0,.d ti x.1]++bw 52 [])),[],(cC 6 ([[.obj 0 false (.pr (.dQ) (.pr (.dQ) (.d (.pair ti .unit) x.2)))]]++cC 53 []))⟩)
abbrev aR.L1.Y1:=hP
abbrev aR.L1.X1:=((Int×Unit))×(hP)
def aR.L1.iW:aR.L1.X1→Exit×AS:=fun x=>(.exit 2,⟨(bw 6 ([.ptr (.new 6 0) 0 [] 0,.undef,.undef,.ptr (.new 9 0) 0 [] 0]++bw 50 [])),[],(cC 6 ([[.obj 0 false (.pr (.dQ) (.pr (.dQ) (.d (.pair ti .unit) x.1)))],[],[],[.obj 0 false (.d kN x.2)]]++cC 50 []))⟩)
abbrev aR.L1.X:=(aR.L1.X0)⊕(aR.L1.X1)
abbrev aR.L1.Y:=(aR.L1.Y0)⊕(aR.L1.Y1)
def aR.L1.out:aR.L1.X→Out (Exit×AS):=fun x=> .br x.isLeft (.get x.getLeft? fun a=> .ok (aR.L1.bK a)) (.get x.getRight? fun b=> .ok (aR.L1.iW b))
def aR.L1.add:aR.L1.D→aR.L1.Y→aR.L1.X:=fun(t43,t44,t45,n6_2,n9_2,n12) y=>match y with | .inl y=> .inl y | .inr z=> .inr ((n6_2,z))
abbrev aR.D:=(List kP)×Lk×Int
def aR.st:aR.D→SA:=fun(l,to,bp)=>([.d (.slice qa) l,.d nS to,.d ti bp],[])
abbrev aR.Y:=hP×Int
abbrev aR.X:=hP×Int
def aR.out:aR.X→aT:=fun x=>⟨.cons (.d kN x.1) (.cons (.d ti x.2) (.nil)),[],[]⟩
def aR.add:aR.D→aR.Y→aR.X:=fun(l,to,bp) y=>y
def vW(x:kP):ja:=(x.1,(((0:Int),(([]:List Sg),((0:Int),()))),()))
def aR.L0.aq:aR.L0.D→Prop:=fun(l,to,n,ps,m,i,z,L,z2,row)=>(ps).length≤1000000∧∃k:Nat,k≤(ps).length∧i=k∧m=(ps).length∧L=(row).length∧(row).length≤1000000+k
def aR.L0.F:aR.L0.D→aR.L0.Y:=fun(l,to,n,ps,m,i,z,L,z2,row)=>(L+(List.drop (Int.toNat i) ps).length,row++(List.drop (Int.toNat i) ps).map vW)
def Gz:hP:=(([]:List ja),(([]:List jw),((0:Int),())))
def Bt(l:List kP)(to:Lk)(n:Int):hP:=(l.map vW,([(n,(to,()))],((0:Int),())))
def qi(t:hP):Nat→List kP→hP⊕Int
 |_,[]=> .inl t
 |i,x::l=>if(kG t i 0 [x.2.2.1] 0).2=0 then qi (kG t i 0 [x.2.2.1] 0).1 (i+1) l else .inr (kG t i 0 [x.2.2.1] 0).2
def kK(l:List kP)(to:Lk)(bp:Int):hP×Int:=
 if jK l bp < 1 then(Gz,8) else match qi (Bt l to (jK l bp)) 0 l with | .inl t=>(t,0) | .inr e=>(Gz,e)
def aR.L1.aq:aR.L1.D→Prop:=fun(l,m,i,z,t,e)=>rZ t∧(∀x∈l,fo x.2.2.1)∧l.length≤64∧m=l.length∧∃k:Nat,k≤l.length∧i=k
def aR.L1.F:aR.L1.D→aR.L1.Y:=fun(l,m,i,z,t,e)=>match qi t i.toNat (l.drop i.toNat) with | .inl t=> .inr t | .inr e=> .inl (e,(0,()))
def aR.aq:aR.D→Prop:=fun(l,to,bp)=>vM l∧oM to∧0≤bp∧bp≤1000
def aR.F:aR.D→aR.Y:=fun(l,to,bp)=>kK l to bp
noncomputable def aR.G:dU:=eZ (P:=Tryz.prog) [bQ.sg,gD.sg]
noncomputable def aR.L0.E:=cf.cD aR.L0.st aR.L0.aq aR.L0.add aR.L0.F aR.L0.out
noncomputable def aR.L0.call:aR.L0.D→Option aR.L0.X:=dL aR.L0.E aR.L0.st
noncomputable def aR.L1.E:=cf.cD aR.L1.st aR.L1.aq aR.L1.add aR.L1.F aR.L1.out
noncomputable def aR.L1.call:aR.L1.D→Option aR.L1.X:=dL aR.L1.E aR.L1.st
noncomputable def aR.an:eu:= {loops:=ki [(6,{bu:=[0,4,6,8,9,22,23,24],sites:=[6,9,34],j6:=[⟨9,[.fst],34,59⟩]}),(14,{bu:=[6,9,12,13,43,44,45],sites:=[6,9,12],yV:=[⟨9,[.arr],kN⟩]})],outs:=kh [(6,{bu:=[0,4,6,8,9],sites:=[6,9,34]},{bu:=[6,7]}),(14,{bu:=[6,9],sites:=[6,9]},{bu:=[6,7],sites:=[6]})],gq:=lv [(6,aR.L0.E),(14,aR.L1.E)],res:=[some kN,none]}
noncomputable def aR.A:= @cq Tryz.prog aR.G aR.an 0 Tryz.f32 _ aR.st
abbrev aR.Ok:=cr @aR.A aR.aq aR.add aR.F aR.out
noncomputable def aR.L0.R:= @cM Tryz.prog aR.G aR.an 0 Tryz.f32 0 _ aR.L0.st
abbrev aR.L0.Ok:=fk Tryz.prog aR.G aR.an 0 Tryz.f32 0 aR.L0.st aR.L0.aq aR.L0.add aR.L0.F aR.L0.out
noncomputable def aR.L1.R:= @cM Tryz.prog aR.G aR.an 0 Tryz.f32 1 _ aR.L1.st
abbrev aR.L1.Ok:=fk Tryz.prog aR.G aR.an 0 Tryz.f32 1 aR.L1.st aR.L1.aq aR.L1.add aR.L1.F aR.L1.out
theorem aR.L0.run:bD aR.L0.call aR.L0.aq aR.L0.add aR.L0.F:=fy (fx [.d (.slice qa),.d nS,.d ti,.d (.slice qa),.d ti,.d ti,.d (.pair ti .unit),.n,.d (.pair ti .unit),.d (.slice jR)] fun _=>by kernel_rfl)
theorem aR.L0.aE:fY @aR.L0.R aR.L0.st aR.L0.aq aR.L0.add aR.L0.F aR.L0.bK aR.L0.Ok:=gj
theorem aR.L0.step{R:Type}(l_2:(List kP))(to_2:Lk)(n:Int)(t22:(List kP))(t23:Int)(t24:Int)(n6:(Int×Unit))(n9L:Nat)(n9:(Int×Unit))(n34:(List ja))(kn:AS→Option R)(kx:Exit→AS→Option R):aR.L0.R (l_2,to_2,n,t22,t23,t24,n6,n9L,n9,n34) kn kx=
  aD ((gM t24 t23)) (
   aD (dZ t24 (((List.length t22):Nat):Int)) (
   aD (decide (n9L≤(List.length n34))) (
   aD (dK (n9L+1) 80) (
   kn (aR.L0.st (l_2,to_2,n,t22,t23,(bo .i64 t24 (1:Int)),n6,(n9L+1),n9,((List.take n9L n34)++ [((nth qa t22 (Int.toNat t24)).1,(((0:Int),(([]:List Sg),((0:Int),()))),()))])))) none) none) none) (
   kx (aR.L0.bK ((l_2,to_2,n,n6,n9),(n9L,n34))).1 (aR.L0.bK ((l_2,to_2,n,n6,n9),(n9L,n34))).2):=by kernel_rfl
theorem aR.L1.run:bD aR.L1.call aR.L1.aq aR.L1.add aR.L1.F:=fy (fx [.d (.slice qa),.d ti,.d ti,.d (.pair ti .unit),.d kN,.d ti] fun _=>by kernel_rfl)
theorem aR.L1.aE:pT @aR.L1.R aR.L1.st aR.L1.aq aR.L1.add aR.L1.F aR.L1.out aR.L1.Ok:=qo
theorem aR.L1.step{R:Type}(t43:(List kP))(t44:Int)(t45:Int)(n6_2:(Int×Unit))(n9_2:hP)(n12:Int)(kn:AS→Option R)(kx:Exit→AS→Option R):aR.L1.R (t43,t44,t45,n6_2,n9_2,n12) kn kx=
  aD ((gM t45 t44)) (
   aD (dZ t45 (((List.length t43):Nat):Int)) (
   ab (gD.call (t45,(nth qa t43 (Int.toNat t45)).2.2.1,n9_2,n12)) fun x1=>
   aD ((!x1.1)) (
    kx (aR.L1.bK (x1.2.2,((0:Int),()))).1 (aR.L1.bK (x1.2.2,((0:Int),()))).2) (
    kn (aR.L1.st (t43,t44,(bo .i64 t45 (1:Int)),n6_2,x1.2.1,x1.2.2)))) none) (
   kx (aR.L1.iW (n6_2,n9_2)).1 (aR.L1.iW (n6_2,n9_2)).2):=by kernel_rfl
theorem aR.eq{R:Type}(l:(List kP))(to:Lk)(bp:Int)(k:aT→Option R):aR.A (l,to,bp) k=
  ab (bQ.call (l,bp)) fun x1=>
  aD ((gM x1 (1:Int))) (
   k (aR.out ((([]:List ja),(([]:List jw),((0:Int),()))),(8:Int)))) (
   ab (aR.L0.call (l,to,x1,l,(((List.length l):Nat):Int),(0:Int),((0:Int),()),0,((0:Int),()),([]:List ja))) fun x2=>
   aD (decide (0=0∧(0+x2.2.1)≤(List.length x2.2.2))) (
   ab (aR.L1.call (x2.1.1,(((List.length x2.1.1):Nat):Int),(0:Int),x2.1.2.2.2.1,((cut x2.2.2 0 x2.2.1),([(x2.1.2.2.1,(x2.1.2.1,()))],x2.1.2.2.2.2)),(0:Int))) fun x4=>
   aD (x4.isLeft) (
    ab (x4.getLeft?) fun a5=>
    k (aR.out ((([]:List ja),(([]:List jw),a5.2)),a5.1))) (
    ab (x4.getRight?) fun b6=>
    k (aR.out (b6.2,(0:Int))))) none):=by kernel_rfl
theorem aR.L0.ok:aR.L0.Ok:=by
 refine aR.L0.aE (fun(l,to,n,ps,m,i,z,L,z2,row)=>(ps).length - Int.toNat i) ?_
 rintro⟨l,to,n,ps,m,i,z,L,z2,row⟩ ⟨hlen,k,hk,rfl,rfl,rfl,hrow⟩
 have hlen:(ps).length≤1000000:=hlen
 have hk:k≤(ps).length:=hk
 have hrow:(row).length≤1000000+k:=hrow
 by_cases h:k < (ps).length
 ·left
  have n1:nth qa ps k=ps[k]:=dS (t:=qa) h
  have hd:List.drop k ps=ps[k]::List.drop (k+1) ps:=List.drop_eq_getElem_cons h
  refine⟨(l,to,n,ps,((ps).length:Int),((k+1:Nat):Int),z,(row).length+1,z2,row++ [vW ps[k]]),⟨hlen,k+1,by omega,rfl,rfl,by rw[List.length_append];rfl,by rw[List.length_append];show(row).length+1≤_;omega⟩,by simp only[Int.toNat_natCast];omega,?_,fun kn kx=> ?_⟩
  ·simp only[aR.L0.add,aR.L0.F,Int.toNat_natCast,hd,List.map_cons,List.length_cons,List.append_assoc,List.singleton_append]
   rw[show ∀a c:Nat,a+1+c=a+(c+1) from fun a c=>by omega]
  ·rw[aR.L0.step,bB (by omega),bz (show(0:Int)≤(k:Int) by omega) (by omega),Int.toNat_natCast,n1]
   simp only[ah]
   rw[aL (Nat.le_refl _),eR (by omega) (by omega),N.mq (by omega),List.take_length]
   rfl
 ·right
  obtain rfl:k=(ps).length:=by omega
  intro R kn kx
  rw[aR.L0.step,bk (by omega),ae]
  simp only[aR.L0.add,aR.L0.F,Int.toNat_natCast,List.drop_length,List.map_nil,List.append_nil,List.length_nil,Nat.add_zero]
theorem F0{t:hP}{i br sc:Int}{ks:List Int}(hv:rZ t)(hs:fo sc)(h:(kG t i br ks sc).2=0):rZ (kG t i br ks sc).1∧mJ t i br ks=true:=by
 rw[zV]at h ⊢
 by_cases e:mJ t i br ks=true
 ·rw[if_pos e]
  exact⟨(zW hv e hs).2.1,e⟩
 ·rw[if_neg e]at h
  exact absurd h (by decide)
theorem aR.L1.ok:aR.L1.Ok:=by
 refine aR.L1.aE (fun(l,m,i,z,t,e)=>l.length - i.toNat) ?_
 rintro⟨l,m,i,z,t,e⟩ ⟨hv,hu,hl,rfl,k,hk,rfl⟩
 have hk:k≤l.length:=hk
 have hl:l.length≤64:=hl
 by_cases h:k < l.length
 ·have n1:nth qa l k=l[k]:=dS (t:=qa) h
  have hx:fo l[k].2.2.1:=hu _ (List.getElem_mem h)
  have hd:qi t k (l.drop k)=if(kG t k 0 [l[k].2.2.1] 0).2=0 then qi (kG t k 0 [l[k].2.2.1] 0).1 (k+1) (l.drop (k+1)) else .inr (kG t k 0 [l[k].2.2.1] 0).2:=by rw[List.drop_eq_getElem_cons h,qi]
  have c1:gD.call ((k:Int),l[k].2.2.1,t,e)=some (jO (kG t k 0 [l[k].2.2.1] 0).2 0,kG t k 0 [l[k].2.2.1] 0):=gD.run (d:=((k:Int),l[k].2.2.1,t,e)) ⟨hv,hx⟩
  have hvs:(kG t k 0 [l[k].2.2.1] 0).2=0→rZ (kG t k 0 [l[k].2.2.1] 0).1:=fun hz=>(F0 hv qL hz).1
  generalize kG t k 0 [l[k].2.2.1] 0=r at hd c1 hvs
  have step:∀ {R:Type} (kn:AS→Option R) (kx:Exit→AS→Option R),aR.L1.R (l,(l.length:Int),(k:Int),z,t,e) kn kx=aD (!jO r.2 0) (kx (aR.L1.bK (r.2,((0:Int),()))).1 (aR.L1.bK (r.2,((0:Int),()))).2) (kn (aR.L1.st (l,(l.length:Int),((k+1:Nat):Int),z,r.1,r.2))):=by
   intro R kn kx
   rw[aR.L1.step,bB (by omega),ah,bz (by omega) (by omega),ah,Int.toNat_natCast,n1,c1,aa,N.mq (by omega)]
  by_cases hz:r.2=0
  ·left
   refine⟨(l,(l.length:Int),((k+1:Nat):Int),z,r.1,r.2),⟨hvs hz,hu,hl,rfl,k+1,by omega,rfl⟩,by simp only[Int.toNat_natCast];omega,?_,fun kn kx=> ?_⟩
   ·simp only[aR.L1.add,aR.L1.F,Int.toNat_natCast,hd,if_pos hz]
   ·rw[step,fg hz,Bool.not_true,ae]
  ·right
   refine⟨aR.L1.bK (r.2,((0:Int),())),?_,fun kn kx=> ?_⟩
   ·simp only[aR.L1.add,aR.L1.F,Int.toNat_natCast,hd,if_neg hz]
    rfl
   ·rw[step,eo hz,Bool.not_false,ah]
 ·right
  obtain rfl:k=l.length:=by omega
  refine⟨aR.L1.iW (z,t),?_,fun kn kx=> ?_⟩
  ·simp only[aR.L1.add,aR.L1.F,Int.toNat_natCast,List.drop_length,qi]
   rfl
  ·rw[aR.L1.step,bk (by omega),ae]
theorem E5{l:List kP}{to:Lk}{n:Int}(hg:vM l)(hto:oM to):rZ (Bt l to n):=by
 refine⟨⟨fun o ho=> ?_,by show(l.map vW).length≤_;rw[List.length_map];have:=hg.1;omega,by show 1≤_;decide⟩,fun x hx=> ?_,by show(0:Int)≤_;decide⟩
 ·have ho:o∈ [(n,(to,()))]:=ho
  rw[List.mem_singleton]at ho
  subst ho
  exact hto
 ·obtain⟨y,hy,rfl⟩:=List.mem_map.1 (show x∈l.map vW from hx)
  exact⟨(hg.2 y hy).id,⟨fun s hs=>(by cases hs),qL⟩,Nat.zero_le _⟩
theorem aR.ok:aR.Ok:=by
 rintro⟨l,to,bp⟩ ⟨hg,hto,h0,h1⟩
 have hl:l.length≤64:=hg.1
 have e0:bQ.call (l,bp)=some (jK l bp):=bQ.run (d:=(l,bp)) ⟨hg,h0,h1⟩
 have hv:=E5 (n:=jK l bp) hg hto
 have ea:∀d y,aR.add d y=y:=fun _ _=>rfl
 have eF:aR.F (l,to,bp)=kK l to bp:=rfl
 rw[aR.eq,e0,aa,ea,eF]
 unfold kK
 generalize jK l bp=n at hv
 by_cases hn:n < 1
 ·rw[bB hn,ah,if_pos hn]
  rfl
 rw[bk hn,ae,if_neg hn,aR.L0.run (d:=(l,to,n,l,(l.length:Int),0,(0,()),0,(0,()),[])) ⟨by show l.length≤1000000;omega,0,Nat.zero_le _,rfl,rfl,rfl,Nat.zero_le _⟩]
 simp only[aa,aR.L0.add,aR.L0.F,Int.toNat_zero,List.drop_zero,List.nil_append,Nat.zero_add]
 rw[aL ⟨trivial,by rw[List.length_map];exact Nat.le_refl _⟩,ah,gI (List.length_map ..)]
 have e1:=aR.L1.run (d:=(l,(l.length:Int),0,(0,()),Bt l to n,0)) ⟨hv,fun x hx=>(hg.2 x hx).key,hl,rfl,0,Nat.zero_le _,rfl⟩
 unfold Bt at e1 ⊢
 rw[e1]
 simp only[aa,aR.L1.add,aR.L1.F,Int.toNat_zero,List.drop_zero]
 generalize qi _ 0 l=r
 cases r with
 |inl t=>rfl
 |inr e=>rfl
noncomputable def aR.E:=Entry.cD [some (.slice qa),some nS,some ti] aR.st aR.aq aR.add aR.F aR.out
noncomputable def aR.call:aR.D→Option aR.X:=bC aR.E aR.st
theorem aR.run:bD aR.call aR.aq aR.add aR.F:=cw (cv [.d (.slice qa),.d nS,.d ti] fun _=>by kernel_rfl)
noncomputable def aR.sg:SG Tryz.prog:=⟨32,aK,aR.E,.fn 2 (by kernel_rfl) aR.ok (And.intro (.cD aR.L0.ok (by kernel_rfl)) (And.intro (.cD aR.L1.ok (by kernel_rfl)) trivial))⟩
end
end Go.Ab
namespace Go.Ab
open Go.Proofs
set_option maxRecDepth 100000
set_option linter.unusedVariables false
set_option linter.unusedSimpArgs false
set_option synthInstance.maxSize 5000
noncomputable section
theorem u9:∀(s:Int) (l:List jw),kE s l=true→∀o∈l,0≤o.1∧o.1≤1125899906842624
 |_,[],_,o,h=>by cases h
 |s,x::l,h,o,ho=>by
  rw[kE,Bool.and_eq_true,Bool.and_eq_true]at h
  rcases List.mem_cons.1 ho with rfl | ho
  ·have:=h.1.1
   unfold nH np at this
   simp only[Bool.and_eq_true,decide_eq_true_eq]at this
   exact this.2.1
  ·exact u9 _ l h.2 o ho
theorem xh{t:hP}(h:iq t=true):t.2.1.length≤64∧∀o∈t.2.1,0≤o.1∧o.1≤1125899906842624:=by
 unfold iq qJ at h
 simp only[Bool.and_eq_true,decide_eq_true_eq]at h
 exact⟨h.1.2.2.1,u9 _ _ h.2.2⟩
theorem C1{id:List Int}{k n:Nat}{o:oL}(h:o∈l8 id k n):o.1=id:=by
 unfold l8 at h
 obtain⟨i,_,rfl⟩:=List.mem_map.1 h
 rfl
theorem B4{c:Aq}{rev pay:Int}(h1:fo rev)(h2:fo pay):vM (sa c rev pay):=by
 unfold sa
 by_cases hok:iq c.1=true
 ·obtain⟨hl,ha⟩:=xh hok
  refine⟨Nat.le_trans (Ci ..) (Nat.le_trans (wT _) hl),fun y hy=> ?_⟩
  obtain⟨o,ho,x,hx,r,hr,_,rfl⟩:=ud _ _ _ _ _ _ hy
  refine⟨?_,ha x hx,?_⟩
  ·unfold ji at ho
   rw[if_pos hok]at ho
   show Sm o.1
   rw[C1 ho]
   exact E4
  ·show fo (if r.1=2 then pay else rev)
   split
   ·exact h2
   ·exact h1
 ·have e:ji c.1=[]:=by unfold ji;rw[if_neg hok]
  rw[e]
  exact⟨Nat.zero_le _,fun y hy=>by simp[wj]at hy⟩
theorem sZ{l:List iD}{x:iD}:x∈iO l↔x∈l:=(jk l).mem_iff
theorem FU{ch:fF}{s:fL}{own per:Int}(hch:jn ch)(hu:nG s)(ho:own=0∨own=1)(hp:fo per):∀m∈mH ch s own per,oM m.1.2.1:=by
 have hp':1 - own=0∨1 - own=1:=by omega
 have b0:=hch.ba ho
 have b1:=hch.ba hp'
 intro m hm
 unfold mH at hm
 simp only[List.mem_append]at hm
 rcases hm with hm | hm | hm | hm
 ·split at hm
  ·rw[List.mem_singleton]at hm;subst hm
   exact zl (lZ _) (lZ _)
  ·cases hm
 ·split at hm
  ·rw[List.mem_singleton]at hm;subst hm
   exact xR b1.2.1.1
  ·cases hm
 ·rcases List.mem_cons.1 hm with rfl | hm
  ·exact og b0.1.1
  ·rw[List.mem_singleton]at hm;subst hm
   exact og b1.1.1
 ·obtain⟨c,hc,rfl⟩:=List.mem_map.1 hm
  have hq:=hu.1 c (List.mem_filter.1 hc).1
  unfold jH
  split
  ·exact Gh (lZ _) (lZ _) (lZ _) hq
  ·exact Gi (lZ _) (lZ _) (lZ _) hq
theorem zO{ch:fF}{s:fL}{own per:Int}(hl:s.2.2.1.length≤16):(mH ch s own per).length≤20:=by
 unfold mH
 have h3:(dT s.2.2.1).length≤16:=Nat.le_trans (List.length_filter_le _ _) hl
 simp only[List.length_append,List.length_map]
 have h1:(if vo (dP ch s own)=true then [A2 (dP ch s own) (uN (pX (mU ch own).2.2.1 per) (tM (mU ch (1 - own)).2.2.2.2.1 per) (rY ch (1 - own))) ((1:Int),(Gy,()))] else []).length≤1:=by split <;> simp
 have h2:(if vo (dP ch s (1 - own))=true then [A2 (dP ch s (1 - own)) (xt [(mU ch (1 - own)).2.1]) ((2:Int),(Gy,()))] else []).length≤1:=by split <;> simp
 simp only[List.length_cons,List.length_nil]
 omega
theorem jn.H0{ch:fF}(h:jn ch):ch.1=(List.replicate 32 0,(0,())):=by
 obtain⟨a,b0,b1,o,rfl,_⟩:=h
 rfl
theorem JF:Sm (List.replicate 32 0):=⟨List.length_replicate,fun x hx=>by rw[(List.mem_replicate.1 hx).2];exact⟨by decide,by decide⟩⟩
theorem wF{ch:fF}{s:fL}{own per:Int}(hch:jn ch)(hu:nG s)(hs:qO ch s)(ho:own=0∨own=1)(hp:fo per):rZ (eQ ch s own per).1∧(eQ ch s own per).1.2.1.length=(eQ ch s own per).2.1.length∧(eQ ch s own per).1.2.1.length≤20:=by
 have hl:=zO (ch:=ch) (own:=own) (per:=per) hs.len
 have hk:=FU hch hu ho hp
 have hno:=hs.no
 have hle:=(jk (mH ch s own per)).length_eq
 unfold eQ ofRow
 refine⟨⟨⟨fun o hm=> ?_,by show 1≤_;decide,by show(List.map _ _).length≤_;rw[List.length_map];omega⟩,fun x hx=> ?_,by show 2*s.1+own≤_;omega⟩,by show(List.map _ _).length=(List.map _ _).length;rw[List.length_map,List.length_map],by show(List.map _ _).length≤_;rw[List.length_map];omega⟩
 ·obtain⟨m,hm',rfl⟩:=List.mem_map.1 hm
  exact hk m (sZ.1 hm')
 ·have hx:x∈ [(ch.1,(((0:Int),(([]:List Sg),((0:Int),()))),()))]:=hx
  rw[List.mem_singleton]at hx
  subst hx
  refine⟨?_,⟨fun s hs=>(by cases hs),qL⟩,Nat.zero_le _⟩
  show Sm ch.1.1
  rw[hch.H0]
  exact JF
theorem uV{ch:fF}{s:fL}{own per:Int}(h:(kb ch s own per).2=0):(own=0∨own=1)∧lq per=true∧qO ch s∧kb ch s own per=(eQ ch s own per,0):=by
 unfold kb at h ⊢
 split at h
 ·next e=>
  rw[Bool.and_eq_true,decide_eq_true_eq]at e
  split at h
  ·next e2=>exact⟨e.1,e.2,lR.1 e2,by rw[if_pos (by rw[Bool.and_eq_true,decide_eq_true_eq];exact e),if_pos e2]⟩
  ·exact absurd h (by decide)
 ·exact absurd h (by decide)
theorem aQ.c{ch:fF}{s:fL}{own per:Int}(hch:jn ch)(hu:nG s)(hp:fo per):aQ.call (ch,s,own,per)=some (kb ch s own per):=by
 have ea:∀d y,aQ.add d y=y:=fun _ _=>rfl
 have eF:aQ.F (ch,s,own,per)=kb ch s own per:=rfl
 rw[aQ.run (d:=(ch,s,own,per)) ⟨hch,hu,hp⟩,ea,eF]
theorem fB.c{c:Aq}{rev pay:Int}(h:rZ c.1)(h2:c.1.2.1.length=c.2.1.length)(h3:c.1.2.1.length≤1000):fB.call (c,rev,pay)=some (sa c rev pay):=by
 have ea:∀d y,fB.add d y=y:=fun _ _=>rfl
 have eF:fB.F (c,rev,pay)=sa c rev pay:=rfl
 rw[fB.run (d:=(c,rev,pay)) ⟨h,h2,h3⟩,ea,eF]
theorem bQ.c{l:List kP}{bp:Int}(h:vM l)(h0:0≤bp∧bp≤1000):bQ.call (l,bp)=some (jK l bp):=bQ.run (d:=(l,bp)) ⟨h,h0.1,h0.2⟩
theorem aR.c{l:List kP}{to:Lk}{bp:Int}(h:vM l)(ht:oM to)(h0:0≤bp∧bp≤1000):aR.call (l,to,bp)=some (kK l to bp):=by
 have ea:∀d y,aR.add d y=y:=fun _ _=>rfl
 have eF:aR.F (l,to,bp)=kK l to bp:=rfl
 rw[aR.run (d:=(l,to,bp)) ⟨h,ht,h0.1,h0.2⟩,ea,eF]
def xW(ch:fF)(kit:lC)(me:Int)(to:Lk)(bp:Int):Bool:=kQ me 0 1 && (kQ bp 0 1000 && (jz to && Ty.beq ma (oS kit) (mU ch me)))
def gZ(ch:fF)(kit:lC)(me:Int)(dI:fL)(secret:List Int)(to:Lk)(bp:Int):List kP×Int:=
 if xW ch kit me to bp=true then
  (if(kb ch dI (1 - me) (mS secret)).2=0 then(sa (kb ch dI (1 - me) (mS secret)).1 (oN kit.2.2.2.2.1 secret) kit.2.1,0) else([],(kb ch dI (1 - me) (mS secret)).2))
 else([],1)
theorem Ho(b:Int)(s:List Int):fo (oN b s):=(xr _ _).u
theorem y2{ch:fF}{kit:lC}{me:Int}{dI:fL}{secret:List Int}{to:Lk}{bp:Int}(hk:yw kit):vM (gZ ch kit me dI secret to bp).1:=by
 unfold gZ
 split
 ·split
  ·exact B4 (Ho _ _) hk.2.1
  ·exact⟨Nat.zero_le _,fun y hy=>(by cases hy)⟩
 ·exact⟨Nat.zero_le _,fun y hy=>(by cases hy)⟩
theorem uC{ch:fF}{kit:lC}{me:Int}{dI:fL}{secret:List Int}{to:Lk}{bp:Int}(h:(gZ ch kit me dI secret to bp).2=0):xW ch kit me to bp=true∧(kb ch dI (1 - me) (mS secret)).2=0∧(gZ ch kit me dI secret to bp).1=sa (kb ch dI (1 - me) (mS secret)).1 (oN kit.2.2.2.2.1 secret) kit.2.1:=by
 unfold gZ at h ⊢
 split at h
 ·next e=>
  split at h
  ·next e2=>exact⟨e,e2,by rw[if_pos e,if_pos e2]⟩
  ·next e2=>exact absurd h e2
 ·exact absurd h (by decide)
abbrev cV.D:=fF×lC×Int×fL×Bs×Lk×Int
def cV.st:cV.D→SA:=fun(ch,kit,me,dI,secret,to,bp)=>([.d iu ch,.d nR kit,.d ti me,.d hZ dI,.d tH secret,.d nS to,.d ti bp],[])
abbrev cV.Y:=(List kP)×Int
abbrev cV.X:=(List kP)×Int
def cV.out:cV.X→aT:=fun x=>⟨.cons (.d (.slice qa) x.1) (.cons (.d ti x.2) (.nil)),[],[]⟩
def cV.add:cV.D→cV.Y→cV.X:=fun(ch,kit,me,dI,secret,to,bp) y=>y
def cV.aq:cV.D→Prop:=fun(ch,kit,me,dI,secret,to,bp)=>jn ch∧yw kit∧nG dI∧Sm secret∧oM to
def cV.F:cV.D→cV.Y:=fun(ch,kit,me,dI,secret,to,bp)=>gZ ch kit me dI secret to bp
noncomputable def cV.G:dU:=eZ (P:=Tryz.prog) [aS.sg,db.sg,dD.sg,aQ.sg,cH.sg,fB.sg]
noncomputable def cV.an:eu:= {res:=[some (.slice qa),none]}
noncomputable def cV.A:= @cq Tryz.prog cV.G cV.an 0 Tryz.f31 _ cV.st
abbrev cV.Ok:=cr @cV.A cV.aq cV.add cV.F cV.out
theorem cV.eq{R:Type}(ch:fF)(kit:lC)(me:Int)(dI:fL)(secret:Bs)(to:Lk)(bp:Int)(k:aT→Option R):cV.A (ch,kit,me,dI,secret,to,bp) k=
  aD ((gM me (0:Int))) (
   k (cV.out (([]:List kP),(1:Int)))) (
   aD ((mX me (1:Int))) (
    k (cV.out (([]:List kP),(1:Int)))) (
    aD ((gM bp (0:Int))) (
     k (cV.out (([]:List kP),(1:Int)))) (
     aD ((mX bp (1000:Int))) (
      k (cV.out (([]:List kP),(1:Int)))) (
      ab (aS.call to) fun x1=>
      aD ((!x1)) (
       k (cV.out (([]:List kP),(1:Int)))) (
       ab (db.call kit) fun x2=>
       aD (dZ me (2:Int)) (
       aD ((!(Ty.beq ma x2 (nth ma ch.2.2.1 (Int.toNat me))))) (
        k (cV.out (([]:List kP),(1:Int)))) (
        ab (dD.call secret) fun x3=>
        ab (aQ.call (ch,dI,(bV .i64 (1:Int) me),x3)) fun x4=>
        aD ((qQ x4.2 (0:Int))) (
         k (cV.out (([]:List kP),x4.2))) (
         ab (cH.call (kit.2.2.2.2.1,secret)) fun x5=>
         ab (fB.call (x4.1,x5,kit.2.1)) fun x6=>
         k (cV.out (x6,(0:Int)))))) none))))):=by kernel_rfl
theorem cV.ok:cV.Ok:=by
 rintro⟨ch,kit,me,dI,secret,to,bp⟩ ⟨hch,hk,hu,hs,ht⟩
 have hch:jn ch:=hch
 have hk:yw kit:=hk
 have hu:nG dI:=hu
 have hs:Sm secret:=hs
 have ht:oM to:=ht
 have ea:∀d y,cV.add d y=y:=fun _ _=>rfl
 have eF:cV.F (ch,kit,me,dI,secret,to,bp)=gZ ch kit me dI secret to bp:=rfl
 rw[cV.eq,ea,eF]
 unfold gZ xW
 by_cases h1:me < 0
 ·rw[bB h1,ah,jP (by omega)];rfl
 by_cases h2:me > 1
 ·rw[bk h1,ae,ee h2,ah,jP (by omega)];rfl
 have hme:me=0∨me=1:=by omega
 rw[bk h1,ae,dj h2,ae,ik (by omega) (by omega),Bool.true_and]
 by_cases h3:bp < 0
 ·rw[bB h3,ah,jP (by omega)];rfl
 by_cases h4:bp > 1000
 ·rw[bk h3,ae,ee h4,ah,jP (by omega)];rfl
 rw[bk h3,ae,dj h4,ae,ik (by omega) (by omega),Bool.true_and]
 have c1:aS.call to=some (jz to):=aS.run (d:=to) ⟨ht.1,ht.2⟩
 have c2:db.call kit=some (oS kit):=db.run (d:=kit) hk
 rw[c1,aa]
 cases h5:jz to
 ·rfl
 rw[Bool.not_true,ae,Bool.true_and,c2,aa,bz (by omega) (by omega),ah]
 rw[show nth ma ch.2.2.1 (Int.toNat me)=mU ch me from rfl]
 cases h6:Ty.beq ma (oS kit) (mU ch me)
 ·rfl
 rw[Bool.not_true,ae,if_pos rfl,dD.c hs,aa,Ad (by omega)]
 have hp:fo (mS secret):=qW _
 have c3:=aQ.c (own:=1 - me) hch hu hp
 have hmk:=uV (ch:=ch) (s:=dI) (own:=1 - me) (per:=mS secret)
 generalize mS secret=per at c3 hmk hp
 rw[c3,aa]
 by_cases h7:(kb ch dI (1 - me) per).2=0
 ·obtain⟨q1,q2,q3,q4⟩:=hmk h7
  have hv:=wF hch hu q3 q1 hp
  rw[q4]
  rw[gO rfl,ae,cH.c hk.2.2.2.2 hs,aa,fB.c hv.1 hv.2.1 (by have:=hv.2.2;omega),aa,if_pos rfl]
 ·rw[iM h7,ah,if_neg h7]
noncomputable def cV.E:=Entry.cD [some iu,some nR,some ti,some hZ,some tH,some nS,some ti] cV.st cV.aq cV.add cV.F cV.out
noncomputable def cV.call:cV.D→Option cV.X:=bC cV.E cV.st
theorem cV.run:bD cV.call cV.aq cV.add cV.F:=cw (cv [.d iu,.d nR,.d ti,.d hZ,.d tB,.d nS,.d ti] fun _=>by kernel_rfl)
noncomputable def cV.sg:SG Tryz.prog:=⟨31,aK,cV.E,.fn 0 (by kernel_rfl) cV.ok trivial⟩
theorem cV.c{ch:fF}{kit:lC}{me:Int}{dI:fL}{secret:List Int}{to:Lk}{bp:Int}(hch:jn ch)(hk:yw kit)(hu:nG dI)(hs:Sm secret)(ht:oM to):cV.call (ch,kit,me,dI,secret,to,bp)=some (gZ ch kit me dI secret to bp):=by
 have ea:∀d y,cV.add d y=y:=fun _ _=>rfl
 have eF:cV.F (ch,kit,me,dI,secret,to,bp)=gZ ch kit me dI secret to bp:=rfl
 rw[cV.run (d:=(ch,kit,me,dI,secret,to,bp)) ⟨hch,hk,hu,hs,ht⟩,ea,eF]
def qf(ch:fF)(kit:lC)(me:Int)(dI:fL)(secret:List Int)(to:Lk)(bp:Int):hP×Int:=
 if(gZ ch kit me dI secret to bp).2=0 then kK (gZ ch kit me dI secret to bp).1 to bp else(Gz,(gZ ch kit me dI secret to bp).2)
def my(to:Lk)(bp:Int):List kP→List hP
 |[]=> []
 |x::l=>(if(kK [x] to bp).2=0 then [(kK [x] to bp).1] else [])++my to bp l
def wI(ch:fF)(kit:lC)(me:Int)(dI:fL)(secret:List Int)(to:Lk)(bp:Int):List hP×Int:=
 if(gZ ch kit me dI secret to bp).2=0 then(my to bp (gZ ch kit me dI secret to bp).1,0) else([],(gZ ch kit me dI secret to bp).2)
def oD(ch:fF)(me:Int)(dI:fL)(bp:Int):Int:=
 if(kQ me 0 1 && kQ bp 0 1000)=true then(if(kb ch dI (1 - me) 4).2=0 then imax 0 (jK (sa (kb ch dI (1 - me) 4).1 0 0) bp) else 0) else 0
theorem wV{ch:fF}{kit:lC}{me:Int}{to:Lk}{bp:Int}(h:xW ch kit me to bp=true):(0≤me∧me≤1)∧(0≤bp∧bp≤1000)∧jz to=true∧Ty.beq ma (oS kit) (mU ch me)=true:=by
 unfold xW at h
 simp only[Bool.and_eq_true,lp]at h
 exact h
abbrev dJ.D:=fF×lC×Int×fL×Bs×Lk×Int
def dJ.st:dJ.D→SA:=fun(ch,kit,me,dI,secret,to,bp)=>([.d iu ch,.d nR kit,.d ti me,.d hZ dI,.d tH secret,.d nS to,.d ti bp],[])
abbrev dJ.Y:=hP×Int
abbrev dJ.X:=hP×Int
def dJ.out:dJ.X→aT:=fun x=>⟨.cons (.d kN x.1) (.cons (.d ti x.2) (.nil)),[],[]⟩
def dJ.add:dJ.D→dJ.Y→dJ.X:=fun(ch,kit,me,dI,secret,to,bp) y=>y
def dJ.aq:dJ.D→Prop:=fun(ch,kit,me,dI,secret,to,bp)=>jn ch∧yw kit∧nG dI∧Sm secret∧oM to
def dJ.F:dJ.D→dJ.Y:=fun(ch,kit,me,dI,secret,to,bp)=>qf ch kit me dI secret to bp
noncomputable def dJ.G:dU:=eZ (P:=Tryz.prog) [cV.sg,aR.sg]
noncomputable def dJ.an:eu:= {res:=[some kN,none]}
noncomputable def dJ.A:= @cq Tryz.prog dJ.G dJ.an 0 Tryz.f9 _ dJ.st
abbrev dJ.Ok:=cr @dJ.A dJ.aq dJ.add dJ.F dJ.out
theorem dJ.eq{R:Type}(ch:fF)(kit:lC)(me:Int)(dI:fL)(secret:Bs)(to:Lk)(bp:Int)(k:aT→Option R):dJ.A (ch,kit,me,dI,secret,to,bp) k=
  ab (cV.call (ch,kit,me,dI,secret,to,bp)) fun x1=>
  aD ((qQ x1.2 (0:Int))) (
   k (dJ.out ((([]:List ja),(([]:List jw),((0:Int),()))),x1.2))) (
   ab (aR.call (x1.1,to,bp)) fun x2=>
   k (dJ.out (x2.1,x2.2))):=by kernel_rfl
theorem dJ.ok:dJ.Ok:=by
 rintro⟨ch,kit,me,dI,secret,to,bp⟩ ⟨hch,hk,hu,hs,ht⟩
 have hk:yw kit:=hk
 have ht:oM to:=ht
 have ea:∀d y,dJ.add d y=y:=fun _ _=>rfl
 have eF:dJ.F (ch,kit,me,dI,secret,to,bp)=qf ch kit me dI secret to bp:=rfl
 rw[dJ.eq,ea,eF,cV.c hch hk hu hs ht,aa]
 unfold qf
 have hg:=y2 (ch:=ch) (me:=me) (dI:=dI) (secret:=secret) (to:=to) (bp:=bp) hk
 have hm:=uC (ch:=ch) (kit:=kit) (me:=me) (dI:=dI) (secret:=secret) (to:=to) (bp:=bp)
 generalize gZ ch kit me dI secret to bp=r at hg hm
 by_cases h:r.2=0
 ·rw[gO h,ae,if_pos h,aR.c hg ht (wV (hm h).1).2.1,aa]
 ·rw[iM h,ah,if_neg h]
  rfl
noncomputable def dJ.E:=Entry.cD [some iu,some nR,some ti,some hZ,some tH,some nS,some ti] dJ.st dJ.aq dJ.add dJ.F dJ.out
noncomputable def dJ.call:dJ.D→Option dJ.X:=bC dJ.E dJ.st
theorem dJ.run:bD dJ.call dJ.aq dJ.add dJ.F:=cw (cv [.d iu,.d nR,.d ti,.d hZ,.d tB,.d nS,.d ti] fun _=>by kernel_rfl)
noncomputable def dJ.sg:SG Tryz.prog:=⟨9,aK,dJ.E,.fn 0 (by kernel_rfl) dJ.ok trivial⟩
abbrev bM.L0.D:=Int×Lk×(List kP)×Nat×Int×Int×(List hP)
def bM.L0.st:bM.L0.D→AS:=fun(rate_2,to_2,l,outL,t37,t38,n57)=>⟨(bw 6 ([.d ti rate_2]++bw 5 ([.fj nS to_2,.undef,.undef,.undef,.d (.slice qa) l,.undef,.cT (.new 57 0) 0 [] 0 0 outL]++bw 18 ([.d ti t37,.d ti t38]++bw 21 [])))),[],(cC 57 [[.obj 0 false (.vec 62 kN n57)],[],[]])⟩
abbrev bM.L0.Y0:=Nat×(List hP)
abbrev bM.L0.X0:=Nat×(List hP)
def bM.L0.bK:bM.L0.X0→Exit×AS:=fun x=>(.exit 0,⟨(bw 18 ([.cT (.new 57 0) 0 [] 0 0 x.1]++bw 41 [])),[],(cC 57 [[.obj 0 false (.vec 62 kN x.2)],[],[]])⟩)
abbrev bM.L0.X:=bM.L0.X0
abbrev bM.L0.Y:=bM.L0.Y0
def bM.L0.out:bM.L0.X→Out (Exit×AS):=fun x=> .ok (bM.L0.bK x)
def bM.L0.add:bM.L0.D→bM.L0.Y→bM.L0.X:=fun(rate_2,to_2,l,outL,t37,t38,n57) y=>y
abbrev bM.D:=fF×lC×Int×fL×Bs×Lk×Int
def bM.st:bM.D→SA:=fun(ch,kit,me,dI,secret,to,bp)=>([.d iu ch,.d nR kit,.d ti me,.d hZ dI,.d tH secret,.d nS to,.d ti bp],[])
abbrev bM.Y:=(List hP)×Int
abbrev bM.X:=(List hP)×Int
def bM.out:bM.X→aT:=fun x=>⟨.cons (.d (.slice kN) x.1) (.cons (.d ti x.2) (.nil)),[],[]⟩
def bM.add:bM.D→bM.Y→bM.X:=fun(ch,kit,me,dI,secret,to,bp) y=>y
def bM.aq:bM.D→Prop:=fun(ch,kit,me,dI,secret,to,bp)=>jn ch∧yw kit∧nG dI∧Sm secret∧oM to
def bM.F:bM.D→bM.Y:=fun(ch,kit,me,dI,secret,to,bp)=>wI ch kit me dI secret to bp
def bM.L0.aq:bM.L0.D→Prop:=fun(bp,to,l,L,m,i,row)=>vM l∧oM to∧(0≤bp∧bp≤1000)∧m=l.length∧L=row.length∧∃k:Nat,k≤l.length∧i=k∧row.length≤k
def bM.L0.F:bM.L0.D→bM.L0.Y:=fun(bp,to,l,L,m,i,row)=>((row++my to bp (l.drop i.toNat)).length,row++my to bp (l.drop i.toNat))
noncomputable def bM.G:dU:=eZ (P:=Tryz.prog) [cV.sg,aR.sg]
noncomputable def bM.L0.E:=cf.cD bM.L0.st bM.L0.aq bM.L0.add bM.L0.F bM.L0.out
noncomputable def bM.L0.call:bM.L0.D→Option bM.L0.X:=dL bM.L0.E bM.L0.st
noncomputable def bM.an:eu:= {loops:=ki [(6,{bu:=[6,12,16,18,37,38],sites:=[57],j6:=[⟨18,[],57,66⟩]})],outs:=kh [(6,{bu:=[18],sites:=[57]},{bu:=[14,15]})],gq:=lv [(6,bM.L0.E)],res:=[some (.slice kN),none]}
noncomputable def bM.A:= @cq Tryz.prog bM.G bM.an 0 Tryz.f10 _ bM.st
abbrev bM.Ok:=cr @bM.A bM.aq bM.add bM.F bM.out
noncomputable def bM.L0.R:= @cM Tryz.prog bM.G bM.an 0 Tryz.f10 0 _ bM.L0.st
abbrev bM.L0.Ok:=fk Tryz.prog bM.G bM.an 0 Tryz.f10 0 bM.L0.st bM.L0.aq bM.L0.add bM.L0.F bM.L0.out
theorem bM.L0.run:bD bM.L0.call bM.L0.aq bM.L0.add bM.L0.F:=fy (fx [.d ti,.d nS,.d (.slice qa),.n,.d ti,.d ti,.d (.slice kN)] fun _=>by kernel_rfl)
theorem bM.L0.aE:fY @bM.L0.R bM.L0.st bM.L0.aq bM.L0.add bM.L0.F bM.L0.bK bM.L0.Ok:=gj
theorem bM.L0.step{R:Type}(rate_2:Int)(to_2:Lk)(l:(List kP))(outL:Nat)(t37:Int)(t38:Int)(n57:(List hP))(kn:AS→Option R)(kx:Exit→AS→Option R):bM.L0.R (rate_2,to_2,l,outL,t37,t38,n57) kn kx=
  aD ((gM t38 t37)) (
   aD (inc (bo .i64 t38 (1:Int)) (((List.length l):Nat):Int)) (
   aD (inc t38 (((Int.toNat (bo .i64 t38 (1:Int))):Nat):Int)) (
   ab (aR.call ((cut l (Int.toNat t38) ((Int.toNat (bo .i64 t38 (1:Int))) - (Int.toNat t38))),to_2,rate_2)) fun x1=>
   aD ((jO x1.2 (0:Int))) (
    aD (decide (outL≤(List.length n57))) (
    aD (dK (outL+1) 56) (
    kn (bM.L0.st (rate_2,to_2,l,(outL+1),t37,(bo .i64 t38 (1:Int)),((List.take outL n57)++ [x1.1])))) none) none) (
    kn (bM.L0.st (rate_2,to_2,l,outL,t37,(bo .i64 t38 (1:Int)),n57)))) none) none) (
   kx (bM.L0.bK (outL,n57)).1 (bM.L0.bK (outL,n57)).2):=by kernel_rfl
theorem bM.eq{R:Type}(ch:fF)(kit:lC)(me:Int)(dI:fL)(secret:Bs)(to:Lk)(bp:Int)(k:aT→Option R):bM.A (ch,kit,me,dI,secret,to,bp) k=
  ab (cV.call (ch,kit,me,dI,secret,to,bp)) fun x1=>
  aD ((qQ x1.2 (0:Int))) (
   k (bM.out (([]:List hP),x1.2))) (
   ab (bM.L0.call (bp,to,x1.1,0,(((List.length x1.1):Nat):Int),(0:Int),([]:List hP))) fun x4=>
   aD (decide (0=0∧(0+x4.1)≤(List.length x4.2))) (
   k (bM.out ((cut x4.2 0 x4.1),(0:Int)))) none):=by kernel_rfl
theorem Fz{α:Type}{l:List α}{k:Nat}(h:k < l.length):cut l k (k+1 - k)=[l[k]]:=by
 rw[Nat.add_sub_cancel_left]
 unfold cut
 rw[List.drop_eq_getElem_cons h]
 rfl
theorem bM.L0.ok:bM.L0.Ok:=by
 refine bM.L0.aE (fun(bp,to,l,L,m,i,row)=>l.length - i.toNat) ?_
 rintro⟨bp,to,l,L,m,i,row⟩ ⟨hg,ht,hr,rfl,rfl,k,hk,rfl,hrow⟩
 have hk:k≤l.length:=hk
 have hl:l.length≤64:=hg.1
 have hrow:row.length≤k:=hrow
 by_cases h:k < l.length
 ·left
  have hd:my to bp (l.drop k)=(if(kK [l[k]] to bp).2=0 then [(kK [l[k]] to bp).1] else [])++my to bp (l.drop (k+1)):=by rw[List.drop_eq_getElem_cons h,my]
  have g1:vM [l[k]]:=⟨by show 1≤64;decide,fun x hx=>by rw[List.mem_singleton]at hx;subst hx;exact hg.2 _ (List.getElem_mem h)⟩
  have c1:=aR.c (to:=to) (bp:=bp) g1 ht hr
  have e1:∀x:hP,(row++ [x]).length=row.length+1:=fun x=>by rw[List.length_append];rfl
  have ec:=Fz h
  generalize kK [l[k]] to bp=r at hd c1
  by_cases hz:r.2=0
  ·refine⟨(bp,to,l,row.length+1,(l.length:Int),((k+1:Nat):Int),row++ [r.1]),⟨hg,ht,hr,rfl,(e1 _).symm,k+1,by omega,rfl,by show(row++ [r.1]).length≤_;rw[e1];omega⟩,by simp only[Int.toNat_natCast];omega,?_,fun kn kx=> ?_⟩
   ·rw[if_pos hz]at hd
    simp only[bM.L0.add,bM.L0.F,Int.toNat_natCast,hd,List.append_assoc]
   ·rw[bM.L0.step,bB (by omega),N.mq (by omega),Int.toNat_natCast,Int.toNat_natCast,ec,c1,ko (by omega) (by omega),ko (by omega) (by omega),aa,fg hz,aL (Nat.le_refl _),eR (by omega) (by omega),List.take_length]
    rfl
  ·refine⟨(bp,to,l,row.length,(l.length:Int),((k+1:Nat):Int),row),⟨hg,ht,hr,rfl,rfl,k+1,by omega,rfl,by show row.length≤_;omega⟩,by simp only[Int.toNat_natCast];omega,?_,fun kn kx=> ?_⟩
   ·rw[if_neg hz,List.nil_append]at hd
    simp only[bM.L0.add,bM.L0.F,Int.toNat_natCast,hd]
   ·rw[bM.L0.step,bB (by omega),N.mq (by omega),Int.toNat_natCast,Int.toNat_natCast,ec,c1,ko (by omega) (by omega),ko (by omega) (by omega),aa,eo hz]
    rfl
 ·right
  obtain rfl:k=l.length:=by omega
  intro R kn kx
  rw[bM.L0.step,bk (by omega),ae]
  simp only[bM.L0.add,bM.L0.F,Int.toNat_natCast,List.drop_length,my,List.append_nil]
theorem bM.ok:bM.Ok:=by
 rintro⟨ch,kit,me,dI,secret,to,bp⟩ ⟨hch,hk,hu,hs,ht⟩
 have hk:yw kit:=hk
 have ht:oM to:=ht
 have ea:∀d y,bM.add d y=y:=fun _ _=>rfl
 have eF:bM.F (ch,kit,me,dI,secret,to,bp)=wI ch kit me dI secret to bp:=rfl
 rw[bM.eq,ea,eF,cV.c hch hk hu hs ht,aa]
 unfold wI
 have hg:=y2 (ch:=ch) (me:=me) (dI:=dI) (secret:=secret) (to:=to) (bp:=bp) hk
 have hm:=uC (ch:=ch) (kit:=kit) (me:=me) (dI:=dI) (secret:=secret) (to:=to) (bp:=bp)
 generalize gZ ch kit me dI secret to bp=r at hg hm
 by_cases h:r.2=0
 ·rw[gO h,ae,if_pos h,bM.L0.run (d:=(bp,to,r.1,0,(r.1.length:Int),0,[])) ⟨hg,ht,(wV (hm h).1).2.1,rfl,rfl,0,Nat.zero_le _,rfl,Nat.le_refl _⟩]
  simp only[aa,bM.L0.add,bM.L0.F,Int.toNat_zero,List.drop_zero,List.nil_append,Nat.zero_add]
  rw[aL ⟨trivial,Nat.le_refl _⟩,ah,gI rfl]
 ·rw[iM h,ah,if_neg h]
noncomputable def bM.E:=Entry.cD [some iu,some nR,some ti,some hZ,some tH,some nS,some ti] bM.st bM.aq bM.add bM.F bM.out
noncomputable def bM.call:bM.D→Option bM.X:=bC bM.E bM.st
theorem bM.run:bD bM.call bM.aq bM.add bM.F:=cw (cv [.d iu,.d nR,.d ti,.d hZ,.d tB,.d nS,.d ti] fun _=>by kernel_rfl)
noncomputable def bM.sg:SG Tryz.prog:=⟨10,aK,bM.E,.fn 1 (by kernel_rfl) bM.ok (And.intro (.cD bM.L0.ok (by kernel_rfl)) trivial)⟩
abbrev dM.D:=fF×Int×fL×Int
def dM.st:dM.D→SA:=fun(ch,me,dI,bp)=>([.d iu ch,.d ti me,.d hZ dI,.d ti bp],[])
abbrev dM.Y:=Int
abbrev dM.X:=Int
def dM.out:dM.X→aT:=fun x=>⟨.d ti x,[],[]⟩
def dM.add:dM.D→dM.Y→dM.X:=fun(ch,me,dI,bp) y=>y
def dM.aq:dM.D→Prop:=fun(ch,me,dI,bp)=>jn ch∧nG dI
def dM.F:dM.D→dM.Y:=fun(ch,me,dI,bp)=>oD ch me dI bp
noncomputable def dM.G:dU:=eZ (P:=Tryz.prog) [aQ.sg,fB.sg,bQ.sg]
noncomputable def dM.an:eu:= {}
noncomputable def dM.A:= @cq Tryz.prog dM.G dM.an 0 Tryz.f12 _ dM.st
abbrev dM.Ok:=cr @dM.A dM.aq dM.add dM.F dM.out
theorem dM.eq{R:Type}(ch:fF)(me:Int)(dI:fL)(bp:Int)(k:aT→Option R):dM.A (ch,me,dI,bp) k=
  aD ((gM me (0:Int))) (
   k (dM.out (0:Int))) (
   aD ((mX me (1:Int))) (
    k (dM.out (0:Int))) (
    aD ((gM bp (0:Int))) (
     k (dM.out (0:Int))) (
     aD ((mX bp (1000:Int))) (
      k (dM.out (0:Int))) (
      ab (aQ.call (ch,dI,(bV .i64 (1:Int) me),(4:Int))) fun x1=>
      aD ((qQ x1.2 (0:Int))) (
       k (dM.out (0:Int))) (
       ab (fB.call (x1.1,(0:Int),(0:Int))) fun x2=>
       ab (bQ.call (x2,bp)) fun x3=>
       k (dM.out (imax (0:Int) x3))))))):=by kernel_rfl
theorem dM.ok:dM.Ok:=by
 rintro⟨ch,me,dI,bp⟩ ⟨hch,hu⟩
 have hch:jn ch:=hch
 have hu:nG dI:=hu
 have ea:∀d y,dM.add d y=y:=fun _ _=>rfl
 have eF:dM.F (ch,me,dI,bp)=oD ch me dI bp:=rfl
 rw[dM.eq,ea,eF]
 unfold oD
 by_cases h1:me < 0
 ·rw[bB h1,ah,jP (by omega)];rfl
 by_cases h2:me > 1
 ·rw[bk h1,ae,ee h2,ah,jP (by omega)];rfl
 have hme:me=0∨me=1:=by omega
 rw[bk h1,ae,dj h2,ae,ik (by omega) (by omega),Bool.true_and]
 by_cases h3:bp < 0
 ·rw[bB h3,ah,jP (by omega)];rfl
 by_cases h4:bp > 1000
 ·rw[bk h3,ae,ee h4,ah,jP (by omega)];rfl
 have hp:fo 4:=⟨by decide,by decide⟩
 rw[bk h3,ae,dj h4,ae,ik (by omega) (by omega),if_pos rfl,Ad (by omega),aQ.c (own:=1 - me) hch hu hp,aa]
 have hmk:=uV (ch:=ch) (s:=dI) (own:=1 - me) (per:=4)
 by_cases h7:(kb ch dI (1 - me) 4).2=0
 ·obtain⟨q1,q2,q3,q4⟩:=hmk h7
  have hv:=wF hch hu q3 q1 hp
  have hg:=B4 (c:=eQ ch dI (1 - me) 4) qL qL
  rw[q4,gO rfl,ae,fB.c hv.1 hv.2.1 (by have:=hv.2.2;omega),aa,bQ.c hg ⟨by omega,by omega⟩,aa,if_pos rfl]
 ·rw[iM h7,ah,if_neg h7]
noncomputable def dM.E:=Entry.cD [some iu,some ti,some hZ,some ti] dM.st dM.aq dM.add dM.F dM.out
noncomputable def dM.call:dM.D→Option dM.X:=bC dM.E dM.st
theorem dM.run:bD dM.call dM.aq dM.add dM.F:=cw (cv [.d iu,.d ti,.d hZ,.d ti] fun _=>by kernel_rfl)
noncomputable def dM.sg:SG Tryz.prog:=⟨12,aK,dM.E,.fn 0 (by kernel_rfl) dM.ok trivial⟩
theorem dJ.c{ch:fF}{kit:lC}{me:Int}{dI:fL}{secret:List Int}{to:Lk}{bp:Int}(hch:jn ch)(hk:yw kit)(hu:nG dI)(hs:Sm secret)(ht:oM to):dJ.call (ch,kit,me,dI,secret,to,bp)=some (qf ch kit me dI secret to bp):=by
 have ea:∀d y,dJ.add d y=y:=fun _ _=>rfl
 have eF:dJ.F (ch,kit,me,dI,secret,to,bp)=qf ch kit me dI secret to bp:=rfl
 rw[dJ.run (d:=(ch,kit,me,dI,secret,to,bp)) ⟨hch,hk,hu,hs,ht⟩,ea,eF]
theorem bM.c{ch:fF}{kit:lC}{me:Int}{dI:fL}{secret:List Int}{to:Lk}{bp:Int}(hch:jn ch)(hk:yw kit)(hu:nG dI)(hs:Sm secret)(ht:oM to):bM.call (ch,kit,me,dI,secret,to,bp)=some (wI ch kit me dI secret to bp):=by
 have ea:∀d y,bM.add d y=y:=fun _ _=>rfl
 have eF:bM.F (ch,kit,me,dI,secret,to,bp)=wI ch kit me dI secret to bp:=rfl
 rw[bM.run (d:=(ch,kit,me,dI,secret,to,bp)) ⟨hch,hk,hu,hs,ht⟩,ea,eF]
theorem dM.c{ch:fF}{me:Int}{dI:fL}{bp:Int}(hch:jn ch)(hu:nG dI):dM.call (ch,me,dI,bp)=some (oD ch me dI bp):=by
 have ea:∀d y,dM.add d y=y:=fun _ _=>rfl
 have eF:dM.F (ch,me,dI,bp)=oD ch me dI bp:=rfl
 rw[dM.run (d:=(ch,me,dI,bp)) ⟨hch,hu⟩,ea,eF]
end
end Go.Ab
namespace Go.Ab
open Go.Proofs
set_option maxRecDepth 100000
set_option linter.unusedVariables false
set_option linter.unusedSimpArgs false
set_option synthInstance.maxSize 5000
noncomputable section
theorem zK(m:Int)(q:Nat)(a b:Int)(h1:a^q%m=1%m)(h2:b^q%m=1%m):(a*b%m)^q%m=1%m:=by
 rw[pg,Int.mul_pow,Int.mul_emod,h1,h2,←Int.mul_emod,Int.one_mul]
theorem FJ{a b:Int}(ha:lq a=true)(hb:lq b=true):lq (kY a b)=true:=by
 refine D8 (mo a b) ?_
 have h1:=(sD ha).1
 have h2:=(sD hb).1
 rw[vd _ _ (by decide)]at h1 h2 ⊢
 exact zK 4611686018427377339 _ a b h1 h2
theorem zd:∀(l:List Int) (o:Int),lq o=true→lq (l.foldl (fun o p=>kY o (tk p)) o)=true
 |[],_,h=>h
 |p::l,o,h=>zd l _ (FJ h (D9 p))
theorem mY(l:List Int):lq (rU l)=true:=zd l 1 BY
theorem oB{p a d s:Int}(hp:lq p=true)(ha:0≤a∧a≤1048576)(hd:0≤d∧d≤1048576)(hs:s=0∨lq s=true):nj ([p],(a,(d,(s,()))))=true:=by
 unfold nj xI
 simp only[List.all_cons,List.all_nil,hp,Bool.and_true,Bool.and_eq_true,decide_eq_true_eq,Bool.or_eq_true]
 exact⟨Nat.le_of_ble_eq_true rfl,trivial,ha,hd,hs⟩
theorem Dx.p{p:Int}(h:Dx p):lq p=true:=by
 have:=h.2
 unfold we at this
 exact(Bool.and_eq_true_iff.1 this).1
theorem jn.wait{ch:fF}(h:jn ch){n:Int}(hn:n=0∨n=1):0≤rY ch n∧rY ch n≤1048576:=by
 obtain⟨d,hd,h2⟩:=h.t hn
 unfold rY
 rw[hd,Ja]
 omega
theorem uR{a b:oK}(ha:nj a=true)(hb:nj b=true):jz ([a,b],())=true:=by
 unfold jz
 simp only[List.all_cons,List.all_nil,ha,hb,Bool.and_self,Bool.true_and]
 rfl
theorem zk{a b c:oK}(ha:nj a=true)(hb:nj b=true)(hc:nj c=true):jz ([a,b,c],())=true:=by
 unfold jz
 simp only[List.all_cons,List.all_nil,ha,hb,hc,Bool.and_self,Bool.true_and]
 rfl
theorem zj{a:oK}(ha:nj a=true):jz ([a],())=true:=by
 unfold jz
 simp only[List.all_cons,List.all_nil,ha,Bool.and_self,Bool.true_and]
 rfl
theorem yr:(0:Int)≤0∧(0:Int)≤1048576:=by decide
theorem FV{ch:fF}{s:fL}{own per:Int}(hch:jn ch)(hs:qO ch s)(ho:own=0∨own=1):∀m∈mH ch s own per,jz m.1.2.1=true:=by
 have hp':1 - own=0∨1 - own=1:=by omega
 have b0:=hch.ba ho
 have b1:=hch.ba hp'
 have w:=hch.wait hp'
 intro m hm
 unfold mH at hm
 simp only[List.mem_append]at hm
 rcases hm with hm | hm | hm | hm
 ·split at hm
  ·rw[List.mem_singleton]at hm;subst hm
   exact uR (oB (mY _) yr yr (.inl rfl)) (oB (mY _) yr w (.inl rfl))
  ·cases hm
 ·split at hm
  ·rw[List.mem_singleton]at hm;subst hm
   exact zj (oB b1.2.1.p yr yr (.inl rfl))
  ·cases hm
 ·have h16:nj ([],((0:Int),((16:Int),((0:Int),()))))=true:=by decide
  rcases List.mem_cons.1 hm with rfl | hm
  ·exact uR (oB b0.1.p yr yr (.inl rfl)) h16
  ·rw[List.mem_singleton]at hm;subst hm
   exact uR (oB b1.1.p yr yr (.inl rfl)) h16
 ·obtain⟨c,hc,rfl⟩:=List.mem_map.1 hm
  have g:=nJ _ _ hs.kg c (List.mem_filter.1 hc).1
  have hpt:lq c.2.2.2.1=true:=by
   have:=g.pt
   unfold we at this
   exact(Bool.and_eq_true_iff.1 this).1
  have he:=g.exp
  unfold jH
  split
  ·exact zk (oB (mY _) yr yr (.inl rfl)) (oB (mY _) yr yr (.inr hpt)) (oB (mY _) ⟨by omega,he.2⟩ w (.inl rfl))
  ·exact zk (oB (mY _) yr yr (.inl rfl)) (oB (mY _) yr w (.inr hpt)) (oB (mY _) ⟨by omega,he.2⟩ yr (.inl rfl))
def mf:List iD→Int
 |[]=>0
 |m::l=>m.1.1+mf l
theorem jc:∀(a b:List iD),mf (a++b)=mf a+mf b
 |[],b=>by simp[mf]
 |m::a,b=>by rw[List.cons_append,mf,mf,jc a b];omega
theorem wu{a b:List iD}(h:a.Perm b):mf a=mf b:=by
 induction h with
 |nil=>rfl
 |cons x _ ih=>rw[mf,mf,ih]
 |swap x y l=>simp only[mf];omega
 |trans _ _ h1 h2=>rw[h1,h2]
def jg(m:iD):Bool:= !decide (m.2.1.1=3∨m.2.1.1=4)
def CG(l:List iD):Nat:=(l.filter jg).length
def Cs(l:List iD):Int:=mf (l.filter jg)
theorem CH{a b:List iD}(h:a.Perm b):CG a=CG b:=(h.filter jg).length_eq
theorem Ct{a b:List iD}(h:a.Perm b):Cs a=Cs b:=wu (h.filter jg)
theorem Ai(rev pay:Int):∀(l:List iD) (os:List oL),os.length=l.length→(wj rev pay os (l.map fun m=>m.1) (l.map fun m=>m.2.1)).length=CG l∧vO (wj rev pay os (l.map fun m=>m.1) (l.map fun m=>m.2.1))=Cs l
 |[],[],_=>⟨rfl,rfl⟩
 |[],_::_,h=>by cases h
 |_::_,[],h=>by cases h
 |m::l,o::os,h=>by
  have ih:=Ai rev pay l os (by simpa using h)
  simp only[List.map_cons,wj]
  unfold CG Cs pz at*
  rw[List.filter_cons]
  by_cases hg:m.2.1.1=3∨m.2.1.1=4
  ·have:jg m=false:=by unfold jg;rw[aL hg];rfl
   rw[if_pos hg,this,if_neg (by simp),List.nil_append]
   exact ih
  ·have:jg m=true:=by unfold jg;rw[bN hg];rfl
   rw[if_neg hg,this,if_pos rfl,List.singleton_append,List.length_cons,List.length_cons,vO,mf,ih.1,ih.2]
   exact⟨rfl,rfl⟩
theorem mv(own rev theirs mine wait:Int):∀l:List fG,mf (l.map (jH own rev theirs mine wait))=fC l∧(l.map (jH own rev theirs mine wait)).filter jg=l.map (jH own rev theirs mine wait)
 |[]=>⟨rfl,rfl⟩
 |c::l=>by
  have ih:=mv own rev theirs mine wait l
  have h1:(jH own rev theirs mine wait c).1.1=c.2.2.1∧jg (jH own rev theirs mine wait c)=true:=by
   unfold jH
   split
   ·exact⟨rfl,rfl⟩
   ·exact⟨rfl,rfl⟩
  rw[List.map_cons,mf,fC,ih.1,h1.1,List.filter_cons,h1.2,if_pos rfl,ih.2]
  exact⟨rfl,rfl⟩
def Ce(n:Int):Int:=if vo n=true then n else 0
def tN(n:Int):Nat:=if vo n=true then 1 else 0
theorem EO(ch:fF)(s:fL)(own per:Int):CG (mH ch s own per)=tN (dP ch s own)+(tN (dP ch s (1 - own))+(dT s.2.2.1).length):=by
 unfold CG mH tN
 rw[List.filter_append,List.filter_append,List.filter_append,List.length_append,List.length_append,List.length_append,(mv ..).2,List.length_map]
 have e3:∀a b:iD,a.2.1.1=3→b.2.1.1=4→([a,b].filter jg).length=0:=fun a b h1 h2=>by
  rw[List.filter_cons,List.filter_cons]
  have q1:jg a=false:=by unfold jg;rw[aL (.inl h1)];rfl
  have q2:jg b=false:=by unfold jg;rw[aL (.inr h2)];rfl
  rw[q1,q2]
  rfl
 rw[e3 _ _ rfl rfl,Nat.zero_add]
 cases vo (dP ch s own) <;> cases vo (dP ch s (1 - own)) <;> rfl
theorem EN(ch:fF)(s:fL)(own per:Int):Cs (mH ch s own per)=Ce (dP ch s own)+(Ce (dP ch s (1 - own))+fC (dT s.2.2.1)):=by
 unfold Cs mH Ce
 rw[List.filter_append,List.filter_append,List.filter_append,jc,jc,jc,(mv ..).2,(mv ..).1]
 have e3:∀a b:iD,a.2.1.1=3→b.2.1.1=4→mf ([a,b].filter jg)=0:=fun a b h1 h2=>by
  rw[List.filter_cons,List.filter_cons]
  have q1:jg a=false:=by unfold jg;rw[aL (.inl h1)];rfl
  have q2:jg b=false:=by unfold jg;rw[aL (.inr h2)];rfl
  rw[q1,q2]
  rfl
 rw[e3 _ _ rfl rfl,Int.zero_add]
 have e1:∀m:iD,jg m=true→mf ([m].filter jg)=m.1.1:=fun m h=>by
  rw[List.filter_cons,h,if_pos rfl]
  show m.1.1+0=_
  omega
 have e0:mf (([]:List iD).filter jg)=0:=rfl
 congr 1
 ·split
  ·exact e1 _ rfl
  ·exact e0
 ·congr 1
  split
  ·exact e1 _ rfl
  ·exact e0
theorem D1{r:Int}{m n:Int}(h0:0≤m)(h1:m≤n)(h2:n≤16):tG r m≤tG r n:=by
 unfold tG
 split
 ·next h=>
  have e:Fe m≤Fe n:=by unfold Fe;rw[if_pos ⟨h0,by omega⟩,if_pos ⟨by omega,h2⟩];omega
  exact Int.mul_le_mul_of_nonneg_left e h.1
 ·exact Int.le_refl _
theorem mG{ch:fF}{s:fL}(hs:qO ch s){n:Int}(hn:n=0∨n=1):0≤dP ch s n:=by
 have h0:=(hs.BP hn).1
 have hl:=hs.len
 have h3:(dT s.2.2.1).length≤s.2.2.1.length:=List.length_filter_le _ _
 have hm:=D1 (r:=s.2.2.2.1) (m:=((dT s.2.2.1).length:Int)) (n:=(s.2.2.1.length:Int)) (by omega) (by omega) (by omega)
 have hc:=hs.cost
 unfold dP
 split
 ·next e=>
  rw[←e]at hc
  omega
 ·omega
theorem w6{ch:fF}(hch:jn ch)(s:fL){own:Int}(ho:own=0∨own=1): @Eq Int (dP ch s own+dP ch s (1 - own)) (nth ti s.2.1 0+nth ti s.2.1 1 - (tG s.2.2.2.1 (dT s.2.2.1).length+660)):=by
 have hop:=hch.op
 unfold dP
 rcases ho with rfl | rfl <;> rcases hop with e | e <;> rw[e] <;> simp <;> omega
theorem qF:∀(l:List fG),(∀c∈l,yu c)→0≤fC (dT l)∧fC (dT l)≤fC l
 |[],_=>⟨Int.le_refl _,Int.le_refl _⟩
 |c::l,h=>by
  have ih:=qF l fun x hx=>h x (List.mem_cons_of_mem _ hx)
  have hc:=h c List.mem_cons_self
  unfold yu at hc
  rw[nf]
  split
  ·simp only[fC];omega
  ·simp only[fC];omega
theorem EM{ch:fF}{s:fL}{own per:Int}(hch:jn ch)(hs:qO ch s)(ho:own=0∨own=1):(∀m∈mH ch s own per,0≤m.1.1)∧mf (mH ch s own per)≤1125899906842624:=by
 have hp':1 - own=0∨1 - own=1:=by omega
 have r0:=mG hs ho
 have r1:=mG hs hp'
 have rs:=w6 hch s ho
 have ht:=hs.ID
 have ha:=hch.yH
 have hsh:=qF _ hs.a
 have hf:=o5 s.2.2.2.1 (dT s.2.2.1).length
 refine⟨fun m hm=> ?_,?_⟩
 ·unfold mH at hm
  simp only[List.mem_append]at hm
  rcases hm with hm | hm | hm | hm
  ·split at hm
   ·rw[List.mem_singleton]at hm;subst hm;exact r0
   ·cases hm
  ·split at hm
   ·rw[List.mem_singleton]at hm;subst hm;exact r1
   ·cases hm
  ·rcases List.mem_cons.1 hm with rfl | hm
   ·show(0:Int)≤330;decide
   ·rw[List.mem_singleton]at hm;subst hm;show(0:Int)≤330;decide
  ·obtain⟨c,hc,rfl⟩:=List.mem_map.1 hm
   have:=(hs.a c (List.mem_filter.1 hc).1).1
   unfold jH
   split
   ·exact this
   ·exact this
 ·unfold mH
  rw[jc,jc,jc,(mv ..).1]
  have e0:∀(b:Bool) (n:Int) (l:Lk) (r:qR),0≤n→mf (if b=true then [A2 n l r] else [])≤n:=fun b n l r hn=>by
   cases b
   ·exact hn
   ·show n+0≤n;omega
  have q0:=e0 (vo (dP ch s own)) (dP ch s own) (uN (pX (mU ch own).2.2.1 per) (tM (mU ch (1 - own)).2.2.2.2.1 per) (rY ch (1 - own))) ((1:Int),(Gy,())) r0
  have q1:=e0 (vo (dP ch s (1 - own))) (dP ch s (1 - own)) (xt [(mU ch (1 - own)).2.1]) ((2:Int),(Gy,())) r1
  have q2:∀(a b:Lk) (x y:qR),mf [A2 330 a x,A2 330 b y]=660:=fun _ _ _ _=>rfl
  rw[q2]
  omega
def Bq:List jw→Int
 |[]=>0
 |o::l=>o.1+Bq l
theorem sQ:∀(l:List jw) (s:Int),0≤s→(∀o∈l,0≤o.1∧jz o.2.1=true)→s+Bq l≤1125899906842624→kE s l=true
 |[],_,_,_,_=>rfl
 |o::l,s,h0,h,hs=>by
  have ho:=h o List.mem_cons_self
  have hnn:∀(l:List jw),(∀o∈l,0≤o.1∧jz o.2.1=true)→0≤Bq l:=by
   intro l
   induction l with
   |nil=>intro _;exact Int.le_refl _
   |cons x l ih=>
    intro h
    have h1:=(h x List.mem_cons_self).1
    have h2:=ih fun y hy=>h y (List.mem_cons_of_mem _ hy)
    simp only[Bq]
    omega
  have hl:=hnn l fun y hy=>h y (List.mem_cons_of_mem _ hy)
  simp only[Bq]at hs
  rw[kE,ho.2,sQ l (s+o.1) (by omega) (fun y hy=>h y (List.mem_cons_of_mem _ hy)) (by omega)]
  unfold nH np
  rw[aL ⟨h0,by omega⟩,aL ⟨ho.1,by omega⟩,aL (by omega)]
  rfl
theorem Ae:∀l:List iD,Bq (l.map fun m=>m.1)=mf l
 |[]=>rfl
 |m::l=>by rw[List.map_cons,Bq,mf,Ae l]
theorem CJ{ch:fF}{s:fL}{own per:Int}(hch:jn ch)(hs:qO ch s)(ho:own=0∨own=1):iq (eQ ch s own per).1=true:=by
 have hl:=zO (ch:=ch) (own:=own) (per:=per) hs.len
 have hk:=FV (per:=per) hch hs ho
 have hr:=EM (per:=per) hch hs ho
 have hp:=jk (mH ch s own per)
 have hle:=hp.length_eq
 have hno:=hs.no
 unfold eQ ofRow
 unfold iq qJ
 have e1:oe [] [((ch.1,(((0:Int),(([]:List Sg),((0:Int),()))),())):ja)]=true:=by
  rw[oe,oe,hch.H0]
  rfl
 rw[e1,sQ _ 0 (Int.le_refl _) (fun o hm0=> ?_) ?_,aL ⟨by show 1≤1;decide,by show 1≤64;decide,by show(List.map _ _).length≤64;rw[List.length_map];omega,by show 0≤2*s.1+own;omega⟩]
 ·rfl
 rotate_left
 ·obtain⟨m,hm,rfl⟩:=List.mem_map.1 hm0
  have hm:=sZ.1 hm
  exact⟨hr.1 m hm,hk m hm⟩
 ·rw[Ae,wu hp]
  omega
theorem w3{ch:fF}{s:fL}{own per rev pay:Int}(hch:jn ch)(hs:qO ch s)(ho:own=0∨own=1):(sa (eQ ch s own per) rev pay).length=tN (dP ch s own)+(tN (dP ch s (1 - own))+(dT s.2.2.1).length)∧
  vO (sa (eQ ch s own per) rev pay)=Ce (dP ch s own)+(Ce (dP ch s (1 - own))+fC (dT s.2.2.1)):=by
 have hok:=CJ (per:=per) hch hs ho
 have hm:(ji (eQ ch s own per).1).length=(iO (mH ch s own per)).length:=by
  unfold ji l8
  rw[if_pos hok,List.length_map,List.length_range']
  show(List.map _ _).length=_
  rw[List.length_map]
 have e:=Ai rev pay (iO (mH ch s own per)) _ hm
 rw[CH (jk _),Ct (jk _),EO,EN]at e
 exact e
end
end Go.Ab
namespace Go.Ab
open Go.Proofs
set_option maxRecDepth 100000
set_option linter.unusedVariables false
set_option linter.unusedSimpArgs false
set_option synthInstance.maxSize 5000
noncomputable section
theorem BA{a b:fG}:r9 a b=true↔(a.1 < b.1∨a.1=b.1∧a.2.1 < b.2.1):=by
 unfold r9;rw[decide_eq_true_eq]
theorem wo{a b c:fG}(h1:r9 a b=true)(h2:r9 b c=true):r9 a c=true:=by
 rw[BA]at*;omega
def Iq(a b:fG):Prop:=r9 a b=true
theorem wC:∀(l:List fG) (p:fG),nm (some p) l=true↔(∀x∈l,F5 x)∧(p::l).Pairwise Iq
 |[],p=>⟨fun _=>⟨fun x hx=>(by cases hx),List.pairwise_singleton _ _⟩,fun _=>rfl⟩
 |c::l,p=>by
  rw[nm,Bool.and_eq_true,Bool.and_eq_true,wC l c,mi]
  constructor
  ·rintro⟨h1,h2,h3,h4⟩
   refine⟨fun x hx=> ?_,List.pairwise_cons.2 ⟨fun x hx=> ?_,h4⟩⟩
   ·rcases List.mem_cons.1 hx with rfl | hx
    ·exact h1
    ·exact h3 x hx
   ·rcases List.mem_cons.1 hx with rfl | hx
    ·exact h2
    ·exact wo h2 ((List.pairwise_cons.1 h4).1 x hx)
  ·rintro⟨h1,h2⟩
   have h3:=List.pairwise_cons.1 h2
   exact⟨h1 c List.mem_cons_self,h3.1 c List.mem_cons_self,fun x hx=>h1 x (List.mem_cons_of_mem _ hx),h3.2⟩
theorem wB(l:List fG):nm none l=true↔(∀x∈l,F5 x)∧l.Pairwise Iq:=by
 cases l with
 |nil=>exact⟨fun _=>⟨fun x hx=>(by cases hx),List.Pairwise.nil⟩,fun _=>rfl⟩
 |cons c l=>
  rw[nm,Bool.and_eq_true,wC l c,mi]
  constructor
  ·rintro⟨h1,h2,h3⟩
   refine⟨fun x hx=> ?_,h3⟩
   rcases List.mem_cons.1 hx with rfl | hx
   ·exact h1
   ·exact h2 x hx
  ·rintro⟨h1,h2⟩
   exact⟨h1 c List.mem_cons_self,fun x hx=>h1 x (List.mem_cons_of_mem _ hx),h2⟩
theorem sB:∀(c:fG) (l:List fG),(qy c l).Perm (c::l)
 |c,[]=>List.Perm.refl _
 |c,x::l=>by
  rw[pK]
  split
  ·exact List.Perm.refl _
  ·exact((sB c l).cons x).trans (List.Perm.swap c x l)
theorem BU:∀(c:fG) (l:List fG),l.Pairwise Iq→l.any (BW c.1 c.2.1)=false→(qy c l).Pairwise Iq
 |c,[],_,_=>List.pairwise_singleton _ _
 |c,x::l,h,hn=>by
  rw[List.any_cons,Bool.or_eq_false_iff]at hn
  have h':=List.pairwise_cons.1 h
  rw[pK]
  split
  ·next hc=>
   refine List.pairwise_cons.2 ⟨fun y hy=> ?_,h⟩
   rcases List.mem_cons.1 hy with rfl | hy
   ·exact hc
   ·exact wo hc (h'.1 y hy)
  ·next hc=>
   have hx:r9 x c=true:=by
    have h1:=hn.1
    unfold BW jO at h1
    rw[BA]at*
    by_cases e1:x.1=c.1
    ·have e2:¬x.2.1=c.2.1:=fun e=>by
      rw[e1,e]at h1
      simp at h1
     omega
    ·omega
   refine List.pairwise_cons.2 ⟨fun y hy=> ?_,BU c l h'.2 hn.2⟩
   rcases(re c l y).1 hy with rfl | hy
   ·exact hx
   ·exact h'.1 y hy
theorem wq{a b:List fG}(h:a.Perm b):fC a=fC b:=by
 induction h with
 |nil=>rfl
 |cons x _ ih=>rw[fC,fC,ih]
 |swap x y l=>simp only[fC];omega
 |trans _ _ h1 h2=>rw[h1,h2]
theorem B5(n:Int)(c:fG)(l:List fG):fC (im n (qy c l))=(if c.1=1 - n then c.2.2.1 else 0)+fC (im n l):=by
 have hp:(im n (qy c l)).Perm (im n (c::l)):=(sB c l).filter _
 rw[wq hp,sP]
 by_cases h:c.1=1 - n
 ·rw[fg h,if_pos rfl,if_pos h,fC]
 ·rw[eo h,if_neg (by simp),if_neg h];omega
theorem lT(s:fL)(c:fG):(hJ s c).2.2.1=qy c s.2.2.1:=rfl
theorem qN{s:fL}{c:fG}(h2:s.2.1.length=2)(hc:c.1=0∨c.1=1){n:Int}(hn:n=0∨n=1): @Eq Int (nth ti (hJ s c).2.1 n.toNat) (nth ti s.2.1 n.toNat - (if c.1=n then c.2.2.1 else 0)):=by
 show nth ti (List.set _ _ _) _=_
 rw[zC h2 _ _ _ hc hn]
 split
 ·next e=>rw[e]
 ·show _=(nth ti s.2.1 n.toNat:Int) - 0
  exact(Int.sub_zero _).symm
theorem Cr{ch:fF}{s:fL}{c:fG}(hch:jn ch)(hu:nG s)(h:(tD ch s c).2=0):qO ch (tD ch s c).1:=by
 obtain⟨e,hs,g,hn,h16,hmost,hh,hcost⟩:=Bz h
 rw[e]
 have gs:=EU g.side
 have ga:=g.yH
 have hlen:=hs.len
 have w0:=qN (s:=s) (c:=c) hu.2.2 gs (n:=0) (.inl rfl)
 have w1:=qN (s:=s) (c:=c) hu.2.2 gs (n:=1) (.inr rfl)
 have wc:=qN (s:=s) (c:=c) hu.2.2 gs gs
 rw[if_pos rfl]at wc
 have ck:=(wB _).1 hs.kg
 have a0:=hs.h0.1
 have a0':=hs.h0.2
 have a1:=hs.h1.1
 have a1':=hs.h1.2
 have hh': @LE.le Int _ 0 (nth ti (hJ s c).2.1 c.1.toNat):=hh
 have o0:=B5 0 c s.2.2.1
 have o1:=B5 1 c s.2.2.1
 have q0:=hs.o0
 have q1:=hs.o1
 have ht:=hs.ID
 have e0:(Int.toNat 0)=0:=rfl
 have e1:(Int.toNat 1)=1:=rfl
 rw[e0]at w0
 rw[e1]at w1
 refine⟨hs.no,?_,?_,hs.bp,?_,?_,?_,?_,?_,?_⟩
 ·unfold Bd
  rcases gs with gc | gc <;> rw[gc]at w0 hh' wc hmost
  ·rw[if_pos rfl]at w0
   rw[e0]at hh'
   exact⟨hh',by rw[w0];omega⟩
  ·rw[if_neg (by decide),Int.sub_zero]at w0
   exact⟨by rw[w0];exact a0,by rw[w0];exact a0'⟩
 ·unfold Bd
  rcases gs with gc | gc <;> rw[gc]at w1 hh' wc hmost
  ·rw[if_neg (by decide),Int.sub_zero]at w1
   exact⟨by rw[w1];exact a1,by rw[w1];exact a1'⟩
  ·rw[if_pos rfl]at w1
   rw[e1]at hh'
   exact⟨hh',by rw[w1];omega⟩
 ·rw[lT,uK];omega
 ·rw[lT,wB]
  refine⟨fun x hx=> ?_,BU c _ ck.2 hn⟩
  rcases(re c _ x).1 hx with rfl | hx
  ·exact g
  ·exact ck.1 x hx
 ·rw[lT,o0]
  rcases gs with gc | gc <;> rw[gc]at hmost ⊢
  ·rw[if_neg (by decide)];omega
  ·rw[if_pos (by decide)]
   rw[show(1:Int) - 1=0 from rfl]at hmost
   omega
 ·rw[lT,o1]
  rcases gs with gc | gc <;> rw[gc]at hmost ⊢
  ·rw[if_pos (by decide)]
   rw[show(1:Int) - 0=1 from rfl]at hmost
   omega
  ·rw[if_neg (by decide)];omega
 ·rw[lT,wq (sB c _),fC,w0,w1]
  rcases gs with gc | gc <;> rw[gc]
  ·rw[if_pos rfl,if_neg (by decide)];omega
  ·rw[if_neg (by decide),if_pos rfl];omega
 ·exact hcost
theorem uU{ch:fF}(hch:jn ch):∀(l:List Cq) (s:fL) (i:Nat),nG s→qO ch s→qO ch (mZ ch s i l)
 |[],_,_,_,h=>h
 |o::l,s,i,hu,h=>by
  rw[mZ]
  split
  ·refine uU hch l _ _ (Bo hu) ?_
   unfold vB
   split
   ·next e=>exact Cr hch hu e
   ·exact h
  ·exact h
theorem Dh{p:tc}(hp:Fi p):qO (vR p) (Dg p):=by
 have ha:=hp.yH
 have hr:=hp.bp
 have hn:=hp.no
 have ho:p.2.2.2.2.1%2=0∨p.2.2.2.2.1%2=1:=by omega
 unfold Dg
 split
 ·next e=>exact lR.1 e
 ·have hf:tG (p.2.2.2.1%8) 0≤476:=by
   unfold tG
   rw[if_pos ⟨by omega,by omega⟩]
   show p.2.2.2.1%8*68≤476
   omega
  have hf0:=o5 (p.2.2.2.1%8) 0
  have key:∀(x y:Int),0≤x→0≤y→x+y=20000+p.2.1→(@GE.ge Int _ (nth ti [x,y] (p.2.2.2.2.1%2).toNat) (tG (p.2.2.2.1%8) 0+660))→qO (vR p) (Bi p [x,y]):=fun x y hx hy hxy hc=>
   ⟨⟨by show 0≤p.2.2.2.2.2.2.1;omega,by show p.2.2.2.2.2.2.1≤_;omega⟩,⟨hx,by show x≤_;omega⟩,⟨hy,by show y≤_;omega⟩,⟨by show 0≤p.2.2.2.1%8;omega,by show p.2.2.2.1%8≤_;omega⟩,Nat.zero_le _,rfl,by show(0:Int)≤_;decide,by show(0:Int)≤_;decide,by show x+y+0=20000+p.2.1;omega,hc⟩
  rcases ho with e | e
  ·have:((oE p).set (p.2.2.2.2.1%2).toNat (20000+p.2.1)).set (1 - p.2.2.2.2.1%2).toNat 0=[20000+p.2.1,0]:=by
    rw[e];rfl
   rw[this]
   refine key _ _ (by omega) (by omega) (by omega) ?_
   rw[e]
   show 20000+p.2.1≥_
   omega
  ·have:((oE p).set (p.2.2.2.2.1%2).toNat (20000+p.2.1)).set (1 - p.2.2.2.2.1%2).toNat 0=[0,20000+p.2.1]:=by
    rw[e];rfl
   rw[this]
   refine key _ _ (by omega) (by omega) (by omega) ?_
   rw[e]
   show 20000+p.2.1≥_
   omega
theorem Dn{p:tc}(hp:Fi p):qO (vR p) (Fk p):=uU (BJ hp) _ _ _ (Cd p) (Dh hp)
end
end Go.Ab
namespace Go.Ab
open Go.Proofs
set_option maxRecDepth 100000
set_option linter.unusedVariables false
set_option linter.unusedSimpArgs false
set_option synthInstance.maxSize 5000
noncomputable section
theorem BG(a b:oL):Ty.beq p9 a b=true↔a=b:=⟨beq_eq p9 a b rfl,fun h=>by rw[h];exact beq_refl p9 b rfl⟩
theorem uZ{x y:oL}{v:Bool}(h:¬y=x):∀l:List (oL×Bool),kc p9 y (kA p9 x v l)=kc p9 y l
 |[]=>by rw[C4,kX,if_neg (fun e=>h ((BG _ _).1 e)),wY]
 |p::l=>by
  rw[u5]
  split
  ·next e=>
   have e:=(BG _ _).1 e
   rw[kX,kX,if_neg (fun e=>h ((BG _ _).1 e)),if_neg (fun e2=>h (((BG _ _).1 e2).trans e.symm))]
  ·rw[kX,kX,uZ h l]
theorem BV:∀(l:List ja) (m:List (oL×Bool)),(∀x∈l,sz x=true∧kc p9 x.1 m=none)→(l.map fun x=>x.1).Nodup→oe m l=true
 |[],_,_,_=>rfl
 |x::l,m,h,hn=>by
  rw[List.map_cons,List.nodup_cons]at hn
  have hx:=h x List.mem_cons_self
  have e:q9 m x=false:=by unfold q9;rw[hx.2];rfl
  rw[oe,e,hx.1,BV l _ (fun y hy=>⟨(h y (List.mem_cons_of_mem _ hy)).1,?_⟩) hn.2]
  ·rfl
  ·rw[uZ (fun e=>hn.1 (by rw[←e];exact List.mem_map_of_mem hy))]
   exact(h y (List.mem_cons_of_mem _ hy)).2
theorem Cj(rev pay:Int):∀(a:List oL) (b:List jw) (c:List qR),((wj rev pay a b c).map fun x=>x.1).Sublist a
 |[],_,_=>List.Sublist.refl _
 |_::_,[],_=>List.nil_sublist _
 |_::_,_::_,[]=>List.nil_sublist _
 |o::a,x::b,r::c=>by
  have ih:=Cj rev pay a b c
  rw[wj,List.map_append]
  unfold pz
  split
  ·exact ih.cons o
  ·exact ih.cons_cons o
theorem zq(id:List Int):∀(n k:Nat),(l8 id k n).Nodup:=by
 intro n k
 unfold l8
 refine List.Pairwise.map _ (fun a b h e=>h ?_) List.nodup_range'
 have:=congrArg (fun o:oL=>o.2.1) e
 exact Int.ofNat.inj this
theorem FL{id:List Int}{k n:Nat}{o:oL}(h:o∈l8 id k n):0≤o.2.1∧o.2.1 < k+n:=by
 unfold l8 at h
 obtain⟨i,hi,rfl⟩:=List.mem_map.1 h
 have:=List.mem_range'.1 hi
 obtain⟨j,hj,rfl⟩:=this
 show(0:Int)≤((k+1*j:Nat):Int)∧((k+1*j:Nat):Int) < k+n
 omega
theorem Et(c:Aq)(rev pay:Int):((sa c rev pay).map fun x=>x.1).Nodup∧∀x∈sa c rev pay,0≤x.1.2.1∧x.1.2.1 < 64:=by
 unfold sa
 have hs:=Cj rev pay (ji c.1) c.1.2.1 c.2.1
 have hm:(ji c.1).Nodup∧∀o∈ji c.1,0≤o.2.1∧o.2.1 < 64:=by
  unfold ji
  split
  ·next hok=>
   refine⟨zq _ _ _,fun o ho=> ?_⟩
   have:=FL ho
   have:=(xh hok).1
   omega
  ·exact⟨List.nodup_nil,fun o ho=>(by cases ho)⟩
 exact⟨hm.1.sublist hs,fun x hx=>hm.2 _ (hs.subset (List.mem_map_of_mem hx))⟩
theorem F2{l:List kP}{to:Lk}{n:Int}(h1:1≤l.length∧l.length≤64)(hn:(l.map fun x=>x.1).Nodup)(hi:∀x∈l,0≤x.1.2.1∧x.1.2.1 < 64)(hto:jz to=true)(h0:0≤n∧n≤1125899906842624):iq (Bt l to n)=true:=by
 unfold iq qJ
 have e1:oe [] (Bt l to n).1=true:=by
  show oe [] (l.map vW)=true
  refine BV _ _ (fun x hx=> ?_) (by rw[List.map_map];exact hn)
  obtain⟨y,hy,rfl⟩:=List.mem_map.1 hx
  have:=hi y hy
  refine⟨?_,rfl⟩
  unfold sz
  show(decide (0≤y.1.2.1∧y.1.2.1 < 64) && _)=true
  rw[aL this]
  rfl
 have e2:kE 0 (Bt l to n).2.1=true:=sQ _ 0 (Int.le_refl _) (fun o ho=>by
  have ho:o∈ [(n,(to,()))]:=ho
  rw[List.mem_singleton]at ho
  subst ho
  exact⟨h0.1,hto⟩) (by show 0+(n+0)≤_;omega)
 rw[e1,e2,aL ⟨by show 1≤(l.map vW).length;rw[List.length_map];exact h1.1,by show(l.map vW).length≤64;rw[List.length_map];exact h1.2,by show 1≤64;decide,by show(0:Int)≤0;decide⟩]
 rfl
def HK(x:ja):Int:=10+8*x.2.1.2.1.length+(if x.2.1.2.2.1=0 then 0 else 4)
theorem Di{t:hP}{i:Nat}{k:Int}(hok:iq t=true)(hi:i < t.1.length)(hk:0 < k∧k < 2305843009213688669):mJ t i 0 [k]=true:=by
 unfold mJ
 rw[hok,aL ⟨by omega,by omega,by decide,by decide,Nat.le_of_ble_eq_true rfl⟩]
 simp only[List.any_cons,List.any_nil,qm]
 rw[bN (by omega)]
 rfl
theorem zT:∀(l:List kP) (t:hP) (i:Nat),iq t=true→rZ t→i+l.length=t.1.length→(∀x∈l,0 < x.2.2.1∧x.2.2.1 < 2305843009213688669)→(∀(j:Nat) (h:j < t.1.length),j < i→HK t.1[j]=18)→
  ∃t',qi t i l= .inl t'∧iq t'=true∧rZ t'∧t'.2=t.2∧t'.1.length=t.1.length∧xg t'=xg t∧kJ t'=kJ t∧∀x∈t'.1,HK x=18
 |[],t,i,hok,hv,hl,_,hw=>⟨t,rfl,hok,hv,rfl,rfl,rfl,rfl,fun x hx=>by
   obtain⟨j,hj,rfl⟩:=List.getElem_of_mem hx
   exact hw j hj (by simp at hl;omega)⟩
 |x::l,t,i,hok,hv,hl,hk,hw=>by
  have hi:i < t.1.length:=by rw[List.length_cons]at hl;omega
  have hs:=Di hok hi (hk x List.mem_cons_self)
  have ha:=zW (sc:=0) hv hs qL
  rw[Int.toNat_natCast]at ha
  have e:kG t i 0 [x.2.2.1] 0=(rP t i (sX t 0 [x.2.2.1] 0),0):=by
   rw[zV,if_pos hs,Int.toNat_natCast]
  obtain⟨t',h1,h2,h3,h4,h5,h6,h7,h8⟩:=zT l (rP t i (sX t 0 [x.2.2.1] 0)) (i+1) ha.1 ha.2.1 (by rw[vn];rw[List.length_cons]at hl;omega) (fun y hy=>hk y (List.mem_cons_of_mem _ hy)) (fun j hj hji=>by
   have hj':j < t.1.length:=by rw[vn]at hj;exact hj
   have hj2:j < (t.1.set i ((nth jR t.1 i).1,(sX t 0 [x.2.2.1] 0,()))).length:=hj
   show HK ((t.1.set i ((nth jR t.1 i).1,(sX t 0 [x.2.2.1] 0,())))[j]'hj2)=18
   rw[List.getElem_set]
   split
   ·rfl
   ·exact hw j hj' (by omega))
  refine⟨t',?_,h2,h3,h4,h5.trans (vn ..),h6.trans ha.2.2.1,h7.trans ha.2.2.2.1,h8⟩
  rw[qi,e,if_pos rfl]
  exact h1
theorem Ff{t:hP}(h:iq t=true)(hw:∀x∈t.1,HK x=18):s8 t=10+8*t.2.1.length+18*t.1.length:=by
 unfold s8
 rw[if_pos h]
 have:∀(l:List ja) (n:Int),(∀x∈l,HK x=18)→l.foldl pD n=n+18*l.length:=by
  intro l
  induction l with
  |nil=>intro n _;simp
  |cons x l ih=>
   intro n h
   have hx:=h x List.mem_cons_self
   unfold HK at hx
   rw[List.foldl_cons,ih _ fun y hy=>h y (List.mem_cons_of_mem _ hy),List.length_cons]
   unfold pD
   omega
 exact this _ _ hw
theorem Ag{l:List kP}{to:Lk}{bp:Int}(hg:vM l)(ht:oM to)(hto:jz to=true)(h1:1≤l.length)(hn:(l.map fun x=>x.1).Nodup)(hi:∀x∈l,0≤x.1.2.1∧x.1.2.1 < 64)(hk:∀x∈l,0 < x.2.2.1∧x.2.2.1 < 2305843009213688669)
  (h0:1≤jK l bp) (hm:jK l bp≤1125899906842624):∃t,kK l to bp=(t,0)∧iq t=true∧rZ t∧t.2=([(jK l bp,(to,()))],((0:Int),()))∧t.1.length=l.length∧s8 t=18+18*l.length∧kJ t=l.map fun x=>x.1:=by
 have hok:=F2 (n:=jK l bp) ⟨h1,hg.1⟩ hn hi hto ⟨by omega,hm⟩
 have hv:=E5 (n:=jK l bp) hg ht
 obtain⟨t,e1,e2,e3,e4,e5,_,e7,e8⟩:=zT l _ 0 hok hv (by show 0+l.length=(l.map vW).length;rw[List.length_map,Nat.zero_add]) hk (fun j _ h=>absurd h (Nat.not_lt_zero _))
 have el:t.1.length=l.length:=e5.trans (List.length_map ..)
 refine⟨t,?_,e2,e3,e4,el,?_,?_⟩
 ·unfold kK
  rw[if_neg (by omega),e1]
 ·have:=Ff e2 e8
  rw[this,el,e4]
  show 10+8*((1:Nat):Int)+_=_
  omega
 ·rw[e7]
  unfold kJ
  rw[if_pos hok]
  show(l.map vW).map _=_
  rw[List.map_map]
  rfl
theorem kR(l:List kP)(bp:Int):jK l bp=vO l - bp*(18+18*l.length):=by
 unfold jK
 rw[Int.neg_mul]
 omega
end
end Go.Ab
namespace Go.Ab
open Go.Proofs
set_option maxRecDepth 100000
set_option linter.unusedVariables false
set_option linter.unusedSimpArgs false
set_option synthInstance.maxSize 5000
noncomputable section
theorem aB.c{p:tc}(h:Fi p):aB.call p=some (vR p,qg p,Fk p):=by
 have ea:∀d y,aB.add d y=y:=fun _ _=>rfl
 have eF:aB.F p=(vR p,qg p,Fk p):=rfl
 rw[aB.run (d:=p) h,ea,eF]
def Hq:List Int:=[(1:Int),(0:Int),(0:Int),(0:Int),(0:Int),(0:Int),(0:Int),(0:Int),(0:Int),(0:Int),(0:Int),(0:Int),(0:Int),(0:Int),(0:Int),(0:Int),(0:Int),(0:Int),(0:Int),(0:Int),(0:Int),(0:Int),(0:Int),(0:Int),(0:Int),(0:Int),(0:Int),(0:Int),(0:Int),(0:Int),(0:Int),(0:Int)]
def Gv:List Int:=[(2:Int),(0:Int),(0:Int),(0:Int),(0:Int),(0:Int),(0:Int),(0:Int),(0:Int),(0:Int),(0:Int),(0:Int),(0:Int),(0:Int),(0:Int),(0:Int),(0:Int),(0:Int),(0:Int),(0:Int),(0:Int),(0:Int),(0:Int),(0:Int),(0:Int),(0:Int),(0:Int),(0:Int),(0:Int),(0:Int),(0:Int),(0:Int)]
def tx:List Int:=[(9:Int),(0:Int),(0:Int),(0:Int),(0:Int),(0:Int),(0:Int),(0:Int),(0:Int),(0:Int),(0:Int),(0:Int),(0:Int),(0:Int),(0:Int),(0:Int),(0:Int),(0:Int),(0:Int),(0:Int),(0:Int),(0:Int),(0:Int),(0:Int),(0:Int),(0:Int),(0:Int),(0:Int),(0:Int),(0:Int),(0:Int),(0:Int)]
def IA:Cq:=((0:Int),((999:Int),((49:Int),((6:Int),()))))
def Ey:tc:=([Hq,Gv],((0:Int),((20000:Int),((0:Int),((0:Int),([IA],((3:Int),((List.replicate 32 (0:Int)),()))))))))
theorem qE:Sm tx:=⟨rfl,fun x hx=>by
 have hx:x∈(9:Int)::List.replicate 31 0:=hx
 rcases List.mem_cons.1 hx with rfl | hx
 ·exact⟨by decide,by decide⟩
 ·rw[(List.mem_replicate.1 hx).2];exact⟨by decide,by decide⟩⟩
theorem Ez:Fi Ey:=⟨rfl,rfl,rfl,by decide,by decide,by decide,by decide,fun o ho=>by
 have ho:o∈ [IA]:=ho
 rw[List.mem_singleton]at ho
 subst ho
 exact⟨by decide,by decide,by decide,by decide,by decide⟩,by decide,by decide⟩
def vY:lC:=uM Hq
def sF:lC:=uM Gv
def gH:fF:=vR Ey
theorem G9:qg Ey=[vY,sF]:=rfl
theorem kT:jn gH:=BJ Ez
theorem Ju:gV (jM Hq 1)=2072101336324354433:=by rw[nP];decide+kernel
theorem Jv:gV (jM Gv 1)=1305380350991396904:=by rw[nP];decide+kernel
theorem Jw:gV (jM Hq 5)=1029399409459846816:=by rw[nP];decide+kernel
theorem Jx:gV (jM Gv 5)=2186824319021734715:=by rw[nP];decide+kernel
theorem Jk:gV tx=112257076531728385:=by decide+kernel
theorem Js:gu 1029399409459846816=4015897993537805363:=by decide+kernel
theorem Jt:gu 2186824319021734715=2261880268583237820:=by decide+kernel
theorem Jj:gu 112257076531728385=575350622446351864:=by decide+kernel
theorem IM:gu 2072101336324354433=832337771889980084:=by decide+kernel
theorem IN:gu 1305380350991396904=97770669543817673:=by decide+kernel
theorem Jy:o4 pZ 4015897993537805363 575350622446351864=1791329418814422355:=by rw[pH];decide+kernel
theorem Jz:o4 pZ 575350622446351864 4015897993537805363=292043013001268827:=by rw[pH];decide+kernel
theorem JA:o4 pZ 2261880268583237820 575350622446351864=1740878991488293903:=by rw[pH];decide+kernel
theorem JB:o4 pZ 575350622446351864 2261880268583237820=409497070282374302:=by rw[pH];decide+kernel
theorem Hn:0 < oN vY.2.2.2.2.1 tx:=by
 show 0 < oN (gV (jM Hq 5)) tx
 unfold oN mS
 rw[Jw,Jk,Js,Jj,Jy,Jz]
 decide+kernel
theorem EK:0 < oN sF.2.2.2.2.1 tx:=by
 show 0 < oN (gV (jM Gv 5)) tx
 unfold oN mS
 rw[Jx,Jk,Jt,Jj,JA,JB]
 decide+kernel
theorem E9:Ty.beq ma (oS vY) (mU gH 1)=false:=by
 cases e:Ty.beq ma (oS vY) (mU gH 1)
 ·rfl
 ·have h:=beq_eq ma _ _ rfl e
  have h1:gu (gV (jM Hq 1))=gu (gV (jM Gv 1)):=congrArg (fun b:Cp=>b.1) h
  rw[Ju,Jv,IM,IN]at h1
  exact absurd h1 (by decide)
def HI:fG:=((0:Int),((1:Int),((1000:Int),(gu 7,((50:Int),())))))
def oH:fL:=((3:Int),([(19000:Int),0],([HI],((0:Int),()))))
theorem JC:Dx (gu 7):=yN (by decide) (by decide)
theorem HS:F5 HI:=⟨JC.2,by decide,by decide,by decide,by decide⟩
theorem Ie:A7 0 IA=HI:=rfl
theorem Hz:Fk Ey=oH:=by
 have e0:pv gH (Bi Ey [20000,0])=true:=by rfl
 have e1:Dg Ey=Bi Ey [20000,0]:=by
  unfold Dg
  exact if_pos e0
 have e2:(pv gH (Bi Ey [20000,0]) && yy HI)=true:=by rw[e0,mi.2 HS];rfl
 have e3:tD gH (Bi Ey [20000,0]) HI=(oH,0):=by
  unfold tD
  rw[if_pos e2]
  rfl
 unfold Fk
 rw[e1]
 show mZ gH (Bi Ey [20000,0]) 0 [IA]=oH
 rw[mZ,if_pos (by decide),mZ]
 unfold vB
 rw[Ie,e3]
 rfl
theorem rM:nG oH:=by rw[←Hz];exact Gx _
theorem Gu:qO gH oH:=by
 have:=Dn Ez
 rw[Hz]at this
 exact this
theorem ua:dP gH oH 0=18340:=rfl
theorem ub:dP gH oH 1=0:=rfl
theorem Cf:dT oH.2.2.1=[HI]:=rfl
def mL:Lk:=xt [(mU gH 1).2.1]
theorem pA:oM mL:=xR (kT.ba (.inr rfl)).2.1.1
theorem yn:jz mL=true:=zj (oB (kT.ba (.inr rfl)).2.1.p yr yr (.inl rfl))
theorem Em{own per:Int}(ho:own=0∨own=1)(hp:lq per=true):kb gH oH own per=(eQ gH oH own per,0):=by
 unfold kb
 rw[aL ho,hp,if_pos (show(true && true)=true from rfl),if_pos (lR.2 Gu)]
theorem FO{own per rev pay:Int}(ho:own=0∨own=1):(sa (eQ gH oH own per) rev pay).length=2∧vO (sa (eQ gH oH own per) rev pay)=19340:=by
 have h:=w3 (own:=own) (per:=per) (rev:=rev) (pay:=pay) kT Gu ho
 rw[Cf]at h
 rcases ho with rfl | rfl
 ·rw[ua,show(1:Int) - 0=1 from rfl,ub]at h
  exact h
 ·rw[ub,show(1:Int) - 1=0 from rfl,ua]at h
  exact h
theorem HO{own per:Int}(ho:own=0∨own=1):∀m∈mH gH oH own per,m.1.1=18340∨m.1.1=330∨m.1.1=1000:=by
 intro m hm
 unfold mH at hm
 simp only[List.mem_append]at hm
 rcases hm with hm | hm | hm | hm
 ·split at hm
  ·next h=>
   rw[List.mem_singleton]at hm;subst hm
   rcases ho with rfl | rfl
   ·left;exact ua
   ·rw[ub]at h;exact absurd h (by decide)
  ·cases hm
 ·split at hm
  ·next h=>
   rw[List.mem_singleton]at hm;subst hm
   rcases ho with rfl | rfl
   ·rw[show(1:Int) - 0=1 from rfl,ub]at h;exact absurd h (by decide)
   ·left;exact ua
  ·cases hm
 ·rcases List.mem_cons.1 hm with rfl | hm
  ·right;left;rfl
  ·rw[List.mem_singleton]at hm;subst hm;right;left;rfl
 ·rw[Cf]at hm
  obtain⟨c,hc,rfl⟩:=List.mem_map.1 hm
  rw[List.mem_singleton]at hc;subst hc
  right;right
  unfold jH
  split <;> rfl
theorem Es{own per rev pay:Int}(ho:own=0∨own=1):∀x∈sa (eQ gH oH own per) rev pay,x.2.1=18340∨x.2.1=330∨x.2.1=1000:=by
 intro y hy
 obtain⟨o,_,x,hx,r,_,_,rfl⟩:=ud _ _ _ _ _ _ hy
 obtain⟨m,hm,rfl⟩:=List.mem_map.1 (show x∈(iO (mH gH oH own per)).map (fun m=>m.1) from hx)
 exact HO ho m (sZ.1 hm)
theorem zD{own per rev pay:Int}(hr:0 < rev∧rev < 2305843009213688669)(hp:0 < pay∧pay < 2305843009213688669):∀x∈sa (eQ gH oH own per) rev pay,0 < x.2.2.1∧x.2.2.1 < 2305843009213688669:=by
 intro y hy
 obtain⟨o,_,x,hx,r,_,_,rfl⟩:=ud _ _ _ _ _ _ hy
 show 0 < (if r.1=2 then pay else rev)∧(if r.1=2 then pay else rev) < _
 split
 ·exact hp
 ·exact hr
theorem E0{own per rev pay bp:Int}(ho:own=0∨own=1)(hr:0 < rev∧rev < 2305843009213688669)(hp:0 < pay∧pay < 2305843009213688669)(h2:bp=2):∃t,kK (sa (eQ gH oH own per) rev pay) mL bp=(t,0)∧iq t=true∧rZ t∧t.2=([(19232,(mL,()))],((0:Int),()))∧t.1.length=2∧s8 t=54:=by
 subst h2
 have h:=FO (own:=own) (per:=per) (rev:=rev) (pay:=pay) ho
 have hg:=B4 (c:=eQ gH oH own per) (rev:=rev) (pay:=pay) ⟨by omega,by omega⟩ ⟨by omega,by omega⟩
 have hn:=Et (eQ gH oH own per) rev pay
 have hk:=zD (own:=own) (per:=per) hr hp
 generalize sa (eQ gH oH own per) rev pay=l at h hg hn hk
 have hl:jK l 2=19232:=by rw[kR,h.1,h.2];decide
 obtain⟨t,q1,q2,q3,q4,q5,q6,_⟩:=Ag (bp:=2) hg pA yn (by omega) hn.1 hn.2 hk (by rw[hl];decide) (by rw[hl];decide)
 rw[hl]at q4
 exact⟨t,q1,q2,q3,q4,by omega,by rw[q6,h.1];decide⟩
theorem GP{own per rev pay:Int}(ho:own=0∨own=1)(hr:0 < rev∧rev < 2305843009213688669)(hp:0 < pay∧pay < 2305843009213688669):∃t:hP,my mL 30 (sa (eQ gH oH own per) rev pay)=[t]∧t.2=([(17260,(mL,()))],((0:Int),())):=by
 have h:=FO (own:=own) (per:=per) (rev:=rev) (pay:=pay) ho
 have hg:=B4 (c:=eQ gH oH own per) (rev:=rev) (pay:=pay) ⟨by omega,by omega⟩ ⟨by omega,by omega⟩
 have hn:=Et (eQ gH oH own per) rev pay
 have hk:=zD (own:=own) (per:=per) hr hp
 have ha:=Es (per:=per) (rev:=rev) (pay:=pay) ho
 generalize sa (eQ gH oH own per) rev pay=l at h hg hn hk ha
 match l,h with
 |[x,y],h=>
  have aO:x.2.1+(y.2.1+0)=19340:=h.2
  have ax:=ha x List.mem_cons_self
  have ay:=ha y (List.mem_cons_of_mem _ List.mem_cons_self)
  have no:∀z:kP,z.2.1=1000→kK [z] mL 30=(Gz,8):=fun z hz=>by
   have:jK [z] 30= -80:=by rw[kR];show z.2.1+0 - 30*(18+18*1)= -80;omega
   unfold kK
   rw[this]
   rfl
  have yes:∀z:kP,z∈ [x,y]→z.2.1=18340→∃t,kK [z] mL 30=(t,0)∧t.2=([(17260,(mL,()))],((0:Int),())):=fun z hm hz=>by
   have e:jK [z] 30=17260:=by rw[kR];show z.2.1+0 - 30*(18+18*1)=17260;omega
   have hs:∀w∈ [z],w∈ [x,y]:=fun w hw=>by rw[List.mem_singleton]at hw;rw[hw];exact hm
   obtain⟨t,q1,q2,q3,q4,q5,q6,_⟩:=Ag (l:=[z]) (bp:=30) ⟨by show 1≤64;decide,fun w hw=>hg.2 w (hs w hw)⟩ pA yn (Nat.le_refl _) (List.pairwise_singleton _ _) (fun w hw=>hn.2 w (hs w hw)) (fun w hw=>hk w (hs w hw)) (by rw[e];decide) (by rw[e];decide)
   rw[e]at q4
   exact⟨t,q1,q4⟩
  have hxy:(x.2.1=18340∧y.2.1=1000)∨(x.2.1=1000∧y.2.1=18340):=by omega
  rcases hxy with⟨h1,h2⟩ | ⟨h1,h2⟩
  ·obtain⟨t,q1,q2⟩:=yes x List.mem_cons_self h1
   refine⟨t,?_,q2⟩
   rw[my,my,my,q1,no y h2]
   rfl
  ·obtain⟨t,q1,q2⟩:=yes y (List.mem_cons_of_mem _ List.mem_cons_self) h2
   refine⟨t,?_,q2⟩
   rw[my,my,my,q1,no x h1]
   rfl
theorem Ig:lq (mS tx)=true:=zb _
theorem Gm{kit:lC}{me bp:Int}(hm:me=0∨me=1)(hk:Ty.beq ma (oS kit) (mU gH me)=true)(hr:0≤bp∧bp≤1000):xW gH kit me mL bp=true:=by
 unfold xW
 rw[ik (by omega) (by omega),ik hr.1 hr.2,yn,hk]
 rfl
theorem BN{kit:lC}{me bp:Int}(hm:me=0∨me=1)(hk:Ty.beq ma (oS kit) (mU gH me)=true)(hr:0≤bp∧bp≤1000):gZ gH kit me oH tx mL bp=(sa (eQ gH oH (1 - me) (mS tx)) (oN kit.2.2.2.2.1 tx) kit.2.1,0):=by
 unfold gZ
 rw[if_pos (Gm hm hk hr),Em (by omega) Ig]
 rfl
theorem AW{kit:lC}{me bp:Int}(hm:me=0∨me=1)(hk:Ty.beq ma (oS kit) (mU gH me)=true)(hr:0≤bp∧bp≤1000):qf gH kit me oH tx mL bp=kK (sa (eQ gH oH (1 - me) (mS tx)) (oN kit.2.2.2.2.1 tx) kit.2.1) mL bp:=by
 unfold qf
 rw[BN hm hk hr]
 rfl
theorem AY(s:List Int):(0 < (uM s).2.1∧(uM s).2.1 < 2305843009213688669):=nL _
theorem EL(b:Int)(s:List Int):oN b s < 2305843009213688669:=(xr _ _).2
theorem F7(b:Cp):Ty.beq ma b b=true:=beq_refl ma b rfl
theorem D3{bp:Int}(hr:0≤bp∧bp≤1000):oD gH 1 oH bp=imax 0 (19340 - bp*54):=by
 unfold oD
 have h:=FO (own:=1 - 1) (per:=4) (rev:=0) (pay:=0) (.inl rfl)
 rw[ik (by decide) (by decide),ik hr.1 hr.2,if_pos (show(true && true)=true from rfl),Em (own:=1 - 1) (.inl rfl) BX,if_pos rfl,kR,h.1,h.2]
 rfl
abbrev cd.D:=Unit
def cd.st:cd.D→SA:=fun _=>([],[])
abbrev cd.Y:=Bool
abbrev cd.X:=Bool
def cd.out:cd.X→aT:=fun x=>⟨.d .bool x,[],[]⟩
def cd.add:cd.D→cd.Y→cd.X:=fun _ y=>y
def cd.aq:cd.D→Prop:=fun _=>True
def cd.F:cd.D→cd.Y:=fun _=>true
noncomputable def cd.G:dU:=eZ (P:=Tryz.prog) [aB.sg,gf.sg,dJ.sg,bM.sg,aU.sg,dM.sg]
noncomputable def cd.an:eu:= {}
noncomputable def cd.A:= @cq Tryz.prog cd.G cd.an 0 Tryz.f7 _ cd.st
abbrev cd.Ok:=cr @cd.A cd.aq cd.add cd.F cd.out
theorem cd.eq{R:Type}(k:aT→Option R):cd.A () k=
  ab (aB.call ([[(1:Int),(0:Int),(0:Int),(0:Int),(0:Int),(0:Int),(0:Int),(0:Int),(0:Int),(0:Int),(0:Int),(0:Int),(0:Int),(0:Int),(0:Int),(0:Int),(0:Int),(0:Int),(0:Int),(0:Int),(0:Int),(0:Int),(0:Int),(0:Int),(0:Int),(0:Int),(0:Int),(0:Int),(0:Int),(0:Int),(0:Int),(0:Int)],[(2:Int),(0:Int),(0:Int),(0:Int),(0:Int),(0:Int),(0:Int),(0:Int),(0:Int),(0:Int),(0:Int),(0:Int),(0:Int),(0:Int),(0:Int),(0:Int),(0:Int),(0:Int),(0:Int),(0:Int),(0:Int),(0:Int),(0:Int),(0:Int),(0:Int),(0:Int),(0:Int),(0:Int),(0:Int),(0:Int),(0:Int),(0:Int)]],((0:Int),((20000:Int),((0:Int),((0:Int),([((0:Int),((999:Int),((49:Int),((6:Int),()))))],((3:Int),((List.replicate 32 (0:Int)),()))))))))) fun x1=>
  aD (decide (1 < (List.length x1.1.2.2.1))) (
  ab (gf.call (nth ma x1.1.2.2.1 1).2.1) fun x2=>
  aD (decide (1 < (List.length x1.2.1))) (
  ab (dJ.call (x1.1,(nth nR x1.2.1 1),(1:Int),x1.2.2,[(9:Int),(0:Int),(0:Int),(0:Int),(0:Int),(0:Int),(0:Int),(0:Int),(0:Int),(0:Int),(0:Int),(0:Int),(0:Int),(0:Int),(0:Int),(0:Int),(0:Int),(0:Int),(0:Int),(0:Int),(0:Int),(0:Int),(0:Int),(0:Int),(0:Int),(0:Int),(0:Int),(0:Int),(0:Int),(0:Int),(0:Int),(0:Int)],x2,(2:Int))) fun x3=>
  aD (decide (1 < (List.length x1.2.1))) (
  ab (bM.call (x1.1,(nth nR x1.2.1 1),(1:Int),x1.2.2,[(9:Int),(0:Int),(0:Int),(0:Int),(0:Int),(0:Int),(0:Int),(0:Int),(0:Int),(0:Int),(0:Int),(0:Int),(0:Int),(0:Int),(0:Int),(0:Int),(0:Int),(0:Int),(0:Int),(0:Int),(0:Int),(0:Int),(0:Int),(0:Int),(0:Int),(0:Int),(0:Int),(0:Int),(0:Int),(0:Int),(0:Int),(0:Int)],x2,(30:Int))) fun x4=>
  aD (decide (0 < (List.length x1.2.1))) (
  ab (dJ.call (x1.1,(nth nR x1.2.1 0),(1:Int),x1.2.2,[(9:Int),(0:Int),(0:Int),(0:Int),(0:Int),(0:Int),(0:Int),(0:Int),(0:Int),(0:Int),(0:Int),(0:Int),(0:Int),(0:Int),(0:Int),(0:Int),(0:Int),(0:Int),(0:Int),(0:Int),(0:Int),(0:Int),(0:Int),(0:Int),(0:Int),(0:Int),(0:Int),(0:Int),(0:Int),(0:Int),(0:Int),(0:Int)],x2,(2:Int))) fun x5=>
  aD (decide (1 < (List.length x1.2.1))) (
  ab (dJ.call (x1.1,(nth nR x1.2.1 1),(1:Int),((0:Int),((List.replicate 2 (0:Int)),(([]:List fG),((0:Int),())))),[(9:Int),(0:Int),(0:Int),(0:Int),(0:Int),(0:Int),(0:Int),(0:Int),(0:Int),(0:Int),(0:Int),(0:Int),(0:Int),(0:Int),(0:Int),(0:Int),(0:Int),(0:Int),(0:Int),(0:Int),(0:Int),(0:Int),(0:Int),(0:Int),(0:Int),(0:Int),(0:Int),(0:Int),(0:Int),(0:Int),(0:Int),(0:Int)],x2,(2:Int))) fun x6=>
  aD (decide (1 < (List.length x1.2.1))) (
  ab (dJ.call (x1.1,(nth nR x1.2.1 1),(1:Int),x1.2.2,[(9:Int),(0:Int),(0:Int),(0:Int),(0:Int),(0:Int),(0:Int),(0:Int),(0:Int),(0:Int),(0:Int),(0:Int),(0:Int),(0:Int),(0:Int),(0:Int),(0:Int),(0:Int),(0:Int),(0:Int),(0:Int),(0:Int),(0:Int),(0:Int),(0:Int),(0:Int),(0:Int),(0:Int),(0:Int),(0:Int),(0:Int),(0:Int)],x2,(1000:Int))) fun x7=>
  aD (decide (1 < (List.length x1.2.1))) (
  ab (dJ.call (x1.1,(nth nR x1.2.1 1),(1:Int),x1.2.2,[(9:Int),(0:Int),(0:Int),(0:Int),(0:Int),(0:Int),(0:Int),(0:Int),(0:Int),(0:Int),(0:Int),(0:Int),(0:Int),(0:Int),(0:Int),(0:Int),(0:Int),(0:Int),(0:Int),(0:Int),(0:Int),(0:Int),(0:Int),(0:Int),(0:Int),(0:Int),(0:Int),(0:Int),(0:Int),(0:Int),(0:Int),(0:Int)],(([]:List oK),()),(2:Int))) fun x8=>
  aD (decide (0 < (List.length x1.2.1))) (
  ab (dJ.call (x1.1,(nth nR x1.2.1 0),(0:Int),x1.2.2,[(9:Int),(0:Int),(0:Int),(0:Int),(0:Int),(0:Int),(0:Int),(0:Int),(0:Int),(0:Int),(0:Int),(0:Int),(0:Int),(0:Int),(0:Int),(0:Int),(0:Int),(0:Int),(0:Int),(0:Int),(0:Int),(0:Int),(0:Int),(0:Int),(0:Int),(0:Int),(0:Int),(0:Int),(0:Int),(0:Int),(0:Int),(0:Int)],x2,(2:Int))) fun x9=>
  aD ((qQ (((List.length x3.1.1):Nat):Int) (2:Int))) (
   k (cd.out false)) (
   aD ((qQ (((List.length x3.1.2.1):Nat):Int) (1:Int))) (
    k (cd.out false)) (
    aD ((qQ (((List.length x4.1):Nat):Int) (1:Int))) (
     k (cd.out false)) (
     aD ((qQ (((List.length x9.1.1):Nat):Int) (2:Int))) (
      k (cd.out false)) (
      aD ((jO x3.2 (0:Int))) (
       aD ((jO x4.2 (0:Int))) (
        aD ((jO x5.2 (1:Int))) (
         aD ((jO x6.2 (14:Int))) (
          aD ((jO x7.2 (8:Int))) (
           aD ((jO x8.2 (1:Int))) (
            aD ((jO x9.2 (0:Int))) (
             aD (dZ (0:Int) (((List.length x3.1.2.1):Nat):Int)) (
             aD ((jO (nth mR x3.1.2.1 0).1 (19232:Int))) (
              ab (aU.call x3.1) fun x10=>
              aD ((jO x10 (54:Int))) (
               aD (dZ (0:Int) (((List.length x4.1):Nat):Int)) (
               aD ((jO (((List.length (nth kN x4.1 0).2.1):Nat):Int) (1:Int))) (
                aD (dZ (0:Int) (((List.length x4.1):Nat):Int)) (
                aD (dZ (0:Int) (((List.length (nth kN x4.1 0).2.1):Nat):Int)) (
                aD ((jO (nth mR (nth kN x4.1 0).2.1 0).1 (17260:Int))) (
                 ab (dM.call (x1.1,(1:Int),x1.2.2,(2:Int))) fun x11=>
                 aD ((jO x11 (19232:Int))) (
                  ab (dM.call (x1.1,(1:Int),x1.2.2,(1000:Int))) fun x12=>
                  aD ((jO x12 (0:Int))) (
                   ab (dM.call (x1.1,(2:Int),x1.2.2,(2:Int))) fun x13=>
                   k (cd.out (jO x13 (0:Int)))) (
                   k (cd.out false))) (
                  k (cd.out false))) (
                 k (cd.out false))) none) none) (
                k (cd.out false))) none) (
               k (cd.out false))) (
              k (cd.out false))) none) (
             k (cd.out false))) (
            k (cd.out false))) (
           k (cd.out false))) (
          k (cd.out false))) (
         k (cd.out false))) (
        k (cd.out false))) (
       k (cd.out false))))))) none) none) none) none) none) none) none) none:=by kernel_rfl
theorem cd.ok:cd.Ok:=by
 rintro⟨⟩ _
 have c1:=aB.c Ez
 rw[G9,Hz]at c1
 have c2:gf.call (nth ma gH.2.2.1 1).2.1=some mL:=gf.run (d:=(nth ma gH.2.2.1 1).2.1) trivial
 have ku:yw sF:=xP _
 have ka:yw vY:=xP _
 have hb:Ty.beq ma (oS sF) (mU gH 1)=true:=F7 _
 have ha:Ty.beq ma (oS vY) (mU gH 0)=true:=F7 _
 obtain⟨t1,a1,a2,a3,a4,a5,a6⟩:=E0 (own:=1 - 1) (per:=mS tx) (.inl rfl) ⟨EK,EL _ _⟩ (AY Gv) rfl
 obtain⟨t2,b1,b2⟩:=GP (own:=1 - 1) (per:=mS tx) (.inl rfl) ⟨EK,EL _ _⟩ (AY Gv)
 obtain⟨t3,d1,d2,d3,d4,d5,d6⟩:=E0 (own:=1 - 0) (per:=mS tx) (.inr rfl) ⟨Hn,EL _ _⟩ (AY Hq) rfl
 have c3:dJ.call (gH,sF,1,oH,tx,mL,2)=some (t1,0):=by
  rw[dJ.c kT ku rM qE pA,AW (.inr rfl) hb (by decide)]
  exact congrArg some a1
 have c4:bM.call (gH,sF,1,oH,tx,mL,30)=some ([t2],0):=by
  rw[bM.c kT ku rM qE pA]
  unfold wI
  rw[BN (.inr rfl) hb (by decide)]
  exact congrArg (fun z=>some (z,(0:Int))) b1
 have c5:dJ.call (gH,vY,1,oH,tx,mL,2)=some (Gz,1):=by
  rw[dJ.c kT ka rM qE pA]
  unfold qf gZ xW
  rw[E9,Bool.and_false,Bool.and_false,Bool.and_false]
  rfl
 have zu:nG Fh:=⟨fun c hc=>(by cases hc),Nat.zero_le _,rfl⟩
 have c6:dJ.call (gH,sF,1,Fh,tx,mL,2)=some (Gz,14):=by
  have e:kb gH Fh (1 - 1) (mS tx)=(Jd,14):=by
   unfold kb
   rw[aL (.inl rfl),Ig,if_pos (show(true && true)=true from rfl),if_neg (by rw[show pv gH Fh=false from rfl];decide)]
  rw[dJ.c kT ku zu qE pA]
  unfold qf gZ
  rw[if_pos (Gm (.inr rfl) hb (by decide)),e]
  rfl
 have c7:dJ.call (gH,sF,1,oH,tx,mL,1000)=some (Gz,8):=by
  rw[dJ.c kT ku rM qE pA,AW (.inr rfl) hb (by decide)]
  have h:=FO (own:=1 - 1) (per:=mS tx) (rev:=oN sF.2.2.2.2.1 tx) (pay:=sF.2.1) (.inl rfl)
  unfold kK
  rw[kR,h.1,h.2]
  rfl
 have c8:dJ.call (gH,sF,1,oH,tx,(([]:List oK),()),2)=some (Gz,1):=by
  rw[dJ.c kT ku rM qE ⟨fun b hb=>(by cases hb),Nat.zero_le _⟩]
  unfold qf gZ xW
  rw[show jz (([]:List oK),())=false from rfl,Bool.false_and,Bool.and_false,Bool.and_false]
  rfl
 have c9:dJ.call (gH,vY,0,oH,tx,mL,2)=some (t3,0):=by
  rw[dJ.c kT ka rM qE pA,AW (.inl rfl) ha (by decide)]
  exact congrArg some d1
 have c10:aU.call t1=some 54:=by
  rw[aU.run (d:=t1) a3]
  exact congrArg some a6
 have c11:dM.call (gH,1,oH,2)=some 19232:=by
  rw[dM.c kT rM,D3 (by decide)]
  rfl
 have c12:dM.call (gH,1,oH,1000)=some 0:=by
  rw[dM.c kT rM,D3 (by decide)]
  rfl
 have c13:dM.call (gH,2,oH,2)=some 0:=by
  rw[dM.c kT rM]
  rfl
 rw[show vR Ey=gH from rfl]at c1
 have l1:t1.2.1=[(19232,(mL,()))]:=congrArg (fun z:List jw×(Int×Unit)=>z.1) a4
 have l2:t2.2.1=[(17260,(mL,()))]:=congrArg (fun z:List jw×(Int×Unit)=>z.1) b2
 rw[cd.eq]
 refine(congrArg (fun z=>ab z _) c1).trans ?_
 rw[aa,aL (show 1 < gH.2.2.1.length from Nat.lt_succ_self 1),ah]
 refine(congrArg (fun z=>ab z _) c2).trans ?_
 rw[aa,aL (show 1 < ([vY,sF]:List lC).length from Nat.lt_succ_self 1),ah]
 refine(congrArg (fun z=>ab z _) c3).trans ?_
 rw[aa,ah]
 refine(congrArg (fun z=>ab z _) c4).trans ?_
 rw[aa,aL (show 0 < ([vY,sF]:List lC).length from Nat.zero_lt_succ 1),ah]
 refine(congrArg (fun z=>ab z _) c5).trans ?_
 rw[aa,ah]
 refine(congrArg (fun z=>ab z _) c6).trans ?_
 rw[aa,ah]
 refine(congrArg (fun z=>ab z _) c7).trans ?_
 rw[aa,ah]
 refine(congrArg (fun z=>ab z _) c8).trans ?_
 rw[aa,ah]
 refine(congrArg (fun z=>ab z _) c9).trans ?_
 rw[aa]
 have n1:(nth kN [t2] 0).2.1=[(17260,(mL,()))]:=l2
 simp only[a5,d5,l1,n1,List.length_cons,List.length_nil]
 rw[c10,c11,c12,c13]
 rfl
noncomputable def cd.E:=Entry.cD [] cd.st cd.aq cd.add cd.F cd.out
noncomputable def cd.call:cd.D→Option cd.X:=bC cd.E cd.st
theorem cd.run:bD cd.call cd.aq cd.add cd.F:=cw (cv [] fun _=>by kernel_rfl)
noncomputable def cd.sg:SG Tryz.prog:=⟨7,aK,cd.E,.fn 0 (by kernel_rfl) cd.ok trivial⟩
end
end Go.Ab
namespace Go.Ab
open Go.Proofs
set_option maxRecDepth 100000
set_option linter.unusedVariables false
set_option linter.unusedSimpArgs false
set_option synthInstance.maxSize 5000
noncomputable section
def ra(l:List fG):Int:=fC l - fC (dT l)
def CT(n:Int):Int:=n - Ce n
theorem CU(c:fG)(l:List fG):ra (c::l)=(if vo c.2.2.1=true then 0 else c.2.2.1)+ra l:=by
 unfold ra
 rw[nf,fC]
 split
 ·rw[fC];omega
 ·omega
theorem vp{d n:Int}:cz.call (te d,n)=some (vo n):=by
 rw[cz.run (d:=(te d,n)) trivial]
 rfl
theorem pk{ch:fF}{s:fL}(hs:qO ch s){n:Int}(hn:n=0∨n=1):dP ch s n≤1125899906842624:=by
 have h1:=(hs.BP hn).2
 have:=o5 s.2.2.2.1 (dT s.2.2.1).length
 unfold dP
 split <;> omega
theorem BQ{n:Int}(h0:0≤n)(h1:n≤1125899906842624):0≤CT n∧CT n≤1125899906842624:=by
 unfold CT Ce
 split <;> omega
abbrev aC.L0.D:=Bool×Int×Int×Int×Int×Int×Int×Int×fF×fL×yC
def aC.L0.st:aC.L0.D→AS:=fun(head,me,n,gain,hidden,conds,many,i,n10,n12,n14)=>⟨(bw 7 ([.d .bool head,.d ti me,.d ti n,.ptr (.new 10 0) 0 [] 0,.undef,.ptr (.new 12 0) 0 [] 0,.d ti gain,.ptr (.new 14 0) 0 [] 0,.d ti hidden,.d ti conds,.d ti many,.d ti i]++bw 96 [])),[],(cC 10 ([[.obj 0 false (.d iu n10)],[],[.obj 0 false (.d hZ n12)],[],[.obj 0 false (.d iY n14)]]++cC 100 []))⟩
abbrev aC.L0.Y0:=Int×Int
abbrev aC.L0.X0:=(Bool×Int×Int×Int×Int×fF×fL×yC)×(Int×Int)
def aC.L0.bK:aC.L0.X0→Exit×AS:=fun x=>(.exit 0,⟨(bw 7 ([.d .bool x.1.1,.d ti x.1.2.1,.d ti x.1.2.2.1,.ptr (.new 10 0) 0 [] 0,.undef,.ptr (.new 12 0) 0 [] 0,.d ti x.1.2.2.2.1,.ptr (.new 14 0) 0 [] 0,.d ti x.2.1,.d ti x.2.2,.d ti x.1.2.2.2.2.1]++bw 97 [])),[],(cC 10 ([[.obj 0 false (.d iu x.1.2.2.2.2.2.1)],[],[.obj 0 false (.d hZ x.1.2.2.2.2.2.2.1)],[],[.obj 0 false (.d iY x.1.2.2.2.2.2.2.2)]]++cC 100 []))⟩)
abbrev aC.L0.X:=aC.L0.X0
abbrev aC.L0.Y:=aC.L0.Y0
def aC.L0.out:aC.L0.X→Out (Exit×AS):=fun x=> .ok (aC.L0.bK x)
def aC.L0.add:aC.L0.D→aC.L0.Y→aC.L0.X:=fun(head,me,n,gain,hidden,conds,many,i,n10,n12,n14) y=>((head,me,n,gain,many,n10,n12,n14),y)
abbrev aC.L1.D:=Bool×Int×Int×Int×Int×Int×Int×Int×fF×fL×yC
def aC.L1.st:aC.L1.D→AS:=fun(head_2,me_2,n_2,gain_2,hidden_2,conds_2,many_2,of,n10_2,n12_2,n14_2)=>⟨(bw 7 ([.d .bool head_2,.d ti me_2,.d ti n_2,.ptr (.new 10 0) 0 [] 0,.undef,.ptr (.new 12 0) 0 [] 0,.d ti gain_2,.ptr (.new 14 0) 0 [] 0,.d ti hidden_2,.d ti conds_2,.d ti many_2,.undef,.d ti of]++bw 95 [])),[],(cC 10 ([[.obj 0 false (.d iu n10_2)],[],[.obj 0 false (.d hZ n12_2)],[],[.obj 0 false (.d iY n14_2)]]++cC 100 []))⟩
abbrev aC.L1.Y0:=Int×Int
abbrev aC.L1.X0:=(Bool×Int×Int×Int×fF×fL)×(Int×Int)
def aC.L1.bK:aC.L1.X0→Exit×AS:=fun x=>(.exit 2,⟨(bw 7 ([.d .bool x.1.1,.undef,.d ti x.1.2.1,.ptr (.new 10 0) 0 [] 0,.undef,.ptr (.new 12 0) 0 [] 0,.d ti x.1.2.2.1,.undef,.d ti x.2.1,.d ti x.1.2.2.2.1,.d ti x.2.2]++bw 97 [])),[],(cC 10 ([[.obj 0 false (.d iu x.1.2.2.2.2.1)],[],[.obj 0 false (.d hZ x.1.2.2.2.2.2)]]++cC 102 []))⟩)
abbrev aC.L1.X:=aC.L1.X0
abbrev aC.L1.Y:=aC.L1.Y0
def aC.L1.out:aC.L1.X→Out (Exit×AS):=fun x=> .ok (aC.L1.bK x)
def aC.L1.add:aC.L1.D→aC.L1.Y→aC.L1.X:=fun(head_2,me_2,n_2,gain_2,hidden_2,conds_2,many_2,of,n10_2,n12_2,n14_2) y=>((head_2,n_2,gain_2,conds_2,n10_2,n12_2),y)
abbrev aC.D:=tc×Int×Int
def aC.st:aC.D→SA:=fun(p,side,bp)=>([.d EY p,.d tb side,.d tb bp],[])
abbrev aC.Y:=Bool
abbrev aC.X:=Bool
def aC.out:aC.X→aT:=fun x=>⟨.d .bool x,[],[]⟩
def aC.add:aC.D→aC.Y→aC.X:=fun(p,side,bp) y=>y
def aC.L0.aq:aC.L0.D→Prop:=fun(head,me,n,gain,hidden,conds,many,i,ch,s,t)=>(∀c∈s.2.2.1,yu c)∧s.2.2.1.length≤1000∧(∃d,t=te d)∧∃k:Nat,k≤s.2.2.1.length∧i=k∧(0≤hidden∧hidden≤1125899906842624*k)∧0≤conds∧conds≤k
def aC.L0.F:aC.L0.D→aC.L0.Y:=fun(head,me,n,gain,hidden,conds,many,i,ch,s,t)=>(hidden+ra (s.2.2.1.drop i.toNat),conds+(dT (s.2.2.1.drop i.toNat)).length)
def aC.L1.aq:aC.L1.D→Prop:=fun(head,me,n,gain,hidden,conds,many,f,ch,s,t)=>jn ch∧nG s∧qO ch s∧(me=0∨me=1)∧(∃d,t=te d)∧(f=0∨f=1∨f=2)∧(0≤hidden∧hidden≤1125899906842624*(1001+f))∧0≤many∧many≤f
def aC.L1.F:aC.L1.D→aC.L1.Y:=fun(head,me,n,gain,hidden,conds,many,f,ch,s,t)=>(hidden+((if f≤0 then CT (dP ch s 0) else 0)+(if f≤1 then CT (dP ch s 1) else 0)),many+((if f≤0 then(tN (dP ch s 0):Int) else 0)+(if f≤1 then(tN (dP ch s 1):Int) else 0)))
def aC.aq:aC.D→Prop:=fun(p,side,bp)=>Fi p∧(0≤side∧side < 256)∧0≤bp∧bp < 256
def aC.F:aC.D→aC.Y:=fun _=>true
noncomputable def aC.G:dU:=eZ (P:=Tryz.prog) [cd.sg,aB.sg,dM.sg,cz.sg,er.sg,dY.sg]
noncomputable def aC.L0.E:=cf.cD aC.L0.st aC.L0.aq aC.L0.add aC.L0.F aC.L0.out
noncomputable def aC.L0.call:aC.L0.D→Option aC.L0.X:=dL aC.L0.E aC.L0.st
noncomputable def aC.L1.E:=cf.cD aC.L1.st aC.L1.aq aC.L1.add aC.L1.F aC.L1.out
noncomputable def aC.L1.call:aC.L1.D→Option aC.L1.X:=dL aC.L1.E aC.L1.st
noncomputable def aC.an:eu:= {loops:=ki [(13,{bu:=[7,8,9,10,12,13,14,15,16,17,18],sites:=[10,12,14]}),(19,{bu:=[7,8,9,10,12,13,14,15,16,17,19],sites:=[10,12,14]})],outs:=kh [(13,{bu:=[7,8,9,10,12,13,14,15,16,17],sites:=[10,12,14]},{bu:=[6]}),(19,{bu:=[7,9,10,12,13,15,16,17],sites:=[10,12]},{bu:=[6]})],gq:=lv [(13,aC.L0.E),(19,aC.L1.E)]}
noncomputable def aC.A:= @cq Tryz.prog aC.G aC.an 0 Tryz.f4 _ aC.st
abbrev aC.Ok:=cr @aC.A aC.aq aC.add aC.F aC.out
noncomputable def aC.L0.R:= @cM Tryz.prog aC.G aC.an 0 Tryz.f4 0 _ aC.L0.st
abbrev aC.L0.Ok:=fk Tryz.prog aC.G aC.an 0 Tryz.f4 0 aC.L0.st aC.L0.aq aC.L0.add aC.L0.F aC.L0.out
noncomputable def aC.L1.R:= @cM Tryz.prog aC.G aC.an 0 Tryz.f4 1 _ aC.L1.st
abbrev aC.L1.Ok:=fk Tryz.prog aC.G aC.an 0 Tryz.f4 1 aC.L1.st aC.L1.aq aC.L1.add aC.L1.F aC.L1.out
theorem aC.L0.run:bD aC.L0.call aC.L0.aq aC.L0.add aC.L0.F:=fy (fx [.d .bool,.d ti,.d ti,.d ti,.d ti,.d ti,.d ti,.d ti,.d iu,.d hZ,.d iY] fun _=>by kernel_rfl)
theorem aC.L0.aE:fY @aC.L0.R aC.L0.st aC.L0.aq aC.L0.add aC.L0.F aC.L0.bK aC.L0.Ok:=gj
theorem aC.L0.step{R:Type}(head:Bool)(me:Int)(n:Int)(gain:Int)(hidden:Int)(conds:Int)(many:Int)(i:Int)(n10:fF)(n12:fL)(n14:yC)(kn:AS→Option R)(kx:Exit→AS→Option R):aC.L0.R (head,me,n,gain,hidden,conds,many,i,n10,n12,n14) kn kx=
  aD ((gM i (((List.length n12.2.2.1):Nat):Int))) (
   aD (dZ i (((List.length n12.2.2.1):Nat):Int)) (
   ab (cz.call (n14,(nth gl n12.2.2.1 (Int.toNat i)).2.2.1)) fun x4=>
   aD (x4) (
    kn (aC.L0.st (head,me,n,gain,hidden,(bo .i64 conds (1:Int)),many,(bo .i64 i (1:Int)),n10,n12,n14))) (
    aD (dZ i (((List.length n12.2.2.1):Nat):Int)) (
    kn (aC.L0.st (head,me,n,gain,(bo .i64 hidden (nth gl n12.2.2.1 (Int.toNat i)).2.2.1),conds,many,(bo .i64 i (1:Int)),n10,n12,n14))) none)) none) (
   kx (aC.L0.bK ((head,me,n,gain,many,n10,n12,n14),(hidden,conds))).1 (aC.L0.bK ((head,me,n,gain,many,n10,n12,n14),(hidden,conds))).2):=by kernel_rfl
theorem aC.L1.run:bD aC.L1.call aC.L1.aq aC.L1.add aC.L1.F:=fy (fx [.d .bool,.d ti,.d ti,.d ti,.d ti,.d ti,.d ti,.d ti,.d iu,.d hZ,.d iY] fun _=>by kernel_rfl)
theorem aC.L1.aE:fY @aC.L1.R aC.L1.st aC.L1.aq aC.L1.add aC.L1.F aC.L1.bK aC.L1.Ok:=gj
theorem aC.L1.step{R:Type}(head_2:Bool)(me_2:Int)(n_2:Int)(gain_2:Int)(hidden_2:Int)(conds_2:Int)(many_2:Int)(of:Int)(n10_2:fF)(n12_2:fL)(n14_2:yC)(kn:AS→Option R)(kx:Exit→AS→Option R):aC.L1.R (head_2,me_2,n_2,gain_2,hidden_2,conds_2,many_2,of,n10_2,n12_2,n14_2) kn kx=
  aD ((gM of (2:Int))) (
   ab (er.call (n10_2,n12_2,(bV .i64 (1:Int) me_2),of)) fun x10=>
   ab (cz.call (n14_2,x10)) fun x12=>
   aD (x12) (
    kn (aC.L1.st (head_2,me_2,n_2,gain_2,hidden_2,conds_2,(bo .i64 many_2 (1:Int)),(bo .i64 of (1:Int)),n10_2,n12_2,n14_2))) (
    kn (aC.L1.st (head_2,me_2,n_2,gain_2,(bo .i64 hidden_2 x10),conds_2,many_2,(bo .i64 of (1:Int)),n10_2,n12_2,n14_2)))) (
   kx (aC.L1.bK ((head_2,n_2,gain_2,conds_2,n10_2,n12_2),(hidden_2,many_2))).1 (aC.L1.bK ((head_2,n_2,gain_2,conds_2,n10_2,n12_2),(hidden_2,many_2))).2):=by kernel_rfl
theorem aC.eq{R:Type}(p:tc)(side:Int)(bp:Int)(k:aT→Option R):aC.A (p,side,bp) k=
  ab (cd.call ()) fun x4=>
  ab (aB.call p) fun x8=>
  ab (dM.call (x8.1,(dG .i64 (fI side (2:Int))),x8.2.2,(dG .i64 (fI bp (61:Int))))) fun x12=>
  aD ((jO x12 (0:Int))) (
   k (aC.out x4)) (
   aD (dZ (bV .i64 (1:Int) (dG .i64 (fI side (2:Int)))) (2:Int)) (
   aD (decide ((Int.toNat (bV .i64 (1:Int) (dG .i64 (fI side (2:Int))))) < (List.length x8.1.2.2.2.1))) (
   aD (decide ((33+(1+(10+(((Int.toNat (bV .i64 (1:Int) (dG .i64 (fI side (2:Int)))))*6)+0))))=(44+((Int.toNat (bV .i64 (1:Int) (dG .i64 (fI side (2:Int)))))*6)))) (
   ab (aC.L0.call (x4,(dG .i64 (fI side (2:Int))),(dG .i64 (fI bp (61:Int))),x12,(0:Int),(0:Int),(0:Int),(0:Int),x8.1,x8.2.2,(nth iY x8.1.2.2.2.1 (Int.toNat (bV .i64 (1:Int) (dG .i64 (fI side (2:Int)))))))) fun x18=>
   ab (aC.L1.call (x18.1.1,x18.1.2.1,x18.1.2.2.1,x18.1.2.2.2.1,x18.2.1,x18.2.2,x18.1.2.2.2.2.1,(0:Int),x18.1.2.2.2.2.2.1,x18.1.2.2.2.2.2.2.1,x18.1.2.2.2.2.2.2.2)) fun x32=>
   ab (dY.call (x32.1.2.2.2.2.2.2.2.2.1,x32.1.2.2.2.1)) fun x36=>
   aD (x32.1.1) (
    k (aC.out (jO (bo .i64 (bo .i64 (bo .i64 x32.1.2.2.1 (bo .i64 x36 (eK .i64 x32.1.2.1 (bo .i64 (18:Int) (eK .i64 (18:Int) (bo .i64 x32.2.2 x32.1.2.2.2.1)))))) x32.2.1) (660:Int)) x32.1.2.2.2.2.1.2.1))) (
    k (aC.out false))) none) none) none):=by kernel_rfl
theorem aC.L0.ok:aC.L0.Ok:=by
 refine aC.L0.aE (fun(head,me,n,gain,hidden,conds,many,i,ch,s,t)=>s.2.2.1.length - i.toNat) ?_
 rintro⟨head,me,n,gain,hidden,conds,many,i,ch,s,t⟩ ⟨ha,hl,⟨d,rfl⟩,k,hk,rfl,⟨h0,h1⟩,h2,h3⟩
 have hk:k≤s.2.2.1.length:=hk
 have hl:s.2.2.1.length≤1000:=hl
 have h0:0≤hidden:=h0
 have h1:hidden≤1125899906842624*k:=h1
 have h2:0≤conds:=h2
 have h3:conds≤k:=h3
 by_cases h:k < s.2.2.1.length
 ·left
  have n1:nth gl s.2.2.1 k=s.2.2.1[k]:=dS (t:=gl) h
  have hc:=ha _ (List.getElem_mem h)
  have hc0:=hc.1
  have hc1:=hc.2
  have hd1:ra (s.2.2.1.drop k)=(if vo s.2.2.1[k].2.2.1=true then 0 else s.2.2.1[k].2.2.1)+ra (s.2.2.1.drop (k+1)):=by rw[List.drop_eq_getElem_cons h,CU]
  have hd2:dT (s.2.2.1.drop k)=if vo s.2.2.1[k].2.2.1=true then s.2.2.1[k]::dT (s.2.2.1.drop (k+1)) else dT (s.2.2.1.drop (k+1)):=by rw[List.drop_eq_getElem_cons h,nf]
  cases hs:vo s.2.2.1[k].2.2.1
  ·rw[hs,if_neg (by simp)]at hd1 hd2
   refine⟨(head,me,n,gain,hidden+s.2.2.1[k].2.2.1,conds,many,((k+1:Nat):Int),ch,s,te d),⟨ha,hl,⟨d,rfl⟩,k+1,by omega,rfl,⟨by omega,by omega⟩,by omega,by omega⟩,by simp only[Int.toNat_natCast];omega,?_,fun kn kx=> ?_⟩
   ·simp only[aC.L0.add,aC.L0.F,Int.toNat_natCast,hd1,hd2]
    rw[Int.add_assoc]
   ·rw[aC.L0.step,bB (by omega),ah,bz (by omega) (by omega),ah,Int.toNat_natCast,n1,vp,aa,hs,ae,ah,N.mq (by omega),cR (by omega) (by omega)]
  ·rw[hs,if_pos rfl]at hd1 hd2
   refine⟨(head,me,n,gain,hidden,conds+1,many,((k+1:Nat):Int),ch,s,te d),⟨ha,hl,⟨d,rfl⟩,k+1,by omega,rfl,⟨by omega,by omega⟩,by omega,by omega⟩,by simp only[Int.toNat_natCast];omega,?_,fun kn kx=> ?_⟩
   ·simp only[aC.L0.add,aC.L0.F,Int.toNat_natCast,hd1,hd2,List.length_cons]
    rw[Int.zero_add,show conds+1+((dT (s.2.2.1.drop (k+1))).length:Int)=conds+(((dT (s.2.2.1.drop (k+1))).length+1:Nat):Int) by omega]
   ·rw[aC.L0.step,bB (by omega),ah,bz (by omega) (by omega),ah,Int.toNat_natCast,n1,vp,aa,hs,ah,N.mq (by omega),cR (by omega) (by omega)]
 ·right
  obtain rfl:k=s.2.2.1.length:=by omega
  intro R kn kx
  rw[aC.L0.step,bk (by omega),ae]
  simp only[aC.L0.add,aC.L0.F,Int.toNat_natCast,List.drop_length,dT,List.filter_nil,List.length_nil,ra,fC]
  rw[show hidden+((0:Int) - 0)=hidden by omega,show conds+((0:Nat):Int)=conds by omega]
theorem aC.L1.round{head:Bool}{me n gain hidden conds many f:Int}{ch:fF}{s:fL}{d:Int}(hch:jn ch)(hu:nG s)(hs:qO ch s)(hm:me=0∨me=1)(hf:f=0∨f=1)(h0:0≤hidden∧hidden≤1125899906842624*(1001+f))(h2:0≤many∧many≤f)
  {R:Type} (kn:AS→Option R) (kx:Exit→AS→Option R):aC.L1.R (head,me,n,gain,hidden,conds,many,f,ch,s,te d) kn kx=kn (aC.L1.st (head,me,n,gain,hidden+CT (dP ch s f),conds,many+(tN (dP ch s f):Int),f+1,ch,s,te d)):=by
 have e:er.call (ch,s,1 - me,f)=some (dP ch s f):=by
  rw[er.run (d:=(ch,s,1 - me,f)) ⟨hch,hu⟩]
  simp only[er.add,er.F]
  rw[aL (show 1 - me=0∨1 - me=1 by omega),aL hf,lR.2 hs,if_pos (by rfl)]
 have r0:=mG hs hf
 have r1:=pk hs hf
 rw[aC.L1.step,bB (by omega),ah,Ad (by omega),e,aa,vp,aa]
 unfold CT Ce tN
 generalize dP ch s f=r at r0 r1
 rw[cR (x:=f) (by omega) (by omega)]
 cases vo r
 ·rw[ae,if_neg (by simp),if_neg (by simp),cR (by omega) (by omega),Int.sub_zero,show many+((0:Nat):Int)=many by omega]
 ·rw[ah,if_pos rfl,if_pos rfl,cR (by omega) (by omega),Int.sub_self,Int.add_zero]
  rfl
theorem aC.L1.ok:aC.L1.Ok:=by
 refine aC.L1.aE (fun(head,me,n,gain,hidden,conds,many,f,ch,s,t)=>(2 - f).toNat) ?_
 rintro⟨head,me,n,gain,hidden,conds,many,f,ch,s,t⟩ ⟨hch,hu,hs,hm,⟨d,rfl⟩,hf,h0,h2⟩
 have hch:jn ch:=hch
 have hu:nG s:=hu
 have hs:qO ch s:=hs
 have hm:me=0∨me=1:=hm
 have h0:0≤hidden∧hidden≤1125899906842624*(1001+f):=h0
 have h2:0≤many∧many≤f:=h2
 have b0:=BQ (mG hs (.inl rfl)) (pk hs (.inl rfl))
 have b1:=BQ (mG hs (.inr rfl)) (pk hs (.inr rfl))
 have s0:∀n,tN n≤1:=fun n=>by unfold tN;split <;> decide
 have q0:=s0 (dP ch s 0)
 have q1:=s0 (dP ch s 1)
 rcases hf with rfl | rfl | rfl
 ·left
  refine⟨(head,me,n,gain,hidden+CT (dP ch s 0),conds,many+(tN (dP ch s 0):Int),1,ch,s,te d),⟨hch,hu,hs,hm,⟨d,rfl⟩,.inr (.inl rfl),⟨by omega,by omega⟩,by omega,by omega⟩,by show(2 - (1:Int)).toNat < (2 - (0:Int)).toNat;decide,?_,fun kn kx=>aC.L1.round hch hu hs hm (.inl rfl) h0 h2 kn kx⟩
  simp only[aC.L1.add,aC.L1.F,if_neg (show ¬(1:Int)≤0 by decide),if_pos (show(1:Int)≤1 by decide),if_pos (show(0:Int)≤0 by decide),if_pos (show(0:Int)≤1 by decide),if_neg (show ¬(2:Int)≤0 by decide),if_neg (show ¬(2:Int)≤1 by decide),Int.zero_add,Int.add_zero,Int.add_assoc]
 ·left
  refine⟨(head,me,n,gain,hidden+CT (dP ch s 1),conds,many+(tN (dP ch s 1):Int),2,ch,s,te d),⟨hch,hu,hs,hm,⟨d,rfl⟩,.inr (.inr rfl),⟨by omega,by omega⟩,by omega,by omega⟩,by show(2 - (2:Int)).toNat < (2 - (1:Int)).toNat;decide,?_,fun kn kx=>aC.L1.round hch hu hs hm (.inr rfl) h0 h2 kn kx⟩
  simp only[aC.L1.add,aC.L1.F,if_neg (show ¬(1:Int)≤0 by decide),if_pos (show(1:Int)≤1 by decide),if_pos (show(0:Int)≤0 by decide),if_pos (show(0:Int)≤1 by decide),if_neg (show ¬(2:Int)≤0 by decide),if_neg (show ¬(2:Int)≤1 by decide),Int.zero_add,Int.add_zero,Int.add_assoc]
 ·right
  intro R kn kx
  rw[aC.L1.step,bk (by omega),ae]
  simp only[aC.L1.add,aC.L1.F,if_neg (show ¬(1:Int)≤0 by decide),if_pos (show(1:Int)≤1 by decide),if_pos (show(0:Int)≤0 by decide),if_pos (show(0:Int)≤1 by decide),if_neg (show ¬(2:Int)≤0 by decide),if_neg (show ¬(2:Int)≤1 by decide),Int.zero_add,Int.add_zero,Int.add_assoc]
theorem CP{ch:fF}{me:Int}{s:fL}{n:Int}(hch:jn ch)(h:oD ch me s n≠0):qO ch s∧oD ch me s n=Ce (dP ch s 0)+Ce (dP ch s 1)+fC (dT s.2.2.1) - n*(18+18*(((tN (dP ch s 0)+tN (dP ch s 1)+(dT s.2.2.1).length:Nat)):Int))∧0 < oD ch me s n:=by
 unfold oD at h ⊢
 split at h
 ·next e=>
  rw[if_pos e]
  rw[Bool.and_eq_true,lp]at e
  split at h
  ·next e2=>
   rw[if_pos e2]
   obtain⟨q1,q2,q3,q4⟩:=uV e2
   have ho:=w3 (per:=4) (rev:=0) (pay:=0) hch q3 q1
   rw[q4]at h ⊢
   have hl:=kR (sa (eQ ch s (1 - me) 4) 0 0) n
   rw[ho.1,ho.2]at hl
   have hx:jK (sa (eQ ch s (1 - me) 4) 0 0) n=Ce (dP ch s 0)+Ce (dP ch s 1)+fC (dT s.2.2.1) - n*(18+18*(((tN (dP ch s 0)+tN (dP ch s 1)+(dT s.2.2.1).length:Nat)):Int)):=by
    rw[hl]
    rcases q1 with e1 | e1
    ·rw[e1,show(1:Int) - 0=1 from rfl,Nat.add_assoc];omega
    ·rw[e1,show(1:Int) - 1=0 from rfl,show tN (dP ch s 1)+(tN (dP ch s 0)+(dT s.2.2.1).length)=tN (dP ch s 0)+tN (dP ch s 1)+(dT s.2.2.1).length by omega];omega
   have e0:∀x:Aq×Int,x=(eQ ch s (1 - me) 4,0)→x.1=eQ ch s (1 - me) 4:=fun x hx=>by rw[hx]
   simp only at h ⊢
   generalize jK (sa (eQ ch s (1 - me) 4) 0 0) n=x at h hx
   have hi:imax 0 x=x∧0 < x:=by
    unfold imax at h ⊢
    split at h
    ·exact⟨by split <;> omega,by omega⟩
    ·exact⟨by split <;> omega,by omega⟩
   rw[hi.1]
   exact⟨q3,hx,hi.2⟩
  ·exact absurd rfl h
 ·exact absurd rfl h
theorem aC.ok:aC.Ok:=by
 rintro⟨p,side,bp⟩ ⟨hp,hsd,hr⟩
 have hp:Fi p:=hp
 have hsd:0≤side∧side < 256:=hsd
 have hr:0≤bp∧bp < 256:=hr
 have hch:=BJ hp
 have hu:=Gx p
 have hm:side%2=0∨side%2=1:=by omega
 have hn:0≤bp%61∧bp%61 < 61:=by omega
 have c1:cd.call ()=some true:=cd.run (d:=()) trivial
 rw[aC.eq,c1,aa,aB.c hp,aa]
 rw[gS hsd.1,gS hr.1,km (x:=side%2) (by omega) (by omega),km (x:=bp%61) (by omega) (by omega)]
 generalize vR p=ch at hch
 generalize Fk p=s at hu
 generalize bp%61=n at hn
 generalize side%2=me at hm
 have hg:=CP (me:=me) (s:=s) (n:=n) hch
 rw[dM.c hch hu,aa]
 generalize oD ch me s n=g at hg
 by_cases hz:g=0
 ·rw[fg hz,ah]
  rfl
 obtain⟨hs,hgv,hgp⟩:=hg hz
 obtain⟨d,hd,_⟩:=hch.t (n:=1 - me) (by omega)
 have hlt:ch.2.2.2.1.length=2:=by
  obtain⟨a,b0,b1,o,rfl,_⟩:=hch
  rfl
 rw[eo hz,ae,Ad (by omega),bz (by omega) (by omega),ah,hd]
 rw[aL (show(1 - me).toNat < ch.2.2.2.1.length by omega),ah,aL (show 33+(1+(10+((1 - me).toNat*6+0)))=44+(1 - me).toNat*6 by omega),ah]
 have ha:=hs.a
 have hl:=hs.len
 have hal:=xu _ ha
 have hsa:=qF _ ha
 have hsl:(dT s.2.2.1).length≤s.2.2.1.length:=List.length_filter_le _ _
 rw[aC.L0.run (d:=(true,me,n,g,0,0,0,0,ch,s,te d)) ⟨ha,by show s.2.2.1.length≤1000;omega,⟨d,rfl⟩,0,Nat.zero_le _,rfl,⟨by decide,by decide⟩,by decide,by decide⟩]
 simp only[aa,aC.L0.add,aC.L0.F,Int.toNat_zero,List.drop_zero,Int.zero_add]
 have hh:0≤ra s.2.2.1∧ra s.2.2.1≤1125899906842624*16:=by unfold ra;omega
 rw[aC.L1.run (d:=(true,me,n,g,ra s.2.2.1,((dT s.2.2.1).length:Int),0,0,ch,s,te d)) ⟨hch,hu,hs,hm,⟨d,rfl⟩,.inl rfl,⟨hh.1,by show ra s.2.2.1≤1125899906842624*(1001+0);omega⟩,Int.le_refl _,Int.le_refl _⟩]
 simp only[aa,aC.L1.add,aC.L1.F,Int.zero_add,if_pos (show(0:Int)≤0 by decide),if_pos (show(0:Int)≤1 by decide)]
 rw[dY.run (d:=(s.2.2.2.1,((dT s.2.2.1).length:Int))) trivial]
 simp only[aa,dY.add,dY.F,ah]
 have r0:=mG hs (n:=0) (.inl rfl)
 have r0':=pk hs (n:=0) (.inl rfl)
 have r1:=mG hs (n:=1) (.inr rfl)
 have r1':=pk hs (n:=1) (.inr rfl)
 have rs:=w6 hch s (own:=0) (.inl rfl)
 rw[show(1:Int) - 0=1 from rfl]at rs
 have ht:=hs.ID
 have hf:=o5 s.2.2.2.1 (dT s.2.2.1).length
 have hA:=hch.yH
 have hhid:ra s.2.2.1=fC s.2.2.1 - fC (dT s.2.2.1):=rfl
 have b0:=BQ r0 r0'
 have b1:=BQ r1 r1'
 have hd0:CT (dP ch s 0)=dP ch s 0 - Ce (dP ch s 0):=rfl
 have hd1:CT (dP ch s 1)=dP ch s 1 - Ce (dP ch s 1):=rfl
 have s0:∀n,tN n≤1:=fun n=>by unfold tN;split <;> decide
 have q0:=s0 (dP ch s 0)
 have q1:=s0 (dP ch s 1)
 generalize CT (dP ch s 0)=d0 at*
 generalize CT (dP ch s 1)=d1 at*
 generalize tN (dP ch s 0)=m0 at*
 generalize tN (dP ch s 1)=m1 at*
 generalize (dT s.2.2.1).length=cn at*
 generalize ra s.2.2.1=hd' at*
 have em:bo .i64 ((m0:Int)+(m1:Int)) (cn:Int)=((m0+m1+cn:Nat):Int):=by rw[cR (by omega) (by omega)];omega
 rw[em]
 have hw:m0+m1+cn≤18:=by omega
 generalize m0+m1+cn=w at*
 have e1:eK .i64 18 (w:Int)=18*(w:Int):=iw (by omega) (by omega)
 have e2:bo .i64 18 (18*(w:Int))=18+18*(w:Int):=cR (by omega) (by omega)
 have hmul:=rq (r:=n) (w:=18+18*(w:Int)) (a:=60) (b:=342) hn.1 (by omega) (by omega) (by omega)
 have e3:eK .i64 n (18+18*(w:Int))=n*(18+18*(w:Int)):=iw (by omega) (by omega)
 rw[e1,e2,e3]
 generalize n*(18+18*(w:Int))=z at*
 generalize tG s.2.2.2.1 (cn:Int)=fe at*
 rw[cR (x:=fe) (y:=z) (by omega) (by omega),cR (x:=g) (y:=fe+z) (by omega) (by omega),cR (x:=g+(fe+z)) (y:=hd'+(d0+d1)) (by omega) (by omega),cR (x:=g+(fe+z)+(hd'+(d0+d1))) (y:=660) (by omega) (by omega),fg (by omega)]
 rfl
noncomputable def aC.E:=Entry.cD [some EY,some tb,some tb] aC.st aC.aq aC.add aC.F aC.out
noncomputable def aC.call:aC.D→Option aC.X:=bC aC.E aC.st
theorem aC.run:bD aC.call aC.aq aC.add aC.F:=cw (cv [.d EY,.d tb,.d tb] fun _=>by kernel_rfl)
noncomputable def aC.sg:SG Tryz.prog:=⟨4,aK,aC.E,.fn 2 (by kernel_rfl) aC.ok (And.intro (.cD aC.L0.ok (by kernel_rfl)) (And.intro (.cD aC.L1.ok (by kernel_rfl)) trivial))⟩
end
end Go.Ab
