/-
  Made short by a program of mine (wip/tools/mini.py).
-/
import Derived.Test.YtodfaneojnkngaaGreatS26x5
set_option linter.unusedVariables false
set_option linter.unusedSimpArgs false
set_option maxRecDepth 100000
set_option synthInstance.maxSize 5000
open Int renaming toNat->ae
open List renaming length->ag,replicate->ab,take->aQ,drop->bR
open Sum renaming getLeft?->cP
noncomputable section
namespace Go.Ab
open Go.Proofs
abbrev OR:=(List gR)
def YT:OR->SA:=λouts=>([.d (.slice iV) outs],[])
abbrev ayp:=(Unit)⊕((List (bw×dS))×(List bW)×(List dz))
abbrev ai8:=(Unit)⊕((List (bw×dS))×(List bW)×(List dz))
def JA:ai8->fx:=λx=>match x with | .inl x=>⟨.qC,[],[]⟩ | .inr x=>⟨eG 0,[],[.obj 0 false (.pr (.ptr (.new 0 1) 0 [] 0) (.pr (.bu (.new 0 4) 0 [] 0 0 0) fL)),.obj 0 false (.pr (.cm (.new 0 2) 0) (.pr (.bu (.new 0 3) 0 [] 0 0 0) fL)),.obj 0 false (.mp aV eS x.1),.obj 0 false (.vec 256 cC x.2.1),.obj 0 false (.vec 48 dU x.2.2)]⟩
def Sz:OR->ayp->ai8:=λouts y=>match y with | .inl y=> .inl y | .inr y=> .inr y
def Sy:OR->Prop:=λouts=>∀o∈outs,aUv o
def OS:OR->ayp:=λouts=>match aDs outs with | none=> .inl () | some r=> .inr (r,[],[])
def aPO:om:=kh (P:=Tryz.prog) [aIU]
def aHX:wO:= {bI:=[10],owns:=[⟨2,[.snd,.fst],0,41⟩]}
def ayn:= @G2 Tryz.prog aPO aHX 0 Tryz.f9 _ YT
abbrev aHW:=aiz @ayn Sy Sz OS JA
theorem aHY{R:Type}(outs:(List gR))(k:fx->Option R):ayn outs k=ak (Zp outs) λx1=>aG (x1.isLeft) (ak (x1.getLeft?) λaOG=>k (JA (.inl ()))) (ak (x1.getRight?) λaOH=>k (JA (.inr (aOH.1,aOH.2,([]:List dz))))):=by kernel_rfl
theorem aHZ:aHW:=by
 intro outs h;rw[aHY,aB0 (d:=outs) h];simp only[ah,Ph,OS];cases aDs outs with
 |none=>rfl
 |some r=>rfl
def ayo:=Entry.aeF [some (.slice iV)] YT Sy Sz OS JA
def MB:OR->Option ai8:=KB ayo YT
theorem aBz:jd MB Sy Sz OS:=acu (W0 [.d (.slice iV)] λ_=>by kernel_rfl)
def aH0:SG Tryz.prog:=⟨9,lO,ayo,.of (.aUp (.fn 0 (by kernel_rfl) aHZ trivial)) (by rfl)⟩
abbrev atU:=Int×Nat×Nat×(List (bw×dS))×(List bW)×(List dz)
abbrev aHT:=dz×Bool
abbrev aU0:=(Nat×Nat×(List (bw×dS))×(List bW)×(List dz))×(dz×Bool)
def anA:atU->aHT->aU0:=λ(height,o0baL,o1baL,o2,o3,o4) y=>((o0baL,o1baL,o2,o3,o4),y)
def aXu(h:Int)(nb:Nat)(bs:List dz):dz×Bool:=if 1<=h/\h<=nb then(aqd (nth dU bs (h.toNat - 1)),true) else(dU.zero,false)
def aHS:atU->Prop:=λ(_,nb,_,_,_,bs)=>asQ nb bs
def YO:atU->aHT:=λ(h,nb,_,_,_,bs)=>((aXu h nb bs).1,(aXu h nb bs).2)
def ai6:Fs Tryz.prog aHS anA YO:=eI 46 Tryz.f46 (λ(height,o0baL,o1baL,o2,o3,o4)=>([.ptr (.bh 0) 0 [] 0,.d ti height],[.obj 0 false (.pr (.ptr (.bh 1) 0 [] 0) (.pr (.bu (.bh 4) 0 [] 0 0 o0baL) (.d .unit ()))),.obj 0 false (.pr (.cm (.bh 2) 0) (.pr (.bu (.bh 3) 0 [] 0 0 o1baL) (.d .unit ()))),.obj 0 false (.mp aV eS o2),.obj 0 false (.vec 256 cC o3),.obj 0 false (.vec 48 dU o4)])) (λx=>⟨.cons (.d dU x.2.1) (.cons (.d .bool x.2.2) (.nil)),[.obj 0 false (.pr (.ptr (.bh 1) 0 [] 0) (.pr (.bu (.bh 4) 0 [] 0 0 x.1.1) (.d .unit ()))),.obj 0 false (.pr (.cm (.bh 2) 0) (.pr (.bu (.bh 3) 0 [] 0 0 x.1.2.1) (.d .unit ()))),.obj 0 false (.mp aV eS x.1.2.2.1),.obj 0 false (.vec 256 cC x.1.2.2.2.1),.obj 0 false (.vec 48 dU x.1.2.2.2.2)],[]⟩) [none,some ti] [anw] {res:=[some dU,none]}
theorem aPL{R:Type}(height o0baL o1baL o2 o3 o4)(k:K1 R):ai6.A (height,o0baL,o1baL,o2,o3,o4) k=aG ((fP height 1)) (k (ai6.out ((o0baL,o1baL,o2,o3,o4),((0,((ab 32 0),(([]:List dM),(0,(([]:List bw),()))))),false)))) (aG ((w5 height ((o0baL:Nat):Int))) (k (ai6.out ((o0baL,o1baL,o2,o3,o4),((0,((ab 32 0),(([]:List dM),(0,(([]:List bw),()))))),false)))) (aG (ed (cI .i64 height 1) ((o0baL:Nat):Int)) (aG (decide ((0+(ae (cI .i64 height 1))) < (ag o4))) (aG (decide ((((0+(ae (cI .i64 height 1)))*36)+0)=(0+((ae (cI .i64 height 1))*36)))) (ak (Hh.call (nth dU o4 (0+(ae (cI .i64 height 1))))) λx1=>k (ai6.out ((o0baL,o1baL,o2,o3,o4),(x1,true)))) none) none) none)):=by kernel_rfl
theorem aPM:ai6.Ok:=by
 rintro⟨h,nb,n,a,s,bs⟩ ⟨h1,h2,h3⟩;have h1:nb<=bs.length:=h1;have h2:nb<=1000000:=h2;rw[aPL];by_cases a1:1<=h
 ·rw[aO (by omega),al];by_cases a2:h<=nb
  ·obtain⟨k,rfl⟩:∃k:Nat,h=(k:Int)+1:=⟨(h - 1).toNat,by omega⟩;have hk:k < bs.length:=by omega
   have e1:cI .i64 ((k:Int)+1) (1:Int)=(k:Int):=by rw[ez (by omega) (by omega)];omega
   have e2:((k:Int)+1).toNat - 1=k:=by omega
   rw[cE (by omega),al,e1,bf (by omega) (by omega),aj];simp only[aa,aJ,cd,aH hk,aj,cn];have n1:nth dU bs k=bs[k]:=bV (t:=dU) hk;rw[n1,agb (d:=bs[k]) (h3 _ (aM hk))];simp only[ah,bm,ai0,YO,aXu,if_pos (And.intro a1 a2),e2,n1];rfl
  ·rw[df (by omega),aj];simp only[YO,aXu,if_neg (λe:1<=h/\h<=(nb:Int)=>a2 e.2)];rfl
 ·rw[aT (by omega),aj];simp only[YO,aXu,if_neg (λe:1<=h/\h<=(nb:Int)=>a1 e.1)];rfl
theorem aHU:ai6.RS:=rE [.d ti,.n,.n,.d (.slice (.pair aV eS)),.d (.slice cC),.d (.slice dU)] ai6
def aPN:=ai6.eN aPM
abbrev ayl:=dz×Nat×Nat×(List (bw×dS))×(List bW)×(List dz)
abbrev aPJ:=Int×Nat×Nat×(List (bw×dS))×(List bW)×(List dz)
def lM(b:dz)(nb:Nat)(S:aGC)(bs:List dz):Int×Nat×Nat×At×List bW×List dz:=if b.2.1=q9 nb bs/\b.1=(nb:Int)+1 then if(sP b S.2.1).2=0 then(0,nb+1,(aBc b S).1,(aBc b S).2.1,(aBc b S).2.2,bs.take nb++ [aqd b]) else((sP b S.2.1).2,nb,S.1,S.2.1,S.2.2,bs) else(1,nb,S.1,S.2.1,S.2.2,bs)
def Sx:ayl->Prop:=λ(b,nb,n,a,s,bs)=>WS b/\Ea 400 n a s/\asQ nb bs
def ai4:ayl->aPJ:=λ(b,nb,n,a,s,bs)=>lM b nb (n,a,s) bs
def F5:Fs Tryz.prog Sx bm ai4:=eI 55 Tryz.f55 (λ(b,o0baL,o1baL,o2,o3,o4)=>([.ptr (.bh 0) 0 [] 0,.d dU b],[.obj 0 false (.pr (.ptr (.bh 1) 0 [] 0) (.pr (.bu (.bh 4) 0 [] 0 0 o0baL) (.d .unit ()))),.obj 0 false (.pr (.cm (.bh 2) 0) (.pr (.bu (.bh 3) 0 [] 0 0 o1baL) (.d .unit ()))),.obj 0 false (.mp aV eS o2),.obj 0 false (.vec 256 cC o3),.obj 0 false (.vec 48 dU o4)])) (λx=>⟨.d ti x.1,[.obj 0 false (.pr (.ptr (.bh 1) 0 [] 0) (.pr (.bu (.bh 4) 1 [] 0 0 x.2.1) (.d .unit ()))),.obj 0 false (.pr (.cm (.bh 2) 0) (.pr (.bu (.bh 3) 1 [] 0 0 x.2.2.1) (.d .unit ()))),.obj 0 false (.mp aV eS x.2.2.2.1),.obj 1 false (.vec 256 cC x.2.2.2.2.1),.obj 1 false (.vec 48 dU x.2.2.2.2.2)],[]⟩) [none,some dU] [anH,BD,aHb,anw] {atK:=[(3,1),(4,1)]}
theorem aHO{R:Type}(b o0baL o1baL o2 o3 o4)(k:K1 R):F5.A (b,o0baL,o1baL,o2,o3,o4) k=ak (KI.call (o0baL,o1baL,o2,o3,o4)) λx1=>aG ((!(Ty.beq tH b.2.1 x1.2))) (k (F5.out (1,x1.1.1,x1.1.2.1,x1.1.2.2.1,x1.1.2.2.2.1,x1.1.2.2.2.2))) (ak (oD.call (x1.1.1,x1.1.2.1,x1.1.2.2.1,x1.1.2.2.2.1,x1.1.2.2.2.2)) λx2=>aG ((BQ b.1 (bH .i64 x2.2 1))) (k (F5.out (1,x2.1.1,x2.1.2.1,x2.1.2.2.1,x2.1.2.2.2.1,x2.1.2.2.2.2))) (ak (F2.call (b,x2.1.2.1,x2.1.2.2.1,x2.1.2.2.2.1)) λx3=>aG ((BQ x3.1 0)) (k (F5.out (x3.1,x2.1.1,x3.2.1,x3.2.2.1,x3.2.2.2,x2.1.2.2.2.2))) (ak (Hh.call b) λx4=>aG (decide (x2.1.1<=(ag x2.1.2.2.2.2))) (aG (cT (x2.1.1+1) 96) (k (F5.out (0,(x2.1.1+1),x3.2.1,x3.2.2.1,x3.2.2.2,((aQ x2.1.1 x2.1.2.2.2.2)++ [x4])))) none) none))):=by kernel_rfl
theorem aHP:F5.Ok:=by
 rintro⟨b,nb,n,a,s,bs⟩ ⟨hb,hg,hc⟩;have hb:WS b:=hb;obtain⟨h1,h2,_⟩:=id hc;have h1:nb<=bs.length:=h1;have h2:nb<=1000000:=h2;rw[aHO,agm (d:=(nb,n,a,s,bs)) hc];simp only[ah,agl,aja,aYj,bm,ai4,lM];by_cases ht:b.2.1=q9 nb bs
 ·rw[gq ht,ct,al,Et (d:=(nb,n,a,s,bs)) trivial];simp only[ah,Es,MA];rw[fE (by omega) (by omega)];by_cases hh:b.1=(nb:Int)+1
  ·rw[dx hh,al,aAV (d:=(b,n,a,s)) ⟨hb,hg⟩];simp only[ah,bm,aiO,if_pos (And.intro ht hh)];by_cases he:(sP b a).2=0
   ·rw[dx he,al,agb (d:=b) hb.1];simp only[ah,bm,ai0];rw[aH h1,aj,de (by omega) (by omega),aj,if_pos he,if_neg (λe=>e he)]
   ·rw[fa he,aj,if_neg he,if_pos he]
  ·rw[fa hh,aj,if_neg (λe=>hh e.2)]
 ·rw[je ht,eT,aj,if_neg (λe=>ht e.1)]
theorem agd:F5.RS:=rE [.d dU,.n,.n,.d (.slice (.pair aV eS)),.d (.slice cC),.d (.slice dU)] F5
def anx:=F5.eN aHP
def T3(o:bw):List dM->Option dM
 |[]=>none
 |t::l=>if(dJ t).any (asS o)=true then some t else T3 o l
def A4(o:bw):List dz->Int->Option (dM×Int)
 |[],_=>none
 |b::l,i=>match T3 o b.2.2.1 with | some t=>some (as0 t,i+1) | none=>A4 o l (i+1)
theorem arZ(t:dM):(dJ t).length<=64:=by
 unfold dJ;split
 ·rename_i h;rw[bX];exact(jt h).1.2.1
 ·simp
abbrev I2:=Int×dM×bw×bw×(Int×Unit)×Int×Bool
noncomputable def T4:I2->SA:=λ(t13,t14,o,or,o1bb,o2,o3)=>(([.yl (.bh 0) 0,.d ti t13,.d eH t14,bA,bA,bA,.dL aV o,.ptr (.bh 1) 0 [] 0,.ptr (.bh 2) 0 [] 0,.ptr (.bh 3) 0 [] 0]++aP 21 []),[.obj 0 false (.qX (qE Tryz.prog 4294967824) (lX ([bA,bA,bA,.dL aV or,.ptr (.bh 1) 0 [] 0,.ptr (.bh 2) 0 [] 0,.ptr (.bh 3) 0 [] 0]++aP 21 [])) 0),.obj 0 false (.pr (.cV) (.pr (.cV) (.d (.pair ti .unit) o1bb))),.obj 0 false (.d ti o2),.obj 0 false (.d .bool o3)])
abbrev arY:=(dM)⊕(Unit)
abbrev acP:=((bw×Int)×(dM))⊕(bw×(Int×Unit)×Int×Bool)
noncomputable def Fx:acP->fx:=λx=>match x with | .inl x=>⟨.d .bool false,[.obj 0 false (.qX (qE Tryz.prog 4294967824) (lX ([bA,bA,bA,.dL aV x.1.1,.ptr (.bh 1) 0 [] 0,.ptr (.bh 2) 0 [] 0,.ptr (.bh 3) 0 [] 0]++aP 21 [])) 2),.obj 0 false (.d eH x.2),.obj 0 false (.d ti x.1.2),.obj 0 false (.d .bool true)],[]⟩ | .inr x=>⟨.d .bool true,[.obj 0 false (.qX (qE Tryz.prog 4294967824) (lX ([bA,bA,bA,.dL aV x.1,.ptr (.bh 1) 0 [] 0,.ptr (.bh 2) 0 [] 0,.ptr (.bh 3) 0 [] 0]++aP 21 [])) 0),.obj 0 false (.pr (.cV) (.pr (.cV) (.d (.pair ti .unit) x.2.1))),.obj 0 false (.d ti x.2.2.1),.obj 0 false (.d .bool x.2.2.2)],[]⟩
def A3:I2->arY->acP:=λ(t13,t14,o,or,o1bb,o2,o3) y=>match y with | .inl y=> .inl ((or,t13),y) | .inr y=> .inr (or,o1bb,o2,o3)
def NW:I2->Prop:=λ(_,t,_)=>qt t
def D5:I2->arY:=λ(_,t,o,_)=>if(dJ t).any (asS o)=true then .inl (as0 t) else .inr ()
def aNk:om:=kh (P:=Tryz.prog) [adx,ap3,T9,adq]
def aFd:wO:= {lk:=some 4294967824}
def arW:= @G2 Tryz.prog aNk aFd 0 (aTA Tryz.prog 4294967824) _ T4
abbrev aFc:=aiz @arW NW A3 D5 Fx
theorem aFe{R:Type}(t13:Int)(t14:dM)(o:bw)(or:bw)(o1bb:(Int×Unit))(o2:Int)(o3:Bool)(k:fx->Option R):arW (t13,t14,o,or,o1bb,o2,o3) k=ak (rK.call t14) λx1=>ak (VL.call (x1,o)) λx2=>aG (x2) (ak (qG.call t14) λx3=>ak (kk.call x3) λx4=>k (Fx (.inl ((or,t13),x4.1)))) (k (Fx (.inr (or,o1bb,o2,o3)))):=by kernel_rfl
theorem aFf:aFc:=by
 rintro⟨h,t,o,o',o1,o2,o3⟩ hv;have hv:qt t:=hv;rw[aFe,WQ (d:=t) hv.1];simp only[ah,bm,Ka];rw[aho (d:=(dJ t,o)) (by show(dJ t).length<=_;have:=arZ t;omega)];simp only[ah,bm,azt,D5];by_cases he:(dJ t).any (asS o)=true
 ·rw[if_pos he,he,aj,NZ (d:=t) hv];simp only[ah,bm,I6];rw[Ua (d:=axE t) ⟨(zR hv).1,by show(axE t).length<=_;have:=(zR hv).2;omega⟩];rfl
 ·have he':(dJ t).any (asS o)=false:=by simpa using he
  rw[if_neg he,he',al];rfl
def arX:=Entry.aeF [none,none,none,none,none,none,none,none,none,none,none,none,none,none,none,none,none,none,none,none,none,none,none,none,none,none,none,none,none,none,none] T4 NW A3 D5 Fx
def Wt:I2->Option acP:=KB arX T4
theorem aw6:jd Wt NW A3 D5:=acu (W0 [.d ti,.d eH,.d aV,.d aV,.d (.pair ti .unit),.d ti,.d .bool] λ_=>by kernel_rfl)
def aFg:SG Tryz.prog:=⟨4294967824,lO,arX,.bc6 (FW.fn 0 (by kernel_rfl) aFf trivial (by rfl)).aUp (by rfl)⟩
abbrev Dh:=Nat×Int×Int×bw×(Int×Unit)×Int×Bool×Nat×Nat×(List (bw×dS))×(List bW)×(List dz)
noncomputable def u5:Dh->AS:=λ(T7,t11,t12,o0,o1,ea,Km,o5L,o6L,avx,avy,aeK)=>⟨([.yl (.bh 0) 0]++aP 9 ([.bu (.bh 9) 0 [] 0 0 T7,.d ti t11,.d ti t12]++aP 19 [])),[.obj 0 false (.qX (qE Tryz.prog 4294967824) (lX ([bA,bA,bA,.dL aV o0,.ptr (.bh 1) 0 [] 0,.ptr (.bh 2) 0 [] 0,.ptr (.bh 3) 0 [] 0]++aP 21 [])) 0),.obj 0 false (.pr (.cV) (.pr (.cV) (.d (.pair ti .unit) o1))),.obj 0 false (.d ti ea),.obj 0 false (.d .bool Km),.obj 0 false (.ptr (.bh 5) 0 [] 0),.obj 0 false (.pr (.ptr (.bh 6) 0 [] 0) (.pr (.bu (.bh 9) 0 [] 0 0 o5L) fL)),.obj 0 false (.pr (.cm (.bh 7) 0) (.pr (.bu (.bh 8) 0 [] 0 0 o6L) fL)),.obj 0 false (.mp aV eS avx),.obj 0 false (.vec 256 cC avy),.obj 0 false (.vec 48 dU aeK)],(ab 32 [])⟩
abbrev as7:=bw×dM×Int×Nat×Nat×(List (bw×dS))×(List bW)×(List dz)
abbrev Yd:=bw×dM×Int×Nat×Nat×(List (bw×dS))×(List bW)×(List dz)
noncomputable def Br:Yd->Exit×AS:=λx=>(.ret,⟨(aP 32 []),[.obj 0 false (.qX (qE Tryz.prog 4294967824) (lX ([bA,bA,bA,.dL aV x.1,.ptr (.bh 1) 0 [] 0,.ptr (.bh 2) 0 [] 0,.ptr (.bh 3) 0 [] 0]++aP 21 [])) 2),.obj 0 false (.d eH x.2.1),.obj 0 false (.d ti x.2.2.1),.obj 0 false (.d .bool true),.obj 0 false (.ptr (.bh 5) 0 [] 0),.obj 0 false (.pr (.ptr (.bh 6) 0 [] 0) (.pr (.bu (.bh 9) 0 [] 0 0 x.2.2.2.1) fL)),.obj 0 false (.pr (.cm (.bh 7) 0) (.pr (.bu (.bh 8) 0 [] 0 0 x.2.2.2.2.1) fL)),.obj 0 false (.mp aV eS x.2.2.2.2.2.1),.obj 0 false (.vec 256 cC x.2.2.2.2.2.2.1),.obj 0 false (.vec 48 dU x.2.2.2.2.2.2.2)],(ab 32 [])⟩)
abbrev as8:=bw×(Int×Unit)×Int×Bool×Nat×Nat×(List (bw×dS))×(List bW)×(List dz)
abbrev Ye:=bw×(Int×Unit)×Int×Bool×Nat×Nat×(List (bw×dS))×(List bW)×(List dz)
noncomputable def Bt:Ye->Exit×AS:=λx=>(.exit 0,⟨(aP 32 []),[.obj 0 false (.qX (qE Tryz.prog 4294967824) (lX ([bA,bA,bA,.dL aV x.1,.ptr (.bh 1) 0 [] 0,.ptr (.bh 2) 0 [] 0,.ptr (.bh 3) 0 [] 0]++aP 21 [])) 0),.obj 0 false (.pr (.cV) (.pr (.cV) (.d (.pair ti .unit) x.2.1))),.obj 0 false (.d ti x.2.2.1),.obj 0 false (.d .bool x.2.2.2.1),.obj 0 false (.ptr (.bh 5) 0 [] 0),.obj 0 false (.pr (.ptr (.bh 6) 0 [] 0) (.pr (.bu (.bh 9) 0 [] 0 0 x.2.2.2.2.1) fL)),.obj 0 false (.pr (.cm (.bh 7) 0) (.pr (.bu (.bh 8) 0 [] 0 0 x.2.2.2.2.2.1) fL)),.obj 0 false (.mp aV eS x.2.2.2.2.2.2.1),.obj 0 false (.vec 256 cC x.2.2.2.2.2.2.2.1),.obj 0 false (.vec 48 dU x.2.2.2.2.2.2.2.2)],(ab 32 [])⟩)
abbrev R9:=(Yd)⊕(Ye)
abbrev afU:=(as7)⊕(as8)
def G5:R9->Out (Exit×AS):=λx=> .br x.isLeft (.get x.getLeft? λa=> .ok (Br a)) (.get x.getRight? λb=> .ok (Bt b))
def ou:Dh->afU->R9:=λ(T7,t11,t12,o0,o1,ea,Km,o5L,o6L,avx,avy,aeK) y=>match y with | .inl y=> .inl y | .inr z=> .inr (z)
abbrev Di:=Int×Nat×Int×Int×(List dM)×Int×Int×bw×(Int×Unit)×Int×Bool×Nat×Nat×(List (bw×dS))×(List bW)×(List dz)
noncomputable def u6:Di->AS:=λ(i,I5,Ww,Wx,t18,t19,t20,Bp,dO,jL,E7,HZ,H0,aa5,aa6,aa7)=>⟨([.yl (.bh 0) 0,bA,bA,.d ti i]++aP 6 ([.bu (.bh 9) 0 [] 0 0 I5,.d ti Ww,.d ti Wx]++aP 5 ([.d (.slice eH) t18,.d ti t19,.d ti t20]++aP 11 []))),[.obj 0 false (.qX (qE Tryz.prog 4294967824) (lX ([bA,bA,bA,.dL aV Bp,.ptr (.bh 1) 0 [] 0,.ptr (.bh 2) 0 [] 0,.ptr (.bh 3) 0 [] 0]++aP 21 [])) 0),.obj 0 false (.pr (.cV) (.pr (.cV) (.d (.pair ti .unit) dO))),.obj 0 false (.d ti jL),.obj 0 false (.d .bool E7),.obj 0 false (.ptr (.bh 5) 0 [] 0),.obj 0 false (.pr (.ptr (.bh 6) 0 [] 0) (.pr (.bu (.bh 9) 0 [] 0 0 HZ) fL)),.obj 0 false (.pr (.cm (.bh 7) 0) (.pr (.bu (.bh 8) 0 [] 0 0 H0) fL)),.obj 0 false (.mp aV eS aa5),.obj 0 false (.vec 256 cC aa6),.obj 0 false (.vec 48 dU aa7)],(ab 32 [])⟩
abbrev ata:=bw×dM×Int
abbrev Yg:=(Nat×Nat×(List (bw×dS))×(List bW)×(List dz))×(bw×dM×Int)
noncomputable def Bv:Yg->Exit×AS:=λx=>(.ret,⟨(aP 32 []),[.obj 0 false (.qX (qE Tryz.prog 4294967824) (lX ([bA,bA,bA,.dL aV x.2.1,.ptr (.bh 1) 0 [] 0,.ptr (.bh 2) 0 [] 0,.ptr (.bh 3) 0 [] 0]++aP 21 [])) 2),.obj 0 false (.d eH x.2.2.1),.obj 0 false (.d ti x.2.2.2),.obj 0 false (.d .bool true),.obj 0 false (.ptr (.bh 5) 0 [] 0),.obj 0 false (.pr (.ptr (.bh 6) 0 [] 0) (.pr (.bu (.bh 9) 0 [] 0 0 x.1.1) fL)),.obj 0 false (.pr (.cm (.bh 7) 0) (.pr (.bu (.bh 8) 0 [] 0 0 x.1.2.1) fL)),.obj 0 false (.mp aV eS x.1.2.2.1),.obj 0 false (.vec 256 cC x.1.2.2.2.1),.obj 0 false (.vec 48 dU x.1.2.2.2.2)],(ab 32 [])⟩)
abbrev atb:=bw×(Int×Unit)×Int×Bool
abbrev Yh:=(Nat×Int×Int×Nat×Nat×(List (bw×dS))×(List bW)×(List dz))×(bw×(Int×Unit)×Int×Bool)
noncomputable def Bw:Yh->Exit×AS:=λx=>(.exit 2,⟨([.yl (.bh 0) 0]++aP 9 ([.bu (.bh 9) 0 [] 0 0 x.1.1,.d ti x.1.2.1,.d ti x.1.2.2.1]++aP 19 [])),[.obj 0 false (.qX (qE Tryz.prog 4294967824) (lX ([bA,bA,bA,.dL aV x.2.1,.ptr (.bh 1) 0 [] 0,.ptr (.bh 2) 0 [] 0,.ptr (.bh 3) 0 [] 0]++aP 21 [])) 0),.obj 0 false (.pr (.cV) (.pr (.cV) (.d (.pair ti .unit) x.2.2.1))),.obj 0 false (.d ti x.2.2.2.1),.obj 0 false (.d .bool x.2.2.2.2),.obj 0 false (.ptr (.bh 5) 0 [] 0),.obj 0 false (.pr (.ptr (.bh 6) 0 [] 0) (.pr (.bu (.bh 9) 0 [] 0 0 x.1.2.2.2.1) fL)),.obj 0 false (.pr (.cm (.bh 7) 0) (.pr (.bu (.bh 8) 0 [] 0 0 x.1.2.2.2.2.1) fL)),.obj 0 false (.mp aV eS x.1.2.2.2.2.2.1),.obj 0 false (.vec 256 cC x.1.2.2.2.2.2.2.1),.obj 0 false (.vec 48 dU x.1.2.2.2.2.2.2.2)],(ab 32 [])⟩)
abbrev Sb:=(Yg)⊕(Yh)
abbrev afX:=(ata)⊕(atb)
def G6:Sb->Out (Exit×AS):=λx=> .br x.isLeft (.get x.getLeft? λa=> .ok (Bv a)) (.get x.getRight? λb=> .ok (Bw b))
def kF:Di->afX->Sb:=λ(i,I5,Ww,Wx,t18,t19,t20,Bp,dO,jL,E7,HZ,H0,aa5,aa6,aa7) y=>match y with | .inl y=> .inl ((HZ,H0,aa5,aa6,aa7),y) | .inr z=> .inr (((I5,Ww,Wx,HZ,H0,aa5,aa6,aa7),z))
abbrev X9:=bw×(Int×Unit)×Int×Bool×Nat×Nat×(List (bw×dS))×(List bW)×(List dz)
noncomputable def aiF:X9->SA:=λ(ir,o1bb,o2,o3,o5baL,o6baL,o7,o8,o9)=>([.yl (.bh 0) 0,.ptr (.bh 4) 0 [] 0],[.obj 0 false (.qX (qE Tryz.prog 4294967824) (lX ([bA,bA,bA,.dL aV ir,.ptr (.bh 1) 0 [] 0,.ptr (.bh 2) 0 [] 0,.ptr (.bh 3) 0 [] 0]++aP 21 [])) 0),.obj 0 false (.pr (.cV) (.pr (.cV) (.d (.pair ti .unit) o1bb))),.obj 0 false (.d ti o2),.obj 0 false (.d .bool o3),.obj 0 false (.ptr (.bh 5) 0 [] 0),.obj 0 false (.pr (.ptr (.bh 6) 0 [] 0) (.pr (.bu (.bh 9) 0 [] 0 0 o5baL) fL)),.obj 0 false (.pr (.cm (.bh 7) 0) (.pr (.bu (.bh 8) 0 [] 0 0 o6baL) fL)),.obj 0 false (.mp aV eS o7),.obj 0 false (.vec 256 cC o8),.obj 0 false (.vec 48 dU o9)])
abbrev aGI:=(bw×dM×Int×Nat×Nat×(List (bw×dS))×(List bW)×(List dz))⊕(bw×(Int×Unit)×Int×Bool×Nat×Nat×(List (bw×dS))×(List bW)×(List dz))
abbrev atd:=(bw×dM×Int×Nat×Nat×(List (bw×dS))×(List bW)×(List dz))⊕(bw×(Int×Unit)×Int×Bool×Nat×Nat×(List (bw×dS))×(List bW)×(List dz))
noncomputable def Ow:atd->fx:=λx=>match x with | .inl x=>⟨.nil,[.obj 0 false (.qX (qE Tryz.prog 4294967824) (lX ([bA,bA,bA,.dL aV x.1,.ptr (.bh 1) 0 [] 0,.ptr (.bh 2) 0 [] 0,.ptr (.bh 3) 0 [] 0]++aP 21 [])) 2),.obj 0 false (.d eH x.2.1),.obj 0 false (.d ti x.2.2.1),.obj 0 false (.d .bool true),.obj 0 false (.ptr (.bh 5) 0 [] 0),.obj 0 false (.pr (.ptr (.bh 6) 0 [] 0) (.pr (.bu (.bh 9) 0 [] 0 0 x.2.2.2.1) fL)),.obj 0 false (.pr (.cm (.bh 7) 0) (.pr (.bu (.bh 8) 0 [] 0 0 x.2.2.2.2.1) fL)),.obj 0 false (.mp aV eS x.2.2.2.2.2.1),.obj 0 false (.vec 256 cC x.2.2.2.2.2.2.1),.obj 0 false (.vec 48 dU x.2.2.2.2.2.2.2)],[]⟩ | .inr x=>⟨.nil,[.obj 0 false (.qX (qE Tryz.prog 4294967824) (lX ([bA,bA,bA,.dL aV x.1,.ptr (.bh 1) 0 [] 0,.ptr (.bh 2) 0 [] 0,.ptr (.bh 3) 0 [] 0]++aP 21 [])) 0),.obj 0 false (.pr (.cV) (.pr (.cV) (.d (.pair ti .unit) x.2.1))),.obj 0 false (.d ti x.2.2.1),.obj 0 false (.d .bool x.2.2.2.1),.obj 0 false (.ptr (.bh 5) 0 [] 0),.obj 0 false (.pr (.ptr (.bh 6) 0 [] 0) (.pr (.bu (.bh 9) 0 [] 0 0 x.2.2.2.2.1) fL)),.obj 0 false (.pr (.cm (.bh 7) 0) (.pr (.bu (.bh 8) 0 [] 0 0 x.2.2.2.2.2.1) fL)),.obj 0 false (.mp aV eS x.2.2.2.2.2.2.1),.obj 0 false (.vec 256 cC x.2.2.2.2.2.2.2.1),.obj 0 false (.vec 48 dU x.2.2.2.2.2.2.2.2)],[]⟩
def Yj:X9->aGI->atd:=λ(ir,o1bb,o2,o3,o5baL,o6baL,o7,o8,o9) y=>match y with | .inl y=> .inl y | .inr y=> .inr y
def Bu:Di->Prop:=λ(i,_,_,_,l,n,j,_)=>(0<=i/\i<=1000000)/\l.length<=1000000/\(∀t∈l,qt t)/\n=(l.length:Int)/\∃k:Nat,k<=l.length/\j=k
def pO:Di->afX:=λ(i,_,_,_,l,_,j,o,o1,o2,o3,_)=>match T3 o (l.drop j.toNat) with | some t=> .inl (o,as0 t,i+1) | none=> .inr (o,o1,o2,o3)
def Bq:Dh->Prop:=λ(nb,n,i,_,_,_,_,_,_,_,_,bs)=>asQ nb bs/\n=(nb:Int)/\∃k:Nat,k<=nb/\i=k
def sr:Dh->afU:=λ(nb,_,i,o,o1,o2,o3,o4,o5,m,st,bs)=>match A4 o ((bs.take nb).drop i.toNat) i with
 |some x=> .inl (o,x.1,x.2,o4,o5,m,st,bs)
 |none=> .inr (o,o1,o2,o3,o4,o5,m,st,bs)
def Yi:X9->Prop:=λ(_,_,_,_,nb,_,_,_,bs)=>asQ nb bs
def Ya:X9->aGI:=λ(o,o1,o2,o3,nb,o5,m,st,bs)=>match A4 o (bs.take nb) 0 with
 |some x=> .inl (o,x.1,x.2,nb,o5,m,st,bs)
 |none=> .inr (o,o1,o2,o3,nb,o5,m,st,bs)
def Yb:om:=kh (P:=Tryz.prog) [aFg]
def afS:=dA.fm u5 Bq ou sr G5
def Oq:Dh->Option R9:=gN afS u5
def afV:=dA.fm u6 Bu kF pO G6
def Ot:Di->Option Sb:=gN afV u6
def Ou:wO:= {loops:=nD [(1,{aU:=[0,10,11,12]}),(4,{aU:=[0,3,10,11,12,18,19,20]})],outs:=nC [(1,{},{}),(4,{aU:=[0,10,11,12]},{})],fu:=np [(1,afS),(4,afV)]}
def aGG:= @G2 Tryz.prog Yb Ou 0 Tryz.f117 _ aiF
abbrev aO2:=aiz @aGG Yi Yj Ya Ow
def afT:= @eE Tryz.prog Yb Ou 0 Tryz.f117 0 _ u5
abbrev Yc:=lu Tryz.prog Yb Ou 0 Tryz.f117 0 u5 Bq ou sr G5
def afW:= @eE Tryz.prog Yb Ou 0 Tryz.f117 1 _ u6
abbrev Yf:=lu Tryz.prog Yb Ou 0 Tryz.f117 1 u6 Bu kF pO G6
theorem amF:jd Oq Bq ou sr:=na (jK [.n,.d ti,.d ti,.d aV,.d (.pair ti .unit),.d ti,.d .bool,.n,.n,.d (.slice (.pair aV eS)),.d (.slice cC),.d (.slice dU)] λ_=>by kernel_rfl)
theorem Sa:oe @afT u5 Bq ou sr G5 Yc:=oB
theorem Ee{R:Type}(T7:Nat)(t11:Int)(t12:Int)(o0:bw)(o1:(Int×Unit))(ea:Int)(Km:Bool)(o5L:Nat)(o6L:Nat)(avx:(List (bw×dS)))(avy:(List bW))(aeK:(List dz))(kn:AS->Option R)(kx:Exit->AS->Option R):afT (T7,t11,t12,o0,o1,ea,Km,o5L,o6L,avx,avy,aeK) kn kx=aG ((fP t12 t11)) (aG (ed t12 ((T7:Nat):Int)) (aG (decide ((0+(ae t12)) < (ag aeK))) (aG (decide ((((0+(ae t12))*36)+0)=(0+((ae t12)*36)))) (ak (Ot (t12,T7,t11,t12,(nth dU aeK (0+(ae t12))).2.2.1,(((ag (nth dU aeK (0+(ae t12))).2.2.1):Nat):Int),(0:Int),o0,o1,ea,Km,o5L,o6L,avx,avy,aeK)) λx1=>aG (x1.isLeft) (ak (x1.getLeft?) λa2=>kx (Br (a2.2.1,a2.2.2.1,a2.2.2.2,a2.1.1,a2.1.2.1,a2.1.2.2.1,a2.1.2.2.2.1,a2.1.2.2.2.2)).1 (Br (a2.2.1,a2.2.2.1,a2.2.2.2,a2.1.1,a2.1.2.1,a2.1.2.2.1,a2.1.2.2.2.1,a2.1.2.2.2.2)).2) (ak (x1.getRight?) λb3=>kn (u5 (b3.1.1,b3.1.2.1,(bH .i64 b3.1.2.2.1 (1:Int)),b3.2.1,b3.2.2.1,b3.2.2.2.1,b3.2.2.2.2,b3.1.2.2.2.1,b3.1.2.2.2.2.1,b3.1.2.2.2.2.2.1,b3.1.2.2.2.2.2.2.1,b3.1.2.2.2.2.2.2.2)))) none) none) none) (kx (Bt (o0,o1,ea,Km,o5L,o6L,avx,avy,aeK)).1 (Bt (o0,o1,ea,Km,o5L,o6L,avx,avy,aeK)).2):=by kernel_rfl
theorem amG:jd Ot Bu kF pO:=na (jK [.d ti,.n,.d ti,.d ti,.d (.slice eH),.d ti,.d ti,.d aV,.d (.pair ti .unit),.d ti,.d .bool,.n,.n,.d (.slice (.pair aV eS)),.d (.slice cC),.d (.slice dU)] λ_=>by kernel_rfl)
theorem Sc:oe @afW u6 Bu kF pO G6 Yf:=oB
theorem Ef{R:Type}(i:Int)(I5:Nat)(Ww:Int)(Wx:Int)(t18:(List dM))(t19:Int)(t20:Int)(Bp:bw)(dO:(Int×Unit))(jL:Int)(E7:Bool)(HZ:Nat)(H0:Nat)(aa5:(List (bw×dS)))(aa6:(List bW))(aa7:(List dz))(kn:AS->Option R)(kx:Exit->AS->Option R):afW (i,I5,Ww,Wx,t18,t19,t20,Bp,dO,jL,E7,HZ,H0,aa5,aa6,aa7) kn kx=aG ((fP t20 t19)) (aG (ed t20 (((ag t18):Nat):Int)) (same (qE Tryz.prog 4294967824) (qE Tryz.prog 4294967824) (ak (Wt ((bH .i64 i (1:Int)),(nth eH t18 (ae t20)),Bp,Bp,dO,jL,E7)) λx1=>aG (x1.isLeft) (ak (x1.getLeft?) λaOG=>kx (Bv ((HZ,H0,aa5,aa6,aa7),(aOG.1.1,aOG.2,aOG.1.2))).1 (Bv ((HZ,H0,aa5,aa6,aa7),(aOG.1.1,aOG.2,aOG.1.2))).2) (ak (x1.getRight?) λaOH=>kn (u6 (i,I5,Ww,Wx,t18,t19,(bH .i64 t20 (1:Int)),aOH.1,aOH.2.1,aOH.2.2.1,aOH.2.2.2,HZ,H0,aa5,aa6,aa7))))) none) (kx (Bw ((I5,Ww,Wx,HZ,H0,aa5,aa6,aa7),(Bp,dO,jL,E7))).1 (Bw ((I5,Ww,Wx,HZ,H0,aa5,aa6,aa7),(Bp,dO,jL,E7))).2):=by kernel_rfl
theorem aO3{R:Type}(ir:bw)(o1bb:(Int×Unit))(o2:Int)(o3:Bool)(o5baL:Nat)(o6baL:Nat)(o7:(List (bw×dS)))(o8:(List bW))(o9:(List dz))(k:fx->Option R):aGG (ir,o1bb,o2,o3,o5baL,o6baL,o7,o8,o9) k=ak (Oq (o5baL,((o5baL:Nat):Int),(0:Int),ir,o1bb,o2,o3,o5baL,o6baL,o7,o8,o9)) λx5=>aG (x5.isLeft) (ak (x5.getLeft?) λa6=>k (Ow (.inl (a6.1,a6.2.1,a6.2.2.1,a6.2.2.2.1,a6.2.2.2.2.1,a6.2.2.2.2.2.1,a6.2.2.2.2.2.2.1,a6.2.2.2.2.2.2.2)))) (ak (x5.getRight?) λb7=>k (Ow (.inr (b7.1,b7.2.1,b7.2.2.1,b7.2.2.2.1,b7.2.2.2.2.1,b7.2.2.2.2.2.1,b7.2.2.2.2.2.2.1,b7.2.2.2.2.2.2.2.1,b7.2.2.2.2.2.2.2.2)))):=by kernel_rfl
theorem atc:Yf:=by
 refine Sc (λ(_,_,_,_,l,_,j,_)=>l.length - j.toNat) ?_
 rintro⟨i,nb,n0,i0,l,n,j,o,o1,o2,o3,o4,o5,m,st,bs⟩ ⟨⟨hi,aVJ⟩,hl,hv,rfl,k,hk,rfl⟩;have hl:l.length<=1000000:=hl;have hk:k<=l.length:=hk;have hi:0<=i:=hi;have aVJ:i<=1000000:=aVJ;by_cases gv:k < l.length
 ·have n1:nth eH l k=l[k]:=bV (t:=eH) gv;have hd:l.drop k=l[k]::l.drop (k+1):=ao gv;have hw:=aw6 (d:=(i+1,l[k],o,o,o1,o2,o3)) (hv _ (aM gv));by_cases he:(dJ l[k]).any (asS o)=true
  ·right;refine⟨Bv ((o4,o5,m,st,bs),(o,as0 l[k],i+1)),?_,λkn kx=> ?_⟩;rotate_left
   ·rw[Ef,aT (by omega),aj,bf (by omega) (by omega),aj,aa,n1,TV,fE (by omega) (by omega),hw];simp only[ah,D5,if_pos he,A3,ot,aj,lV]
   ·simp only[kF,pO,aa,hd,T3,if_pos he];rfl
  ·left;refine⟨(i,nb,n0,i0,l,(l.length:Int),((k+1:Nat):Int),o,o1,o2,o3,o4,o5,m,st,bs),⟨⟨hi,aVJ⟩,hl,hv,rfl,k+1,by omega,rfl⟩,by simp only[aa];omega,?_,λkn kx=> ?_⟩
   ·simp only[kF,pO,aa,hd,T3,if_neg he]
   ·rw[Ef,aT (by omega),aj,bf (by omega) (by omega),aj,aa,n1,TV,fE (by omega) (by omega),hw];simp only[ah,D5,if_neg he,A3,ee,al,dv];rw[N.mq (by omega)]
 ·right;obtain rfl:k=l.length:=by omega
  refine⟨Bw ((nb,n0,i0,o4,o5,m,st,bs),(o,o1,o2,o3)),?_,λkn kx=> ?_⟩;rotate_left
  ·rw[Ef,aO (by omega),al]
  ·simp only[kF,pO,aa,aK,T3];rfl
theorem as9:Yc:=by
 refine Sa (λ(nb,_,i,_)=>nb - i.toNat) ?_
 rintro⟨nb,n,i,o,o1,o2,o3,o4,o5,m,st,bs⟩ ⟨⟨h1,h2,h3⟩,rfl,k,hk,rfl⟩;have h1:nb<=bs.length:=h1;have h2:nb<=1000000:=h2;have hk:k<=nb:=hk;by_cases gv:k < nb
 ·have hb:k < bs.length:=by omega
  have n1:nth dU bs k=bs[k]:=bV (t:=dU) hb;have hd:(bs.take nb).drop k=bs[k]::(bs.take nb).drop (k+1):=by have:=ao (l:=bs.take nb) (i:=k) (by rw[bq];omega);rwa[List.getElem_take]at this
  obtain⟨⟨q1,q2⟩,_⟩:=h3 _ (aM hb);have q1:bs[k].2.2.1.length<=1000000:=gz q1 (by decide);have hw:=amG (d:=((k:Int),nb,(nb:Int),(k:Int),bs[k].2.2.1,(bs[k].2.2.1.length:Int),0,o,o1,o2,o3,o4,o5,m,st,bs)) ⟨⟨by omega,by omega⟩,q1,q2,rfl,0,aL _,rfl⟩;have z1:((0:Int)).toNat=0:=rfl;cases he:T3 o bs[k].2.2.1 with
  |some t=>
   right;refine⟨Br (o,as0 t,(k:Int)+1,o4,o5,m,st,bs),?_,λkn kx=> ?_⟩;rotate_left
   ·rw[Ee,aT (by omega),aj,bf (by omega) (by omega),aj,aa,aJ,gq hb,aj,gq (by omega),aj,n1,hw];simp only[ah,pO,z1,aF,he,kF,ot,aj,lV]
   ·simp only[ou,sr,aa,hd,A4,he];rfl
  |none=>
   left;refine⟨(nb,(nb:Int),((k+1:Nat):Int),o,o1,o2,o3,o4,o5,m,st,bs),⟨⟨h1,h2,h3⟩,rfl,k+1,by omega,rfl⟩,by simp only[aa];omega,?_,λkn kx=> ?_⟩
   ·simp only[ou,sr,aa,hd,A4,he];rfl
   ·rw[Ee,aT (by omega),aj,bf (by omega) (by omega),aj,aa,aJ,gq hb,aj,gq (by omega),aj,n1,hw];simp only[ah,pO,z1,aF,he,kF,ee,al,dv];rw[N.mq (by omega)]
 ·right;obtain rfl:k=nb:=by omega
  refine⟨Bt (o,o1,o2,o3,o4,o5,m,st,bs),?_,λkn kx=> ?_⟩;rotate_left
  ·rw[Ee,aO (by omega),al]
  ·have hd:(bs.take k).drop k=[]:=List.drop_eq_nil_of_le (by rw[bq];omega);simp only[ou,sr,aa,hd,A4];rfl
theorem aO4:aO2:=by
 rintro⟨o,o1,o2,o3,nb,o5,m,st,bs⟩ h;have h:asQ nb bs:=h;rw[aO3,amF (d:=(nb,(nb:Int),0,o,o1,o2,o3,nb,o5,m,st,bs)) ⟨h,rfl,0,aL _,rfl⟩];have z1:((0:Int)).toNat=0:=rfl;simp only[ah,sr,z1,aF,Ya];cases A4 o (bs.take nb) 0 with
 |some h=>rfl
 |none=>rfl
def aGH:=Entry.aeF [none,none] aiF Yi Yj Ya Ow
def afY:X9->Option atd:=KB aGH aiF
theorem aGJ:jd afY Yi Yj Ya:=acu (W0 [.d aV,.d (.pair ti .unit),.d ti,.d .bool,.n,.n,.d (.slice (.pair aV eS)),.d (.slice cC),.d (.slice dU)] λ_=>by kernel_rfl)
def aO5:SG Tryz.prog:=⟨117,lO,aGH,.of (.aUp (.fn 2 (by kernel_rfl) aO4 (And.intro (.fm as9 (by kernel_rfl)) (And.intro (.fm atc (by kernel_rfl)) trivial)))) (by rfl)⟩
abbrev agk:=bw×Nat×Nat×(List (bw×dS))×(List bW)×(List dz)
abbrev aBA:=dM×Int×Bool×Nat×Nat×(List (bw×dS))×(List bW)×(List dz)
def anF:agk->Prop:=λ(_,nb,_,_,_,bs)=>asQ nb bs
def SB:agk->aBA:=λ(o,nb,n,m,st,bs)=>match A4 o (bs.take nb) 0 with
 |some x=>(x.1,x.2,true,nb,n,m,st,bs)
 |none=>(eH.zero,0,false,nb,n,m,st,bs)
def vQ:Fs Tryz.prog anF bm SB:=eI 33 Tryz.f33 (λ(o,o0baL,o1baL,o2,o3,o4)=>([.ptr (.bh 0) 0 [] 0,.d aV o],[.obj 0 false (.pr (.ptr (.bh 1) 0 [] 0) (.pr (.bu (.bh 4) 0 [] 0 0 o0baL) (.d .unit ()))),.obj 0 false (.pr (.cm (.bh 2) 0) (.pr (.bu (.bh 3) 0 [] 0 0 o1baL) (.d .unit ()))),.obj 0 false (.mp aV eS o2),.obj 0 false (.vec 256 cC o3),.obj 0 false (.vec 48 dU o4)])) (λx=>⟨.cons (.d eH x.1) (.cons (.d ti x.2.1) (.cons (.d .bool x.2.2.1) (.nil))),[.obj 0 false (.pr (.ptr (.bh 1) 0 [] 0) (.pr (.bu (.bh 4) 0 [] 0 0 x.2.2.2.1) (.d .unit ()))),.obj 0 false (.pr (.cm (.bh 2) 0) (.pr (.bu (.bh 3) 0 [] 0 0 x.2.2.2.2.1) (.d .unit ()))),.obj 0 false (.mp aV eS x.2.2.2.2.2.1),.obj 0 false (.vec 256 cC x.2.2.2.2.2.2.1),.obj 0 false (.vec 48 dU x.2.2.2.2.2.2.2)],[]⟩) [none,some aV] [aHN,aO5] {res:=[some eH,none,none],rf:=np [(13,(4294967824,[3,4,5,6]))]}
theorem at3{R:Type}(o o0baL o1baL o2 o3 o4)(k:K1 R):vQ.A (o,o0baL,o1baL,o2,o3,o4) k=ak (YM.call (o0baL,o1baL,o2,o3,o4)) λx1=>ak (afY (o,(0,()),0,false,x1.1,x1.2.1,x1.2.2.1,x1.2.2.2.1,x1.2.2.2.2)) λx2=>aG (x2.isLeft) (ak (x2.getLeft?) λaXm=>k (vQ.out (aXm.2.1,aXm.2.2.1,true,aXm.2.2.2.1,aXm.2.2.2.2.1,aXm.2.2.2.2.2.1,aXm.2.2.2.2.2.2.1,aXm.2.2.2.2.2.2.2))) (ak (x2.getRight?) λaZP=>k (vQ.out ((([]:List gC),(([]:List gR),(0,()))),0,false,aZP.2.2.2.2.1,aZP.2.2.2.2.2.1,aZP.2.2.2.2.2.2.1,aZP.2.2.2.2.2.2.2.1,aZP.2.2.2.2.2.2.2.2))):=by kernel_rfl
theorem at4:vQ.Ok:=by
 rintro⟨o,nb,n,m,st,bs⟩ h;have h:asQ nb bs:=h;rw[at3,aBu (d:=(nb,n,m,st,bs)) trivial];simp only[ah,agc,ayj];rw[aGJ (d:=(o,(0,()),0,false,nb,n,m,st,bs)) h];simp only[ah,Ya,SB];cases A4 o (bs.take nb) 0 with
 |some h=>rfl
 |none=>rfl
theorem anG:vQ.RS:=rE [.d aV,.n,.n,.d (.slice (.pair aV eS)),.d (.slice cC),.d (.slice dU)] vQ
def at5:=vQ.eN at4
abbrev zZ:=Int×Int×Nat×(List (bw×dS))×(List bW)
def sz:zZ->AS:=λ(t7,t8,o0L,dO,ea)=>⟨([.ptr (.bh 0) 0 [] 0]++aP 6 ([.d ti t7,.d ti t8]++aP 5 [])),[.obj 0 false (.pr (.cm (.bh 1) 0) (.pr (.bu (.bh 2) 0 [] 0 0 o0L) fL)),.obj 0 false (.mp aV eS dO),.obj 0 false (.vec 256 cC ea)],(ab 14 [])⟩
abbrev anb:=Nat×(List (bw×dS))×(List bW)
abbrev Uu:=Nat×(List (bw×dS))×(List bW)
def yd:Uu->Exit×AS:=λx=>(.ret,⟨(aP 4 ([.d .bool false]++aP 9 [])),[.obj 0 false (.pr (.cm (.bh 1) 0) (.pr (.bu (.bh 2) 0 [] 0 0 x.1) fL)),.obj 0 false (.mp aV eS x.2.1),.obj 0 false (.vec 256 cC x.2.2)],(ab 14 [])⟩)
abbrev ane:=Nat×(List (bw×dS))×(List bW)
abbrev Uv:=Nat×(List (bw×dS))×(List bW)
def ye:Uv->Exit×AS:=λx=>(.exit 0,⟨(aP 14 []),[.obj 0 false (.pr (.cm (.bh 1) 0) (.pr (.bu (.bh 2) 0 [] 0 0 x.1) fL)),.obj 0 false (.mp aV eS x.2.1),.obj 0 false (.vec 256 cC x.2.2)],(ab 14 [])⟩)
abbrev Ms:=(Uu)⊕(Uv)
abbrev YG:=(anb)⊕(ane)
def Ej:Ms->Out (Exit×AS):=λx=> .br x.isLeft (.get x.getLeft? λa=> .ok (yd a)) (.get x.getRight? λb=> .ok (ye b))
def mO:zZ->YG->Ms:=λ(t7,t8,o0L,dO,ea) y=>match y with | .inl y=> .inl y | .inr z=> .inr (z)
abbrev ayd:=dz×Nat×(List (bw×dS))×(List bW)
abbrev aPv:=Bool×Nat×(List (bw×dS))×(List bW)
def D7:Nat->aGC->Bool×aGC
 | 0,S=>(true,S)
 |k+1,S=>if S.1=0 then(false,S) else D7 k (S.1 - 1,xq S.2.1 (nth cC S.2.2 (S.1 - 1)),S.2.2)
def as3(n:Nat)(s:List bW):Prop:=n<=s.length/\s.length<=1000000/\∀st∈s,aiB st
theorem aN8:∀(k:Nat) (S:aGC),as3 S.1 S.2.2->as3 (D7 k S).2.1 (D7 k S).2.2.2
 | 0,S,h=>h
 |k+1,S,h=>by
  unfold D7;split
  ·exact h
  ·exact aN8 k _ ⟨by have:=h.1;show S.1 - 1<=S.2.2.length;omega,h.2⟩
def yc:zZ->Prop:=λ(d,i,n,_,s)=>as3 n s/\∃m k:Nat,d=m/\i=k/\k<=m/\m<=1000
def ow:zZ->YG:=λ(d,i,n,a,s)=>if(D7 (d - i).toNat (n,a,s)).1=true then .inr (D7 (d - i).toNat (n,a,s)).2 else .inl (D7 (d - i).toNat (n,a,s)).2
def aA6:ayd->Prop:=λ(b,n,_,s)=>b.2.2.1.length<=1000/\as3 n s
def aiQ:ayd->aPv:=λ(b,n,a,s)=>D7 b.2.2.1.length (n,a,s)
def YE:=dA.fm sz yc mO ow Ej
def Kw:zZ->Option Ms:=gN YE sz
def F3:Fs Tryz.prog aA6 bm aiQ:=eI 104 Tryz.f104 (λ(b,o0baL,o1,o2)=>([.ptr (.bh 0) 0 [] 0,.d dU b],[.obj 0 false (.pr (.cm (.bh 1) 0) (.pr (.bu (.bh 2) 0 [] 0 0 o0baL) (.d .unit ()))),.obj 0 false (.mp aV eS o1),.obj 0 false (.vec 256 cC o2)])) (λx=>⟨.d .bool x.1,[.obj 0 false (.pr (.cm (.bh 1) 0) (.pr (.bu (.bh 2) 0 [] 0 0 x.2.1) (.d .unit ()))),.obj 0 false (.mp aV eS x.2.2.1),.obj 0 false (.vec 256 cC x.2.2.2)],[]⟩) [none,some dU] [aIX] {loops:=nD [(2,{aU:=[0,7,8]})],outs:=nC [(2,{},{aU:=[4]})],fu:=np [(2,YE)]}
def YF:= @eE Tryz.prog (kh F3.G) F3.an 0 Tryz.f104 0 _ sz
abbrev Ut:=lu Tryz.prog (kh F3.G) F3.an 0 Tryz.f104 0 sz yc mO ow Ej
theorem aiR:jd Kw yc mO ow:=na (jK [.d ti,.d ti,.n,.d (.slice (.pair aV eS)),.d (.slice cC)] λ_=>by kernel_rfl)
theorem OJ:oe @YF sz yc mO ow Ej Ut:=oB
theorem Cs{R:Type}(t7:Int)(t8:Int)(o0L:Nat)(dO:(List (bw×dS)))(ea:(List bW))(kn:AS->Option R)(kx:Exit->AS->Option R):YF (t7,t8,o0L,dO,ea) kn kx=aG ((fP t8 t7)) (ak (An.call (o0L,dO,ea)) λx1=>aG ((!x1.1)) (kx (yd (x1.2.1,x1.2.2.1,x1.2.2.2)).1 (yd (x1.2.1,x1.2.2.1,x1.2.2.2)).2) (kn (sz (t7,(bH .i64 t8 (1:Int)),x1.2.1,x1.2.2.1,x1.2.2.2)))) (kx (ye (o0L,dO,ea)).1 (ye (o0L,dO,ea)).2):=by kernel_rfl
theorem aHk{R:Type}(b o0baL o1 o2)(k:K1 R):F3.A (b,o0baL,o1,o2) k=ak (Kw ((b.2.2.1.length:Int),0,o0baL,o1,o2)) λx2=>aG (x2.isLeft) (ak (x2.getLeft?) λa3=>k (F3.out (false,a3.1,a3.2.1,a3.2.2))) (ak (x2.getRight?) λb4=>k (F3.out (true,b4.1,b4.2.1,b4.2.2))):=by kernel_rfl
theorem anf:Ut:=by
 refine OJ (λ(d,i,_)=>(d - i).toNat) ?_
 rintro⟨d,i,n,a,s⟩ ⟨hg,m,k,rfl,rfl,hk,hm⟩;have hg:as3 n s:=hg;have hk:k<=m:=hk;have hm:m<=1000:=hm;by_cases gv:k < m
 ·obtain⟨j,hj⟩:∃j,m=k+1+j:=⟨m - (k+1),by omega⟩;have e1:((m:Int) - (k:Int)).toNat=j+1:=by omega
  have e2:((m:Int) - ((k+1:Nat):Int)).toNat=j:=by omega
  have hc:=agz (d:=(n,a,s)) hg;by_cases h0:n=0
  ·right;refine⟨yd (n,a,s),?_,λkn kx=> ?_⟩;rotate_left
   ·rw[Cs,aT (by omega),aj,hc];simp only[ah,bm,XB,if_pos h0,eT,aj]
   ·simp only[mO,ow,e1,D7,if_pos h0,bE,bp];rfl
  ·left;refine⟨((m:Int),((k+1:Nat):Int),n - 1,xq a (nth cC s (n - 1)),s),⟨⟨by have:=hg.1;omega,hg.2⟩,m,k+1,rfl,rfl,by omega,hm⟩,by simp only[e1,e2];omega,?_,λkn kx=> ?_⟩
   ·simp only[mO,ow,e1,e2];rw[D7,if_neg h0]
   ·rw[Cs,aT (by omega),aj,hc];simp only[ah,bm,XB,if_neg h0,ct,al];rw[N.mq (by omega)]
 ·right;obtain rfl:k=m:=by omega
  refine⟨ye (n,a,s),?_,λkn kx=> ?_⟩;rotate_left
  ·rw[Cs,aO (by omega),al]
  ·have e1:((k:Int) - (k:Int)).toNat=0:=by omega
   simp only[mO,ow,e1,D7,bG];rfl
theorem aHl:F3.Ok:=by
 rintro⟨b,n,a,s⟩ ⟨hl,hg⟩;have hl:b.2.2.1.length<=1000:=hl;have e:((b.2.2.1.length:Int) - 0).toNat=b.2.2.1.length:=by omega
 rw[aHk,aiR (d:=((b.2.2.1.length:Int),0,n,a,s)) ⟨hg,b.2.2.1.length,0,rfl,rfl,aL _,hl⟩];simp only[ah,ow,e,aiQ];cases hu:D7 b.2.2.1.length (n,a,s) with
 |mk r S=>
  cases r with
  |true=>rfl
  |false=>rfl
theorem aA7:F3.RS:=rE [.d dU,.n,.d (.slice (.pair aV eS)),.d (.slice cC)] F3
def aHm:=F3.eN aHl 1 ⟨.fm anf,trivial⟩
abbrev tA:=(List dz)×Int×Int×Nat×Nat×(List (bw×dS))×(List bW)×(List dz)×Nat×Nat×(List (bw×dS))×(List bW)×(List dz)
def nH:tA->AS:=λ(Bn,t32,t33,o0L,o1L,ea,Km,y5,Nw,Nx,n31,aaJ,Lh)=>⟨([.ptr (.bh 0) 0 [] 0,bA,.d (.slice dU) Bn]++aP 4 ([eG 31]++aP 24 ([.d ti t32,.d ti t33]++aP 47 []))),[.obj 0 false (.pr (.ptr (.bh 1) 0 [] 0) (.pr (.bu (.bh 4) 0 [] 0 0 o0L) fL)),.obj 0 false (.pr (.cm (.bh 2) 0) (.pr (.bu (.bh 3) 0 [] 0 0 o1L) fL)),.obj 0 false (.mp aV eS ea),.obj 0 false (.vec 256 cC Km),.obj 0 false (.vec 48 dU y5)],(bC 31 ([[.obj 0 false (.pr (.ptr (.new 31 1) 0 [] 0) (.pr (.bu (.new 31 4) 0 [] 0 0 Nw) fL)),.obj 0 false (.pr (.cm (.new 31 2) 0) (.pr (.bu (.new 31 3) 0 [] 0 0 Nx) fL)),.obj 0 false (.mp aV eS n31),.obj 0 false (.vec 256 cC aaJ),.obj 0 false (.vec 48 dU Lh)]]++bC 49 []))⟩
abbrev aeg:=Nat×Nat×(List (bw×dS))×(List bW)
abbrev KE:=((List dz)×Nat×Nat×(List (bw×dS))×(List bW)×(List dz)×(List dz))×(Nat×Nat×(List (bw×dS))×(List bW))
def tD:KE->Exit×AS:=λx=>(.exit 1,⟨([.ptr (.bh 0) 0 [] 0,bA,.d (.slice dU) x.1.1]++aP 4 ([eG 31]++aP 73 [])),[.obj 0 false (.pr (.ptr (.bh 1) 0 [] 0) (.pr (.bu (.bh 4) 0 [] 0 0 x.1.2.1) fL)),.obj 0 false (.pr (.cm (.bh 2) 0) (.pr (.bu (.bh 3) 0 [] 0 0 x.1.2.2.1) fL)),.obj 0 false (.mp aV eS x.1.2.2.2.1),.obj 0 false (.vec 256 cC x.1.2.2.2.2.1),.obj 0 false (.vec 48 dU x.1.2.2.2.2.2.1)],(bC 31 ([[.obj 0 false (.pr (.ptr (.new 31 1) 0 [] 0) (.pr (.bu (.new 31 4) 0 [] 0 0 x.2.1) fL)),.obj 0 false (.pr (.cm (.new 31 2) 0) (.pr (.bu (.new 31 3) 0 [] 0 0 x.2.2.1) fL)),.obj 0 false (.mp aV eS x.2.2.2.1),.obj 0 false (.vec 256 cC x.2.2.2.2),.obj 0 false (.vec 48 dU x.1.2.2.2.2.2.2)]]++bC 49 []))⟩)
abbrev Eu:=KE
abbrev OV:=aeg
def Hi:Eu->Out (Exit×AS):=λx=> .ok (tD x)
def jU:tA->OV->Eu:=λ(Bn,t32,t33,o0L,o1L,ea,Km,y5,Nw,Nx,n31,aaJ,Lh) y=>((Bn,o0L,o1L,ea,Km,y5,Lh),y)
abbrev tE:=(List dz)×Int×Int×Nat×Nat×(List (bw×dS))×(List bW)×(List dz)×Nat×Nat×(List (bw×dS))×(List bW)×(List dz)
def nI:tE->AS:=λ(t63,t64,t65,gQ,ug,jL,E7,aa4,Ny,Nz,aaK,aaL,aaM)=>⟨([.ptr (.bh 0) 0 [] 0]++aP 6 ([eG 31]++aP 55 ([.d (.slice dU) t63,.d ti t64,.d ti t65]++aP 15 []))),[.obj 0 false (.pr (.ptr (.bh 1) 0 [] 0) (.pr (.bu (.bh 4) 0 [] 0 0 gQ) fL)),.obj 0 false (.pr (.cm (.bh 2) 0) (.pr (.bu (.bh 3) 0 [] 0 0 ug) fL)),.obj 0 false (.mp aV eS jL),.obj 0 false (.vec 256 cC E7),.obj 0 false (.vec 48 dU aa4)],(bC 31 ([[.obj 0 false (.pr (.ptr (.new 31 1) 0 [] 0) (.pr (.bu (.new 31 4) 0 [] 0 0 Ny) fL)),.obj 0 false (.pr (.cm (.new 31 2) 0) (.pr (.bu (.new 31 3) 0 [] 0 0 Nz) fL)),.obj 0 false (.mp aV eS aaK),.obj 0 false (.vec 256 cC aaL),.obj 0 false (.vec 48 dU aaM)]]++bC 49 []))⟩
abbrev aei:=Int
abbrev KG:=(Nat×Nat×(List (bw×dS))×(List bW)×(List dz))×(Int)
def tG:KG->Exit×AS:=λx=>(.ret,⟨(aP 6 ([.d ti x.2]++aP 74 [])),[.obj 0 false (.pr (.ptr (.bh 1) 0 [] 0) (.pr (.bu (.bh 4) 0 [] 0 0 x.1.1) fL)),.obj 0 false (.pr (.cm (.bh 2) 0) (.pr (.bu (.bh 3) 0 [] 0 0 x.1.2.1) fL)),.obj 0 false (.mp aV eS x.1.2.2.1),.obj 0 false (.vec 256 cC x.1.2.2.2.1),.obj 0 false (.vec 48 dU x.1.2.2.2.2)],(ab 81 [])⟩)
abbrev aej:=Nat×Nat×(List (bw×dS))×(List bW)×(List dz)
abbrev KH:=(Nat×Nat×(List (bw×dS))×(List bW)×(List dz))×(Nat×Nat×(List (bw×dS))×(List bW)×(List dz))
def tI:KH->Exit×AS:=λx=>(.exit 3,⟨([.ptr (.bh 0) 0 [] 0]++aP 6 ([eG 31]++aP 73 [])),[.obj 0 false (.pr (.ptr (.bh 1) 0 [] 0) (.pr (.bu (.bh 4) 0 [] 0 0 x.1.1) fL)),.obj 0 false (.pr (.cm (.bh 2) 0) (.pr (.bu (.bh 3) 0 [] 0 0 x.1.2.1) fL)),.obj 0 false (.mp aV eS x.1.2.2.1),.obj 0 false (.vec 256 cC x.1.2.2.2.1),.obj 0 false (.vec 48 dU x.1.2.2.2.2)],(bC 31 ([[.obj 0 false (.pr (.ptr (.new 31 1) 0 [] 0) (.pr (.bu (.new 31 4) 0 [] 0 0 x.2.1) fL)),.obj 0 false (.pr (.cm (.new 31 2) 0) (.pr (.bu (.new 31 3) 0 [] 0 0 x.2.2.1) fL)),.obj 0 false (.mp aV eS x.2.2.2.1),.obj 0 false (.vec 256 cC x.2.2.2.2.1),.obj 0 false (.vec 48 dU x.2.2.2.2.2)]]++bC 49 []))⟩)
abbrev Ev:=(KG)⊕(KH)
abbrev OY:=(aei)⊕(aej)
def Aa:Ev->Out (Exit×AS):=λx=> .br x.isLeft (.get x.getLeft? λa=> .ok (tG a)) (.get x.getRight? λb=> .ok (tI b))
def jV:tE->OY->Ev:=λ(t63,t64,t65,gQ,ug,jL,E7,aa4,Ny,Nz,aaK,aaL,aaM) y=>match y with | .inl y=> .inl ((gQ,ug,jL,E7,aa4),y) | .inr z=> .inr (((gQ,ug,jL,E7,aa4),z))
abbrev Dp:=Int×(List dz)×Nat×Nat×(List (bw×dS))×(List bW)×(List dz)
def MC:Dp->SA:=λ(depth,l,o0baL,o1baL,o2,o3,o4)=>([.ptr (.bh 0) 0 [] 0,.d ti depth,.d (.slice dU) l],[.obj 0 false (.pr (.ptr (.bh 1) 0 [] 0) (.pr (.bu (.bh 4) 0 [] 0 0 o0baL) fL)),.obj 0 false (.pr (.cm (.bh 2) 0) (.pr (.bu (.bh 3) 0 [] 0 0 o1baL) fL)),.obj 0 false (.mp aV eS o2),.obj 0 false (.vec 256 cC o3),.obj 0 false (.vec 48 dU o4)])
abbrev agj:=(Int×Nat×Nat×(List (bw×dS))×(List bW)×(List dz))⊕(Int×Nat×Nat×(List (bw×dS))×(List bW)×(List dz)×Nat×(List (bw×dS))×(List bW)×(List dz))
abbrev JB:=(Int×Nat×Nat×(List (bw×dS))×(List bW)×(List dz))⊕(Int×Nat×Nat×(List (bw×dS))×(List bW)×(List dz)×Nat×(List (bw×dS))×(List bW)×(List dz))
def mw:JB->fx:=λx=>match x with | .inl x=>⟨.d ti x.1,[.obj 0 false (.pr (.ptr (.bh 1) 0 [] 0) (.pr (.bu (.bh 4) 0 [] 0 0 x.2.1) fL)),.obj 0 false (.pr (.cm (.bh 2) 0) (.pr (.bu (.bh 3) 0 [] 0 0 x.2.2.1) fL)),.obj 0 false (.mp aV eS x.2.2.2.1),.obj 0 false (.vec 256 cC x.2.2.2.2.1),.obj 0 false (.vec 48 dU x.2.2.2.2.2)],[]⟩ | .inr x=>⟨.d ti x.1,[.obj 0 false (.pr (eG 0) (.pr (.bu (.new 0 3) 0 [] 0 0 x.2.1) fL)),.obj 0 false (.pr (.cm (.bh 2) 0) (.pr (.bu (.bh 3) 0 [] 0 0 x.2.2.1) fL)),.obj 0 false (.mp aV eS x.2.2.2.1),.obj 0 false (.vec 256 cC x.2.2.2.2.1),.obj 0 false (.vec 48 dU x.2.2.2.2.2.1)],[.obj 0 false (.pr (.cm (.new 0 1) 0) (.pr (.bu (.new 0 2) 0 [] 0 0 x.2.2.2.2.2.2.1) fL)),.obj 0 false (.mp aV eS x.2.2.2.2.2.2.2.1),.obj 0 false (.vec 256 cC x.2.2.2.2.2.2.2.2.1),.obj 0 false (.vec 48 dU x.2.2.2.2.2.2.2.2.2)]⟩
def Hj:Dp->agj->JB:=λ(depth,l,o0baL,o1baL,o2,o3,o4) y=>match y with | .inl y=> .inl y | .inr y=> .inr y
abbrev aZQ:=Nat×Nat×At×List bW×List dz
def wS(bs:List dz):Nat->Nat×aGC->Nat×aGC
 | 0,X=>X
 |k+1,X=>wS bs k (X.1 - 1,(D7 (nth dU bs (X.1 - 1)).2.2.1.length X.2).2)
def iQ:List dz->aZQ->Int×aZQ
 |[],S=>(0,S)
 |b::l,S=>if(lM b S.1 (S.2.1,S.2.2.1,S.2.2.2.1) S.2.2.2.2).1≠0 then lM b S.1 (S.2.1,S.2.2.1,S.2.2.2.1) S.2.2.2.2 else iQ l (lM b S.1 (S.2.1,S.2.2.1,S.2.2.2.1) S.2.2.2.2).2
def X6:List dz->aZQ->Prop
 |[],_=>True
 |b::l,S=>Sx (b,S)/\((lM b S.1 (S.2.1,S.2.2.1,S.2.2.2.1) S.2.2.2.2).1=0->X6 l (lM b S.1 (S.2.1,S.2.2.1,S.2.2.2.1) S.2.2.2.2).2)
def tC:tA->Prop:=λ(_,d,i,_,_,_,_,_,nb,n,_,s,bs)=>as3 n s/\asQ nb bs/\∃m k:Nat,d=m/\i=k/\k<=m/\m<=1000/\m<=k+nb
def mR:tA->OV:=λ(_,d,i,_,_,_,_,_,nb,n,a,s,bs)=>wS bs (d - i).toNat (nb,n,a,s)
def tF:tE->Prop:=λ(l,m,i,_,_,_,_,_,nb,n,a,s,bs)=>l.length<=1000000/\m=(l.length:Int)/\∃k:Nat,k<=l.length/\i=k/\X6 (l.drop k) (nb,n,a,s,bs)
def kJ:tE->OY:=λ(l,_,i,_,_,_,_,_,nb,n,a,s,bs)=>if(iQ (l.drop i.toNat) (nb,n,a,s,bs)).1≠0 then .inl (iQ (l.drop i.toNat) (nb,n,a,s,bs)).1 else .inr (iQ (l.drop i.toNat) (nb,n,a,s,bs)).2
def zX(d:Int)(nb n:Nat)(a:At)(s:List bW)(bs:List dz):aZQ:=((wS (bs.take nb) d.toNat (nb,n,iH a,s.take n)).1,(wS (bs.take nb) d.toNat (nb,n,iH a,s.take n)).2.1,(wS (bs.take nb) d.toNat (nb,n,iH a,s.take n)).2.2.1,(wS (bs.take nb) d.toNat (nb,n,iH a,s.take n)).2.2.2,bs.take nb)
def wV:Dp->Prop:=λ(d,l,nb,n,a,s,bs)=>asQ nb bs/\Ea 400 n a s/\l.length<=1000000/\((1<=d/\d<=nb/\d < l.length/\d<=6)->X6 l (zX d nb n a s bs))
def jb:Dp->agj:=λ(d,l,nb,n,a,s,bs)=>if 1<=d/\d<=nb/\d < l.length then if d<=6 then if(iQ l (zX d nb n a s bs)).1≠0 then .inl ((iQ l (zX d nb n a s bs)).1,nb,n,a,s,bs) else .inr (0,(iQ l (zX d nb n a s bs)).2.1,n,a,s,bs,(iQ l (zX d nb n a s bs)).2.2) else .inl (25,nb,n,a,s,bs) else .inl (1,nb,n,a,s,bs)
def Dq:om:=kh (P:=Tryz.prog) [BD,aBy,aHm,anx]
def OT:=dA.fm nH tC jU mR Hi
def F7:tA->Option Eu:=gN OT nH
def OW:=dA.fm nI tF jV kJ Aa
def F9:tE->Option Ev:=gN OW nI
def Ac:wO:= {loops:=nD [(7,{aU:=[0,2,7,32,33],sites:=[31]}),(13,{aU:=[0,7,63,64,65],sites:=[31],owns:=[⟨7,[.snd,.fst],31,25⟩]})],outs:=nC [(7,{aU:=[0,2,7],sites:=[31]},{aU:=[6]}),(13,{aU:=[0,7],sites:=[31]},{aU:=[6]})],fu:=np [(7,OT),(13,OW)]}
def agh:= @G2 Tryz.prog Dq Ac 0 Tryz.f56 _ MC
abbrev atZ:=aiz @agh wV Hj jb mw
def OU:= @eE Tryz.prog Dq Ac 0 Tryz.f56 0 _ nH
abbrev KD:=lu Tryz.prog Dq Ac 0 Tryz.f56 0 nH tC jU mR Hi
def OX:= @eE Tryz.prog Dq Ac 0 Tryz.f56 1 _ nI
abbrev KF:=lu Tryz.prog Dq Ac 0 Tryz.f56 1 nI tF jV kJ Aa
theorem YU:jd F7 tC jU mR:=na (jK [.d (.slice dU),.d ti,.d ti,.n,.n,.d (.slice (.pair aV eS)),.d (.slice cC),.d (.slice dU),.n,.n,.d (.slice (.pair aV eS)),.d (.slice cC),.d (.slice dU)] λ_=>by kernel_rfl)
theorem Kf:aGw @OU nH tC jU mR tD KD:=aUW
theorem F8{R:Type}(Bn:(List dz))(t32:Int)(t33:Int)(o0L:Nat)(o1L:Nat)(ea:(List (bw×dS)))(Km:(List bW))(y5:(List dz))(Nw:Nat)(Nx:Nat)(n31:(List (bw×dS)))(aaJ:(List bW))(Lh:(List dz))(kn:AS->Option R)(kx:Exit->AS->Option R):OU (Bn,t32,t33,o0L,o1L,ea,Km,y5,Nw,Nx,n31,aaJ,Lh) kn kx=aG ((fP t33 t32)) (aG (ed (cI .i64 ((Nw:Nat):Int) (1:Int)) ((Nw:Nat):Int)) (aG (decide ((0+(ae (cI .i64 ((Nw:Nat):Int) (1:Int)))) < (ag Lh))) (aG (decide ((((0+(ae (cI .i64 ((Nw:Nat):Int) (1:Int))))*36)+0)=(0+((ae (cI .i64 ((Nw:Nat):Int) (1:Int)))*36)))) (ak (F3.call ((nth dU Lh (0+(ae (cI .i64 ((Nw:Nat):Int) (1:Int))))),Nx,n31,aaJ)) λx1=>aG (inc (cI .i64 ((Nw:Nat):Int) (1:Int)) ((Nw:Nat):Int)) (kn (nH (Bn,t32,(bH .i64 t33 (1:Int)),o0L,o1L,ea,Km,y5,((ae (cI .i64 ((Nw:Nat):Int) (1:Int))) - 0),x1.2.1,x1.2.2.1,x1.2.2.2,Lh))) none) none) none) none) (kx (tD ((Bn,o0L,o1L,ea,Km,y5,Lh),(Nw,Nx,n31,aaJ))).1 (tD ((Bn,o0L,o1L,ea,Km,y5,Lh),(Nw,Nx,n31,aaJ))).2):=by kernel_rfl
theorem YV:jd F9 tF jV kJ:=na (jK [.d (.slice dU),.d ti,.d ti,.n,.n,.d (.slice (.pair aV eS)),.d (.slice cC),.d (.slice dU),.n,.n,.d (.slice (.pair aV eS)),.d (.slice cC),.d (.slice dU)] λ_=>by kernel_rfl)
theorem Kg:oe @OX nI tF jV kJ Aa KF:=oB
theorem xw{R:Type}(t63:(List dz))(t64:Int)(t65:Int)(gQ:Nat)(ug:Nat)(jL:(List (bw×dS)))(E7:(List bW))(aa4:(List dz))(Ny:Nat)(Nz:Nat)(aaK:(List (bw×dS)))(aaL:(List bW))(aaM:(List dz))(kn:AS->Option R)(kx:Exit->AS->Option R):OX (t63,t64,t65,gQ,ug,jL,E7,aa4,Ny,Nz,aaK,aaL,aaM) kn kx=aG ((fP t65 t64)) (aG (ed t65 (((ag t63):Nat):Int)) (ak (F5.call ((nth dU t63 (ae t65)),Ny,Nz,aaK,aaL,aaM)) λx1=>aG ((BQ x1.1 (0:Int))) (kx (tG ((gQ,ug,jL,E7,aa4),x1.1)).1 (tG ((gQ,ug,jL,E7,aa4),x1.1)).2) (kn (nI (t63,t64,(bH .i64 t65 (1:Int)),gQ,ug,jL,E7,aa4,x1.2.1,x1.2.2.1,x1.2.2.2.1,x1.2.2.2.2.1,x1.2.2.2.2.2)))) none) (kx (tI ((gQ,ug,jL,E7,aa4),(Ny,Nz,aaK,aaL,aaM))).1 (tI ((gQ,ug,jL,E7,aa4),(Ny,Nz,aaK,aaL,aaM))).2):=by kernel_rfl
theorem at0{R:Type}(depth:Int)(l:(List dz))(o0baL:Nat)(o1baL:Nat)(o2:(List (bw×dS)))(o3:(List bW))(o4:(List dz))(k:fx->Option R):agh (depth,l,o0baL,o1baL,o2,o3,o4) k=aG ((fP depth (1:Int))) (k (mw (.inl ((1:Int),o0baL,o1baL,o2,o3,o4)))) (ak (oD.call (o0baL,o1baL,o2,o3,o4)) λx1=>aG ((w5 depth x1.2)) (k (mw (.inl ((1:Int),x1.1.1,x1.1.2.1,x1.1.2.2.1,x1.1.2.2.2.1,x1.1.2.2.2.2)))) (aG ((amw (((ag l):Nat):Int) depth)) (k (mw (.inl ((1:Int),x1.1.1,x1.1.2.1,x1.1.2.2.1,x1.1.2.2.2.1,x1.1.2.2.2.2)))) (aG ((w5 depth (6:Int))) (k (mw (.inl ((25:Int),x1.1.1,x1.1.2.1,x1.1.2.2.1,x1.1.2.2.2.1,x1.1.2.2.2.2)))) (ak (My.call (x1.1.1,x1.1.2.1,x1.1.2.2.1,x1.1.2.2.2.1,x1.1.2.2.2.2)) λx2=>ak (F7 (l,depth,(0:Int),x2.1,x2.2.1,x2.2.2.1,x2.2.2.2.1,x2.2.2.2.2.1,x2.2.2.2.2.2.1,x2.2.2.2.2.2.2.1,x2.2.2.2.2.2.2.2.1,x2.2.2.2.2.2.2.2.2.1,x2.2.2.2.2.2.2.2.2.2)) λx4=>ak (F9 (x4.1.1,(((ag x4.1.1):Nat):Int),(0:Int),x4.1.2.1,x4.1.2.2.1,x4.1.2.2.2.1,x4.1.2.2.2.2.1,x4.1.2.2.2.2.2.1,x4.2.1,x4.2.2.1,x4.2.2.2.1,x4.2.2.2.2,x4.1.2.2.2.2.2.2)) λx7=>aG (x7.isLeft) (ak (x7.getLeft?) λa8=>k (mw (.inl (a8.2,a8.1.1,a8.1.2.1,a8.1.2.2.1,a8.1.2.2.2.1,a8.1.2.2.2.2)))) (ak (x7.getRight?) λb9=>k (mw (.inr ((0:Int),b9.2.1,b9.1.2.1,b9.1.2.2.1,b9.1.2.2.2.1,b9.1.2.2.2.2,b9.2.2.1,b9.2.2.2.1,b9.2.2.2.2.1,b9.2.2.2.2.2)))))))):=by kernel_rfl
theorem aeh:KD:=by
 refine Kf (λ(_,d,i,_)=>(d - i).toNat) ?_
 rintro⟨l,d,i,nb0,n0,a0,s0,bs0,nb,n,a,s,bs⟩ ⟨hg,⟨h1,h2,h3⟩,m,k,rfl,rfl,hk,hm,hn⟩;have hg:as3 n s:=hg;have h1:nb<=bs.length:=h1;have h2:nb<=1000000:=h2;have hk:k<=m:=hk;have hm:m<=1000:=hm;have hn:m<=k+nb:=hn;by_cases gv:k < m
 ·left;obtain⟨j,hj⟩:∃j,m=k+1+j:=⟨m - (k+1),by omega⟩;obtain⟨p,rfl⟩:∃p,nb=p+1:=⟨nb - 1,by omega⟩;have e1:((m:Int) - (k:Int)).toNat=j+1:=by omega
  have e2:((m:Int) - ((k+1:Nat):Int)).toNat=j:=by omega
  have e3:cI .i64 (((p+1:Nat):Nat):Int) (1:Int)=(p:Int):=by rw[ez (by omega) (by omega)];omega
  have hp:p < bs.length:=by omega
  have n1:nth dU bs p=bs[p]:=bV (t:=dU) hp;have hu:=aA7 (d:=(bs[p],n,a,s)) ⟨(h3 _ (aM hp)).1.1,hg⟩;refine⟨(l,(m:Int),((k+1:Nat):Int),nb0,n0,a0,s0,bs0,p,(D7 bs[p].2.2.1.length (n,a,s)).2.1,(D7 bs[p].2.2.1.length (n,a,s)).2.2.1,(D7 bs[p].2.2.1.length (n,a,s)).2.2.2,bs),⟨aN8 _ (n,a,s) hg,⟨by omega,by omega,h3⟩,m,k+1,rfl,rfl,by omega,hm,by omega⟩,by simp only[e1,e2];omega,?_,λkn kx=> ?_⟩
  ·simp only[jU,mR,e1,e2,wS,iE,n1]
  ·rw[F8,aT (by omega),aj,e3,bf (by omega) (by omega),aj];simp only[aa,aJ,cd,aH hp,aj,cn,n1,Nat.sub_zero];rw[hu];simp only[ah,bm,aiQ];rw[tW (by omega) (by omega),aj,N.mq (by omega)]
 ·right;obtain rfl:k=m:=by omega
  intro R kn kx;have e1:((k:Int) - (k:Int)).toNat=0:=by omega
  rw[F8,aO (by omega),al];simp only[jU,mR,e1,wS]
theorem aek:KF:=by
 refine Kg (λ(l,_,i,_)=>l.length - i.toNat) ?_
 rintro⟨l,m,i,nb0,n0,a0,s0,bs0,nb,n,a,s,bs⟩ ⟨hl,rfl,k,hk,rfl,hg⟩;have hl:l.length<=1000000:=hl;have hk:k<=l.length:=hk;by_cases gv:k < l.length
 ·have n1:nth dU l k=l[k]:=bV (t:=dU) gv;have hd:l.drop k=l[k]::l.drop (k+1):=ao gv;have hg:X6 (l.drop k) (nb,n,a,s,bs):=hg;rw[hd]at hg;obtain⟨g1,g2⟩:=hg;have hw:=agd (d:=(l[k],nb,n,a,s,bs)) g1;obtain⟨r,hr⟩:∃r,lM l[k] nb (n,a,s) bs=r:=⟨_,rfl⟩;simp only[bm,ai4,hr]at hw g2;by_cases he:r.1=0
  ·left;refine⟨(l,(l.length:Int),((k+1:Nat):Int),nb0,n0,a0,s0,bs0,r.2.1,r.2.2.1,r.2.2.2.1,r.2.2.2.2.1,r.2.2.2.2.2),⟨hl,rfl,k+1,by omega,rfl,g2 he⟩,by simp only[aa];omega,?_,λkn kx=> ?_⟩
   ·simp only[jV,kJ,aa,hd];rw[show iQ (l[k]::l.drop (k+1)) (nb,n,a,s,bs)=iQ (l.drop (k+1)) r.2 by rw[iQ];simp only[hr];rw[if_neg (λe=>e he)]]
   ·rw[xw,aT (by omega),aj,bf (by omega) (by omega),aj,aa,n1,hw];simp only[ah];rw[dx he,al,N.mq (by omega)]
  ·right;refine⟨tG ((nb0,n0,a0,s0,bs0),r.1),?_,λkn kx=> ?_⟩;rotate_left
   ·rw[xw,aT (by omega),aj,bf (by omega) (by omega),aj,aa,n1,hw];simp only[ah];rw[fa he,aj]
   ·simp only[jV,kJ,aa,hd];rw[show iQ (l[k]::l.drop (k+1)) (nb,n,a,s,bs)=r by rw[iQ];simp only[hr];rw[if_pos he],if_pos he];rfl
 ·right;obtain rfl:k=l.length:=by omega
  refine⟨tI ((nb0,n0,a0,s0,bs0),(nb,n,a,s,bs)),?_,λkn kx=> ?_⟩;rotate_left
  ·rw[xw,aO (by omega),al]
  ·simp only[jV,kJ,aa,aK,iQ];rw[if_neg (λe=>e rfl)];rfl
theorem at1:atZ:=by
 rintro⟨d,l,nb,n,a,s,bs⟩ ⟨hc,hg,hl,hA⟩;have hg:Ea 400 n a s:=hg;have hl:l.length<=1000000:=hl;obtain⟨h1,h2,h3⟩:=id hc;have h1:nb<=bs.length:=h1;have h2:nb<=1000000:=h2;have ch:=Et (d:=(nb,n,a,s,bs)) trivial;rw[at0];by_cases a1:1<=d;rotate_left
 ·rw[aT (by omega),aj];simp only[jb];rw[if_neg (λe:1<=d/\d<=(nb:Int)/\d < (l.length:Int)=>a1 e.1)];rfl
 rw[aO (by omega),al,ch];simp only[ah,Es,MA];by_cases a2:d<=nb;rotate_left
 ·rw[df (by omega),aj];simp only[jb];rw[if_neg (λe:1<=d/\d<=(nb:Int)/\d < (l.length:Int)=>a2 e.2.1)];rfl
 rw[cE (by omega),al];by_cases a3:d < l.length;rotate_left
 ·rw[oP (by omega),aj];simp only[jb];rw[if_neg (λe:1<=d/\d<=(nb:Int)/\d < (l.length:Int)=>a3 e.2.2)];rfl
 rw[lY (by omega),al];by_cases a4:d<=6;rotate_left
 ·rw[df (by omega),aj];simp only[jb];rw[if_pos ⟨a1,a2,a3⟩,if_neg a4];rfl
 have hA:=hA ⟨a1,a2,a3,a4⟩;obtain⟨aXE,_⟩:=hg.canon;have e0:(d - 0).toNat=d.toNat:=by omega
 have z1:((0:Int)).toNat=0:=rfl;rw[cE (by omega),al,atW (d:=(nb,n,a,s,bs)) ⟨hg.mono (by decide),hc⟩];simp only[ah,YQ,anB];rw[YU (d:=(l,d,0,nb,n,a,s,bs,nb,n,iH a,s.take n,bs.take nb)) ⟨⟨aXE.le,by have:=aXE.len;omega,aXE.aNu⟩,⟨by rw[bq];omega,h2,λb hb=>h3 b (eY hb)⟩,d.toNat,0,by omega,rfl,aL _,by omega,by omega⟩];simp only[ah,jU,mR,e0];obtain⟨B,hB⟩:∃B,wS (bs.take nb) d.toNat (nb,n,iH a,s.take n)=B:=⟨_,rfl⟩;have eB:zX d nb n a s bs=(B.1,B.2.1,B.2.2.1,B.2.2.2,bs.take nb):=by unfold zX;rw[hB]
 rw[eB]at hA;rw[hB,YV (d:=(l,(l.length:Int),0,nb,n,a,s,bs,B.1,B.2.1,B.2.2.1,B.2.2.2,bs.take nb)) ⟨hl,rfl,0,aL _,rfl,hA⟩]
 have key:jb (d,l,nb,n,a,s,bs)=if(iQ l (B.1,B.2.1,B.2.2.1,B.2.2.2,bs.take nb)).1≠0 then .inl ((iQ l (B.1,B.2.1,B.2.2.1,B.2.2.2,bs.take nb)).1,nb,n,a,s,bs)
   else .inr (0,(iQ l (B.1,B.2.1,B.2.2.1,B.2.2.2,bs.take nb)).2.1,n,a,s,bs,(iQ l (B.1,B.2.1,B.2.2.1,B.2.2.2,bs.take nb)).2.2):=by
  simp only[jb];rw[if_pos ⟨a1,a2,a3⟩,if_pos a4,eB]
 rw[key];simp only[ah,kJ,z1,aF];by_cases he:(iQ l (B.1,B.2.1,B.2.2.1,B.2.2.2,bs.take nb)).1=0
 ·rw[if_neg (λe=>e he),if_neg (λe=>e he)];rfl
 ·rw[if_pos he,if_pos he];rfl
def agi:=Entry.aeF [none,some ti,some (.slice dU)] MC wV Hj jb mw
def kK:Dp->Option JB:=KB agi MC
theorem UG:jd kK wV Hj jb:=acu (W0 [.d ti,.d (.slice dU),.n,.n,.d (.slice (.pair aV eS)),.d (.slice cC),.d (.slice dU)] λ_=>by kernel_rfl)
def at2:SG Tryz.prog:=⟨56,lO,agi,.of (.aUp (.fn 2 (by kernel_rfl) at1 (And.intro (.fm aeh (by kernel_rfl)) (And.intro (.fm aek (by kernel_rfl)) trivial)))) (by rfl)⟩
def ad3:List Int:=ab 32 0
def LW(K af dl:Int):Lk:=([([fQ K],(af,(dl,(0,()))))],())
def AW(K af dl:Int):At:=[KJ 0 ((100:Int),(LW K af dl,()))]
def TW(K:Int):dM:=([((ad3,((0:Int),())),(((0:Int),(([]:List Sg),((0:Int),()))),()))],([((90:Int),(LW K 0 0,()))],((0:Int),())))
def UW(K:Int):dM:=Xu (TW K) (ae 0) (afi (TW K) 0 [K] 0)
def BW(K h:Int):At:=[((nP (TW K),((0:Int),())),(((90:Int),(LW K 0 0,())),(h,())))]
def KW(K:Int):Prop:=0 < K/\K < 2305843009213688669
theorem bai(K:Int){af dl:Int}(ha:0<=af/\af<=1048576)(hd:0<=dl/\dl<=1048576):km (LW K af dl)=true:=by have e:km (LW K af dl)=((uP ([fQ K],af,dl,0,()) && true) && true):=rfl;rw[e,aPz _ _ _ (dG rfl)];simp only[iK,List.all_nil,Z9,Nf,aH ha,aH hd,vK]
theorem bbI(K af dl:Int):ad8 (LW K af dl):=λb hb=>by rw[bn.1 (show b∈ [([fQ K],(af,(dl,(0,()))))] from hb)];exact⟨au4 (ax4 K) aCW,u0⟩
theorem aOJ:Sm ad3:=⟨b8,λx hx=>by rw[(rO.1 (show x∈ab 32 (0:Int) from hx)).2];exact⟨by decide,by decide⟩⟩
theorem aWx(K:Int):gJ (TW K)=true:=by
 have e2:xy 0 (TW K).2.1=(((rS 0 && (rS 90 && true)) && km (LW K 0 0)) && true):=rfl;have e1:DB [] (TW K).1=true:=by show DB [] [((ad3,((0:Int),())),(((0:Int),(([]:List Sg),((0:Int),()))),()))]=true;rw[DB,DB];rfl
 unfold gJ;rw[e1,e2,bai K ⟨by decide,by decide⟩ ⟨by decide,by decide⟩];rfl
theorem bdh(K:Int):qt (TW K):=by
 refine⟨⟨λo ho=> ?_,by show 1<=_;decide,by show 1<=_;decide⟩,λx hx=> ?_,by show(0:Int)<=_;decide⟩
 ·rw[bn.1 (show o∈ [((90:Int),(LW K 0 0,()))] from ho)];exact⟨bbI K 0 0,by show 1<=_;decide⟩
 ·rw[bn.1 (show x∈ [((ad3,((0:Int),())),(((0:Int),(([]:List Sg),((0:Int),()))),()))] from hx)];exact⟨aOJ,⟨λs hs=>(by cases hs),u0⟩,aL _⟩
theorem aZA{K:Int}(hk:KW K):Fw (TW K) 0 0 [K]=true:=by unfold Fw;rw[aWx,aH ⟨by decide,by show(0:Int) < ((1:Nat):Int);decide,by decide,by decide,dG rfl⟩];simp only[lr,tl,Mp];have:=hk.1;have:=hk.2;rw[aS (by omega)];rfl
theorem zV{K:Int}(hk:KW K):gJ (UW K)=true/\qt (UW K)/\nP (UW K)=nP (TW K)/\dJ (UW K)=dJ (TW K)/\gH (UW K)=gH (TW K):=aNc (bdh K) (aZA hk) u0
theorem bao{K:Int}(hk:KW K):dJ (UW K)=[(ad3,((0:Int),()))]:=by rw[(zV hk).2.2.2.1];unfold dJ;rw[if_pos (aWx K)];rfl
theorem bbJ{K:Int}(hk:KW K):gH (UW K)=[(nP (TW K),((0:Int),()))]:=by rw[(zV hk).2.2.2.2];unfold gH;rw[if_pos (aWx K)];rfl
theorem bej(K:Int):(UW K).1=[((ad3,((0:Int),())),(((((0:Nat):Int),([K].map (λk=>mf k (nP (TW K))),((0:Int),())))),()))]:=rfl
theorem bbQ{K:Int}(hk:KW K)(af dl:Int)(ha:0<=af/\af<=1048576)(hd:0<=dl/\dl<=1048576)(m:List Int)(h a:Int):
  xO (LW K af dl) (((0:Nat):Int),([K].map (λk=>mf k m),((0:Int),()))) m h a=if h < af\/a < dl then 11 else 0:=
 (aRS (l:=LW K af dl) (i:=0) (b:=([K].map fQ,af,dl,0,())) (bai K ha hd) (by show 0 < 1;decide) rfl _ _ _ _ _).trans (akH [K] (aZo hk) af dl 0 0 m h a (.inl rfl))
theorem gW(K af dl:Int):bZ aV (ad3,((0:Int),())) (AW K af dl)=some (((100:Int),(LW K af dl,())),((0:Int),())):=by unfold AW KJ;rw[fB];exact if_pos ((u7 _ _).2 rfl)
theorem nW(K af dl:Int)(m:List Int)(hm:¬m=ad3):bZ aV (m,((0:Int),())) (AW K af dl)=none:=by unfold AW KJ;rw[fB,if_neg,sN];intro e;have:=(u7 _ _).1 e;exact hm (bl (λo:bw=>o.1) this)
theorem aZh{h:Int}{m:List Int}{a:At}{x:gC}{c:dS}(hg:bZ aV x.1 a=some c):w6 h m a [x] 0=if xO c.1.2.1 x.2.1 m h (h - c.2.1)≠0 then .inl (xO c.1.2.1 x.2.1 m h (h - c.2.1)) else .inr (0+c.1.1):=by simp only[w6,hg]
theorem bdq{K:Int}(hk:KW K)(gg:¬nP (TW K)=ad3){af dl h:Int}(ha:0<=af/\af<=1048576)(hd:0<=dl/\dl<=1048576)(h1:1<=h)(h2:h<=1048576):eF (UW K) h (AW K af dl)=if h < af\/h < dl then(0,11) else(10,0):=by
 have bcT:=bbJ hk;have aoT:=bej K;have cR:=(zV hk).2.2.1;have db:=bbQ hk af dl ha hd;generalize nP (TW K)=m at gg bcT aoT cR;unfold eF;rw[if_pos ⟨(zV hk).1,h1,h2⟩,aoT,cR];have e0:h - ((0:Int))=h:=by omega
 have e:w6 h m (AW K af dl) [((ad3,((0:Int),())),(((((0:Nat):Int),([K].map (λk=>mf k m),((0:Int),())))),()))] 0=if h < af\/h < dl then .inl 11 else .inr 100:=by
  refine(aZh (gW K af dl)).trans ?_
  show(if xO (LW K af dl) (((0:Nat):Int),([K].map (λk=>mf k m),((0:Int),()))) m h (h - 0)≠0 then(.inl (xO (LW K af dl) (((0:Nat):Int),([K].map (λk=>mf k m),((0:Int),()))) m h (h - 0)):Int⊕Int) else .inr (0+100))=_;rw[e0,db];by_cases hh:h < af\/h < dl
  ·rw[if_pos hh,if_pos hh,if_pos (by decide)]
  ·rw[if_neg hh,if_neg hh,if_neg (λe=>e rfl)];rfl
 rw[e,bcT];by_cases hh:h < af\/h < dl
 ·rw[if_pos hh,if_pos hh]
 ·rw[if_neg hh,if_neg hh];have n1:([(m,((0:Int),()))]:List bw).any (pV (AW K af dl))=false:=by simp only[lr,tl,pV,nW K af dl m gg,Option.isSome_none,qH]
  simp only[n1,bE,bp];rfl
theorem bdn{K:Int}(hk:KW K)(af dl h:Int):fg (UW K) h (AW K af dl)=BW K h:=by
 unfold fg BW;rw[bao hk,bbJ hk];generalize nP (TW K)=m;have e:yC [(ad3,((0:Int),()))] (AW K af dl)=[]:=by exact aoq
 rw[e];rfl
theorem bde{K:Int}(hk:KW K)(af dl:Int):stepOf (UW K) (AW K af dl)=([((ad3,((0:Int),())),((((100:Int),(LW K af dl,())),((0:Int),())),()))],([(nP (TW K),((0:Int),()))],())):=by unfold stepOf;rw[bao hk,bbJ hk];rw[aCp (gW K af dl)]
theorem bez{K:Int}(hk:KW K)(af dl h:Int):xq (BW K h) (stepOf (UW K) (AW K af dl))=AW K af dl:=by
 rw[bde hk];unfold xq BW;generalize nP (TW K)=m;have e:yC [(m,((0:Int),()))] [((m,((0:Int),())),(((90:Int),(LW K 0 0,())),(h,())))]=[]:=by exact aoq
 rw[e];rfl
theorem bcx(K:Int){af dl:Int}(ha:0<=af/\af<=1048576)(hd:0<=dl/\dl<=1048576):Ea 0 0 (AW K af dl) []:=by refine⟨⟨cY.2 ⟨λh=>(by cases h),gm⟩,λp hp=> ?_⟩,aw _,aw _,λst h=>(by cases h),by show(100+0:Int)<=_;decide,by show 1<=_;decide⟩;rw[bn.1 (show p∈ [KJ 0 ((100:Int),(LW K af dl,()))] from hp)];exact⟨aOJ,bai K ha hd,bbI K af dl,by show(0:Int)<=100;decide,by show(100:Int)<=_;decide,iO 0,by show(0:Int)<=_;decide⟩
theorem bbM(K:Int){af dl:Int}(ha:0<=af/\af<=1048576)(hd:0<=dl/\dl<=1048576):MB [((100:Int),(LW K af dl,()))]=some (.inr (AW K af dl,[],[])):=by
 have e:aDs [((100:Int),(LW K af dl,()))]=some (AW K af dl):=by
  unfold aDs;rw[if_pos (dG rfl)];have e0:ND 0 ((100:Int),(LW K af dl,()))=true:=by unfold ND;rw[bai K ha hd];rfl
  rw[akB,e0];rfl
 rw[aBz (d:=[((100:Int),(LW K af dl,()))]) (λo ho=>by
  rw[bn.1 ho];exact⟨bbI K af dl,by show 1<=_;decide,by show(100:Int)<=_;decide⟩)]
 simp only[OS,e];rfl
theorem aZz{K:Int}(hk:KW K):uX.call (TW K,0,0,[K],0)=some (UW K,0):=by rw[aFR (d:=(TW K,0,0,[K],0)) ⟨bdh K,λx hx=>by rw[bn.1 hx];have:=hk.1;have:=hk.2;exact⟨by omega,by omega⟩,by show 1<=1000000000;decide⟩];simp only[bm,al1,aNb,aZA hk,bG];rfl
def zK(h:Int)(p:Bs)(l:List dM)(fill:Int):dz:=(h,(p,(l,(fill,([],())))))
theorem aiN{h:Int}{p:Bs}{l:List dM}{fill:Int}(hh:h<=1048576)(hp:p.length=32)(hf:0<=fill/\fill<=10)(hl:l.length<=1)(hv:∀t∈l,qt t/\gJ t=true):WS (zK h p l fill)/\aqd (zK h p l fill)=zK h p l fill:=by have hb:axU (zK h p l fill):=⟨⟨by show l.length<=_;omega,λt ht=>(hv t ht).1⟩,⟨by show h<=_;omega,hp,by show fill<=_;omega⟩,aL _,λo ho=>(by cases ho)⟩;exact⟨⟨hb,by show l.length<=_;omega,λt ht=>gz (jt (hv t ht).2).1.2.1 (by decide)⟩,akM hb λt ht=>(hv t ht).2⟩
theorem aYd{x:bw×dS}:iH [x]=[x]:=List.perm_singleton.1 (wU [x])
theorem beD{K:Int}(hk:KW K):FR (UW K)=36:=by unfold FR;rw[if_pos (zV hk).1];rfl
theorem baC(h:Int)(p:Bs)(l:List dM)(fill:Int)(t:dM):aAJ (zK h p l fill) t=false:=by unfold aAJ;rw[iZ];intro x _ e;cases e
theorem aZq{h:Int}{p:Bs}{fill:Int}{a:At}(h1:1<=h)(h2:h<=1048576)(hf:0<=fill/\fill<=10):sP (zK h p [] fill) a=(0,0):=by
 have f1:Hx h fill=true:=by unfold Hx;exact aH ⟨h1,h2,by omega,by omega⟩
 have w1:aXx (zK h p [] fill)=fill:=rfl;unfold sP;rw[if_pos (show Hx (zK h p [] fill).1 (zK h p [] fill).2.2.2.1=true from f1),w1,if_neg (by omega)];rfl
theorem aZr{K:Int}(hk:KW K){h:Int}{p:Bs}{fill:Int}{x:bw×dS}(h1:1<=h)(h2:h<=1048576)(hf:0<=fill/\fill<=10):sP (zK h p [UW K] fill) [x]=eF (UW K) h [x]:=by
 have f1:Hx h fill=true:=by unfold Hx;exact aH ⟨h1,h2,by omega,by omega⟩
 have w1:aXx (zK h p [UW K] fill)=fill+FR (UW K):=rfl;unfold sP;rw[if_pos (show Hx (zK h p [UW K] fill).1 (zK h p [UW K] fill).2.2.2.1=true from f1),w1,beD hk,if_neg (by omega)];show(RG (zK h p [UW K] fill) h [UW K] [x]).2=_;unfold RG;rw[aYd,Bd,baC];simp only[bE,bp];by_cases hc:(eF (UW K) h [x]).2=0
 ·rw[if_neg (λe=>e hc),Bd];exact Prod.ext (by show(0:Int)+_=_;omega) hc.symm
 ·rw[if_pos hc];exact Prod.ext (atX hc).symm rfl
theorem aO1{h:Int}{p:Bs}{fill:Int}{nb:Nat}{S:aGC}{bs:List dz}(hp:p=q9 nb bs)(hh:h=(nb:Int)+1)(h2:h<=1048576)(hl:p.length=32)(hf:0<=fill/\fill<=10):lM (zK h p [] fill) nb S bs=(0,nb+1,S.1,S.2.1,S.2.2,bs.take nb++ [zK h p [] fill]):=by have e:=(aiN (l:=[]) h2 hl hf (by decide) (λt ht=>(by cases ht))).2;unfold lM;rw[if_pos (show(zK h p [] fill).2.1=q9 nb bs/\(zK h p [] fill).1=(nb:Int)+1 from⟨hp,hh⟩),aZq (by omega) h2 hf,if_pos rfl,e];rfl
theorem baw{K:Int}(hk:KW K){h:Int}{p:Bs}{fill:Int}{nb n:Nat}{x:bw×dS}{s:List bW}{bs:List dz}(hp:p=q9 nb bs)(hh:h=(nb:Int)+1)(h2:h<=1048576)(hl:p.length=32)(hf:0<=fill/\fill<=10):lM (zK h p [UW K] fill) nb (n,[x],s) bs=
  if(eF (UW K) h [x]).2=0 then(0,nb+1,n+1,fg (UW K) h [x],s.take n++ [stepOf (UW K) [x]],bs.take nb++ [zK h p [UW K] fill]) else((eF (UW K) h [x]).2,nb,n,[x],s,bs):=by
 have e:=(aiN (l:=[UW K]) h2 hl hf (by show 1<=1;decide) (λt ht=>by rw[bn.1 ht];exact⟨(zV hk).2.1,(zV hk).1⟩)).2;unfold lM;rw[if_pos (show(zK h p [UW K] fill).2.1=q9 nb bs/\(zK h p [UW K] fill).1=(nb:Int)+1 from⟨hp,hh⟩),aZr hk (by omega) h2 hf,e];by_cases hc:(eF (UW K) h [x]).2=0
 ·rw[if_pos hc,if_pos hc];have eb:aBc (zK h p [UW K] fill) (n,[x],s)=amO h (n,[x],s) (UW K):=rfl;rw[eb];unfold amO;rw[if_neg (λe=>e hc)]
 ·rw[if_neg hc,if_neg hc]
theorem aPQ{n nb:Nat}{a:At}{s:List bW}{bs:List dz}(h:asQ nb bs):KI.call (nb,n,a,s,bs)=some ((nb,n,a,s,bs),q9 nb bs):=agm (d:=(nb,n,a,s,bs)) h
theorem YS{n nb:Nat}{a:At}{s:List bW}{bs:List dz}:oD.call (nb,n,a,s,bs)=some ((nb,n,a,s,bs),(nb:Int)):=Et (d:=(nb,n,a,s,bs)) trivial
theorem Bz(b:dz):(atv b).length=32:=(alz _ _).1
theorem A6(nb:Nat)(bs:List dz):(q9 nb bs).length=32:=by
 unfold q9;split
 ·exact b8
 ·exact Bz _
theorem aPI{nb:Nat}{bs:List dz}{b:dz}(h:asQ nb bs)(hn:nb<=1000)(hb:axU b):asQ (nb+1) (bs.take nb++ [b]):=by
 have h1:nb<=bs.length:=h.1;refine⟨by rw[ai,bq];show nb+1<=min nb bs.length+1;omega,by omega,λx hx=> ?_⟩;rcases bD.1 hx with hx | hx
 ·exact h.2.2 x (eY hx)
 ·rw[bn.1 hx];exact hb
theorem bdf{K:Int}(hk:KW K){h:Int}{p:Bs}{fill:Int}(hh:h<=1048576)(hp:p.length=32)(hf:0<=fill/\fill<=10):WS (zK h p [UW K] fill):=(aiN hh hp hf (by show 1<=1;decide) (λt ht=>by rw[bn.1 ht];exact⟨(zV hk).2.1,(zV hk).1⟩)).1
theorem baH{h:Int}{p:Bs}{fill:Int}(hh:h<=1048576)(hp:p.length=32)(hf:0<=fill/\fill<=10):WS (zK h p [] fill):=(aiN hh hp hf (by decide) (λt ht=>(by cases ht))).1
theorem bev{K:Int}(hk:KW K)(af dl:Int):aiB (stepOf (UW K) (AW K af dl)):=by rw[bde hk];exact⟨by show 1<=_;decide,by show 1<=_;decide⟩
theorem bek:¬nP (TW 7)=ad3:=bbL
theorem aTO:(0:Int)<=0/\(0:Int)<=1048576:=⟨by decide,by decide⟩
theorem aOO:(0:Int)<=0/\(0:Int)<=10:=⟨by decide,by decide⟩
def sW(K:Int):bW:=stepOf (UW K) (AW K 0 0)
theorem baE{b c:dz}(hb:axU b)(hc:axU c):asQ 2 [b,c]:=⟨aw _,by decide,λx hx=>by
 rcases cj.1 hx with rfl | hx
 ·exact hb
 ·rw[bn.1 hx];exact hc⟩
theorem bdp{K:Int}(hk:KW K)(gg:¬nP (TW K)=ad3)(h:Int)(h1:1<=h)(h2:h<=1048576):eF (UW K) h (AW K 0 0)=(10,0):=by rw[bdq hk gg aTO aTO h1 h2,if_neg (by omega)]
theorem bcw{K:Int}(hk:KW K)(gg:¬nP (TW K)=ad3){h:Int}{p:Bs}{nb n:Nat}{s:List bW}{bs:List dz}(hp:p=q9 nb bs)(hh:h=(nb:Int)+1)(h2:h<=1048576)(hl:p.length=32):lM (zK h p [UW K] 0) nb (n,AW K 0 0,s) bs=(0,nb+1,n+1,BW K h,s.take n++ [sW K],bs.take nb++ [zK h p [UW K] 0]):=by have e:=baw hk (h:=h) (p:=p) (fill:=0) (nb:=nb) (n:=n) (x:=KJ 0 ((100:Int),(LW K 0 0,()))) (s:=s) (bs:=bs) hp hh h2 hl aOO;rw[show([KJ 0 ((100:Int),(LW K 0 0,()))]:At)=AW K 0 0 from rfl,bdp hk gg h (by omega) h2,if_pos rfl,bdn hk]at e;exact e
theorem bes{K:Int}(hk:KW K):Ea 400 0 (AW K 0 0) [sW K]:=by have h:=bcx K aTO aTO;exact⟨h.CB,aL _,by show 1<=_;decide,λst ml=>by rw[bn.1 ml];exact bev hk 0 0,h.sum,by show 1<=_;decide⟩
def sq(a a':At):Prop:=∀o,bZ aV o a=bZ aV o a'
theorem sq.refl(a:At):sq a a:=λ_=>rfl
theorem sq.symm{a b:At}(h:sq a b):sq b a:=λo=>(h o).symm
theorem sq.trans{a b c:At}(h:sq a b)(h':sq b c):sq a c:=λo=>(h o).trans (h' o)
theorem sq.perm{a b:At}(h:sq a b)(ha:(eA a).Nodup)(hb:(eA b).Nodup):a.Perm b:=aTM ha hb h
theorem aJd{a b:At}(hb:(eA b).Nodup)(h:a.Perm b):sq a b:=λo=>aLE hb h o
theorem sq.del{a b:At}(h:sq a b)(ha:(eA a).Nodup)(hb:(eA b).Nodup)(l:List bw):sq (yC l a) (yC l b):=λo=>by
 rw[ZK o l ha,ZK o l hb,h o]
theorem J1(e:X7)(l:List X7)(a:At):abl (e::l) a=abl l (eJ aV e.1 e.2.1 a):=rfl
theorem sq.set{a b:At}(h:sq a b)(o:bw)(c:dS):sq (eJ aV o c a) (eJ aV o c b):=λx=>by rw[aCs,aCs,h x]
theorem sq.put:∀(l:List X7) {a b:At},sq a b->sq (abl l a) (abl l b)
 |[],_,_,h=>h
 |e::l,a,b,h=>by rw[J1,J1];exact sq.put l (h.set _ _)
theorem abm:∀(l:List X7) {a:At},(eA a).Nodup->(eA (abl l a)).Nodup
 |[],_,h=>h
 |e::l,a,h=>by rw[J1];exact abm l (Na h)
theorem asD{a:At}(h:(eA a).Nodup)(st:bW):(eA (xq a st)).Nodup:=abm _ (EJ _ h)
theorem sq.aZJ{a b:At}(h:sq a b)(ha:(eA a).Nodup)(hb:(eA b).Nodup)(st:bW):sq (xq a st) (xq b st):=sq.put _ (h.del ha hb _)
theorem sq.add(h:Int):∀(l:List bw) (xs:List gR) {a b:At},sq a b->sq (Mo h l xs a) (Mo h l xs b)
 |[],[],_,_,e=>e
 |[],_::_,_,_,e=>e
 |_::_,[],_,_,e=>e
 |o::l,x::xs,a,b,e=>by rw[zJ,zJ];exact sq.add h l xs (e.set _ _)
theorem sq.apply{a b:At}(e:sq a b)(ha:(eA a).Nodup)(hb:(eA b).Nodup)(t:dM)(h:Int):sq (fg t h a) (fg t h b):=sq.add h _ _ (e.del ha hb _)
theorem sq.ins{a b:At}(e:sq a b)(h:Int)(id:List Int):∀(l:List gC) (f:Int),w6 h id a l f=w6 h id b l f
 |[],_=>rfl
 |x::l,f=>by
  simp only[w6,e x.1];cases bZ aV x.1 b with
  |none=>rfl
  |some c=>simp only[sq.ins e h id l]
theorem sq.check{a b:At}(e:sq a b)(t:dM)(h:Int):eF t h a=eF t h b:=by
 have e2:pV a=pV b:=funext λo=>by unfold pV;rw[e o]
 unfold eF;rw[e.ins,e2]
theorem aTN(x:bw):∀(l:List bw) {a:At} (b:At),(eA a).Nodup->l.Nodup->(∀o∈l,(bZ aV o a).isSome=true)->bZ aV x (abl (uU a l) b)=if x∈l then bZ aV x a else bZ aV x b
 |[],a,b,_,_,_=>by rw[if_neg (by simp)];rfl
 |o::l,a,b,hn,hl,ht=>by
  rw[cY]at hl;obtain⟨c,hc⟩:=bP.1 (ht o aN);have ht':∀y∈l,(bZ aV y (fR aV o a)).isSome=true:=λy hy=>by rw[aoL y o hn,if_neg (λe=>hl.1 (by rw[<-e];exact hy))];exact ht y (aI _ hy)
  rw[uU,J1,aTN x l _ (oN hn) hl.2 ht',aoL x o hn,hc];by_cases h1:x∈l
  ·have h2:¬x=o:=λe=>hl.1 (by rw[<-e];exact h1)
   rw[if_pos h1,if_neg h2,if_pos (aI _ h1)]
  ·rw[if_neg h1];show bZ aV x (eJ aV o c b)=_;rw[aCs];by_cases h2:x=o
   ·subst h2;rw[if_pos rfl,if_pos aN,hc]
   ·rw[if_neg h2,if_neg (by simp[h1,h2])]
theorem axF{t:dM}{h nV:Int}{a:At}(hc:uY t h a nV)(ha:(eA a).Nodup):sq (xq (fg t h a) (stepOf t a)) a:=λo=>by
 unfold xq stepOf;rw[aTN o (dJ t) _ ha (Rg t) hc.there];by_cases h1:o∈dJ t
 ·rw[if_pos h1]
 ·rw[if_neg h1];show bZ aV o (yC (gH t) (fg t h a))=_;rw[ZK o _ (hJ ha)];by_cases h2:o∈gH t
  ·rw[if_pos h2,hc.made o h2]
  ·rw[if_neg h2,Ox ha h1 h2]
section
abbrev amB:=List (dM×Int)
def lW:At->amB->At
 |a,[]=>a
 |a,x::l=>lW (fg x.1 x.2 a) l
def mg:At->amB->List bW
 |_,[]=> []
 |a,x::l=>stepOf x.1 a::mg (fg x.1 x.2 a) l
def th:At->amB->Prop
 |_,[]=>True
 |a,x::l=>(eF x.1 x.2 a).2=0/\qt x.1/\th (fg x.1 x.2 a) l
theorem Eg:∀(l l':amB) (a:At),lW a (l++l')=lW (lW a l) l'
 |[],_,_=>rfl
 |x::l,l',a=>Eg l l' (fg x.1 x.2 a)
theorem Fz:∀(l l':amB) (a:At),mg a (l++l')=mg a l++mg (lW a l) l'
 |[],_,_=>rfl
 |x::l,l',a=>by show stepOf x.1 a::mg (fg x.1 x.2 a) (l++l')=_;rw[Fz l l'];rfl
theorem acT:∀(l:amB) (a:At),(mg a l).length=l.length
 |[],_=>rfl
 |x::l,a=>bl (· +1) (acT l (fg x.1 x.2 a))
theorem Ey:∀(l l':amB) (a:At),th a (l++l')↔th a l/\th (lW a l) l'
 |[],_,_=>⟨λh=>⟨trivial,h⟩,λh=>h.2⟩
 |x::l,l',a=>by have ih:=Ey l l' (fg x.1 x.2 a);exact⟨λh=>⟨⟨h.1,h.2.1,(ih.1 h.2.2).1⟩,(ih.1 h.2.2).2⟩,λh=>⟨h.1.1,h.1.2.1,ih.2 ⟨h.1.2.2,h.2⟩⟩⟩
theorem SF:∀ {l:amB} {a:At},th a l->∀x∈l,gJ x.1=true/\qt x.1
 |[],_,_,_,hx=>(by cases hx)
 |x::l,a,h,y,hy=>by
  rcases cj.1 hy with rfl | hy
  ·exact⟨(Jz h.1).1,h.2.1⟩
  ·exact SF h.2.2 y hy
theorem Y3:∀ {l:amB} {a:At},th a l->∀st∈mg a l,aiB st
 |[],_,_,_,hx=>(by cases hx)
 |x::l,a,h,y,hy=>by
  rcases cj.1 hy with rfl | hy
  ·exact ar1 (O3 h.1)
  ·exact Y3 h.2.2 y hy
theorem Y4:∀(l:amB) {n:Nat} {a:At} {s:List bW},s.length=n->Ea n n a s->th a l->Ea (n+l.length) (n+l.length) (lW a l) (s++mg a l)
 |[],n,a,s,_,hg,_=>by show Ea n n a (s++ []);rw[bj];exact hg
 |x::l,n,a,s,hs,hg,hc=>by have h1:=hg.app (O3 hc.1) hc.2.1;rw[aW (by omega)]at h1;have:=Y4 l (s:=s++ [stepOf x.1 a]) (by rw[ai,hs];rfl) h1 hc.2.2;rw[aC,show n+1+l.length=n+(l.length+1) by omega]at this;exact this
theorem sq.gone:∀(l:List bw) {a b:At},sq a b->(eA a).Nodup->(eA b).Nodup->uU a l=uU b l
 |[],_,_,_,_,_=>rfl
 |o::l,a,b,e,ha,hb=>by rw[uU,uU,e o,sq.gone l (a:=fR aV o a) (b:=fR aV o b) (λx=>by rw[aoL x o ha,aoL x o hb,e x]) (oN ha) (oN hb)]
theorem sq.step{a b:At}(e:sq a b)(ha:(eA a).Nodup)(hb:(eA b).Nodup)(t:dM):stepOf t a=stepOf t b:=by unfold stepOf;rw[e.gone _ ha hb]
theorem tv:∀(l:amB) {a:At},(eA a).Nodup->(eA (lW a l)).Nodup
 |[],_,h=>h
 |_::l,_,h=>tv l (hJ h)
theorem sq.lW:∀(l:amB) {a b:At},sq a b->(eA a).Nodup->(eA b).Nodup->sq (lW a l) (Ab.lW b l)
 |[],_,_,e,_,_=>e
 |_::l,_,_,e,ha,hb=>sq.lW l (e.apply ha hb _ _) (hJ ha) (hJ hb)
theorem sq.mg:∀(l:amB) {a b:At},sq a b->(eA a).Nodup->(eA b).Nodup->mg a l=Ab.mg b l
 |[],_,_,_,_,_=>rfl
 |x::l,a,b,e,ha,hb=>by show stepOf x.1 a::Ab.mg (fg x.1 x.2 a) l=stepOf x.1 b::Ab.mg (fg x.1 x.2 b) l;rw[e.step ha hb,sq.mg l (e.apply ha hb _ _) (hJ ha) (hJ hb)]
theorem sq.aub:∀(l:amB) {a b:At},sq a b->(eA a).Nodup->(eA b).Nodup->th a l->th b l
 |[],_,_,_,_,_,_=>trivial
 |x::l,a,b,e,ha,hb,h=>⟨by rw[<-e.check];exact h.1,h.2.1,sq.aub l (e.apply ha hb _ _) (hJ ha) (hJ hb) h.2.2⟩
theorem aFs{s q:List bW}{st:bW}{n:Nat}(hn:n<=s.length)(h:s.take n=q++ [st]):n=q.length+1/\nth cC s (n - 1)=st/\s.take (n - 1)=q:=by
 have hl:n=q.length+1:=by have:=bl ag h;rw[bq,ai]at this;simp only[az,aX]at this;omega
 subst hl;have h1:q.length < s.length:=by omega
 have e:s.take (q.length+1)=s.take q.length++ [s[q.length]]:=by rw[List.take_succ,bO h1];rfl
 rw[e]at h;obtain⟨h2,h3⟩:=List.append_inj' h rfl;refine⟨rfl,?_,h2⟩;rw[iE,bV (t:=cC) h1];exact(List.cons.inj h3).1
theorem adF:∀(k:Nat) (l:amB) {a0 a:At} {n:Nat} {s p:List bW},l.length=k->th a0 l->(eA a0).Nodup->(eA a).Nodup->sq a (lW a0 l)->n<=s.length->s.take n=p++mg a0 l->
  ∃a',D7 k (n,a,s)=(true,n - k,a',s)/\sq a' a0/\(eA a').Nodup/\s.take (n - k)=p/\k<=n
 | 0,l,a0,a,n,s,p,hl,_,_,ha,he,_,hs=>by obtain rfl:=bB hl;exact⟨a,rfl,he,ha,by rw[show mg a0 []=[] from rfl,bj]at hs;exact hs,aL _⟩
 |k+1,l,a0,a,n,s,p,hl,hc,h0,ha,he,hn,hs=>by
  have gg:l≠ []:=λe=>by rw[e]at hl;cases hl
  have el:=List.dropLast_concat_getLast gg;generalize l.getLast gg=x at el;generalize hl':l.dropLast=l' at el;have hk:l'.length=k:=by rw[<-hl',List.length_dropLast];omega
  subst el;obtain⟨c1,c2⟩:=(Ey l' [x] a0).1 hc;rw[Fz,<-aC]at hs;obtain⟨e1,e2,e3⟩:=aFs hn hs;rw[Eg]at he;have hn':=tv l' h0;have e4:sq (xq a (stepOf x.1 (lW a0 l'))) (lW a0 l'):=(he.aZJ ha (hJ hn') _).trans (axF (O3 c2.1) hn');obtain⟨a',f1,f2,f3,f4,f5⟩:=adF k l' (a:=xq a (stepOf x.1 (lW a0 l'))) (n:=n - 1) (s:=s) (p:=p) hk c1 h0 (asD ha _) e4 (by omega) e3;refine⟨a',?_,f2,f3,by rw[show n - (k+1)=n - 1 - k by omega];exact f4,by omega⟩;have aQQ:¬n=0:=by omega
  rw[D7,if_neg (show ¬(n,a,s).1=0 from aQQ)];show D7 k (n - 1,xq a (nth cC s (n - 1)),s)=_;rw[e2,f1,show n - 1 - k=n - (k+1) by omega]
def aN7(b:dz):amB:=b.2.2.1.map λt=>(t,b.1)
def K5(bs:List dz):amB:=bs.flatMap aN7
theorem JJ(l l':List dz):K5 (l++l')=K5 l++K5 l':=List.flatMap_append
theorem JK(b:dz):K5 [b]=aN7 b:=bj _
theorem asE(b:dz)(h:Int):∀(l:List dM) (k fees:Int) (a:At) (x:Int×Int×Int),Bd b h l k fees a= .inl x->x.2.2≠0
 |[],_,_,_,_,e=>by rw[Bd]at e;cases e
 |t::l,k,fees,a,x,e=>by
  rw[Bd]at e;split at e
  ·obtain rfl:=Sum.inl.inj e;show(14:Int)≠0;decide
  ·split at e
   ·rename_i h2;obtain rfl:=Sum.inl.inj e;exact h2
   ·exact asE b h l _ _ _ x e
theorem adI(b:dz)(h:Int):∀(l:List dM) (k fees:Int) (a:At) (f:Int),(∀t∈l,qt t)->Bd b h l k fees a= .inr f->th a (l.map λt=>(t,h))
 |[],_,_,_,_,_,_=>trivial
 |t::l,k,fees,a,f,hv,e=>by
  rw[Bd]at e;split at e
  ·cases e
  ·split at e
   ·cases e
   ·rename_i h2;exact⟨Decidable.not_not.1 h2,hv t aN,adI b h l _ _ _ f (λy hy=>hv y (aI _ hy)) e⟩
theorem aga{a:At}(ha:(eA a).Nodup):sq (iH a) a/\(eA (iH a)).Nodup:=by have hp:=wU a;exact⟨aJd ha hp,(hp.map _).nodup_iff.2 ha⟩
theorem avE{b:dz}{a:At}(hb:WS b)(ha:(eA a).Nodup)(e:(sP b a).2=0):th a (aN7 b):=by
 obtain⟨c1,c2⟩:=aga ha;unfold sP at e;split at e
 ·split at e
  ·cases e
  ·have e:(RG b b.1 b.2.2.1 a).2.2=0:=e;unfold RG at e;split at e
   ·rename_i x hx;exact absurd e (asE _ _ _ _ _ _ _ hx)
   ·rename_i f hf;exact c1.aub _ c2 ha (adI _ _ _ _ _ _ _ hb.1.1.2 hf)
 ·cases e
theorem af8(h:Int):∀(l:List dM) {n:Nat} {a:At} {s:List bW},th a (l.map λt=>(t,h))->n<=s.length->
  ∃s',l.foldl (amO h) (n,a,s)=(n+l.length,lW a (l.map λt=>(t,h)),s')/\s'.take (n+l.length)=s.take n++mg a (l.map λt=>(t,h))/\n+l.length<=s'.length/\(s'.length<=s.length\/s'.length<=n+l.length)/\∀st∈s',st∈s\/st∈mg a (l.map λt=>(t,h))
 |[],n,a,s,_,hn=>⟨s,rfl,(bj _).symm,hn,.inl (aw _),λst h=> .inl h⟩
 |t::l,n,a,s,hc,hn=>by
  obtain⟨c1,c2,c3⟩:=hc;have e:amO h (n,a,s) t=(n+1,fg t h a,s.take n++ [stepOf t a]):=if_neg (λx=>x c1);have hl:(s.take n++ [stepOf t a]).length=n+1:=by rw[ai,bq];simp only[az,aX];omega
  obtain⟨s',e1,e2,e3,e4,e5⟩:=af8 h l (n:=n+1) (a:=fg t h a) (s:=s.take n++ [stepOf t a]) c3 (by omega);have en:n+1+l.length=n+(t::l).length:=by rw[az];omega
  rw[en]at e1 e2 e3 e4;refine⟨s',?_,?_,e3,.inr (by omega),λst ml=> ?_⟩
  ·rw[bo,e];exact e1
  ·rw[e2,aW (by omega),aC];rfl
  ·rcases e5 st ml with h1 | h1
   ·rcases bD.1 h1 with h2 | h2
    ·exact .inl (eY h2)
    ·exact .inr (by rw[bn.1 h2];exact aN)
   ·exact .inr (aI _ h1)
structure uO(A0:At)(m nb n:Nat)(a:At)(s:List bW)(bs:List dz):Prop where
 aV7:Ea 0 0 A0 []
 ch:asQ nb bs
 apV:(eA a).Nodup
 aXz:th A0 (K5 (bs.take nb))
 eqv:sq a (lW A0 (K5 (bs.take nb)))
 aNu:s.take n=mg A0 (K5 (bs.take nb))
 le:n<=s.length
 len:s.length<=m
 aZF:∀st∈s,aiB st
section
variable {A0:At} {m nb n:Nat} {a:At} {s:List bW} {bs:List dz}
theorem uO.bcb(h:uO A0 m nb n a s bs){m':Nat}(hm:m<=m'):Ea m' n a s:=by
 have hg:=Y4 (K5 (bs.take nb)) (n:=0) (s:=[]) rfl h.aV7 h.aXz;have hp:=h.eqv.perm h.apV hg.CB.1;have hn:n=(K5 (bs.take nb)).length:=by have:=bl ag h.aNu;rw[acT,bq]at this;have:=h.le;omega
 exact⟨hg.CB.perm hp.symm,h.le,gz h.len hm,h.aZF,by rw[Sd hp];exact hg.sum,by rw[hp.length_eq];have:=hg.aZW;have:=h.le;have:=h.len;omega⟩
theorem uO.mono(h:uO A0 m nb n a s bs){m':Nat}(hm:m<=m'):uO A0 m' nb n a s bs:=⟨h.aV7,h.ch,h.apV,h.aXz,h.eqv,h.aNu,h.le,gz h.len hm,h.aZF⟩
theorem uO.new(h:Ea 0 0 A0 []):uO A0 0 0 0 A0 [] []:=⟨h,⟨aw _,by decide,λb hb=>(by cases hb)⟩,h.CB.1,trivial,sq.refl _,rfl,aw _,aw _,λst ml=>(by cases ml)⟩
theorem uO.bbP(h:uO A0 m nb n a s bs){b:dz}(hb:b∈bs.take nb){t:dM}(ht:t∈b.2.2.1):gJ t=true/\qt t:=SF h.aXz (t,b.1) (pK.2 ⟨b,hb,c9.2 ⟨t,ht,rfl⟩⟩)
theorem uO.pre(h:uO A0 m nb n a s bs){b:dz}(hb:WS b)(hm:m<=400):Sx (b,nb,n,a,s,bs):=⟨hb,h.bcb hm,h.ch⟩
theorem uO.bax(h:uO A0 m nb n a s bs){b:dz}(hb:WS b)(hm:m<=400):F5.call (b,nb,n,a,s,bs)=some (lM b nb (n,a,s) bs):=agd (d:=(b,nb,n,a,s,bs)) (h.pre hb hm)
theorem uO.add(h:uO A0 m nb n a s bs){b:dz}(hb:WS b){m':Nat}(hm:m+b.2.2.1.length<=m')(aXK:nb<=1000):
  (∃e,e≠0/\lM b nb (n,a,s) bs=(e,nb,n,a,s,bs))\/
  ∃n' a' s',lM b nb (n,a,s) bs=(0,nb+1,n',a',s',bs.take nb++ [b])/\uO A0 m' (nb+1) n' a' s' (bs.take nb++ [b])/\b.2.1=q9 nb bs/\b.1=(nb:Int)+1:=by
 have hle:nb<=bs.length:=h.ch.1;unfold lM;by_cases ht:b.2.1=q9 nb bs/\b.1=(nb:Int)+1;rotate_left
 ·left;rw[if_neg ht];exact⟨1,by decide,rfl⟩
 rw[if_pos ht];by_cases hp:(sP b a).2=0;rotate_left
 ·left;rw[if_neg (show ¬(sP b (n,a,s).2.1).2=0 from hp)];exact⟨_,hp,rfl⟩
 right;have hc:=avE hb h.apV hp;obtain⟨s',e1,e2,e3,e4,e5⟩:=af8 b.1 b.2.2.1 (s:=s) hc h.le;have ho:aqd b=b:=akM hb.1 λt ht=>(SF hc (t,b.1) (c9.2 ⟨t,ht,rfl⟩)).1
 have bdx:aBc b (n,a,s)=(n+b.2.2.1.length,lW a (aN7 b),s'):=e1;have hlen:(bs.take nb++ [b]).length=nb+1:=by rw[ai,bq];simp only[az,aX];omega
 have aCK:(bs.take nb++ [b]).take (nb+1)=bs.take nb++ [b]:=aW (by omega);have hA:=tv (K5 (bs.take nb)) h.aV7.CB.1;rw[if_pos (show(sP b (n,a,s).2.1).2=0 from hp),bdx,ho];have hs:=h.len;refine⟨_,_,s',rfl,⟨h.aV7,aPI h.ch aXK hb.1,tv _ h.apV,?_,?_,?_,e3,by have:=h.le;omega,λst ml=> ?_⟩,ht⟩
 ·rw[aCK,JJ,JK,Ey];exact⟨h.aXz,h.eqv.aub _ h.apV hA hc⟩
 ·rw[aCK,JJ,JK,Eg];exact h.eqv.lW _ h.apV hA
 ·rw[aCK,JJ,JK,Fz,<-h.eqv.mg _ h.apV hA,<-h.aNu];exact e2
 ·rcases e5 st ml with h1 | h1
  ·exact h.aZF st h1
  ·exact Y3 hc st h1
theorem uO.back:∀(d:Nat) {nb n:Nat} {a:At},uO A0 m nb n a s bs->d<=nb->∃n' a',wS bs d (nb,n,a,s)=(nb - d,n',a',s)/\uO A0 m (nb - d) n' a' s bs
 | 0,nb,n,a,h,_=>⟨n,a,rfl,h⟩
 |d+1,nb,n,a,h,hd=>by
  obtain⟨p,rfl⟩:∃p,nb=p+1:=⟨nb - 1,by omega⟩;have hl:p+1<=bs.length:=h.ch.1;have hp:p < bs.length:=by omega
  have et:bs.take (p+1)=bs.take p++ [bs[p]]:=by rw[List.take_succ,bO hp];rfl
  have n1:nth dU bs p=bs[p]:=bV (t:=dU) hp;have hc:=h.aXz;have he:=h.eqv;have hs:=h.aNu;rw[et,JJ,JK]at hc he hs;obtain⟨c1,c2⟩:=(Ey _ _ _).1 hc;rw[Eg]at he;rw[Fz]at hs;obtain⟨a',f1,f2,f3,f4,f5⟩:=adF bs[p].2.2.1.length (aN7 bs[p]) (bX _) c2 (tv _ h.aV7.CB.1) h.apV he h.le hs;have h':uO A0 m p (n - bs[p].2.2.1.length) a' s bs:=⟨h.aV7,⟨by omega,by have:=h.ch.2.1;omega,h.ch.2.2⟩,f3,c1,f2,f4,by have:=h.le;omega,h.len,h.aZF⟩;obtain⟨n'',a'',g1,g2⟩:=uO.back d h' (by omega);refine⟨n'',a'',?_,by rw[show p+1 - (d+1)=p - d by omega];exact g2⟩;rw[wS];show wS bs d (p+1 - 1,(D7 (nth dU bs (p+1 - 1)).2.2.1.length (n,a,s)).2)=_;rw[iE,n1,f1,g1,show p+1 - (d+1)=p - d by omega]
def adh:List dz->Nat
 |[]=>0
 |b::l=>b.2.2.1.length+adh l
theorem uO.aUz:∀(l:List dz) {m nb n:Nat} {a:At} {s:List bW} {bs:List dz},uO A0 m nb n a s bs->(∀b∈l,WS b)->m+adh l<=400->nb+l.length<=1000->
  X6 l (nb,n,a,s,bs)/\((iQ l (nb,n,a,s,bs)).1≠0\/∃n' a' s' bs',iQ l (nb,n,a,s,bs)=(0,nb+l.length,n',a',s',bs')/\uO A0 (m+adh l) (nb+l.length) n' a' s' bs'/\bs'.take (nb+l.length)=bs.take nb++l)
 |[],m,nb,n,a,s,bs,h,_,_,_=>⟨trivial,.inr ⟨n,a,s,bs,rfl,h,(bj _).symm⟩⟩
 |b::l,m,nb,n,a,s,bs,h,hl,hm,hn=>by
  rw[adh]at hm;rw[az]at hn;have hb:=hl b aN;have hle:nb<=bs.length:=h.ch.1;have aj3:=h.pre hb (by omega);rcases h.add hb (aw _) (by omega) with⟨e,he,ha⟩ | ⟨n',a',s',ha,h',_,_⟩
  ·refine⟨⟨aj3,λh0=> ?_⟩,.inl ?_⟩
   ·have h0:(lM b nb (n,a,s) bs).1=0:=h0;rw[ha]at h0;exact absurd h0 he
   ·rw[iQ];show(if(lM b nb (n,a,s) bs).1≠0 then lM b nb (n,a,s) bs else _).1≠0;rw[ha,if_pos he];exact he
  ·obtain⟨i1,i2⟩:=uO.aUz l h' (λx hx=>hl x (aI _ hx)) (by omega) (by omega);have hlen:(bs.take nb++ [b]).length=nb+1:=by rw[ai,bq];simp only[az,aX];omega
   have aCK:(bs.take nb++ [b]).take (nb+1)=bs.take nb++ [b]:=aW (by omega);have ek:iQ (b::l) (nb,n,a,s,bs)=iQ l (nb+1,n',a',s',bs.take nb++ [b]):=by rw[iQ];show(if(lM b nb (n,a,s) bs).1≠0 then lM b nb (n,a,s) bs else iQ l (lM b nb (n,a,s) bs).2)=_;rw[ha,if_neg (λe=>e rfl)]
   refine⟨⟨aj3,λ_=> ?_⟩,?_⟩
   ·show X6 l (lM b nb (n,a,s) bs).2;rw[ha];exact i1
   ·rw[ek,show nb+(b::l).length=nb+1+l.length by rw[az];omega,adh,<-eK];rcases i2 with i2 | ⟨n2,a2,s2,bs2,j1,j2,j3⟩
    ·exact .inl i2
    ·refine .inr ⟨n2,a2,s2,bs2,j1,j2,?_⟩;rw[j3,aCK,aC];rfl
theorem uO.copy(h:uO A0 m nb n a s bs):uO A0 m nb n (iH a) (s.take n) (bs.take nb):=by
 obtain⟨c1,c2⟩:=aga h.apV;have hle:nb<=bs.length:=h.ch.1;have e1:(bs.take nb).take nb=bs.take nb:=by rw[gZ,Nat.min_self]
 have e2:(s.take n).take n=s.take n:=by rw[gZ,Nat.min_self]
 have hl:=h.le;refine⟨h.aV7,⟨by rw[bq];omega,h.ch.2.1,λb hb=>h.ch.2.2 b (eY hb)⟩,c2,by rw[e1];exact h.aXz,by rw[e1];exact c1.trans h.eqv,by rw[e1,e2];exact h.aNu,by rw[bq];omega,by have:=h.len;rw[bq];omega,λst ml=>h.aZF st (eY ml)⟩
theorem uO.aUm(h:uO A0 m nb n a s bs)(d:Int){l:List dz}(hl:∀b∈l,WS b)(hm:m+adh l<=400)(hn:nb+l.length<=1000):
  (∃e,e≠0/\kK (d,l,nb,n,a,s,bs)=some (.inl (e,nb,n,a,s,bs)))\/
  ∃n' a' s' bs',kK (d,l,nb,n,a,s,bs)=some (.inr (0,nb - d.toNat+l.length,n,a,s,bs,n',a',s',bs'))/\(1<=d/\d<=nb/\d < l.length/\d<=6)/\
   uO A0 (m+adh l) (nb - d.toNat+l.length) n' a' s' bs'/\bs'.take (nb - d.toNat+l.length)=bs.take (nb - d.toNat)++l:=by
 have key:∀(hd:1<=d/\d<=nb/\d < l.length/\d<=6),∃n1 a1,zX d nb n a s bs=(nb - d.toNat,n1,a1,s.take n,bs.take nb)/\uO A0 m (nb - d.toNat) n1 a1 (s.take n) (bs.take nb):=λhd=>by obtain⟨n1,a1,e1,e2⟩:=uO.back d.toNat h.copy (by omega);refine⟨n1,a1,?_,e2⟩;unfold zX;rw[e1]
 have aj3:wV (d,l,nb,n,a,s,bs):=⟨h.ch,h.bcb (by omega),by show l.length<=_;omega,λhd=>by
  obtain⟨n1,a1,e1,e2⟩:=key hd;rw[e1];exact(uO.aUz l e2 hl hm (by omega)).1⟩
 have hr:=UG (d:=(d,l,nb,n,a,s,bs)) aj3;by_cases h1:1<=d/\d<=nb/\d < l.length;rotate_left
 ·left;refine⟨1,by decide,hr.trans (bl some ?_)⟩;have:jb (d,l,nb,n,a,s,bs)= .inl (1,nb,n,a,s,bs):=if_neg h1;rw[this];rfl
 by_cases h2:d<=6;rotate_left
 ·left;refine⟨25,by decide,hr.trans (bl some ?_)⟩;have:jb (d,l,nb,n,a,s,bs)= .inl (25,nb,n,a,s,bs):=(if_pos h1).trans (if_neg h2);rw[this];rfl
 have hd:1<=d/\d<=nb/\d < l.length/\d<=6:=⟨h1.1,h1.2.1,h1.2.2,h2⟩;obtain⟨n1,a1,e1,e2⟩:=key hd
 have hF:jb (d,l,nb,n,a,s,bs)=if(iQ l (zX d nb n a s bs)).1≠0 then .inl ((iQ l (zX d nb n a s bs)).1,nb,n,a,s,bs)
   else .inr (0,(iQ l (zX d nb n a s bs)).2.1,n,a,s,bs,(iQ l (zX d nb n a s bs)).2.2):=(if_pos h1).trans (if_pos h2)
 rw[e1]at hF;have etk:(bs.take nb).take (nb - d.toNat)=bs.take (nb - d.toNat):=by rw[gZ,fM (by omega)]
 rcases(uO.aUz l e2 hl hm (by omega)).2 with e3 | ⟨n2,a2,s2,bs2,f1,f2,f3⟩
 ·left;refine⟨_,e3,hr.trans (bl some ?_)⟩;rw[hF,if_pos e3];rfl
 ·right;refine⟨n2,a2,s2,bs2,hr.trans (bl some ?_),hd,f2,by rw[f3,etk]⟩;rw[hF,f1,if_neg (λe=>e rfl)];rfl
def De(o:bw):List dz->Int->Option (dM×Int)
 |[],_=>none
 |b::l,i=>match T3 o b.2.2.1 with | some t=>some (t,i+1) | none=>De o l (i+1)
theorem alA{o:bw}:∀ {l:List dM} {t:dM},T3 o l=some t->t∈l
 |[],_,e=>by cases e
 |x::l,t,e=>by
  rw[T3]at e;split at e
  ·rw[<-bk e];exact aN
  ·exact aI _ (alA e)
theorem ah9{o:bw}:∀ {l:List dz} {i:Int},(∀b∈l,∀t∈b.2.2.1,gJ t=true/\qt t)->A4 o l i=De o l i
 |[],_,_=>rfl
 |b::l,i,h=>by
  rw[A4,De];cases e:T3 o b.2.2.1 with
  |none=>exact ah9 λx hx=>h x (aI _ hx)
  |some t=>
   have:=h b aN t (alA e);show some (as0 t,i+1)=some (t,i+1);rw[Tx this.2 this.1]
theorem aNi{o:bw}:∀ {l:List dz} {i:Int} {x:dM×Int},De o l i=some x->i+1<=x.2/\x.2<=i+l.length/\∃b∈l,x.1∈b.2.2.1
 |[],_,_,e=>by cases e
 |b::l,i,x,e=>by
  rw[De]at e;rw[az];cases es:T3 o b.2.2.1 with
  |none=>
   rw[es]at e;obtain⟨h1,h2,c,h3,h4⟩:=aNi e;exact⟨by omega,by omega,c,aI _ h3,h4⟩
  |some t=>
   rw[es]at e;obtain rfl:=bk e;exact⟨iO _,by show i+1<=_;omega,b,aN,alA es⟩
theorem az5{o:bw}:∀(l l':List dz) (i:Int),De o (l++l') i=match De o l i with | some x=>some x | none=>De o l' (i+l.length)
 |[],l',i=>by show De o l' i=De o l' (i+((0:Nat):Int));rw[show i+((0:Nat):Int)=i by omega]
 |b::l,l',i=>by
  rw[iD,De,De];cases T3 o b.2.2.1 with
  |some t=>rfl
  |none=>
   show De o (l++l') (i+1)=_;rw[az5 l l',az,show i+1+(l.length:Int)=i+((l.length+1:Nat):Int) by omega]
theorem uO.aZD(h:uO A0 m nb n a s bs)(o:bw):vQ.call (o,nb,n,a,s,bs)=some (match De o (bs.take nb) 0 with
  |some x=>(x.1,x.2,true,nb,n,a,s,bs)
  |none=>(eH.zero,0,false,nb,n,a,s,bs)):=by
 rw[anG (d:=(o,nb,n,a,s,bs)) h.ch];simp only[bm,SB];rw[ah9 λb hb t ht=>h.bbP hb ht]
 all_goals (cases De o (bs.take nb) 0 <;> rfl)
end
end
abbrev aGL:=bw×Nat×(List bw)
abbrev aUC:=Nat×(List bw)
def aGM:aGL->Prop:=λ(_,n,l)=>n=l.length/\l.length<=1000000
def aUB:aGL->aUC:=λ(o,n,l)=>(n+1,l++ [o])
noncomputable def atf:Fs Tryz.prog aGM bm aUB:=eI 4294969952 (aTA Tryz.prog 4294969952) (λ(t7,o1L,o2)=>(([.yl (.bh 0) 0,.d aV t7,.undef,.undef,.ptr (.bh 1) 0 [] 0]++aP 10 []),[.obj 0 false (.qX (qE Tryz.prog 4294969952) (lX ([.undef,.undef,.ptr (.bh 1) 0 [] 0]++aP 10 [])) 0),.obj 0 false (.bu (.bh 2) 0 [] 0 0 o1L),.obj 0 false (.vec 38 aV o2)])) (λx=>⟨.d .bool true,[.obj 0 false (.qX (qE Tryz.prog 4294969952) (lX ([.undef,.undef,.ptr (.bh 1) 0 [] 0]++aP 10 [])) 0),.obj 0 false (.bu (.bh 2) 1 [] 0 0 x.1),.obj 1 false (.vec 38 aV x.2)],[]⟩) [none,none,none,none,none,none,none,none,none,none,none,none,none,none,none] [] {atK:=[(2,1)],lk:=some 4294969952}
theorem aO6{R:Type}(t7 o1L o2)(k:K1 R):atf.A (t7,o1L,o2) k=aG (decide (o1L<=(ag o2))) (aG (cT (o1L+1) 40) (k (atf.out ((o1L+1),((aQ o1L o2)++ [t7])))) none) none:=by kernel_rfl
theorem aO7:atf.Ok:=by rintro⟨o,n,l⟩ ⟨rfl,hl⟩;have hl:l.length<=1000000:=hl;rw[aO6,aH (aw _),aj,de (by omega) (by omega),aj,bJ];rfl
theorem aGN:atf.RS:=rE [.d aV,.n,.d (.slice aV)] atf
def aO8:=atf.bet aO7
abbrev Ay:=Nat×(List bw)×(List (bw×iY))×(List (bw×iY))
noncomputable def sI:Ay->AS:=λ(ug,ea,y5,n5)=>⟨([.yl (.bh 0) 0]++aP 4 ([eG 5]++aP 8 [])),[.obj 0 false (.qX (qE Tryz.prog 4294969952) (lX ([bA,bA,.ptr (.bh 1) 0 [] 0]++aP 10 [])) 0),.obj 0 false (.bu (.bh 2) 1 [] 0 0 ug),.obj 1 false (.vec 38 aV ea),.obj 0 false (.cm (.bh 4) 0),.obj 0 true (.mp aV jN y5)],(bC 5 ([dH (.sH (.bh 4) 1 aV jN n5 none)]++bC 8 []))⟩
abbrev apf:=Nat×(List bw)
abbrev Vg:=((List (bw×iY)))×(Nat×(List bw))
noncomputable def yS:Vg->Exit×AS:=λx=>(.exit 0,⟨(aP 14 []),[.obj 0 false (.qX (qE Tryz.prog 4294969952) (lX ([bA,bA,.ptr (.bh 1) 0 [] 0]++aP 10 [])) 0),.obj 0 false (.bu (.bh 2) 1 [] 0 0 x.2.1),.obj 1 false (.vec 38 aV x.2.2),.obj 0 false (.cm (.bh 4) 0),.obj 0 false (.mp aV jN x.1)],(ab 14 [])⟩)
abbrev Nk:=Vg
abbrev aad:=apf
def PX:Nk->Out (Exit×AS):=λx=> .ok (yS x)
def tY:Ay->aad->Nk:=λ(ug,ea,y5,n5) y=>(y5,y)
abbrev PV:=Nat×(List bw)×(List (bw×iY))
noncomputable def aaf:PV->SA:=λ(o1L,o2,o4)=>([.yl (.bh 0) 0,.ptr (.bh 3) 0 [] 0],[.obj 0 false (.qX (qE Tryz.prog 4294969952) (lX ([bA,bA,.ptr (.bh 1) 0 [] 0]++aP 10 [])) 0),.obj 0 false (.bu (.bh 2) 0 [] 0 0 o1L),.obj 0 false (.vec 38 aV o2),.obj 0 false (.cm (.bh 4) 0),.obj 0 false (.mp aV jN o4)])
abbrev ay8:=Nat×(List bw)×(List (bw×iY))
abbrev akf:=Nat×(List bw)×(List (bw×iY))
noncomputable def Td:akf->fx:=λx=>⟨.nil,[.obj 0 false (.qX (qE Tryz.prog 4294969952) (lX ([bA,bA,.ptr (.bh 1) 0 [] 0]++aP 10 [])) 0),.obj 0 false (.bu (.bh 2) 1 [] 0 0 x.1),.obj 1 false (.vec 38 aV x.2.1),.obj 0 false (.cm (.bh 4) 0),.obj 0 false (.mp aV jN x.2.2)],[]⟩
def Tc:PV->ay8->akf:=λ(o1L,o2,o4) y=>y
def tX:Ay->Prop:=λ(n,l,_,rest)=>n=l.length/\l.length+rest.length<=1000000
def qP:Ay->aad->Prop:=λ(_,l,_,rest) (m,l')=>m=l'.length/\l'.Perm (l++rest.map (·.1))
def Tb:PV->Prop:=λ(n,l,m)=>n=l.length/\l.length+m.length<=1000000
def Nl:PV->ay8->Prop:=λ(_,l,m) (n',l',m')=>n'=l'.length/\l'.Perm (l++m.map (·.1))/\m'=m
def akd:om:=kh (P:=Tryz.prog) [aO8]
def au3:=dA.W4 sI tX tY qP PX
def PY:Ay->Nk->Prop:=aZy sI tX tY qP
def aae:wO:= {loops:=nD [(1,{aU:=[0,5],sites:=[5],atK:=[(2,1)],bah:=[5]})],outs:=nC [(1,{atK:=[(2,1)]},{atK:=[(2,1)]})],fu:=np [(1,au3)],atK:=[(2,1)]}
def ay6:= @G2 Tryz.prog akd aae 0 Tryz.f107 _ aaf
abbrev aKj:=axW @ay6 Tb Tc Nl Td
def aac:= @eE Tryz.prog akd aae 0 Tryz.f107 0 _ sI
abbrev Vf:=axY Tryz.prog akd aae 0 Tryz.f107 0 sI tX tY qP PX
theorem ake:aAC PY tX tY qP:=bb7 (jK [.n,.d (.slice aV),.d (.slice (.pair aV jN)),.d (.slice (.pair aV jN))] λ_=>by kernel_rfl)
theorem PW:aTB @aac sI tX tY qP yS Vf:=aYc
theorem Lc{R:Type}(ug:Nat)(ea:(List bw))(y5:(List (bw×iY)))(n5:(List (bw×iY)))(kn:AS->Option R)(kx:Exit->AS->Option R):aac (ug,ea,y5,n5) kn kx=aG (decide (0 < (ag n5))) (aIY (ag n5) λj1=>same (qE Tryz.prog 4294969952) (qE Tryz.prog 4294969952) (ak (atf.call ((y4 aV jN n5 j1).1,ug,ea)) λx2=>kn (sI (x2.1,x2.2,y5,(List.eraseIdx n5 j1))))) (kx (yS (y5,(ug,ea))).1 (yS (y5,(ug,ea))).2):=by kernel_rfl
theorem aKk{R:Type}(o1L:Nat)(o2:(List bw))(o4:(List (bw×iY)))(k:fx->Option R):ay6 (o1L,o2,o4) k=Zt (PY (o1L,o2,o4,o4)) λx3=>k (Td (x3.2.1,x3.2.2,x3.1)):=by kernel_rfl
theorem apg:Vf:=by
 refine PW (λ(_,_,_,rest)=>rest.length) ?_
 rintro⟨n,l,m,rest⟩ ⟨rfl,hl⟩;have hl:l.length+rest.length<=1000000:=hl;by_cases h:0 < rest.length
 ·left;refine⟨rest.length,λj=>(l.length+1,l++ [(y4 aV jN rest j).1],m,rest.eraseIdx j),h,λj hj=>⟨⟨by simp,?_⟩,?_,λy hy=>⟨y,?_,rfl⟩⟩,λkn kx=> ?_⟩
  ·show(l++ [_]).length+(rest.eraseIdx j).length<=1000000;rw[ai,List.length_eraseIdx,if_pos hj];simp only[az,aX];omega
  ·show(rest.eraseIdx j).length < rest.length;rw[List.length_eraseIdx,if_pos hj];omega
  ·obtain⟨k,l'⟩:=y;obtain⟨h1,h2⟩:=hy;refine⟨h1,h2.trans ?_⟩;rw[akD hj,aC];refine List.Perm.append_left _ ?_
   have:=((ZA hj).map (·.1)).symm;exact this
  ·rw[Lc,aH h,aj];congr 1;funext j;rw[TV,aGN (d:=((y4 aV jN rest j).1,l.length,l)) ⟨rfl,by show l.length<=_;omega⟩];rfl
 ·right;obtain rfl:rest=[]:=bB (by omega);refine⟨(l.length,l),⟨rfl,by simp⟩,λkn kx=> ?_⟩;rw[Lc,aS h,al];rfl
theorem aKl:aKj:=by
 rintro⟨n,l,m⟩ ⟨rfl,hl⟩ k hk;rw[aKk];refine ake (d:=(l.length,l,m,m)) ⟨rfl,hl⟩ ⟨((l++m.map (·.1)).length,l++m.map (·.1)),rfl,gU _⟩ λy hy=> ?_
 obtain⟨n',l'⟩:=y;exact hk (n',l',m) ⟨hy.1,hy.2,rfl⟩
def ay7:=Entry.W4 [none,none] aaf Tb Tc Nl Td
def ag2:PV->akf->Prop:=aSL ay7 aaf
theorem aCV:aAC ag2 Tb Tc Nl:=aM0 (W0 [.n,.d (.slice aV),.d (.slice (.pair aV jN))] λ_=>by kernel_rfl)
def aKm:SG Tryz.prog:=⟨107,lO,ay7,.bbO (.fn 1 (by kernel_rfl) aKl (And.intro (.W4 apg (by kernel_rfl)) trivial)) (by rfl)⟩
abbrev amj:=(List (bw×iY))
abbrev aAr:=Unit
abbrev aTo:=(List (bw×iY))
def aiu:amj->aAr->aTo:=λo0 y=>o0
def aF4:amj->Prop:=λ_=>True
def aTn:amj->aAr:=λ_=>()
def adX:Fs Tryz.prog aF4 aiu aTn:=eI 61 Tryz.f61 (λo0=>([.cm (.bh 0) 0],[.obj 0 false (.mp aV jN o0)])) (λx=>⟨.fn 107 (.cons (.ptr (.new 0 0) 0 [] 0) (.nil)),[.obj 0 false (.mp aV jN x)],[.obj 0 false (.cm (.bh 0) 0)]⟩) [none] [] {bI:=[1]}
theorem aOo{R:Type}(o0)(k:K1 R):adX.A o0 k=k (adX.out o0):=by kernel_rfl
theorem aOp:adX.Ok:=by intro d _;rw[aOo];rfl
theorem aF5:adX.RS:=rE [.d (.slice (.pair aV jN))] adX
def aOq:=adX.eN aOp
abbrev Yk:=(List (bw×iY))
def aiI:Yk->SA:=λo1=>([.cV,.fn 107 (.cons (.ptr (.bh 0) 0 [] 0) (.nil))],[.obj 0 false (.cm (.bh 1) 0),.obj 0 false (.mp aV jN o1)])
abbrev aGQ:=Nat×(List (bw×iY))×(List bw)
abbrev ath:=Nat×(List (bw×iY))×(List bw)
def Yn:ath->fx:=λx=>⟨.bu (.new 0 0) 1 [] 0 0 x.1,[.obj 0 false (.cm (.bh 1) 0),.obj 0 false (.mp aV jN x.2.1)],[.obj 1 false (.vec 38 aV x.2.2)]⟩
def Ym:Yk->aGQ->ath:=λo1 y=>y
def Yl:Yk->Prop:=λm=>m.length<=1000000
def Se:Yk->aGQ->Prop:=λm (n',m',l')=>n'=l'.length/\l'.Perm (m.map (·.1))/\m'=m
def aUD:om:=kh (P:=Tryz.prog) [aKm]
def aPa:wO:= {bI:=[2],bc7:=np [(7,[⟨2,[.arr],0,46⟩])],rf:=np [(7,(4294969952,[2]))]}
def aGO:= @G2 Tryz.prog aUD aPa 0 Tryz.f166 _ aiI
abbrev aO9:=axW @aGO Yl Ym Se Yn
theorem aPb{R:Type}(o1:(List (bw×iY)))(k:fx->Option R):aGO o1 k=Zt (ag2 (0,([]:List bw),o1)) λx1=>k (Yn (x1.1,x1.2.2,x1.2.1)):=by kernel_rfl
theorem aPc:aO9:=by
 intro m hl k hk;have hl:m.length<=1000000:=hl;rw[aPb];refine aCV (d:=(0,[],m)) ⟨rfl,by show 0+m.length<=_;omega⟩ ⟨((m.map (·.1)).length,m.map (·.1),m),rfl,gU _,rfl⟩ λy hy=> ?_
 obtain⟨n',l',m'⟩:=y;exact hk (n',m',l') ⟨hy.1,by simpa using hy.2.1,hy.2.2⟩
def aGP:=Entry.W4 [none,none] aiI Yl Ym Se Yn
def amP:Yk->ath->Prop:=aSL aGP aiI
theorem aGR:aAC amP Yl Ym Se:=aM0 (W0 [.d (.slice (.pair aV jN))] λ_=>by kernel_rfl)
def aPd:SG Tryz.prog:=⟨166,lO,aGP,.bbO (.fn 0 (by kernel_rfl) aPc trivial) (by rfl)⟩
abbrev YZ:=(List (bw×iY))
def ajk:YZ->SA:=λo1=>([.fn 107 (.cons (.ptr (.bh 0) 0 [] 0) (.nil))],[.obj 0 false (.cm (.bh 1) 0),.obj 0 false (.mp aV jN o1)])
abbrev aIt:=Nat×(List (bw×iY))×(List bw)
abbrev aua:=Nat×(List (bw×iY))×(List bw)
def Y2:aua->fx:=λx=>⟨.bu (.new 0 0) 1 [] 0 0 x.1,[.obj 0 false (.cm (.bh 1) 0),.obj 0 false (.mp aV jN x.2.1)],[.obj 1 false (.vec 38 aV x.2.2)]⟩
def Y1:YZ->aIt->aua:=λo1 y=>y
def Y0:YZ->Prop:=λm=>m.length<=1000000
def SE:YZ->aIt->Prop:=λm (n',m',l')=>n'=l'.length/\l'.Perm (m.map (·.1))/\m'=m
def aU5:om:=kh (P:=Tryz.prog) [aPd]
def aP8:wO:= {}
def aIr:= @G2 Tryz.prog aU5 aP8 0 Tryz.f105 _ ajk
abbrev aP7:=axW @aIr Y0 Y1 SE Y2
theorem aP9{R:Type}(o1:(List (bw×iY)))(k:fx->Option R):aIr o1 k=Zt (amP o1) λx1=>k (Y2 (x1.1,x1.2.1,x1.2.2)):=by kernel_rfl
theorem aQa:aP7:=by
 intro m hl k hk;rw[aP9];refine aGR (d:=m) hl ⟨((m.map (·.1)).length,m,m.map (·.1)),rfl,gU _,rfl⟩ λy hy=> ?_
 exact hk y hy
def aIs:=Entry.W4 [none] ajk Y0 Y1 SE Y2
def anM:YZ->aua->Prop:=aSL aIs ajk
theorem aIu:aAC anM Y0 Y1 SE:=aM0 (W0 [.d (.slice (.pair aV jN))] λ_=>by kernel_rfl)
def aQb:SG Tryz.prog:=⟨105,lO,aIs,.bbO (.fn 0 (by kernel_rfl) aQa trivial) (by rfl)⟩
theorem axa{l l':List bw}(h:l.Perm l')(hq:∀x∈l',Ju x):NX (t:=aV) GQ l=NX (t:=aV) GQ l':=by
 have hq':∀x∈l,Ju x:=λx hx=>hq x (h.mem_iff.1 hx)
 have h1:=acR Ae hq';exact Fy Ae hq (λx hx y hy a b=>Af (hq x hx) (hq y hy) a b) ⟨h1.1.trans h,h1.2⟩
def Dc(m:Wm):List bw:=NX (t:=aV) GQ (m.map (·.1))
abbrev aNm:=(List (bw×iY))
abbrev aW8:=Nat×(List (bw×iY))×(List bw)
def aNo:aNm->Prop:=λm=>m.length<=1000000/\∀p∈m,Ju p.1
def aNn:aNm->aW8:=λm=>(m.length,m,Dc m)
def axb:Fs Tryz.prog aNo bm aNn:=eI 60 Tryz.f60 (λo1=>([.fn 107 (.cons (.ptr (.bh 0) 0 [] 0) (.nil)),.fn 62 (.nil)],[.obj 0 false (.cm (.bh 1) 0),.obj 0 false (.mp aV jN o1)])) (λx=>⟨.bu (.new 0 0) 1 [] 0 0 x.1,[.obj 0 false (.cm (.bh 1) 0),.obj 0 false (.mp aV jN x.2.1)],[.obj 1 false (.vec 38 aV x.2.2)]⟩) [none,none] [aQb,aSX]
theorem aSY{R:Type}(o1)(k:K1 R):axb.A o1 k=Zt (anM o1) λx1=>ak (T5 (x1.1,x1.2.2)) λx2=>k (axb.out (x1.1,x1.2.1,x2.2)):=by kernel_rfl
theorem aSZ:axb.Ok:=by
 rintro m ⟨hl,hq⟩;have hl:m.length<=1000000:=hl;rw[aSY];refine aIu (d:=m) hl ⟨((m.map (·.1)).length,m,m.map (·.1)),rfl,gU _,rfl⟩ λy hy=> ?_
 obtain⟨n',m',l'⟩:=y;obtain⟨h1,h2,h3⟩:=hy;have h1:n'=l'.length:=h1;have h3:m'=m:=h3;subst h1 h3;have hq':∀x∈m'.map (·.1),Ju x:=λx hx=>by obtain⟨p,hp,rfl⟩:=c9.1 hx;exact hq p hp
 have hlen:l'.length=m'.length:=by rw[h2.length_eq,bX]
 show ak (T5 (l'.length,l')) _=_;rw[aNl (d:=(l'.length,l')) ⟨rfl,by show l'.length < _;omega,λx hx=>hq' x (h2.mem_iff.1 hx),λx hx y hy h1 h2'=>Af (hq' x (h2.mem_iff.1 hx)) (hq' y (h2.mem_iff.1 hy)) h1 h2'⟩];simp only[ah,bm,aNn,Dc];rw[axa h2 hq',hlen];rfl
theorem aNp:axb.RS:=rE [.d (.slice (.pair aV jN))] axb
def aS0:=axb.eN aSZ
abbrev aOd:=(List (bw×iY))
abbrev aXi:=Nat×(List (bw×iY))×(List bw)
def aOe:aOd->Prop:=λm=>m.length<=1000000/\∀p∈m,Ju p.1
def amb:aOd->aXi:=λm=>(m.length,m,Dc m)
def wall:Fs Tryz.prog aOe bm amb:=eI 26 Tryz.f26 (λo1=>([.ptr (.bh 0) 0 [] 0],[.obj 0 false (.pr (.cm (.bh 1) 0) (.d .unit ())),.obj 0 false (.mp aV jN o1)])) (λx=>⟨.bu (.new 0 0) 1 [] 0 0 x.1,[.obj 0 false (.pr (.cm (.bh 1) 0) (.d .unit ())),.obj 0 false (.mp aV jN x.2.1)],[.obj 1 false (.vec 38 aV x.2.2)]⟩) [none] [aOq,aS0]
theorem aTi{R:Type}(o1)(k:K1 R):wall.A o1 k=ak (adX.call o1) λx1=>ak (axb.call x1) λx2=>k (wall.out (x2.1,x2.2.1,x2.2.2)):=by kernel_rfl
theorem aTj:wall.Ok:=by intro m h;rw[aTi,aF5 (d:=m) trivial];simp only[ah,aiu];rw[aNp (d:=m) h];rfl
theorem RH:wall.RS:=rE [.d (.slice (.pair aV jN))] wall
def amc:=wall.eN aTj
abbrev amp:=Int×dM×Nat×(List GY)×bw×iY
abbrev aAw:=Nat×(List GY)
abbrev aTv:=(bw×iY)×(Nat×(List GY))
def Ul:amp->aAw->aTv:=λ(dov,byv,o0L,o1,o2,o3) y=>((o2,o3),y)
def aGa:amp->Prop:=λ(_,t,n,l,_)=>qt t/\n=l.length/\l.length<=1000000000
def amq:amp->aAw:=λ(d,t,_,l,o,x)=>(l.length+1,l++ [(d,(o,(as0 t,(x.2.2.2.1,()))))])
def GM:Fs Tryz.prog aGa Ul amq:=eI 66 Tryz.f66 (λ(dov,byv,o0L,o1,o2,o3)=>([.d ti dov,.d eH byv,.ptr (.bh 0) 0 [] 0,.ptr (.bh 2) 0 [] 0,.ptr (.bh 3) 0 [] 0],[.obj 0 false (.bu (.bh 1) 0 [] 0 0 o0L),.obj 0 false (.vec 65 LP o1),.obj 0 false (.d aV o2),.obj 0 false (.d jN o3)])) (λx=>⟨.nil,[.obj 0 false (.bu (.bh 1) 1 [] 0 0 x.2.1),.obj 1 false (.vec 65 LP x.2.2),.obj 0 false (.d aV x.1.1),.obj 0 false (.d jN x.1.2)],[]⟩) [some ti,some eH,none,none,none] [adW]
theorem aOA{R:Type}(dov byv o0L o1 o2 o3)(k:K1 R):GM.A (dov,byv,o0L,o1,o2,o3) k=ak (Mf.call byv) λx1=>aG (decide (o0L<=(ag o1))) (aG (cT (o0L+1) 112) (k (GM.out ((o2,o3),((o0L+1),((aQ o0L o1)++ [(dov,(o2,(x1,(o3.2.2.2.1,()))))]))))) none) none:=by kernel_rfl
theorem aOB:GM.Ok:=by rintro⟨d,t,n,l,o,x⟩ ⟨hv,rfl,hl⟩;have hl:l.length<=1000000000:=hl;rw[aOA,Uh (d:=t) hv];simp only[ah,bm,ami];rw[aH (aw _),aj,de (by omega) (by omega),aj,bJ];rfl
theorem aiw:GM.RS:=rE [.d ti,.d eH,.n,.d (.slice LP),.d aV,.d jN] GM
def aOC:=GM.eN aOB
def asR(x:iY):Prop:=qt x.2.1/\(x.1=true->gJ x.2.1=true)
theorem v0:qt eH.zero:=⟨⟨λo ho=>(by cases ho),by decide,by decide⟩,λx hx=>(by cases hx),by decide⟩
theorem ad4:asR s9:=⟨v0,λh=>(by cases h)⟩
def qF(o:bw)(l:List dz):dM×Int×Bool:=match De o l 0 with | some x=>(x.1,x.2,true) | none=>(eH.zero,0,false)
def agM(x:iY)(h:Int)(ok:Bool)(id:Bs):Bool:=x.1 && (!ok || (BQ h x.2.2.2.1 || !(Ty.beq tH id x.2.2.1)))
def GS(o:bw)(x:iY)(h:Int)(ok:Bool)(id:Bs):iY×List GY:=if agM x h ok id then(s9,[(2,(o,(x.2.1,(x.2.2.2.1,()))))]) else(x,[])
def P6(o:bw)(t:dM)(h:Int)(ok:Bool)(id:Bs)(x:iY):iY×List GY:=if ok && !x.1 then((true,(t,(id,(h,(false,()))))),[(1,(o,(t,(h,()))))]) else(x,[])
def aez(o:bw)(t:dM)(h:Int)(ok:Bool)(H:Int)(x:iY):iY×List GY:=if ok && w5 (H - h) 6 then((x.1,(x.2.1,(x.2.2.1,(x.2.2.2.1,(true,()))))),[(3,(o,(t,(x.2.2.2.1,()))))]) else(x,[])
def l7(H:Int)(l:List dz)(o:bw)(x:iY):iY×List GY:=if x.2.2.2.2.1 then(x,[]) else((aez o (qF o l).1 (qF o l).2.1 (qF o l).2.2 H (P6 o (qF o l).1 (qF o l).2.1 (qF o l).2.2 (nP (qF o l).1) (GS o x (qF o l).2.1 (qF o l).2.2 (nP (qF o l).1)).1).1).1,(GS o x (qF o l).2.1 (qF o l).2.2 (nP (qF o l).1)).2++(P6 o (qF o l).1 (qF o l).2.1 (qF o l).2.2 (nP (qF o l).1) (GS o x (qF o l).2.1 (qF o l).2.2 (nP (qF o l).1)).1).2++(aez o (qF o l).1 (qF o l).2.1 (qF o l).2.2 H (P6 o (qF o l).1 (qF o l).2.1 (qF o l).2.2 (nP (qF o l).1) (GS o x (qF o l).2.1 (qF o l).2.2 (nP (qF o l).1)).1).1).2)
def lookW(H:Int)(l:List dz)(S:Wm×List GY)(o:bw):Wm×List GY:=if(nA o S.1).2.2.2.2.1 then S else(eJ aV o (l7 H l o (nA o S.1)).1 S.1,S.2++(l7 H l o (nA o S.1)).2)
abbrev adY:=Nat×Int×Int×(List (bw×iY))×Nat×Nat×(List (bw×dS))×(List bW)×(List dz)×Nat×(List GY)×(List bw)
abbrev axO:=(List (bw×iY))×Nat×Nat×(List (bw×dS))×(List bW)×(List dz)×Nat×(List GY)×(List bw)
abbrev zD:=Int×Bool×Nat×Int×Int×Bool×(List (bw×iY))×Nat×Nat×(List (bw×dS))×(List bW)×(List dz)×Nat×(List GY)×bw×iY×dM×Bs×(List bw)
def Mh:zD->AS:=λ(h,okv,GX,t16,t17,t67,o1,o2L,o3L,o4,o5,o6,GV,amx,iB,aaW,aaX,aaY,aK5)=>⟨([.ptr (.bh 0) 0 [] 0,.ptr (.bh 2) 0 [] 0,bA,bA,bA,eG 95,bA,.ptr (.new 95 2) 0 [] 0,.ptr (.new 95 3) 0 [] 0,.ptr (.new 95 4) 0 [] 0,.d ti h,.d .bool okv,.ptr (.new 95 5) 0 [] 0,.fn 66 (.cons (eG 95) (.cons (.ptr (.new 95 2) 0 [] 0) (.cons (.ptr (.new 95 3) 0 [] 0) (.nil)))),bA,.bu (.new 95 6) 0 [] 0 0 GX,.d ti t16,.d ti t17]++aP 49 ([.d .bool t67]++aP 28 [])),[.obj 0 false (.pr (.cm (.bh 1) 0) fL),.obj 0 false (.mp aV jN o1),.obj 0 false (.pr (.ptr (.bh 3) 0 [] 0) (.pr (.bu (.bh 6) 0 [] 0 0 o2L) fL)),.obj 0 false (.pr (.cm (.bh 4) 0) (.pr (.bu (.bh 5) 0 [] 0 0 o3L) fL)),.obj 0 false (.mp aV eS o4),.obj 0 false (.vec 256 cC o5),.obj 0 false (.vec 48 dU o6)],(bC 95 [[.obj 0 false (.bu (.new 95 1) 0 [] 0 0 GV),.obj 0 false (.vec 65 LP amx),.obj 0 false (.d aV iB),.obj 0 false (.d jN aaW),.obj 0 false (.d eH aaX),.obj 0 false (.d tH aaY),.obj 0 false (.vec 38 aV aK5)]])⟩
def RU:qJ:=qJ.of {aU:=[0,1,5,7,8,9,10,11,12,13,15,16,17,67],sites:=[5,7,8,9,12,15,32,37,60,69,75,79,87,95],MT:=[⟨8,[.arr],jN⟩],aXC:=some 95} Mh
def Bi:zD->Option zD:=λx=>(RU).aCR .normal (Mh x)
theorem RV(x:zD):Bi x=some x:=qJ.H2 (jK [.d ti,.d .bool,.n,.d ti,.d ti,.d .bool,.d (.slice (.pair aV jN)),.n,.n,.d (.slice (.pair aV eS)),.d (.slice cC),.d (.slice dU),.n,.d (.slice LP),.d aV,.d jN,.d eH,.d tB,.d (.slice aV)] λ_=>by kernel_rfl) x
abbrev zF:=Nat×Int×Int×Bool×(List (bw×iY))×Nat×Nat×(List (bw×dS))×(List bW)×(List dz)×Nat×(List GY)×bw×iY×dM×(List bw)
def Mi:zF->AS:=λ(GX,t16,t17,t83,o1,o2L,o3L,o4,o5,o6,GV,amx,iB,aaW,aaX,aaY)=>⟨([.ptr (.bh 0) 0 [] 0,.ptr (.bh 2) 0 [] 0,bA,bA,bA,eG 95,bA,.ptr (.new 95 2) 0 [] 0,.ptr (.new 95 3) 0 [] 0,.ptr (.new 95 4) 0 [] 0,bA,bA,bA,.fn 66 (.cons (eG 95) (.cons (.ptr (.new 95 2) 0 [] 0) (.cons (.ptr (.new 95 3) 0 [] 0) (.nil)))),bA,.bu (.new 95 5) 0 [] 0 0 GX,.d ti t16,.d ti t17]++aP 65 ([.d .bool t83]++aP 12 [])),[.obj 0 false (.pr (.cm (.bh 1) 0) fL),.obj 0 false (.mp aV jN o1),.obj 0 false (.pr (.ptr (.bh 3) 0 [] 0) (.pr (.bu (.bh 6) 0 [] 0 0 o2L) fL)),.obj 0 false (.pr (.cm (.bh 4) 0) (.pr (.bu (.bh 5) 0 [] 0 0 o3L) fL)),.obj 0 false (.mp aV eS o4),.obj 0 false (.vec 256 cC o5),.obj 0 false (.vec 48 dU o6)],(bC 95 [[.obj 0 false (.bu (.new 95 1) 0 [] 0 0 GV),.obj 0 false (.vec 65 LP amx),.obj 0 false (.d aV iB),.obj 0 false (.d jN aaW),.obj 0 false (.d eH aaX),.obj 0 false (.vec 38 aV aaY)]])⟩
def RW:qJ:=qJ.of {aU:=[0,1,5,7,8,9,13,15,16,17,83],sites:=[5,7,8,9,12,15,32,37,60,69,75,79,87,95],MT:=[⟨8,[.arr],jN⟩],aXC:=some 95} Mi
def Bj:zF->Option zF:=λx=>(RW).aCR .normal (Mi x)
theorem RX(x:zF):Bj x=some x:=qJ.H2 (jK [.n,.d ti,.d ti,.d .bool,.d (.slice (.pair aV jN)),.n,.n,.d (.slice (.pair aV eS)),.d (.slice cC),.d (.slice dU),.n,.d (.slice LP),.d aV,.d jN,.d eH,.d (.slice aV)] λ_=>by kernel_rfl) x
abbrev zG:=Int×Bool×Nat×Int×Int×(List (bw×iY))×Nat×Nat×(List (bw×dS))×(List bW)×(List dz)×Nat×(List GY)×bw×iY×dM×Bs×(List bw)
def Mj:zG->AS:=λ(h,okv,GX,t16,t17,o1,o2L,o3L,o4,o5,o6,GV,amx,iB,aaW,aaX,aaY,aK5)=>⟨([.ptr (.bh 0) 0 [] 0,.ptr (.bh 2) 0 [] 0,bA,bA,bA,eG 95,bA,.ptr (.new 95 2) 0 [] 0,.ptr (.new 95 3) 0 [] 0,.ptr (.new 95 4) 0 [] 0,.d ti h,.d .bool okv,.ptr (.new 95 5) 0 [] 0,.fn 66 (.cons (eG 95) (.cons (.ptr (.new 95 2) 0 [] 0) (.cons (.ptr (.new 95 3) 0 [] 0) (.nil)))),bA,.bu (.new 95 6) 0 [] 0 0 GX,.d ti t16,.d ti t17]++aP 78 []),[.obj 0 false (.pr (.cm (.bh 1) 0) fL),.obj 0 false (.mp aV jN o1),.obj 0 false (.pr (.ptr (.bh 3) 0 [] 0) (.pr (.bu (.bh 6) 0 [] 0 0 o2L) fL)),.obj 0 false (.pr (.cm (.bh 4) 0) (.pr (.bu (.bh 5) 0 [] 0 0 o3L) fL)),.obj 0 false (.mp aV eS o4),.obj 0 false (.vec 256 cC o5),.obj 0 false (.vec 48 dU o6)],(bC 95 [[.obj 0 false (.bu (.new 95 1) 0 [] 0 0 GV),.obj 0 false (.vec 65 LP amx),.obj 0 false (.d aV iB),.obj 0 false (.d jN aaW),.obj 0 false (.d eH aaX),.obj 0 false (.d tH aaY),.obj 0 false (.vec 38 aV aK5)]])⟩
def RY:qJ:=qJ.of {aU:=[0,1,5,7,8,9,10,11,12,13,15,16,17],sites:=[5,7,8,9,12,15,32,37,60,69,75,79,87,95],MT:=[⟨8,[.arr],jN⟩],aXC:=some 95} Mj
def mj:zG->Option zG:=λx=>(RY).aCR .normal (Mj x)
theorem RZ(x:zG):mj x=some x:=qJ.H2 (jK [.d ti,.d .bool,.n,.d ti,.d ti,.d (.slice (.pair aV jN)),.n,.n,.d (.slice (.pair aV eS)),.d (.slice cC),.d (.slice dU),.n,.d (.slice LP),.d aV,.d jN,.d eH,.d tB,.d (.slice aV)] λ_=>by kernel_rfl) x
abbrev zH:=Int×Bool×Nat×Int×Int×(List (bw×iY))×Nat×Nat×(List (bw×dS))×(List bW)×(List dz)×Nat×(List GY)×bw×iY×dM×(List bw)
def Mk:zH->AS:=λ(h,okv,GX,t16,t17,o1,o2L,o3L,o4,o5,o6,GV,amx,iB,aaW,aaX,aaY)=>⟨([.ptr (.bh 0) 0 [] 0,.ptr (.bh 2) 0 [] 0,bA,bA,bA,eG 95,bA,.ptr (.new 95 2) 0 [] 0,.ptr (.new 95 3) 0 [] 0,.ptr (.new 95 4) 0 [] 0,.d ti h,.d .bool okv,bA,.fn 66 (.cons (eG 95) (.cons (.ptr (.new 95 2) 0 [] 0) (.cons (.ptr (.new 95 3) 0 [] 0) (.nil)))),bA,.bu (.new 95 5) 0 [] 0 0 GX,.d ti t16,.d ti t17]++aP 78 []),[.obj 0 false (.pr (.cm (.bh 1) 0) fL),.obj 0 false (.mp aV jN o1),.obj 0 false (.pr (.ptr (.bh 3) 0 [] 0) (.pr (.bu (.bh 6) 0 [] 0 0 o2L) fL)),.obj 0 false (.pr (.cm (.bh 4) 0) (.pr (.bu (.bh 5) 0 [] 0 0 o3L) fL)),.obj 0 false (.mp aV eS o4),.obj 0 false (.vec 256 cC o5),.obj 0 false (.vec 48 dU o6)],(bC 95 [[.obj 0 false (.bu (.new 95 1) 0 [] 0 0 GV),.obj 0 false (.vec 65 LP amx),.obj 0 false (.d aV iB),.obj 0 false (.d jN aaW),.obj 0 false (.d eH aaX),.obj 0 false (.vec 38 aV aaY)]])⟩
def R0:qJ:=qJ.of {aU:=[0,1,5,7,8,9,10,11,13,15,16,17],sites:=[5,7,8,9,12,15,32,37,60,69,75,79,87,95],MT:=[⟨8,[.arr],jN⟩],aXC:=some 95} Mk
def Bk:zH->Option zH:=λx=>(R0).aCR .normal (Mk x)
theorem R1(x:zH):Bk x=some x:=qJ.H2 (jK [.d ti,.d .bool,.n,.d ti,.d ti,.d (.slice (.pair aV jN)),.n,.n,.d (.slice (.pair aV eS)),.d (.slice cC),.d (.slice dU),.n,.d (.slice LP),.d aV,.d jN,.d eH,.d (.slice aV)] λ_=>by kernel_rfl) x
abbrev aAs:=(List (bw×iY))×Nat×Nat×(List (bw×dS))×(List bW)×(List dz)
abbrev aTq:=Nat×(List (bw×iY))×Nat×Nat×(List (bw×dS))×(List bW)×(List dz)×(List GY)
def bcs(nb n:Nat)(a:At)(s:List bW)(bs:List dz):Prop:=∃A0 m,uO A0 m nb n a s bs
def aml:adY->Prop:=λ(kL,kn,i,m,nb,n,a,s,bs,oL,out,ks)=>bcs nb n a s bs/\ks.length<=1000000/\kL=ks.length/\kn=(ks.length:Int)/\oL=out.length/\(∀p∈m,asR p.2)/\∃k:Nat,k<=ks.length/\i=k/\out.length<=3*k
def FT:adY->axO:=λ(_,_,i,m,nb,n,a,s,bs,_,out,ks)=>(((ks.drop i.toNat).foldl (lookW nb (bs.take nb)) (m,out)).1,nb,n,a,s,bs,((ks.drop i.toNat).foldl (lookW nb (bs.take nb)) (m,out)).2.length,((ks.drop i.toNat).foldl (lookW nb (bs.take nb)) (m,out)).2,ks)
def WG(m:Wm):Prop:=m.length<=1000/\(m.map (·.1)).Nodup/\∀p∈m,Ju p.1/\asR p.2
def yU(nb:Nat)(bs:List dz)(m:Wm):Wm×List GY:=(Dc m).foldl (lookW nb (bs.take nb)) (m,[])
def aF6:aAs->Prop:=λ(m,nb,n,a,s,bs)=>bcs nb n a s bs/\WG m
def amk:aAs->aTq:=λ(m,nb,n,a,s,bs)=>((yU nb bs m).2.length,(yU nb bs m).1,nb,n,a,s,bs,(yU nb bs m).2)
def pB:Ls aml bm FT:=qv (λ(GX,t16,t17,dO,o2L,o3L,y5,aDx,aDy,GV,amx,iB)=>⟨([.ptr (.bh 0) 0 [] 0,.ptr (.bh 2) 0 [] 0,bA,bA,bA,eG 95]++aP 9 ([.bu (.new 95 2) 0 [] 0 0 GX,.d ti t16,.d ti t17]++aP 78 [])),[.obj 0 false (.pr (.cm (.bh 1) 0) fL),.obj 0 false (.mp aV jN dO),.obj 0 false (.pr (.ptr (.bh 3) 0 [] 0) (.pr (.bu (.bh 6) 0 [] 0 0 o2L) fL)),.obj 0 false (.pr (.cm (.bh 4) 0) (.pr (.bu (.bh 5) 0 [] 0 0 o3L) fL)),.obj 0 false (.mp aV eS y5),.obj 0 false (.vec 256 cC aDx),.obj 0 false (.vec 48 dU aDy)],(bC 95 [[.obj 0 false (.bu (.new 95 1) 0 [] 0 0 GV),.obj 0 false (.vec 65 LP amx),.obj 0 false (.vec 38 aV iB)]])⟩) (λx=>(.exit 0,⟨(aP 5 ([eG 95]++aP 90 [])),[.obj 0 false (.pr (.cm (.bh 1) 0) fL),.obj 0 false (.mp aV jN x.1),.obj 0 false (.pr (.ptr (.bh 3) 0 [] 0) (.pr (.bu (.bh 6) 0 [] 0 0 x.2.1) fL)),.obj 0 false (.pr (.cm (.bh 4) 0) (.pr (.bu (.bh 5) 0 [] 0 0 x.2.2.1) fL)),.obj 0 false (.mp aV eS x.2.2.2.1),.obj 0 false (.vec 256 cC x.2.2.2.2.1),.obj 0 false (.vec 48 dU x.2.2.2.2.2.1)],(bC 95 [[.obj 0 false (.bu (.new 95 1) 0 [] 0 0 x.2.2.2.2.2.2.1),.obj 0 false (.vec 65 LP x.2.2.2.2.2.2.2.1),.obj 0 false (.vec 38 aV x.2.2.2.2.2.2.2.2)]])⟩))
def Mg:Fs Tryz.prog aF6 bm amk:=eI 31 Tryz.f31 (λ(o1,o2baL,o3baL,o4,o5,o6)=>([.ptr (.bh 0) 0 [] 0,.ptr (.bh 2) 0 [] 0],[.obj 0 false (.pr (.cm (.bh 1) 0) (.d .unit ())),.obj 0 false (.mp aV jN o1),.obj 0 false (.pr (.ptr (.bh 3) 0 [] 0) (.pr (.bu (.bh 6) 0 [] 0 0 o2baL) (.d .unit ()))),.obj 0 false (.pr (.cm (.bh 4) 0) (.pr (.bu (.bh 5) 0 [] 0 0 o3baL) (.d .unit ()))),.obj 0 false (.mp aV eS o4),.obj 0 false (.vec 256 cC o5),.obj 0 false (.vec 48 dU o6)])) (λx=>⟨.bu (.new 0 0) 0 [] 0 0 x.1,[.obj 0 false (.pr (.cm (.bh 1) 0) (.d .unit ())),.obj 0 false (.mp aV jN x.2.1),.obj 0 false (.pr (.ptr (.bh 3) 0 [] 0) (.pr (.bu (.bh 6) 0 [] 0 0 x.2.2.1) (.d .unit ()))),.obj 0 false (.pr (.cm (.bh 4) 0) (.pr (.bu (.bh 5) 0 [] 0 0 x.2.2.2.1) (.d .unit ()))),.obj 0 false (.mp aV eS x.2.2.2.2.1),.obj 0 false (.vec 256 cC x.2.2.2.2.2.1),.obj 0 false (.vec 48 dU x.2.2.2.2.2.2.1)],[.obj 0 false (.vec 65 LP x.2.2.2.2.2.2.2)]⟩) [none,none] [amc,at5,adb,aOC,adW,BD] {loops:=nD [(3,{aU:=[0,1,5,15,16,17],sites:=[5,7,8,9,12,15,32,37,60,69,75,79,87,94,95],owns:=[⟨5,[.arr],94,43⟩],aXC:=some 95})],outs:=nC [(3,{aU:=[5],sites:=[95]},{aU:=[4]})],fu:=np [(3,pB.E)],aT8:=np [(13,RU),(16,RW)],ay5:=np [(13,RY),(16,R0)]}
theorem amm:pB.RS:=rL [.n,.d ti,.d ti,.d (.slice (.pair aV jN)),.n,.n,.d (.slice (.pair aV eS)),.d (.slice cC),.d (.slice dU),.n,.d (.slice LP),.d (.slice aV)] pB
theorem Ml{R:Type}(GX t16 t17 dO o2L o3L y5 aDx aDy GV amx iB)(kn:K2 R)(kx:K3 R):Mg.R 0 pB (GX,t16,t17,dO,o2L,o3L,y5,aDx,aDy,GV,amx,iB) kn kx=aG ((fP t17 t16)) (aG (ed t17 ((GX:Nat):Int)) (aG (decide ((0+(ae t17)) < (ag iB))) (aG (decide ((((0+(ae t17))*33)+0)=(0+((ae t17)*33)))) (aG (((bZ aV (nth aV iB (0+(ae t17))) dO).getD (false,((([]:List gC),(([]:List gR),(0,()))),((ab 32 0),(0,(false,())))))).2.2.2.2.1) (kn (pB.st (GX,t16,(bH .i64 t17 1),dO,o2L,o3L,y5,aDx,aDy,GV,amx,iB))) (ak (vQ.call ((nth aV iB (0+(ae t17))),o2L,o3L,y5,aDx,aDy)) λDd=>ak (tid.call Dd.1) λaX0=>ak (aG (((bZ aV (nth aV iB (0+(ae t17))) dO).getD (false,((([]:List gC),(([]:List gR),(0,()))),((ab 32 0),(0,(false,())))))).1) (aG ((!Dd.2.2.1)) (ak (GM.call (2,((bZ aV (nth aV iB (0+(ae t17))) dO).getD (false,((([]:List gC),(([]:List gR),(0,()))),((ab 32 0),(0,(false,())))))).2.1,GV,amx,(nth aV iB (0+(ae t17))),((bZ aV (nth aV iB (0+(ae t17))) dO).getD (false,((([]:List gC),(([]:List gR),(0,()))),((ab 32 0),(0,(false,())))))))) λbcn=>mj (Dd.2.1,Dd.2.2.1,GX,t16,t17,dO,Dd.2.2.2.1,Dd.2.2.2.2.1,Dd.2.2.2.2.2.1,Dd.2.2.2.2.2.2.1,Dd.2.2.2.2.2.2.2,bcn.2.1,bcn.2.2,bcn.1.1,(false,((([]:List gC),(([]:List gR),(0,()))),((ab 32 0),(0,(false,()))))),Dd.1,aX0,iB)) (aG ((BQ Dd.2.1 ((bZ aV (nth aV iB (0+(ae t17))) dO).getD (false,((([]:List gC),(([]:List gR),(0,()))),((ab 32 0),(0,(false,())))))).2.2.2.1)) (ak (GM.call (2,((bZ aV (nth aV iB (0+(ae t17))) dO).getD (false,((([]:List gC),(([]:List gR),(0,()))),((ab 32 0),(0,(false,())))))).2.1,GV,amx,(nth aV iB (0+(ae t17))),((bZ aV (nth aV iB (0+(ae t17))) dO).getD (false,((([]:List gC),(([]:List gR),(0,()))),((ab 32 0),(0,(false,())))))))) λbcp=>mj (Dd.2.1,Dd.2.2.1,GX,t16,t17,dO,Dd.2.2.2.1,Dd.2.2.2.2.1,Dd.2.2.2.2.2.1,Dd.2.2.2.2.2.2.1,Dd.2.2.2.2.2.2.2,bcp.2.1,bcp.2.2,bcp.1.1,(false,((([]:List gC),(([]:List gR),(0,()))),((ab 32 0),(0,(false,()))))),Dd.1,aX0,iB)) (aG ((!(Ty.beq tH aX0 ((bZ aV (nth aV iB (0+(ae t17))) dO).getD (false,((([]:List gC),(([]:List gR),(0,()))),((ab 32 0),(0,(false,())))))).2.2.1))) (ak (GM.call (2,((bZ aV (nth aV iB (0+(ae t17))) dO).getD (false,((([]:List gC),(([]:List gR),(0,()))),((ab 32 0),(0,(false,())))))).2.1,GV,amx,(nth aV iB (0+(ae t17))),((bZ aV (nth aV iB (0+(ae t17))) dO).getD (false,((([]:List gC),(([]:List gR),(0,()))),((ab 32 0),(0,(false,())))))))) λbcq=>mj (Dd.2.1,Dd.2.2.1,GX,t16,t17,dO,Dd.2.2.2.1,Dd.2.2.2.2.1,Dd.2.2.2.2.2.1,Dd.2.2.2.2.2.2.1,Dd.2.2.2.2.2.2.2,bcq.2.1,bcq.2.2,bcq.1.1,(false,((([]:List gC),(([]:List gR),(0,()))),((ab 32 0),(0,(false,()))))),Dd.1,aX0,iB)) (mj (Dd.2.1,Dd.2.2.1,GX,t16,t17,dO,Dd.2.2.2.1,Dd.2.2.2.2.1,Dd.2.2.2.2.2.1,Dd.2.2.2.2.2.2.1,Dd.2.2.2.2.2.2.2,GV,amx,(nth aV iB (0+(ae t17))),((bZ aV (nth aV iB (0+(ae t17))) dO).getD (false,((([]:List gC),(([]:List gR),(0,()))),((ab 32 0),(0,(false,())))))),Dd.1,aX0,iB))))) (mj (Dd.2.1,Dd.2.2.1,GX,t16,t17,dO,Dd.2.2.2.1,Dd.2.2.2.2.1,Dd.2.2.2.2.2.1,Dd.2.2.2.2.2.2.1,Dd.2.2.2.2.2.2.2,GV,amx,(nth aV iB (0+(ae t17))),((bZ aV (nth aV iB (0+(ae t17))) dO).getD (false,((([]:List gC),(([]:List gR),(0,()))),((ab 32 0),(0,(false,())))))),Dd.1,aX0,iB))) λDf=>ak (ak (aG (Df.2.1) (Bi (Df.1,Df.2.1,Df.2.2.1,Df.2.2.2.1,Df.2.2.2.2.1,(!Df.2.2.2.2.2.2.2.2.2.2.2.2.2.2.1.1),Df.2.2.2.2.2.1,Df.2.2.2.2.2.2.1,Df.2.2.2.2.2.2.2.1,Df.2.2.2.2.2.2.2.2.1,Df.2.2.2.2.2.2.2.2.2.1,Df.2.2.2.2.2.2.2.2.2.2.1,Df.2.2.2.2.2.2.2.2.2.2.2.1,Df.2.2.2.2.2.2.2.2.2.2.2.2.1,Df.2.2.2.2.2.2.2.2.2.2.2.2.2.1,Df.2.2.2.2.2.2.2.2.2.2.2.2.2.2.1,Df.2.2.2.2.2.2.2.2.2.2.2.2.2.2.2.1,Df.2.2.2.2.2.2.2.2.2.2.2.2.2.2.2.2.1,Df.2.2.2.2.2.2.2.2.2.2.2.2.2.2.2.2.2)) (Bi (Df.1,Df.2.1,Df.2.2.1,Df.2.2.2.1,Df.2.2.2.2.1,false,Df.2.2.2.2.2.1,Df.2.2.2.2.2.2.1,Df.2.2.2.2.2.2.2.1,Df.2.2.2.2.2.2.2.2.1,Df.2.2.2.2.2.2.2.2.2.1,Df.2.2.2.2.2.2.2.2.2.2.1,Df.2.2.2.2.2.2.2.2.2.2.2.1,Df.2.2.2.2.2.2.2.2.2.2.2.2.1,Df.2.2.2.2.2.2.2.2.2.2.2.2.2.1,Df.2.2.2.2.2.2.2.2.2.2.2.2.2.2.1,Df.2.2.2.2.2.2.2.2.2.2.2.2.2.2.2.1,Df.2.2.2.2.2.2.2.2.2.2.2.2.2.2.2.2.1,Df.2.2.2.2.2.2.2.2.2.2.2.2.2.2.2.2.2))) λGN=>aG (GN.2.2.2.2.2.1) (ak (Mf.call GN.2.2.2.2.2.2.2.2.2.2.2.2.2.2.2.2.1) λbeG=>ak (GM.call (1,GN.2.2.2.2.2.2.2.2.2.2.2.2.2.2.2.2.1,GN.2.2.2.2.2.2.2.2.2.2.2.2.1,GN.2.2.2.2.2.2.2.2.2.2.2.2.2.1,GN.2.2.2.2.2.2.2.2.2.2.2.2.2.2.1,(true,(beG,(GN.2.2.2.2.2.2.2.2.2.2.2.2.2.2.2.2.2.1,(GN.1,(false,()))))))) λbar=>Bk (GN.1,GN.2.1,GN.2.2.1,GN.2.2.2.1,GN.2.2.2.2.1,GN.2.2.2.2.2.2.1,GN.2.2.2.2.2.2.2.1,GN.2.2.2.2.2.2.2.2.1,GN.2.2.2.2.2.2.2.2.2.1,GN.2.2.2.2.2.2.2.2.2.2.1,GN.2.2.2.2.2.2.2.2.2.2.2.1,bar.2.1,bar.2.2,bar.1.1,bar.1.2,GN.2.2.2.2.2.2.2.2.2.2.2.2.2.2.2.2.1,GN.2.2.2.2.2.2.2.2.2.2.2.2.2.2.2.2.2.2)) (Bk (GN.1,GN.2.1,GN.2.2.1,GN.2.2.2.1,GN.2.2.2.2.1,GN.2.2.2.2.2.2.1,GN.2.2.2.2.2.2.2.1,GN.2.2.2.2.2.2.2.2.1,GN.2.2.2.2.2.2.2.2.2.1,GN.2.2.2.2.2.2.2.2.2.2.1,GN.2.2.2.2.2.2.2.2.2.2.2.1,GN.2.2.2.2.2.2.2.2.2.2.2.2.1,GN.2.2.2.2.2.2.2.2.2.2.2.2.2.1,GN.2.2.2.2.2.2.2.2.2.2.2.2.2.2.1,GN.2.2.2.2.2.2.2.2.2.2.2.2.2.2.2.1,GN.2.2.2.2.2.2.2.2.2.2.2.2.2.2.2.2.1,GN.2.2.2.2.2.2.2.2.2.2.2.2.2.2.2.2.2.2))) λMm=>ak (aG (Mm.2.1) (ak (oD.call (Mm.2.2.2.2.2.2.1,Mm.2.2.2.2.2.2.2.1,Mm.2.2.2.2.2.2.2.2.1,Mm.2.2.2.2.2.2.2.2.2.1,Mm.2.2.2.2.2.2.2.2.2.2.1)) λaX3=>Bj (Mm.2.2.1,Mm.2.2.2.1,Mm.2.2.2.2.1,(w5 (cI .i64 aX3.2 Mm.1) 6),Mm.2.2.2.2.2.1,aX3.1.1,aX3.1.2.1,aX3.1.2.2.1,aX3.1.2.2.2.1,aX3.1.2.2.2.2,Mm.2.2.2.2.2.2.2.2.2.2.2.1,Mm.2.2.2.2.2.2.2.2.2.2.2.2.1,Mm.2.2.2.2.2.2.2.2.2.2.2.2.2.1,Mm.2.2.2.2.2.2.2.2.2.2.2.2.2.2.1,Mm.2.2.2.2.2.2.2.2.2.2.2.2.2.2.2.1,Mm.2.2.2.2.2.2.2.2.2.2.2.2.2.2.2.2)) (Bj (Mm.2.2.1,Mm.2.2.2.1,Mm.2.2.2.2.1,false,Mm.2.2.2.2.2.1,Mm.2.2.2.2.2.2.1,Mm.2.2.2.2.2.2.2.1,Mm.2.2.2.2.2.2.2.2.1,Mm.2.2.2.2.2.2.2.2.2.1,Mm.2.2.2.2.2.2.2.2.2.2.1,Mm.2.2.2.2.2.2.2.2.2.2.2.1,Mm.2.2.2.2.2.2.2.2.2.2.2.2.1,Mm.2.2.2.2.2.2.2.2.2.2.2.2.2.1,Mm.2.2.2.2.2.2.2.2.2.2.2.2.2.2.1,Mm.2.2.2.2.2.2.2.2.2.2.2.2.2.2.2.1,Mm.2.2.2.2.2.2.2.2.2.2.2.2.2.2.2.2))) λKd=>aG (Kd.2.2.2.1) (ak (GM.call (3,Kd.2.2.2.2.2.2.2.2.2.2.2.2.2.2.1,Kd.2.2.2.2.2.2.2.2.2.2.1,Kd.2.2.2.2.2.2.2.2.2.2.2.1,Kd.2.2.2.2.2.2.2.2.2.2.2.2.1,(Kd.2.2.2.2.2.2.2.2.2.2.2.2.2.1.1,(Kd.2.2.2.2.2.2.2.2.2.2.2.2.2.1.2.1,(Kd.2.2.2.2.2.2.2.2.2.2.2.2.2.1.2.2.1,(Kd.2.2.2.2.2.2.2.2.2.2.2.2.2.1.2.2.2.1,(true,Kd.2.2.2.2.2.2.2.2.2.2.2.2.2.1.2.2.2.2.2))))))) λaUs=>kn (pB.st (Kd.1,Kd.2.1,(bH .i64 Kd.2.2.1 1),(eJ aV aUs.1.1 aUs.1.2 Kd.2.2.2.2.1),Kd.2.2.2.2.2.1,Kd.2.2.2.2.2.2.1,Kd.2.2.2.2.2.2.2.1,Kd.2.2.2.2.2.2.2.2.1,Kd.2.2.2.2.2.2.2.2.2.1,aUs.2.1,aUs.2.2,Kd.2.2.2.2.2.2.2.2.2.2.2.2.2.2.2))) (kn (pB.st (Kd.1,Kd.2.1,(bH .i64 Kd.2.2.1 1),(eJ aV Kd.2.2.2.2.2.2.2.2.2.2.2.2.1 Kd.2.2.2.2.2.2.2.2.2.2.2.2.2.1 Kd.2.2.2.2.1),Kd.2.2.2.2.2.1,Kd.2.2.2.2.2.2.1,Kd.2.2.2.2.2.2.2.1,Kd.2.2.2.2.2.2.2.2.1,Kd.2.2.2.2.2.2.2.2.2.1,Kd.2.2.2.2.2.2.2.2.2.2.1,Kd.2.2.2.2.2.2.2.2.2.2.2.1,Kd.2.2.2.2.2.2.2.2.2.2.2.2.2.2.2))))) none) none) none) (pB.go kx (dO,o2L,o3L,y5,aDx,aDy,GV,amx,iB)):=by kernel_rfl
theorem aOr{R:Type}(o1 o2baL o3baL o4 o5 o6)(k:K1 R):Mg.A (o1,o2baL,o3baL,o4,o5,o6) k=ak (wall.call o1) λaTx=>ak (pB.call (aTx.1,((aTx.1:Nat):Int),0,aTx.2.1,o2baL,o3baL,o4,o5,o6,0,([]:List GY),aTx.2.2)) λOf=>k (Mg.out (Of.2.2.2.2.2.2.1,Of.1,Of.2.1,Of.2.2.1,Of.2.2.2.1,Of.2.2.2.2.1,Of.2.2.2.2.2.1,Of.2.2.2.2.2.2.2.1)):=by kernel_rfl
theorem aJC{m:Wm}(h:∀p∈m,asR p.2)(o:bw):asR (nA o m):=by
 unfold nA;cases hg:bZ aV o m with
 |none=>exact ad4
 |some x=>
  have:∃p∈m,p.2=x:=by
   unfold bZ at hg;cases hi:iA aV o m with
   |none=>rw[hi]at hg;cases hg
   |some i=>
    rw[hi]at hg;have hg:(m[i]?).map (·.2)=some x:=hg;rw[cU]at hg;obtain⟨p,hp,e⟩:=hg;exact⟨p,cG hp,e⟩
  obtain⟨p,hp,rfl⟩:=this;exact h p hp
theorem aNj{A0:At}{b nb n:Nat}{a:At}{s:List bW}{bs:List dz}(h:uO A0 b nb n a s bs)(o:bw):qt (qF o (bs.take nb)).1/\((qF o (bs.take nb)).2.2=true->gJ (qF o (bs.take nb)).1=true/\1<=(qF o (bs.take nb)).2.1)/\0<=(qF o (bs.take nb)).2.1/\(qF o (bs.take nb)).2.1<=nb:=by
 unfold qF;cases e:De o (bs.take nb) 0 with
 |none=>exact⟨v0,λh=>(by cases h),iO _,by show(0:Int)<=nb;omega⟩
 |some x=>
  obtain⟨h1,h2,c,h3,h4⟩:=aNi e;obtain⟨h5,h6⟩:=h.bbP h3 h4;rw[bq]at h2;exact⟨h6,λ_=>⟨h5,by show 1<=x.2;omega⟩,by show 0<=x.2;omega,by show x.2<=nb;omega⟩
theorem aFh{A0:At}{b nb n:Nat}{a:At}{s:List bW}{bs:List dz}(h:uO A0 b nb n a s bs)(o:bw):vQ.call (o,nb,n,a,s,bs)=some ((qF o (bs.take nb)).1,(qF o (bs.take nb)).2.1,(qF o (bs.take nb)).2.2,nb,n,a,s,bs):=by
 rw[h.aZD o];unfold qF
 all_goals cases De o (bs.take nb) 0 <;> rfl
theorem ahb{m:Wm}{o:bw}{v:iY}{p:bw×iY}(h:p∈eJ aV o v m):p=(o,v)\/p∈m:=by
 unfold eJ at h;split at h
 ·exact(List.mem_or_eq_of_mem_set h).symm
 ·rcases bD.1 h with h | h
  ·exact .inr h
  ·exact .inl (bn.1 h)
theorem aRw{A0:At}{b nb n:Nat}{a:At}{s:List bW}{bs:List dz}(h:uO A0 b nb n a s bs)(H:Int)(o:bw){x:iY}(hx:asR x):asR (l7 H (bs.take nb) o x).1:=by
 obtain⟨hv,iT,_⟩:=aNj h o;unfold l7;split
 ·exact hx
 ·generalize qF o (bs.take nb)=r at hv iT;have h1:asR (GS o x r.2.1 r.2.2 (nP r.1)).1:=by
   unfold GS;split
   ·exact ad4
   ·exact hx
  have h2:asR (P6 o r.1 r.2.1 r.2.2 (nP r.1) (GS o x r.2.1 r.2.2 (nP r.1)).1).1:=by
   unfold P6;split
   ·rename_i hc;exact⟨hv,λ_=>(iT (by simp only[aq]at hc;exact hc.1)).1⟩
   ·exact h1
  show asR (aez o r.1 r.2.1 r.2.2 H _).1;unfold aez;split
  ·exact⟨h2.1,h2.2⟩
  ·exact h2
theorem aC9(H:Int)(l:List dz)(o:bw)(x:iY):(l7 H l o x).2.length<=3:=by
 unfold l7;split
 ·exact aL _
 ·have h1:∀h ok id,(GS o x h ok id).2.length<=1:=λh ok id=>by unfold GS;split <;> exact dG rfl
  have h2:∀t h ok id x,(P6 o t h ok id x).2.length<=1:=λt h ok id x=>by unfold P6;split <;> exact dG rfl
  have h3:∀t h ok H x,(aez o t h ok H x).2.length<=1:=λt h ok H x=>by unfold aez;split <;> exact dG rfl
  simp only[ai];have:=h1 (qF o l).2.1 (qF o l).2.2 (nP (qF o l).1);have:=h2 (qF o l).1 (qF o l).2.1 (qF o l).2.2 (nP (qF o l).1) (GS o x (qF o l).2.1 (qF o l).2.2 (nP (qF o l).1)).1;have:=h3 (qF o l).1 (qF o l).2.1 (qF o l).2.2 H (P6 o (qF o l).1 (qF o l).2.1 (qF o l).2.2 (nP (qF o l).1) (GS o x (qF o l).2.1 (qF o l).2.2 (nP (qF o l).1)).1).1;omega
theorem aRv{A0:At}{b nb n:Nat}{a:At}{s:List bW}{bs:List dz}(h:uO A0 b nb n a s bs)(H:Int)(o:bw){m:Wm}(out:List GY)(hm:∀p∈m,asR p.2):
  (∀p∈(lookW H (bs.take nb) (m,out) o).1,asR p.2)/\(lookW H (bs.take nb) (m,out) o).2.length<=out.length+3:=by
 unfold lookW;split
 ·exact⟨hm,Nat.le_add_right _ _⟩
 ·refine⟨λp hp=> ?_,?_⟩
  ·rcases ahb hp with rfl | hp
   ·exact aRw h H o (aJC hm o)
   ·exact hm p hp
  ·rw[ai];have:=aC9 H (bs.take nb) o (nA o (m,out).1);show out.length+_<=_;omega
theorem asJ:(Mg.jP 0 pB):=by
 refine(Mg.lk 0 pB) (λ(_,_,i,_,_,_,_,_,_,_,_,ks)=>ks.length - i.toNat) ?_
 rintro⟨kL,kn,i,m,nb,n,a,s,bs,oL,out,ks⟩ ⟨hj,aJJ,rfl,rfl,rfl,hm,k,hk,rfl,ho⟩;obtain⟨A0,b,hc⟩:=id hj;have aJJ:ks.length<=1000000:=aJJ;have hk:k<=ks.length:=hk;have ho:out.length<=3*k:=ho;have aXK:nb<=1000000:=hc.ch.2.1;by_cases h:k < ks.length
 ·left;have n1:nth aV ks k=ks[k]:=bV (t:=aV) h;have hd:ks.drop k=ks[k]::ks.drop (k+1):=ao h;generalize ks[k]=o at n1 hd;obtain⟨g1,g2⟩:=aRv hc nb o out hm;refine⟨(ks.length,(ks.length:Int),((k+1:Nat):Int),(lookW nb (bs.take nb) (m,out) o).1,nb,n,a,s,bs,(lookW nb (bs.take nb) (m,out) o).2.length,(lookW nb (bs.take nb) (m,out) o).2,ks),⟨hj,aJJ,rfl,rfl,rfl,g1,k+1,h,rfl,by show _<=3*(k+1);omega⟩,by simp only[aa];omega,?_,λkn kx=> ?_⟩
  ·simp only[bm,FT,aa,hd,bo]
  clear g1 g2 hd;have hx:=aJC hm o;obtain⟨hv,iT,h0,hH⟩:=aNj hc o;have csp:=aFh hc o;have ex:(bZ aV o m).getD (false,((([]:List gC),(([]:List gR),((0:Int),()))),((ab 32 (0:Int)),((0:Int),(false,())))))=nA o m:=rfl;have el:lookW nb (bs.take nb) (m,out) o=if(nA o m).2.2.2.2.1 then(m,out) else(eJ aV o (l7 nb (bs.take nb) o (nA o m)).1 m,out++(l7 nb (bs.take nb) o (nA o m)).2):=rfl
  rw[Ml,aT (by omega),aj,bf (by omega) (by omega),aj,aa,aJ,aH h,aj,aH (by omega),aj,n1,ex];generalize nA o m=x at hx el ⊢;cases hf:x.2.2.2.2.1 with
  |true=>
   rw[hf,if_pos rfl]at el;rw[aj,el,N.mq (by omega)]
  |false=>
   rw[hf,if_neg (by decide)]at el;have eX:l7 nb (bs.take nb) o x=_:=if_neg (by rw[hf];decide);rw[al,csp,el,eX];generalize qF o (bs.take nb)=r at hv iT h0 hH csp;obtain⟨t,hh,okv⟩:=r;have hv:qt t:=hv;have h0:0<=hh:=h0;have hH:hh<=nb:=hH;rw[ah];show ak (tid.call t) _=_;rw[Rr (d:=t) hv];simp only[bm,ada,RZ,RV,R1,RX,ah];have c1:∀(out':List GY) (x':iY) (d:Int),out'.length<=1000000000->okv=true->GM.call (d,t,out'.length,out',o,x')=some ((o,x'),(out'.length+1,out'++ [(d,(o,(t,(x'.2.2.2.1,()))))])):=λout' x' d hl hk=>by have:=aiw (d:=(d,t,out'.length,out',o,x')) ⟨hv,rfl,hl⟩;simp only[Ul,amq,Tx hv (iT hk).1]at this;exact this
   obtain⟨r1,aJN⟩:∃r,GS o x hh okv (nP t)=r:=⟨_,rfl⟩;refine(bl (λz=>ak z _) (?_:_=some (hh,okv,ks.length,(ks.length:Int),(k:Int),m,nb,n,a,s,bs,(out++r1.2).length,out++r1.2,o,r1.1,t,nP t,ks))).trans ?_
   ·rw[<-aJN];unfold GS agM;cases aV2:x.1 with
    |false=>simp only[al,dr,bE,bp,bj]
    |true=>
     have cw:=aiw (d:=(2,x.2.1,out.length,out,o,x)) ⟨hx.1,rfl,by show out.length<=_;omega⟩;simp only[Ul,amq,Tx hx.1 (hx.2 aV2)]at cw;rw[cw];simp only[ah,aj,bN];cases okv with
     |false=>simp only[eT,aj,Bool.true_or,bG,ai];rfl
     |true=>
      simp only[ct,al,lq];cases BQ hh x.2.2.2.1 with
      |true=>simp only[aj,Bool.true_or,bG,ai];rfl
      |false=>
       simp only[al,lq];cases Ty.beq tH (nP t) x.2.2.1 with
       |true=>simp only[ct,al,bE,bp,bj]
       |false=>simp only[eT,aj,bG,ai];rfl
   have l1:(out++r1.2).length<=out.length+1:=by
    rw[<-aJN];unfold GS;split
    ·rw[ai];exact aw _
    ·rw[ai];exact oo _
   rw[ah];obtain⟨out1,bcW⟩:∃l,out++r1.2=l:=⟨_,rfl⟩;rw[bcW]at l1 ⊢;obtain⟨r2,aes⟩:∃r,P6 o t hh okv (nP t) r1.1=r:=⟨_,rfl⟩;refine(bl (λz=>ak z _) (?_:_=some (hh,okv,ks.length,(ks.length:Int),(k:Int),m,nb,n,a,s,bs,(out1++r2.2).length,out1++r2.2,o,r2.1,t,ks))).trans ?_
   ·rw[<-aes];unfold P6;cases aj0:okv with
    |false=>simp only[al,ah,dr,bE,bp,bj]
    |true=>
     cases aV2:r1.1.1 with
     |true=>simp only[aj,al,ah,ct,Bool.and_false,bE,bp,bj]
     |false=>
      have cw:=c1 out1 (true,(t,(nP t,(hh,(false,()))))) 1 (by omega) aj0;have ck:=Uh (d:=t) hv;simp only[bm,ami,Tx hv (iT aj0).1]at ck;simp only[aj,ah,eT,vK,bG,ck,cw,ai];rfl
   have l2:(out1++r2.2).length<=out1.length+1:=by
    rw[<-aes];unfold P6;split
    ·rw[ai];exact aw _
    ·rw[ai];exact oo _
   rw[ah];obtain⟨out2,baa⟩:∃l,out1++r2.2=l:=⟨_,rfl⟩;rw[baa]at l2 ⊢;refine(bl (λz=>ak z _) (?_:_=some (ks.length,(ks.length:Int),(k:Int),okv && w5 (nb - hh) 6,m,nb,n,a,s,bs,out2.length,out2,o,r2.1,t,ks))).trans ?_
   ·cases okv with
    |false=>simp only[al,dr]
    |true=>simp only[aj,bN,YS,ah];rw[ez (by omega) (by omega)]
   rw[ah];simp only[aJN,aes];rw[<-aC,<-aC,bcW,baa];unfold aez;cases aJF:(okv && w5 (nb - hh) 6) with
   |false=>
    simp only[al,bE,bp,bj];rw[N.mq (by omega)]
   |true=>
    have aj0:okv=true:=by simp only[aq]at aJF;exact aJF.1
    have cw:=c1 out2 (r2.1.1,(r2.1.2.1,(r2.1.2.2.1,(r2.1.2.2.2.1,(true,()))))) 3 (by omega) aj0;simp only[aj,bG];refine(bl (λz=>ak z _) cw).trans ?_
    rw[ah,N.mq (by omega),ai];rfl
 ·right;obtain rfl:k=ks.length:=by omega
  intro R kn kx;rw[Ml,aO (by omega),al];simp only[bm,FT,aa,aK,cK]
theorem aiv{m:Wm}(h:∀p∈m,Ju p.1):(Dc m).Perm (m.map (·.1)):=(acR Ae λx hx=>by
 obtain⟨p,hp,rfl⟩:=c9.1 hx;exact h p hp).1
theorem aOs:Mg.Ok:=by
 rintro⟨m,nb,n,a,s,bs⟩ ⟨hj,hl,hn,hm⟩;have hl:m.length<=1000:=hl;have hle:nb<=bs.length:=by obtain⟨A0,b,hc⟩:=hj;exact hc.ch.1
 have hlen:(Dc m).length=m.length:=by rw[(aiv λp hp=>(hm p hp).1).length_eq,bX]
 have z1:((0:Int)).toNat=0:=rfl;rw[aOr,RH (d:=m) ⟨by show m.length<=_;omega,λp hp=>(hm p hp).1⟩];simp only[ah,bm,amb];rw[amm (d:=(m.length,(m.length:Int),0,m,nb,n,a,s,bs,0,[],Dc m)) ⟨hj,by show(Dc m).length<=_;omega,hlen.symm,by show(m.length:Int)=_;rw[hlen],rfl,λp hp=>(hm p hp).2,0,aL _,rfl,aw _⟩];simp only[ah,bm,FT,z1,aF,bm,amk,yU]
theorem aF7:Mg.RS:=rE [.d (.slice (.pair aV jN)),.n,.n,.d (.slice (.pair aV eS)),.d (.slice cC),.d (.slice dU)] Mg
def aOt:=Mg.eN aOs 1 ⟨.fm asJ,trivial⟩
abbrev ze:=Int
def AV:ze->SA:=λn=>([.d ti n],[])
abbrev azL:=Bs
abbrev XZ:=Bs
def J4:XZ->fx:=λx=>⟨.d tB x,[],[]⟩
def sQ:ze->azL->XZ:=λn y=>y
def J3:Nat->ze->Prop
 | 0=>λ_=>False
 |dep+1=>λn=>0<=n/\n<=9223372036854775807/\n < 128^(dep+1)
def B7:ze->azL:=λn=>fT n
theorem awD{n:Int}(h:n < 128):fT n=[n]:=by unfold fT;rw[gr,if_neg (by omega)];rfl
theorem aEM{n:Int}(h:128<=n)(h2:n<=9223372036854775807):fT n=(n%128+128)::fT (n / 128):=by unfold fT;rw[ahS h h2];rfl
theorem asC{n:Int}(h0:0<=n)(h:n < 256):dT .u8 n=n:=by rw[S4,gK];omega
theorem ahC:∀d d',AV d=AV d'->d=d':=W0 [.d ti] λ_=>by kernel_rfl
def XY(dep:Nat):Entry:=Entry.of [some ti] AV (J3 dep) (λd=>sQ d (B7 d)) J4
def Wa(dep:Nat):ze->Option XZ:=λd=>(XY dep).run (AV d).1 (AV d).2
theorem awd{dep:Nat}{d:ze}(h:J3 dep d):Wa dep d=some (sQ d (B7 d)):=Entry.vi ahC h
def azK(dep:Nat):om:=ayU 191 lO (XY dep) (kh (P:=Tryz.prog) [])
def abX:wO:= {bI:=[8,13],res:=[some tB]}
def azI(dep:Nat):= @G2 Tryz.prog (azK dep) abX 0 Tryz.f191 _ AV
theorem aMb{R:Type}(dep:Nat)(n:Int)(k:fx->Option R):azI dep n k=aG ((fP n (128:Int))) (k (J4 [(dT .u8 n)])) (ak (Wa dep (td .i64 n (128:Int))) λx1=>aG (cT (1+(ag x1)) 1) (aG (decide (0=0/\(0+(1+(ag x1)))<=(ag ([(bH .u8 (dT .u8 (mm n (128:Int))) (128:Int))]++x1)))) (k (J4 (cut ([(bH .u8 (dT .u8 (mm n (128:Int))) (128:Int))]++x1) 0 (1+(ag x1))))) none) none):=by kernel_rfl
theorem aMc:∀(dep:Nat) (d:ze),J3 (dep+1) d->azI dep d some=some (J4 (sQ d (B7 d))):=by
 rintro dep (n:Int) ⟨h0,h1,h2⟩;have h0:0<=n:=h0;have h1:n<=9223372036854775807:=h1;have h2:n < 128^(dep+1):=h2;rw[aMb];simp only[sQ,B7];by_cases h:n < 128
 ·rw[aT h,aj,awD h,asC h0 (by omega)]
 ·obtain⟨m,rfl⟩:∃m:Nat,n=m:=⟨n.toNat,by omega⟩;cases dep with
  |zero=>exact absurd h2 h
  |succ dep=>
   have e:(128:Int)^(dep+1+1)=128^(dep+1)*128:=fC 128 (dep+1);have e1:td .i64 (m:Int) (128:Int)=((m / 128:Nat):Int):=N.bbW (by omega);have e2:mm (m:Int) (128:Int)=((m%128:Nat):Int):=N.bal;have e3:bH .u8 (dT .u8 ((m%128:Nat):Int)) (128:Int)=(m:Int)%128+128:=by rw[asC (by omega) (by omega)];show IntKind.u8.wrap _=_;rw[wrap_u8,gK];omega
   have e4:((m / 128:Nat):Int)=(m:Int) / 128:=by omega
   have hl:=j8 ((m:Int) / 128);rw[aO h,al,e1,e2,e3,e4,awd (dep:=dep+1) (d:=(m:Int) / 128) ⟨by show 0<=(m:Int) / 128;omega,by show(m:Int) / 128<=_;omega,by show(m:Int) / 128 < _;omega⟩];simp only[ah,sQ,B7];rw[de (by omega) (by omega),aEM (by omega) h1];have el:([(m:Int)%128+128]++fT ((m:Int) / 128)).length=1+(fT ((m:Int) / 128)).length:=by rw[ai];rfl
   rw[aH ⟨by trivial,by rw[el];omega⟩,eP el];rfl
def azJ:Entry:=XY 9
def NT:ze->Option XZ:=KB azJ AV
theorem ahD{d:ze}(h:J3 9 d):NT d=some (sQ d (B7 d)):=Entry.vi ahC h
theorem Wb:∀dep,qw Tryz.prog 191 (XY dep)
 | 0=>qw.of (an:=abX) (N:=0) (fn:=Tryz.f191) (by kernel_rfl) (show Sound _ aVx from Sound.nil _) (by kernel_rfl) (by kernel_rfl) (by kernel_rfl) (jP.fn 0 (by kernel_rfl) trivial) (λ_ h=>False.elim h)
 |dep+1=>qw.of (an:=abX) (N:=0) (fn:=Tryz.f191) (by kernel_rfl) (show Sound _ (azK dep) from Sound.cons (uS.of (Wb dep) (by rfl)) (Sound.kh (P:=Tryz.prog) [])) (by kernel_rfl) (by kernel_rfl) (by kernel_rfl) (jP.fn 0 (by kernel_rfl) trivial) (aMc dep)
def aq0:SG Tryz.prog:=⟨191,lO,azJ,.of (Wb 9) (by rfl)⟩
abbrev azH:=Bs×Int
abbrev aSd:=Bs
def aEd:azH->Prop:=λ(b,n)=>b.length<=90000000/\n<=9223372036854775807
def mX:azH->aSd:=λ(b,n)=>cz b n
def qW:Fs Tryz.prog aEd bm mX:=eI 150 Tryz.f150 (λ(b,n)=>([.d tB b,.d ti n],[])) (λx=>⟨.d tB x,[],[]⟩) [some tB,some ti] [aq0] {bI:=[6],res:=[some tB]}
theorem aL5{R:Type}(b n)(k:K1 R):qW.A (b,n) k=aG (cT (0+(ag b)) 1) (aG ((BP n 0)) (ak (NT n) λx1=>aG (decide ((0+(ag b))<=(ag ((aQ 0 (ab 0 0))++b)))) (aG (cT ((0+(ag b))+(ag x1)) 1) (aG (decide (0=0/\(0+((0+(ag b))+(ag x1)))<=(ag ((aQ (0+(ag b)) ((aQ 0 (ab 0 0))++b))++x1)))) (k (qW.out (cut ((aQ (0+(ag b)) ((aQ 0 (ab 0 0))++b))++x1) 0 ((0+(ag b))+(ag x1))))) none) none) none) (aG (decide (0=0/\(0+(0+(ag b)))<=(ag ((aQ 0 (ab 0 0))++b)))) (k (qW.out (cut ((aQ 0 (ab 0 0))++b) 0 (0+(ag b))))) none)) none:=by kernel_rfl
theorem aL6:qW.Ok:=by
 rintro⟨b,n⟩ ⟨hb,hn⟩;have hb:b.length<=90000000:=hb;have hn:n<=9223372036854775807:=hn;have e0:(aQ 0 (ab 0 0):List Int)=[]:=rfl;rw[aL5];simp only[aJ,e0,aR,bm,mX,cz,aw,iR,cn,aj,eP,bJ];rw[de (by omega) (by omega),aj];by_cases h:n>=0
 ·have hl:=j8 n;rw[fW h,aj,if_neg (by omega),ahD (d:=n) ⟨h,hn,by have e:(128:Int)^(8+1)=9223372036854775808:=rfl;rw[e];show n < _;omega⟩];simp only[ah,sQ,B7];rw[de (by omega) (by omega),aH ⟨by trivial,by rw[ai];omega⟩,eP (by rw[ai])];rfl
 ·rw[eo h,if_pos (by omega)];rfl
theorem jc:qW.RS:=rE [.d tB,.d ti] qW
def abS:=qW.eN aL6
abbrev V9:=Int×Nat×Int×(List Int)
abbrev aqZ:=Nat×(List Int)
abbrev aqY:=Bs×Int
abbrev aMa:=Bs
def ae5:V9->Prop:=λ(n,m,i,l)=>m=l.length/\∃j:Nat,j<=8/\i=7 - (j:Int)/\l.length<=100000000+j
def B6:V9->aqZ:=λ(n,m,i,l)=>(m+(i+1).toNat,l++(iX n).drop (7 - i).toNat)
def awc:aqY->Prop:=λ(b,n)=>b.length<=90000000
def abV:aqY->aMa:=λ(b,n)=>b++iX n
def qf:Ls ae5 bm B6:=qv (λ(wg,outL,i,n7)=>⟨([bA,.d tu wg,bA,bA,bA,nE 7 outL,.d ti i]++aP 17 []),[],(bC 7 ([dH (.vec 5 tb n7)]++bC 16 []))⟩) (λx=>(.exit 0,⟨(aP 5 ([nE 7 x.1]++aP 18 [])),[],(bC 7 ([dH (.vec 5 tb x.2)]++bC 16 []))⟩))
def AU:Fs Tryz.prog awc bm abV:=eI 194 Tryz.f194 (λ(b,n)=>([.d tB b,.d tu n],[])) (λx=>⟨.d tB x,[],[]⟩) [some tB,some tu] [] {bI:=[7],loops:=nD [(3,{aU:=[1,5,6],sites:=[7],owns:=[⟨5,[],7,127⟩]})],outs:=nC [(3,{aU:=[5],sites:=[7]},{aU:=[4]})],fu:=np [(3,qf.E)],res:=[some tB]}
theorem ae6:qf.RS:=rL [.d tu,.n,.d ti,.d tB] qf
theorem Iy{R:Type}(wg outL i n7)(kn:K2 R)(kx:K3 R):AU.R 0 qf (wg,outL,i,n7) kn kx=aG ((BP i 0)) (aG (ma (dT .u64 (fX .i64 8 i))) (aG (decide (outL<=(ag n7))) (aG (cT (outL+1) 1) (kn (qf.st (wg,(outL+1),(cI .i64 i 1),((aQ outL n7)++ [(dT .u8 (cq .u64 wg (dT .u64 (fX .i64 8 i))))])))) none) none) none) (qf.go kx (outL,n7)):=by kernel_rfl
theorem aEm{R:Type}(b n)(k:K1 R):AU.A (b,n) k=aG (cT (0+(ag b)) 1) (ak (qf.call (n,(0+(ag b)),7,((aQ 0 (ab 0 0))++b))) λx1=>aG (decide (0=0/\(0+x1.1)<=(ag x1.2))) (k (AU.out (cut x1.2 0 x1.1))) none) none:=by kernel_rfl
theorem alc:(AU.jP 0 qf):=by
 refine(AU.lk 0 qf) (λ(n,m,i,l)=>(i+1).toNat) ?_
 rintro⟨n,m,i,l⟩ ⟨rfl,j,hj,rfl,hl⟩;have hl:l.length<=100000000+j:=hl;have e1:(7 - (7 - (j:Int))).toNat=j:=by omega
 by_cases h:j < 8
 ·left;have e2:cI .i64 (7 - (j:Int)) 1=7 - ((j+1:Nat):Int):=by rw[ez (by omega) (by omega)];omega
  have e3:(7 - (7 - ((j+1:Nat):Int))).toNat=j+1:=by omega
  have e4:fX .i64 8 (7 - (j:Int))=((56 - 8*j:Nat):Int):=by rw[HG (by omega) (by omega)];omega
  have e5:dT .u64 ((56 - 8*j:Nat):Int)=((56 - 8*j:Nat):Int):=by rw[XK,gK];omega
  refine⟨(n,l.length+1,7 - ((j+1:Nat):Int),l++ [n / 2^(56 - 8*j)%256]),⟨by rw[ai];rfl,j+1,by omega,rfl,by rw[ai];show l.length+1<=_;omega⟩,by simp only;omega,?_,λkn kx=> ?_⟩
  ·simp only[bm,B6,e1,e3,amW n j h,aC,cS];rw[show l.length+1+(7 - ((j+1:Nat):Int)+1).toNat=l.length+(7 - (j:Int)+1).toNat by omega]
  ·rw[Iy,fW (by omega),e4,e5,sO (by omega),adE n _ (by omega),e2,aH (aw _),de (by omega) (by omega),bJ];rfl
 ·right;obtain rfl:j=8:=by omega
  intro R kn kx;rw[Iy,eo (by omega),al];simp only[bm,B6,e1];rw[du (by rw[bY];omega),bj];rfl
theorem aEn:AU.Ok:=by
 rintro⟨b,n⟩ hb;have hb:b.length<=90000000:=hb;have e0:(aQ 0 (ab 0 0):List Int)=[]:=rfl;rw[aEm];simp only[aJ,e0,aR];rw[de (by omega) (by omega),aj,ae6 (d:=(n,b.length,7,b)) ⟨rfl,0,by omega,rfl,by omega⟩];simp only[ah,bm,B6];rw[show(7 - (7:Int)).toNat=0 from rfl,show((7:Int)+1).toNat=8 from rfl,aF];have el:(b++iX n).length=b.length+8:=by rw[ai,bY]
 rw[aH ⟨by trivial,by rw[el];omega⟩,eP el];rfl
theorem abW:AU.RS:=rE [.d tB,.d tu] AU
def aEo:=AU.eN aEn 1 ⟨.fm alc,trivial⟩
abbrev QC:=Int×Int×Int
abbrev ala:=Int
abbrev ahA:=Int×Int
abbrev aEc:=Int
def abQ:QC->Prop:=λ(a,b,o)=>Pn a/\nr b/\Pn o
def Fg:QC->ala:=λ(a,b,o)=>(o+a*b)%4611686018427377339
def aqT:ahA->Prop:=λ(a,b)=>Pn a/\nr b
def aEb:ahA->aEc:=λ(a,b)=>oW a b
def lD:Ls abQ bm Fg:=qv (λ(FZ,gE,outv)=>⟨([.d tu FZ,.d tu gE,bA,bA,bA,.d tu outv]++aP 16 []),[],(ab 22 [])⟩) (λx=>(.exit 0,⟨(aP 5 ([.d tu x]++aP 16 [])),[],(ab 22 [])⟩))
def rH:Fs Tryz.prog aqT bm aEb:=eI 239 Tryz.f239 (λ(a,b)=>([.d tu a,.d tu b],[])) (λx=>⟨.d tu x,[],[]⟩) [some tu,some tu] [] {loops:=nD [(2,{aU:=[0,1,5]})],outs:=nC [(2,{aU:=[5]},{aU:=[4]})],fu:=np [(2,lD.E)]}
theorem abR:lD.RS:=rL [.d tu,.d tu,.d tu] lD
theorem Gk{R:Type}(FZ gE outv)(kn:K2 R)(kx:K3 R):rH.R 0 lD (FZ,gE,outv) kn kx=aG ((w5 gE 0)) (aG ((qO (mm gE 2) 1)) (kn (lD.st ((mm (bH .u64 FZ FZ) 4611686018427377339),(td .u64 gE 2),(mm (bH .u64 outv FZ) 4611686018427377339)))) (kn (lD.st ((mm (bH .u64 FZ FZ) 4611686018427377339),(td .u64 gE 2),outv)))) (lD.go kx outv):=by kernel_rfl
theorem av4{R:Type}(a b)(k:K1 R):rH.A (a,b) k=ak (lD.call (a,b,0)) λx1=>k (rH.out x1):=by kernel_rfl
theorem aCu(o a b:Int)(m:Int):(o+a*b)%m=((if b%2=1 then(o+a)%m else o)+(a+a)%m*(b / 2))%m:=by
 have e:b=2*(b / 2)+b%2:=by omega
 have hb:b%2=0\/b%2=1:=by omega
 generalize b / 2=q at*;have l1:∀x y:Int,(x%m+(a+a)%m*y)%m=(x+(a+a)*y)%m:=λx y=>by rw[tj,gB _ (pD m),jk,gB _ (pD m),<-jk,<-tj]
 have l2:∀x y:Int,(x+(a+a)%m*y)%m=(x+(a+a)*y)%m:=λx y=>by rw[tj,jk,gB _ (pD m),<-jk,<-tj]
 rcases hb with h | h
 ·rw[if_neg (by omega),l2];rw[h]at e;rw[e,Int.add_zero,Int.add_mul,<-qI,pE a 2,Int.two_mul,Int.add_mul]
 ·rw[if_pos h,l1];rw[h]at e;rw[e,Int.mul_add,wP,<-qI,pE a 2,Int.two_mul];congr 1;omega
theorem aT5{n:Int}(h:nr n):td .u64 n 2=n / 2:=akc h.1 (by omega) h.2
theorem ae2:(rH.jP 0 lD):=by
 refine(rH.lk 0 lD) (λ(a,b,o)=>b.toNat) ?_
 rintro⟨a,b,o⟩ ⟨ha,hb,ho⟩;have ha:Pn a:=ha;have hb:nr b:=hb;have ho:Pn o:=ho;obtain⟨a0,a1⟩:=ha;obtain⟨b0,b1⟩:=hb;obtain⟨o0,o1⟩:=ho;by_cases h:0 < b
 ·left;have e1:mm (bH .u64 a a) 4611686018427377339=(a+a)%4611686018427377339:=by
   have:bH .u64 a a=a+a:=by rw[tV];omega
   rw[this,vZ (by omega)]
  have e2:mm (bH .u64 o a) 4611686018427377339=(o+a)%4611686018427377339:=by
   have:bH .u64 o a=o+a:=by rw[tV];omega
   rw[this,vZ (by omega)]
  refine⟨((a+a)%4611686018427377339,b / 2,if b%2=1 then(o+a)%4611686018427377339 else o),⟨⟨by omega,by omega⟩,⟨by omega,by omega⟩,?_⟩,by simp only[];omega,?_,λkn kx=> ?_⟩
  ·show Pn (if b%2=1 then(o+a)%4611686018427377339 else o);split
   ·exact⟨by omega,by omega⟩
   ·exact⟨o0,o1⟩
  ·exact bl _ (aCu o a b 4611686018427377339).symm
  ·rw[Gk,df h,e1,e2,aT5 ⟨b0,b1⟩,vZ b0];by_cases h1:b%2=1
   ·rw[dj h1,if_pos h1];rfl
   ·rw[eM h1,if_neg h1];rfl
 ·right;intro R kn kx;obtain rfl:b=0:=by omega
  rw[Gk,cE (by omega)];simp only[al,bm,Fg];rw[show(o+a*0)%4611686018427377339=o by omega]
theorem av5:rH.Ok:=by rintro⟨a,b⟩ ⟨ha,hb⟩;rw[av4,abR (d:=(a,b,0)) ⟨ha,hb,by omega,by omega⟩];simp only[ah,bm,Fg,Int.zero_add];rfl
theorem V7:rH.RS:=rE [.d tu,.d tu] rH
def av6:=rH.eN av5 1 ⟨.fm ae2,trivial⟩
abbrev QB:=Int×Int×Int
abbrev ak9:=Int
abbrev ahy:=Int×Int
abbrev aD9:=Int
def abO:QB->Prop:=λ(a,n,o)=>Pn a/\nr n/\Pn o
def zd:QB->ak9:=λ(a,n,o)=>amy 64 a n.toNat o
def aqQ:ahy->Prop:=λ(a,n)=>Pn a/\nr n
def aD8:ahy->aD9:=λ(a,n)=>pw a n.toNat
def lC:Ls abO bm zd:=qv (λ(FZ,wg,outv)=>⟨([.d tu FZ,.d tu wg,bA,bA,bA,.d tu outv]++aP 14 []),[],(ab 20 [])⟩) (λx=>(.exit 0,⟨(aP 5 ([.d tu x]++aP 14 [])),[],(ab 20 [])⟩))
def wy:Fs Tryz.prog aqQ bm aD8:=eI 219 Tryz.f219 (λ(a,n)=>([.d tu a,.d tu n],[])) (λx=>⟨.d tu x,[],[]⟩) [some tu,some tu] [av6] {loops:=nD [(2,{aU:=[0,1,5]})],outs:=nC [(2,{aU:=[5]},{aU:=[4]})],fu:=np [(2,lC.E)]}
theorem abP:lC.RS:=rL [.d tu,.d tu,.d tu] lC
theorem Gj{R:Type}(FZ wg outv)(kn:K2 R)(kx:K3 R):wy.R 0 lC (FZ,wg,outv) kn kx=aG ((w5 wg 0)) (aG ((qO (mm wg 2) 1)) (ak (rH.call (outv,FZ)) λx1=>ak (rH.call (FZ,FZ)) λx2=>kn (lC.st (x2,(td .u64 wg 2),x1))) (ak (rH.call (FZ,FZ)) λx3=>kn (lC.st (x3,(td .u64 wg 2),outv)))) (lC.go kx outv):=by kernel_rfl
theorem avY{R:Type}(a n)(k:K1 R):wy.A (a,n) k=ak (lC.call (a,n,1)) λx4=>k (wy.out x4):=by kernel_rfl
theorem ae1:(wy.jP 0 lC):=by
 refine(wy.lk 0 lC) (λ(a,n,o)=>n.toNat) ?_
 rintro⟨a,n,o⟩ ⟨ha,hn,ho⟩;have ha:Pn a:=ha;have hn:nr n:=hn;have ho:Pn o:=ho;have n0:=hn.1;have n1:=hn.2;by_cases h:0 < n
 ·left;have e:zd (a,n,o)=zd (oW a a,n / 2,if n%2=1 then oW o a else o):=by
   show amy 64 a n.toNat o=amy 64 (oW a a) (n / 2).toNat _;rw[abn 64 65 a n.toNat o (by omega) (by omega)];have t1:(n / 2).toNat=n.toNat / 2:=by omega
   have t2:(n%2=1)=(n.toNat%2=1):=by apply propext;omega
   rw[t1];simp only[t2];show(if n.toNat=0 then o else _)=_;rw[if_neg (by omega)]
  refine⟨(oW a a,n / 2,if n%2=1 then oW o a else o),⟨we a a,⟨by omega,by omega⟩,?_⟩,by show(n / 2).toNat < n.toNat;omega,?_,λkn kx=> ?_⟩
  ·show Pn (if n%2=1 then oW o a else o);split
   ·exact we _ _
   ·exact ho
  ·exact bl _ e.symm
  ·rw[Gj,df h,aT5 hn,vZ n0,V7 (d:=(o,a)) ⟨ho,ha.u⟩,V7 (d:=(a,a)) ⟨ha,ha.u⟩];by_cases h1:n%2=1
   ·rw[dj h1,if_pos h1];rfl
   ·rw[eM h1,if_neg h1];rfl
 ·right;intro R kn kx;obtain rfl:n=0:=by omega
  rw[Gj,cE (by omega)];simp only[al,bm,zd];rw[show amy 64 a (ae 0) o=o from AQ _ _ _]
theorem avZ:wy.Ok:=by rintro⟨a,n⟩ ⟨ha,hn⟩;rw[avY,abP (d:=(a,n,1)) ⟨ha,hn,by omega,by omega⟩];rfl
theorem aqR:wy.RS:=rE [.d tu,.d tu] wy
def av0:=wy.eN avZ 1 ⟨.fm ae1,trivial⟩
abbrev ahz:=Int
abbrev aEa:=Bool
def aqS:ahz->Prop:=λp=>nr p
def J2:ahz->aEa:=λp=>uV p
def uj:Fs Tryz.prog aqS bm J2:=eI 187 Tryz.f187 (λp=>([.d tu p],[])) (λx=>⟨.d .bool x,[],[]⟩) [some tu] [av0]
theorem av1{R:Type}(p)(k:K1 R):uj.A p k=aG ((BP p 1)) (aG ((fP p 4611686018427377339)) (ak (wy.call (p,2305843009213688669)) λx1=>k (uj.out (qO x1 1))) (k (uj.out false))) (k (uj.out false)):=by kernel_rfl
theorem av2:uj.Ok:=by
 intro(p:Int) hp;have hp:nr p:=hp;rw[av1];simp only[bm,J2,uV];by_cases h:0 < p
 ·rw[fW (by omega),aj];by_cases h2:p < 4611686018427377339
  ·rw[aT h2,aj,aH ⟨h,h2⟩,bN,aqR (d:=(p,2305843009213688669)) ⟨⟨by omega,h2⟩,by constructor <;> decide⟩];rfl
  ·rw[aO h2,al,aS (λx=>h2 x.2),dr]
 ·rw[eo (by omega),al,aS (λx=>h x.1),dr]
theorem V6:uj.RS:=rE [.d tu] uj
def av3:=uj.eN av2
abbrev pd:=pC×Int
def jf:pd->AS:=λ(gE,i)=>⟨([bA,.dL kj gE,bA,.d ti i]++aP 50 []),[],(ab 54 [])⟩
abbrev W6:=Unit
abbrev Gh:=Unit
def jM:Gh->Exit×AS:=λx=>(.ret,⟨([bA,bA,.d .bool false]++aP 51 []),[],(ab 54 [])⟩)
abbrev W7:=Unit
abbrev Gi:=pC
def qd:Gi->Exit×AS:=λx=>(.exit 0,⟨([bA,.dL kj x]++aP 52 []),[],(ab 54 [])⟩)
abbrev AT:=(Gh)⊕(Gi)
abbrev Ic:=(W6)⊕(W7)
def vp:AT->Out (Exit×AS):=λx=> .br x.isLeft (.get x.getLeft? λa=> .ok (jM a)) (.get x.getRight? λb=> .ok (qd b))
def gI:pd->Ic->AT:=λ(gE,i) y=>match y with | .inl y=> .inl y | .inr z=> .inr (gE)
abbrev V3:=pC
abbrev aqA:=Bool
def qc:pd->Prop:=λ(b,i)=>aGv b/\b.1.length<=1000000000/\∃k:Nat,k<=b.1.length/\i=k
def iU:pd->Ic:=λ(b,i)=>if(b.1.drop i.toNat).all uV then .inr () else .inl ()
def aeT:V3->Prop:=λb=>aGv b
def Ia:V3->aqA:=λb=>uP b
def Ib:=dA.fm jf qc gI iU vp
def B3:pd->Option AT:=gN Ib jf
def gl:Fs Tryz.prog aeT bm Ia:=eI 145 Tryz.f145 (λb=>([.d kj b],[])) (λx=>⟨.d .bool x,[],[]⟩) [some kj] [av3] {loops:=nD [(4,{aU:=[1,3]})],outs:=nC [(4,{aU:=[1]},{aU:=[2]})],fu:=np [(4,Ib)]}
def AR:= @eE Tryz.prog (kh gl.G) gl.an 0 Tryz.f145 0 _ jf
abbrev Gg:=lu Tryz.prog (kh gl.G) gl.an 0 Tryz.f145 0 jf qc gI iU vp
theorem Tt:jd B3 qc gI iU:=na (jK [.d kj,.d ti] λ_=>by kernel_rfl)
theorem GW:oe @AR jf qc gI iU vp Gg:=oB
theorem B4{R:Type}(gE:pC)(i:Int)(kn:AS->Option R)(kx:Exit->AS->Option R):AR (gE,i) kn kx=aG ((fP i (((ag gE.1):Nat):Int))) (aG (ed i (((ag gE.1):Nat):Int)) (ak (uj.call (nth tu gE.1 (ae i))) λx1=>aG ((!x1)) (kx (jM ()).1 (jM ()).2) (kn (jf (gE,(bH .i64 i (1:Int)))))) none) (kx (qd gE).1 (qd gE).2):=by kernel_rfl
theorem akV{R:Type}(b)(k:K1 R):gl.A b k=aG ((w5 (b.1.length:Int) 12)) (k (gl.out false)) (aG ((fP b.2.1 0)) (k (gl.out false)) (aG ((w5 b.2.1 1048576)) (k (gl.out false)) (aG ((fP b.2.2.1 0)) (k (gl.out false)) (aG ((w5 b.2.2.1 1048576)) (k (gl.out false)) (ak (B3 (b,0)) λx2=>aG (x2.isLeft) (ak (x2.getLeft?) λa3=>k (gl.out false)) (ak (x2.getRight?) λb4=>ak (uj.call b4.2.2.2.1) λx5=>aG ((qO b4.2.2.2.1 0)) (k (gl.out true)) (k (gl.out x5)))))))):=by kernel_rfl
theorem W8:Gg:=by
 refine GW (λ(b,i)=>b.1.length - i.toNat) ?_
 rintro⟨b,i⟩ ⟨hb,hl,k,hk,rfl⟩;have hl:b.1.length<=1000000000:=hl;have hk:k<=b.1.length:=hk;by_cases h:k < b.1.length
 ·have hx:=hb.1 _ (aM h);have n1:nth (.int .u64) b.1 k=b.1[k]:=bV (t:= .int .u64) h;have hd:(b.1.drop k).all uV=(uV b.1[k] && (b.1.drop (k+1)).all uV):=by rw[ao h,iK]
  have step:∀ {R:Type} (kn:AS->Option R) (kx:Exit->AS->Option R),AR (b,(k:Int)) kn kx=aG (uV b.1[k]) (kn (jf (b,((k+1:Nat):Int)))) (kx (jM ()).1 (jM ()).2):=by intro R kn kx;rw[B4,aT (by omega),bf (by omega) (by omega),aa,n1,N.mq (by omega),V6 (d:=b.1[k]) hx];simp only[aj,ah,bm,J2];cases uV b.1[k] <;> rfl
  cases hp:uV b.1[k]
  ·right;refine⟨jM (),?_,λkn kx=> ?_⟩
   ·simp only[gI,iU,aa,hd,hp,dr,bE,bp];rfl
   ·rw[step,hp,al]
  ·left;refine⟨(b,((k+1:Nat):Int)),⟨hb,hl,k+1,by omega,rfl⟩,by simp only[aa];omega,?_,λkn kx=> ?_⟩
   ·simp only[gI,iU,aa,hd,hp,bN]
   ·rw[step,hp,aj]
 ·right;obtain rfl:k=b.1.length:=by omega
  refine⟨qd b,?_,λkn kx=> ?_⟩
  ·simp only[gI,iU,aa,aK];rfl
  ·rw[B4];simp(disch:=omega) only[↓S1,↓if_pos,↓if_neg,if_pos,if_neg,bG,bp,S2]
theorem akW:gl.Ok:=by
 rintro⟨ks,af,dl,sc,u⟩ hb;have hb:aGv (ks,af,dl,sc,u):=hb;have h2:nr sc:=hb.2;rw[akV];simp only[bm,Ia,uP,Nf];by_cases hk:ks.length<=12
 ·rw[cE (by omega),aH hk,Tt (d:=((ks,af,dl,sc,u),0)) ⟨hb,by show ks.length<=1000000000;omega,0,by omega,rfl⟩];simp only[al,bN,ah,gI,iU,aY,aF];by_cases a1:af < 0
  ·rw[aT a1,aS (p:=0<=af/\af<=1048576) (by omega)];cases ks.all uV <;> rfl
  by_cases a2:af > 1048576
  ·rw[aO a1,df a2,aS (p:=0<=af/\af<=1048576) (by omega)];cases ks.all uV <;> rfl
  by_cases a3:dl < 0
  ·rw[aO a1,cE a2,aT a3,aS (p:=0<=dl/\dl<=1048576) (by omega)];cases ks.all uV <;> cases(decide (0<=af/\af<=1048576)) <;> rfl
  by_cases a4:dl > 1048576
  ·rw[aO a1,cE a2,aO a3,df a4,aS (p:=0<=dl/\dl<=1048576) (by omega)];cases ks.all uV <;> cases(decide (0<=af/\af<=1048576)) <;> rfl
  rw[aO a1,cE a2,aO a3,cE a4,aH (p:=0<=dl/\dl<=1048576) (by omega),aH (p:=0<=af/\af<=1048576) (by omega)];cases aJJ:ks.all uV
  ·simp only[aJJ,bE,bp];rfl
  ·simp only[aJJ,bG];show ak (uj.call sc) _=_;rw[V6 (d:=sc) h2];simp only[ah,bm,J2];by_cases hs:sc=0
   ·rw[aH hs];show aG (qO sc 0) _ _=_;rw[dj hs];rfl
   ·rw[aS hs];show aG (qO sc 0) _ _=_;rw[eM hs];rfl
 ·rw[df (by omega),aS hk];rfl
theorem aeU:gl.RS:=rE [.d kj] gl
def akX:=gl.eN akW 1 ⟨.fm W8,trivial⟩
abbrev qS:=Lk×Int
def j4:qS->AS:=λ(Bn,i)=>⟨([bA,.dL Oj Bn,bA,.d ti i]++aP 24 []),[],(ab 28 [])⟩
abbrev abu:=Unit
abbrev Ig:=Unit
def kz:Ig->Exit×AS:=λx=>(.ret,⟨([bA,bA,.d .bool false]++aP 25 []),[],(ab 28 [])⟩)
abbrev abv:=Unit
abbrev Ih:=Unit
def rr:Ih->Exit×AS:=λx=>(.exit 0,⟨(aP 28 []),[],(ab 28 [])⟩)
abbrev CP:=(Ig)⊕(Ih)
abbrev Lu:=(abu)⊕(abv)
def xB:CP->Out (Exit×AS):=λx=> .br x.isLeft (.get x.getLeft? λa=> .ok (kz a)) (.get x.getRight? λb=> .ok (rr b))
def ik:qS->Lu->CP:=λ(Bn,i) y=>match y with | .inl y=> .inl y | .inr z=> .inr (z)
abbrev abt:=Lk
abbrev avU:=Bool
def rq:qS->Prop:=λ(l,i)=>ad8 l/\l.1.length<=1000000000/\∃k:Nat,k<=l.1.length/\i=k
def jy:qS->Lu:=λ(l,i)=>if(l.1.drop i.toNat).all uP then .inr () else .inl ()
def ak0:abt->Prop:=λl=>ad8 l
def Ff:abt->avU:=λl=>km l
def Lt:=dA.fm j4 rq ik jy xB
def DL:qS->Option CP:=gN Lt j4
def jZ:Fs Tryz.prog ak0 bm Ff:=eI 93 Tryz.f93 (λl=>([.d Oj l],[])) (λx=>⟨.d .bool x,[],[]⟩) [some Oj] [akX] {loops:=nD [(4,{aU:=[1,3]})],outs:=nC [(4,{},{aU:=[2]})],fu:=np [(4,Lt)]}
def CO:= @eE Tryz.prog (kh jZ.G) jZ.an 0 Tryz.f93 0 _ j4
abbrev Ie:=lu Tryz.prog (kh jZ.G) jZ.an 0 Tryz.f93 0 j4 rq ik jy xB
theorem Xd:jd DL rq ik jy:=na (jK [.d Oj,.d ti] λ_=>by kernel_rfl)
theorem Ii:oe @CO j4 rq ik jy xB Ie:=oB
theorem DM{R:Type}(Bn:Lk)(i:Int)(kn:AS->Option R)(kx:Exit->AS->Option R):CO (Bn,i) kn kx=aG ((fP i (((ag Bn.1):Nat):Int))) (aG (ed i (((ag Bn.1):Nat):Int)) (ak (gl.call (nth kj Bn.1 (ae i))) λx1=>aG ((!x1)) (kx (kz ()).1 (kz ()).2) (kn (j4 (Bn,(bH .i64 i (1:Int)))))) none) (kx (rr ()).1 (rr ()).2):=by kernel_rfl
theorem aqE{R:Type}(l)(k:K1 R):jZ.A l k=aG ((fP (l.1.length:Int) 1)) (k (jZ.out false)) (aG ((w5 (l.1.length:Int) 4)) (k (jZ.out false)) (ak (DL (l,0)) λx2=>aG (x2.isLeft) (ak (x2.getLeft?) λa3=>k (jZ.out false)) (ak (x2.getRight?) λb4=>k (jZ.out true)))):=by kernel_rfl
theorem abw:Ie:=by
 refine Ii (λ(l,i)=>l.1.length - i.toNat) ?_
 rintro⟨l,i⟩ ⟨hb,hl,k,hk,rfl⟩;have hl:l.1.length<=1000000000:=hl;have hk:k<=l.1.length:=hk;by_cases h:k < l.1.length
 ·have hx:=hb _ (aM h);have n1:nth (.pair (.slice (.int .u64)) (.pair (.int .i64) (.pair (.int .i64) (.pair (.int .u64) .unit)))) l.1 k=l.1[k]:=bV (t:=(.pair (.slice (.int .u64)) (.pair (.int .i64) (.pair (.int .i64) (.pair (.int .u64) .unit))))) h;have hd:(l.1.drop k).all uP=(uP l.1[k] && (l.1.drop (k+1)).all uP):=by rw[ao h,iK]
  have step:∀ {R:Type} (kn:AS->Option R) (kx:Exit->AS->Option R),CO (l,(k:Int)) kn kx=aG (uP l.1[k]) (kn (j4 (l,((k+1:Nat):Int)))) (kx (kz ()).1 (kz ()).2):=by intro R kn kx;rw[DM,aT (by omega),bf (by omega) (by omega),aa,n1,N.mq (by omega),aeU (d:=l.1[k]) hx];simp only[aj,ah,bm,Ia];cases uP l.1[k] <;> rfl
  cases hp:uP l.1[k]
  ·right;refine⟨kz (),?_,λkn kx=> ?_⟩
   ·simp only[ik,jy,aa,hd,hp,dr,bE,bp];rfl
   ·rw[step,hp,al]
  ·left;refine⟨(l,((k+1:Nat):Int)),⟨hb,hl,k+1,by omega,rfl⟩,by simp only[aa];omega,?_,λkn kx=> ?_⟩
   ·simp only[ik,jy,aa,hd,hp,bN]
   ·rw[step,hp,aj]
 ·right;obtain rfl:k=l.1.length:=by omega
  refine⟨rr (),?_,λkn kx=> ?_⟩
  ·simp only[ik,jy,aa,aK];rfl
  ·rw[DM];simp(disch:=omega) only[↓S1,↓if_pos,↓if_neg,if_pos,if_neg,bG,bp,S2]
theorem aqF:jZ.Ok:=by
 intro l hl;have hl:ad8 l:=hl;rw[aqE];simp only[bm,Ff,km];by_cases h0:l.1.length < 1
 ·rw[aT (by omega),aS (p:=0 < l.1.length/\l.1.length<=4) (by omega),Bool.and_false];rfl
 by_cases h4:l.1.length > 4
 ·rw[aO (by omega),df (by omega),aS (p:=0 < l.1.length/\l.1.length<=4) (by omega),Bool.and_false];rfl
 rw[aO (by omega),cE (by omega),aH (p:=0 < l.1.length/\l.1.length<=4) (by omega),Bool.and_true,Xd (d:=(l,0)) ⟨hl,by show l.1.length<=1000000000;omega,0,by omega,rfl⟩];simp only[al,ah,ik,jy,aY,aF];cases l.1.all uP <;> rfl
theorem Qy:jZ.RS:=rE [.d Oj] jZ
def V4:=jZ.eN aqF 1 ⟨.fm abw,trivial⟩
abbrev Lq:=Lk×Bs×Int
abbrev aeV:=Bs
abbrev CN:=Lk×Bs×Int×Int×pC
abbrev Lr:=Bs
abbrev aeW:=(Lk×Int×pC)×(Bs)
def rp:CN->Lr->aeW:=λ(aWb,vj,gO,kv,n5) y=>((aWb,gO,n5),y)
abbrev abp:=Lk
abbrev avT:=Bs
def Xb:CN->Prop:=λ(l,o,i,j,b)=>b.1.length<=12/\∃k:Nat,k<=b.1.length/\j=k/\o.length+8*b.1.length<=80000000+8*k
def wm:CN->Lr:=λ(l,o,i,j,b)=>l6 o (b.1.drop j.toNat)
def W9:Lq->Prop:=λ(l,o,i)=>(∀b∈l.1,aX4 b)/\l.1.length<=4/\∃k:Nat,k<=l.1.length/\i=k/\o.length<=1000+200*k
def CM:Lq->aeV:=λ(l,o,i)=>(l.1.drop i.toNat).foldl aGk o
def akY:abp->Prop:=λl=>ad8 l
def NP:abp->avT:=λl=>No l
def kY:Ls W9 bm CM:=qv (λ(Bn,outv,i)=>⟨([bA,.dL Oj Bn,bA,.d tB outv,.d ti i]++aP 53 []),[],(ab 58 [])⟩) (λx=>(.exit 0,⟨([bA,bA,bA,.d tB x]++aP 54 []),[],(ab 58 [])⟩))
def kZ:Ls Xb rp wm:=qv (λ(aWb,vj,gO,kv,n5)=>⟨([bA,.dL Oj aWb,bA,.d tB vj,.d ti gO,eG 5,.d ti kv]++aP 51 []),[],(bC 5 ([dH (.d kj n5)]++bC 52 []))⟩) (λx=>(.exit 2,⟨([bA,.dL Oj x.1.1,bA,.d tB x.2,.d ti x.1.2.1,eG 5]++aP 52 []),[],(bC 5 ([dH (.d kj x.1.2.2)]++bC 52 []))⟩))
def kX:Fs Tryz.prog akY bm NP:=eI 160 Tryz.f160 (λl=>([.d Oj l],[])) (λx=>⟨.d tB x,[],[]⟩) [some Oj] [V4,abS,aEo] {loops:=nD [(5,{aU:=[1,3,4]}),(10,{aU:=[1,3,4,5,6],sites:=[5]})],outs:=nC [(5,{aU:=[3]},{aU:=[2]}),(10,{aU:=[1,3,4,5],sites:=[5]},{aU:=[2]})],fu:=np [(5,kY.E),(10,kZ.E)],res:=[some tB]}
theorem Xa:kY.RS:=rL [.d Oj,.d tB,.d ti] kY
theorem DJ{R:Type}(Bn outv i)(kn:K2 R)(kx:K3 R):kX.R 0 kY (Bn,outv,i) kn kx=aG ((fP i (Bn.1.length:Int))) (aG (ed i (Bn.1.length:Int)) (ak (qW.call (outv,(((ag (nth kj Bn.1 (ae i)).1):Nat):Int))) λx1=>ak (kZ.call (Bn,x1,i,0,(nth kj Bn.1 (ae i)))) λx2=>ak (qW.call (x2.2,x2.1.2.2.2.1)) λx3=>ak (qW.call (x3,x2.1.2.2.2.2.1)) λx4=>ak (AU.call (x4,x2.1.2.2.2.2.2.1)) λx5=>kn (kY.st (x2.1.1,x5,(bH .i64 x2.1.2.1 1)))) none) (kY.go kx outv):=by kernel_rfl
theorem Xc:kZ.RS:=rL [.d Oj,.d tB,.d ti,.d ti,.d kj] kZ
theorem DK{R:Type}(aWb vj gO kv n5)(kn:K2 R)(kx:K3 R):kX.R 1 kZ (aWb,vj,gO,kv,n5) kn kx=aG ((fP kv (n5.1.length:Int))) (aG (ed kv (n5.1.length:Int)) (ak (AU.call (vj,(nth tu n5.1 (ae kv)))) λx1=>kn (kZ.st (aWb,x1,gO,(bH .i64 kv 1),n5))) none) (kZ.go kx ((aWb,gO,n5),vj)):=by kernel_rfl
theorem aqB{R:Type}(l)(k:K1 R):kX.A l k=ak (jZ.call l) λx1=>aG ((!x1)) (k (kX.out ([]:List Int))) (ak (qW.call (([]:List Int),(l.1.length:Int))) λx2=>ak (kY.call (l,x2,0)) λx9=>k (kX.out x9)):=by kernel_rfl
theorem abr:(kX.jP 1 kZ):=by
 refine(kX.lk 1 kZ) (λ(l,o,i,j,b)=>b.1.length - j.toNat) ?_
 rintro⟨l,o,i,j,b⟩ ⟨agR,k,hk,rfl,hl⟩;have agR:b.1.length<=12:=agR;have hk:k<=b.1.length:=hk;have hl:o.length+8*b.1.length<=80000000+8*k:=hl;by_cases h:k < b.1.length
 ·left;have n1:nth (.int .u64) b.1 k=b.1[k]:=bV (t:= .int .u64) h;refine⟨(l,o++iX b.1[k],i,((k+1:Nat):Int),b),⟨agR,k+1,by omega,rfl,by rw[ai,bY];omega⟩,by simp only[aa];omega,?_,λkn kx=> ?_⟩
  ·simp only[rp,wm,aa];rw[aab _ _ _ h]
  ·rw[DK,aT (by omega),bf (by omega) (by omega),aa,n1,abW (d:=(o,b.1[k])) (by show o.length<=90000000;omega)];simp only[aj,ah,bm,abV];rw[N.mq (by omega)]
 ·right;obtain rfl:k=b.1.length:=by omega
  intro R kn kx;rw[DK,aO (by omega),al];simp only[rp,wm,aa,aK];rfl
theorem abq:(kX.jP 0 kY):=by
 refine(kX.lk 0 kY) (λ(l,o,i)=>l.1.length - i.toNat) ?_
 rintro⟨l,o,i⟩ ⟨hb,h4,k,hk,rfl,hl⟩;have h4:l.1.length<=4:=h4;have hk:k<=l.1.length:=hk;have hl:o.length<=1000+200*k:=hl;by_cases h:k < l.1.length
 ·left;have hx:=hb _ (aM h);have n1:nth (.pair (.slice (.int .u64)) (.pair (.int .i64) (.pair (.int .i64) (.pair (.int .u64) .unit)))) l.1 k=l.1[k]:=bV (t:=(.pair (.slice (.int .u64)) (.pair (.int .i64) (.pair (.int .i64) (.pair (.int .u64) .unit))))) h;have e0:=aiW o l.1[k] hx.1;refine⟨(l,aGk o l.1[k],((k+1:Nat):Int)),⟨hb,h4,k+1,by omega,rfl,by omega⟩,by simp only[aa];omega,?_,λkn kx=> ?_⟩
  ·simp only[bm,CM,aa];rw[ao h];rfl
  ·rw[DJ,aT (by omega),bf (by omega) (by omega),aa,n1];obtain⟨⟨ks,af,dl,sc,u⟩,aVA⟩:∃b,l.1[k]=b:=⟨_,rfl⟩;rw[aVA]at hx e0 ⊢;obtain⟨agR,ha,hd⟩:=hx;have agR:ks.length<=12:=agR;have ha:af<=9223372036854775807:=ha;have hd:dl<=9223372036854775807:=hd;have l1:=dm o ks.length;have l2:=JX ks (cz o ks.length);have l3:=dm (l6 (cz o ks.length) ks) af;have l4:=dm (cz (l6 (cz o ks.length) ks) af) dl;simp only[aj];rw[jc (d:=(o,(ks.length:Int))) ⟨by show o.length<=90000000;omega,by show(ks.length:Int)<=9223372036854775807;omega⟩];simp only[ah,bm,mX];rw[Xc (d:=(l,cz o ks.length,(k:Int),0,(ks,af,dl,sc,u))) ⟨agR,0,aL _,rfl,by show(cz o ks.length).length+8*ks.length<=_;omega⟩];simp only[ah,rp,wm,aY,aF];rw[jc (d:=(l6 (cz o ks.length) ks,af)) ⟨by show(l6 (cz o ks.length) ks).length<=90000000;omega,ha⟩];simp only[ah,bm,mX];rw[jc (d:=(cz (l6 (cz o ks.length) ks) af,dl)) ⟨by show(cz (l6 (cz o ks.length) ks) af).length<=90000000;omega,hd⟩];simp only[ah,bm,mX];rw[abW (d:=(cz (cz (l6 (cz o ks.length) ks) af) dl,sc)) (by show(cz (cz (l6 (cz o ks.length) ks) af) dl).length<=90000000;omega)];simp only[ah,bm,abV];rw[N.mq (by omega)];rfl
 ·right;obtain rfl:k=l.1.length:=by omega
  intro R kn kx;rw[DJ,aO (by omega),al];simp only[bm,CM,aa,aK];rfl
theorem aqC:kX.Ok:=by
 intro l hl;have hl:ad8 l:=hl;rw[aqB,Qy (d:=l) hl];simp only[ah,bm,Ff,bm,NP,No];cases iT:km l
 ·rfl
 ·obtain⟨h1,h2,h3⟩:=ave iT;have l1:=dm [] l.1.length;have l0:([]:List Int).length=0:=rfl;simp only[ct,al,bG];rw[jc (d:=([],(l.1.length:Int))) ⟨by show([]:List Int).length<=90000000;omega,by show(l.1.length:Int)<=9223372036854775807;omega⟩];simp only[ah,bm,mX];rw[Xa (d:=(l,cz [] l.1.length,0)) ⟨h1,h3,0,aL _,rfl,by show(cz [] l.1.length).length<=_;omega⟩];rfl
theorem akZ:kX.RS:=rE [.d Oj] kX
def aqD:=kX.eN aqC 2 ⟨.fm abq,⟨.fm abr,trivial⟩⟩
abbrev V8:=Bs×Nat×Int×(List Int)
abbrev aqW:=Nat×(List Int)
abbrev aqV:=Bs×Bs
abbrev aL8:=Bs
def ae3:V8->Prop:=λ(h,m,i,l)=>h.length=32/\m=l.length/\∃k:Nat,k<=32/\i=k/\l.length<=100000000+k
def B5:V8->aqW:=λ(h,m,i,l)=>((l++h.drop i.toNat).length,l++h.drop i.toNat)
def av9:aqV->Prop:=λ(b,h)=>b.length<=90000000/\h.length=32
def DY:aqV->aL8:=λ(b,h)=>b++h
def qe:Ls ae3 bm B5:=qv (λ(PC,outL,i,n7)=>⟨([bA,bA,bA,.dL tH PC,bA,nE 7 outL,.d ti i]++aP 14 []),[],(bC 7 ([dH (.vec 5 tb n7)]++bC 13 []))⟩) (λx=>(.exit 0,⟨(aP 5 ([nE 7 x.1]++aP 15 [])),[],(bC 7 ([dH (.vec 5 tb x.2)]++bC 13 []))⟩))
def vu:Fs Tryz.prog av9 bm DY:=eI 149 Tryz.f149 (λ(b,h)=>([.d tB b,.d tH h],[])) (λx=>⟨.d tB x,[],[]⟩) [some tB,some tH] [] {bI:=[7],loops:=nD [(3,{aU:=[3,5,6],sites:=[7],owns:=[⟨5,[],7,127⟩]})],outs:=nC [(3,{aU:=[5],sites:=[7]},{aU:=[4]})],fu:=np [(3,qe.E)],res:=[some tB]}
theorem ae4:qe.RS:=rL [.d tH,.n,.d ti,.d tB] qe
theorem Iw{R:Type}(PC outL i n7)(kn:K2 R)(kx:K3 R):vu.R 0 qe (PC,outL,i,n7) kn kx=aG ((fP i 32)) (aG (ed i 32) (aG (decide (outL<=(ag n7))) (aG (cT (outL+1) 1) (kn (qe.st (PC,(outL+1),(bH .i64 i 1),((aQ outL n7)++ [(nth tb PC (ae i))])))) none) none) none) (qe.go kx (outL,n7)):=by kernel_rfl
theorem aEh{R:Type}(b h)(k:K1 R):vu.A (b,h) k=aG (cT (0+(ag b)) 1) (ak (qe.call (h,(0+(ag b)),0,((aQ 0 (ab 0 0))++b))) λx1=>aG (decide (0=0/\(0+x1.1)<=(ag x1.2))) (k (vu.out (cut x1.2 0 x1.1))) none) none:=by kernel_rfl
theorem alb:(vu.jP 0 qe):=by
 refine(vu.lk 0 qe) (λ(_,_,i,_)=>(32 - i).toNat) ?_
 rintro⟨h,m,i,l⟩ ⟨aVy,rfl,k,hk,rfl,hl⟩;have aVy:h.length=32:=aVy;have hl:l.length<=100000000+k:=hl;by_cases gv:k < 32
 ·left;have n1:nth tb h k=h[k]:=bV (t:=tb) (by omega);have el:(l++ [h[k]]).length=l.length+1:=by rw[ai];rfl
  refine⟨(h,l.length+1,((k+1:Nat):Int),l++ [h[k]]),⟨aVy,el.symm,k+1,by omega,rfl,by show(l++ [h[k]]).length<=_;omega⟩,by show(32 - ((k+1:Nat):Int)).toNat < (32 - (k:Int)).toNat;omega,?_,λkn kx=> ?_⟩
  ·simp only[bm,B5,aa];rw[ao (show k < h.length by omega),aC,cS]
  ·rw[Iw,aT (by omega),aj,bf (by omega) (by omega),aj,aH (aw _),aj,de (by omega) (by omega),aj,N.mq (by omega),aa,n1,bJ]
 ·right;obtain rfl:k=32:=by omega
  intro T kn kx;rw[Iw,aO (by omega),al];simp only[bm,B5,aa];rw[du (by omega),bj]
theorem aEi:vu.Ok:=by rintro⟨b,h⟩ ⟨hb,aVy⟩;have hb:b.length<=90000000:=hb;have aVy:h.length=32:=aVy;rw[aEh];simp only[aJ,dF,aR];rw[de (by omega) (by omega),aj,ae4 (d:=(h,b.length,0,b)) ⟨aVy,rfl,0,by omega,rfl,by omega⟩];simp only[ah,bm,B5,aY,aF,aw,iR,cn,aj,eP,bm,DY]
theorem Fh:vu.RS:=rE [.d tB,.d tB] vu
def ahB:=vu.eN aEi 1 ⟨.fm alb,trivial⟩
abbrev aqX:=Bs×Int
abbrev aL9:=Nat×(List Int)
def awa:aqX->Prop:=λ(b,n)=>b.length<=90000000/\n<=9223372036854775807
def abU:aqX->aL9:=λ(b,n)=>((cz b n).length,cz b n)
def Ix:Fs Tryz.prog awa bm abU:=eI 150 Tryz.f150 (λ(b,n)=>([.d tB b,.d ti n],[])) (λx=>⟨.bu (.new 0 0) 0 [] 0 0 x.1,[],[.obj 0 false (.vec 5 tb x.2)]⟩) [some tB,some ti] [aq0] {bI:=[6],owns:=[⟨4,[],6,127⟩]}
theorem aEj{R:Type}(b n)(k:K1 R):Ix.A (b,n) k=aG (cT (0+(ag b)) 1) (aG ((BP n 0)) (ak (NT n) λx1=>aG (decide ((0+(ag b))<=(ag ((aQ 0 (ab 0 0))++b)))) (aG (cT ((0+(ag b))+(ag x1)) 1) (k (Ix.out (((0+(ag b))+(ag x1)),((aQ (0+(ag b)) ((aQ 0 (ab 0 0))++b))++x1)))) none) none) (k (Ix.out ((0+(ag b)),((aQ 0 (ab 0 0))++b))))) none:=by kernel_rfl
theorem aEk:Ix.Ok:=by
 rintro⟨b,n⟩ ⟨hb,hn⟩;have hb:b.length<=90000000:=hb;have hn:n<=9223372036854775807:=hn;rw[aEj];simp only[aJ,dF,aR,bm,abU,cz,aw,cn,aj,bJ];rw[de (by omega) (by omega),aj];by_cases h:n>=0
 ·have hl:=j8 n;rw[fW h,aj,if_neg (by omega),ahD (d:=n) ⟨h,hn,by have e:(128:Int)^(8+1)=9223372036854775808:=rfl;rw[e];show n < _;omega⟩];simp only[ah,sQ,B7];rw[de (by omega) (by omega),ai];rfl
 ·rw[eo h,if_pos (by omega)];rfl
theorem awb:Ix.RS:=rE [.d tB,.d ti] Ix
def aEl:=Ix.eN aEk
abbrev aqU:=Bs×Bs
abbrev aL7:=Bs
def av7:aqU->Prop:=λ(b,c)=>b.length+c.length<=80000000
def abT:aqU->aL7:=λ(b,c)=>b++(fT c.length++c)
def NS:Fs Tryz.prog av7 bm abT:=eI 159 Tryz.f159 (λ(b,c)=>([.d tB b,.d tB c],[])) (λx=>⟨.d tB x,[],[]⟩) [some tB,some tB] [aEl] {res:=[some tB]}
theorem aEe{R:Type}(b c)(k:K1 R):NS.A (b,c) k=ak (Ix.call (b,(c.length:Int))) λx1=>aG (decide (x1.1<=(ag x1.2))) (aG (cT (x1.1+(ag c)) 1) (aG (decide (0=0/\(0+(x1.1+(ag c)))<=(ag ((aQ x1.1 x1.2)++c)))) (k (NS.out (cut ((aQ x1.1 x1.2)++c) 0 (x1.1+(ag c))))) none) none) none:=by kernel_rfl
theorem aEf:NS.Ok:=by
 rintro⟨b,c⟩ h;have h:b.length+c.length<=80000000:=h;have hl:=dm b c.length;have e:cz b c.length=b++fT c.length:=by unfold cz;rw[if_neg (by omega)]
 have el:(b++fT c.length++c).length=(b++fT c.length).length+c.length:=ai;rw[aEe,awb (d:=(b,(c.length:Int))) ⟨by show b.length<=_;omega,by show(c.length:Int)<=_;omega⟩];simp only[ah,bm,abU,aw,cn,aj,bJ,aJ,mi];rw[e]at hl ⊢;rw[de (by omega) (by omega),aj,aH (by omega),aj,eP el];simp only[bm,abT,aC]
theorem av8:NS.RS:=rE [.d tB,.d tB] NS
def aEg:=NS.eN aEf
abbrev azD:=ad6
abbrev aSa:=Bool
def aD3:azD->Prop:=λ_=>True
def ak1:azD->aSa:=λw=>Bh w
def Qz:Fs Tryz.prog aD3 bm ak1:=eI 158 Tryz.f158 (λwv=>([.d aFo wv],[])) (λx=>⟨.d .bool x,[],[]⟩) [some aFo]
theorem aLX{R:Type}(wv)(k:K1 R):Qz.A wv k=aG ((BP wv.1 0)) (aG ((amw wv.1 3)) (k (Qz.out (amw (wv.2.1.length:Int) 12))) (k (Qz.out false))) (k (Qz.out false)):=by kernel_rfl
theorem aLY:Qz.Ok:=by
 rintro⟨b,ss,sc,u⟩ _;rw[aLX];simp only[bm,ak1,Bh];by_cases h:0<=b
 ·rw[fW h,aj];by_cases h2:b < 4
  ·rw[oP (by omega),aj,aH ⟨h,h2⟩,bN];by_cases h3:ss.length<=12
   ·rw[oP (by omega),aH h3]
   ·rw[lY (by omega),aS h3]
  ·rw[lY (by omega),al,aS (λx=>h2 x.2),dr]
 ·rw[eo h,al,aS (λx=>h x.1),dr]
theorem aD4:Qz.RS:=rE [.d aFo] Qz
def aLZ:=Qz.eN aLY
def ZN(pre:List gC)(o:bw):Bool:=pre.any λy=>Ty.beq aV y.1 o
def apb:List gC->List gC->Bool
 |_,[]=>true
 |pre,x::l=>(HH x && !(ZN pre x.1)) && apb (pre++ [x]) l
theorem aKf:∀(l:List gC) (m:List (bw×Bool)) (pre:List gC),(∀o,(bZ aV o m).getD false=ZN pre o)->DB m l=apb pre l
 |[],_,_,_=>rfl
 |x::l,m,pre,h=>by
  have e:PD m x=ZN pre x.1:=h x.1;rw[DB,apb,e,aKf l (eJ aV x.1 true m) (pre++ [x]) λo=> ?_,Bool.and_comm (HH x)];rw[JM fY];unfold ZN;rw[List.any_append];simp only[lr,tl,qH];by_cases h1:o=x.1
  ·rw[if_pos ((u7 _ _).2 h1),(u7 x.1 o).2 h1.symm,Bool.or_true];rfl
  ·rw[if_neg (λe=>h1 ((u7 _ _).1 e)),h o];have:Ty.beq aV x.1 o=false:=by
    cases hb:Ty.beq aV x.1 o with
    |false=>rfl
    |true=>exact absurd ((u7 _ _).1 hb).symm h1
   rw[this,qH];rfl
def AJ(o:gR):Bool:=rS o.1 && km o.2.1
theorem aqb:∀(l:List gR) (s:Int),0<=s->s<=1125899906842624->xy s l=(l.all AJ && decide (s+jX l<=1125899906842624))
 |[],s,h0,h1=>by rw[aH (show s+jX []<=1125899906842624 by show s+0<=_;omega)];rfl
 |o::l,s,h0,h1=>by
  have hc:rS s=true:=aH ⟨h0,h1⟩;rw[xy,iK,B0];unfold Ku;rw[hc,bN,show AJ o=(rS o.1 && km o.2.1) from rfl];cases c1:rS o.1 with
  |false=>rfl
  |true=>
   have c2:0<=o.1/\o.1<=1125899906842624:=of_decide_eq_true c1;rw[bN,bN];by_cases hs:s+o.1<=1125899906842624
   ·rw[aH hs,bN,aqb l (s+o.1) (by omega) hs,Int.add_assoc,Bool.and_assoc]
   ·rw[aS hs,dr,dr];cases hl:l.all AJ with
    |false=>cases km o.2.1 <;> rfl
    |true=>
     have key:∀l:List gR,l.all AJ=true->0<=jX l:=by
      intro l
      induction l with
      |nil=>intro _;exact iO 0
      |cons x l ih=>
       intro h;rw[iK,aq]at h;have h1:=h.1;unfold AJ at h1;rw[aq]at h1;have h2:0<=x.1/\x.1<=1125899906842624:=of_decide_eq_true h1.1;have:=ih h.2;rw[B0];omega
     have:=key l hl;rw[aS (show ¬s+(o.1+jX l)<=1125899906842624 by omega)];cases km o.2.1 <;> rfl
abbrev qT:=dM×Int
def j5:qT->AS:=λ(te,i)=>⟨([bA,.dL eH te,bA,.d ti i]++aP 100 []),[],(ab 104 [])⟩
abbrev abC:=Unit
abbrev Ik:=Unit
def eR:Ik->Exit×AS:=λx=>(.ret,⟨([bA,bA,.d .bool false]++aP 101 []),[],(ab 104 [])⟩)
abbrev abD:=dM
abbrev Il:=dM
def rA:Il->Exit×AS:=λx=>(.exit 0,⟨([bA,.dL eH x]++aP 102 []),[],(ab 104 [])⟩)
abbrev CT:=(Ik)⊕(Il)
abbrev Ly:=(abC)⊕(abD)
def xC:CT->Out (Exit×AS):=λx=> .br x.isLeft (.get x.getLeft? λa=> .ok (eR a)) (.get x.getRight? λb=> .ok (rA b))
def il:qT->Ly->CT:=λ(te,i) y=>match y with | .inl y=> .inl y | .inr z=> .inr (z)
abbrev qU:=dM×Int×Int×gC
def j6:qU->AS:=λ(zQ,gO,kv,n4)=>⟨([bA,.dL eH zQ,bA,.d ti gO,eG 4,.d ti kv]++aP 98 []),[],(bC 4 ([dH (.d fV n4)]++bC 99 []))⟩
abbrev abF:=Unit
abbrev Ip:=Unit
def kA:Ip->Exit×AS:=λx=>(.ret,⟨([bA,bA,.d .bool false]++aP 101 []),[],(ab 104 [])⟩)
abbrev abG:=Unit
abbrev Iq:=dM×Int
def rC:Iq->Exit×AS:=λx=>(.exit 2,⟨([bA,.dL eH x.1,bA,.d ti x.2]++aP 100 []),[],(ab 104 [])⟩)
abbrev CV:=(Ip)⊕(Iq)
abbrev LA:=(abF)⊕(abG)
def xD:CV->Out (Exit×AS):=λx=> .br x.isLeft (.get x.getLeft? λa=> .ok (kA a)) (.get x.getRight? λb=> .ok (rC b))
def im:qU->LA->CV:=λ(zQ,gO,kv,n4) y=>match y with | .inl y=> .inl y | .inr z=> .inr ((zQ,gO))
abbrev qV:=dM×Int×Int
def j7:qV->AS:=λ(aNw,sum,R7)=>⟨([bA,.dL eH aNw]++aP 4 ([.d ti sum,.d ti R7]++aP 96 [])),[],(ab 104 [])⟩
abbrev abI:=Unit
abbrev It:=Unit
def fN:It->Exit×AS:=λx=>(.ret,⟨([bA,bA,.d .bool false]++aP 101 []),[],(ab 104 [])⟩)
abbrev abJ:=Int
abbrev Iu:=Int
def rF:Iu->Exit×AS:=λx=>(.exit 4,⟨(aP 6 ([.d ti x]++aP 97 [])),[],(ab 104 [])⟩)
abbrev CX:=(It)⊕(Iu)
abbrev LC:=(abI)⊕(abJ)
def xE:CX->Out (Exit×AS):=λx=> .br x.isLeft (.get x.getLeft? λa=> .ok (fN a)) (.get x.getRight? λb=> .ok (rF b))
def iq:qV->LC->CX:=λ(aNw,sum,R7) y=>match y with | .inl y=> .inl y | .inr z=> .inr (z)
abbrev abB:=dM
abbrev avW:=Bool
def rB:qU->Prop:=λ(t,i,j,x)=>∃(n k:Nat),n<=t.1.length/\k<=n/\n<=1000/\i=n/\j=k
def jA:qU->LA:=λ(t,i,j,x)=>if ZN ((t.1.take i.toNat).drop j.toNat) x.1 then .inl () else .inr ()
def rz:qT->Prop:=λ(t,i)=>t.1.length<=64/\∃k:Nat,k<=t.1.length/\i=k
def jz:qT->Ly:=λ(t,i)=>if apb (t.1.take i.toNat) (t.1.drop i.toNat) then .inr t else .inl ()
def rD:qV->Prop:=λ(t,s,i)=>t.2.1.length<=64/\(∀o∈t.2.1,ad8 o.2.1)/\∃k:Nat,k<=t.2.1.length/\i=k/\0<=s/\s<=(k:Int)*1125899906842624
def jB:qV->LC:=λ(t,s,i)=>if(t.2.1.drop i.toNat).all AJ then .inr (s+jX (t.2.1.drop i.toNat)) else .inl ()
def ak5:abB->Prop:=λt=>aXr t
def NQ:abB->avW:=λt=>gJ t
def Lx:=dA.fm j5 rz il jz xC
def DP:qT->Option CT:=gN Lx j5
def Lz:=dA.fm j6 rB im jA xD
def DR:qU->Option CV:=gN Lz j6
def LB:=dA.fm j7 rD iq jB xE
def DT:qV->Option CX:=gN LB j7
def fp:Fs Tryz.prog ak5 bm NQ:=eI 100 Tryz.f100 (λt=>([.d eH t],[])) (λx=>⟨.d .bool x,[],[]⟩) [some eH] [aLZ,V4] {loops:=nD [(4,{aU:=[1,3]}),(10,{aU:=[1,3,4,5],sites:=[4]}),(16,{aU:=[1,6,7]})],outs:=nC [(4,{aU:=[1]},{aU:=[2]}),(10,{aU:=[1,3]},{aU:=[2]}),(16,{aU:=[6]},{aU:=[2]})],fu:=np [(4,Lx),(10,Lz),(16,LB)]}
def CS:= @eE Tryz.prog (kh fp.G) fp.an 0 Tryz.f100 0 _ j5
abbrev Ij:=lu Tryz.prog (kh fp.G) fp.an 0 Tryz.f100 0 j5 rz il jz xC
def CU:= @eE Tryz.prog (kh fp.G) fp.an 0 Tryz.f100 1 _ j6
abbrev Io:=lu Tryz.prog (kh fp.G) fp.an 0 Tryz.f100 1 j6 rB im jA xD
def CW:= @eE Tryz.prog (kh fp.G) fp.an 0 Tryz.f100 2 _ j7
abbrev Is:=lu Tryz.prog (kh fp.G) fp.an 0 Tryz.f100 2 j7 rD iq jB xE
theorem Xi:jd DP rz il jz:=na (jK [.d eH,.d ti] λ_=>by kernel_rfl)
theorem Im:oe @CS j5 rz il jz xC Ij:=oB
theorem DQ{R:Type}(te:dM)(i:Int)(kn:AS->Option R)(kx:Exit->AS->Option R):CS (te,i) kn kx=aG ((fP i (((ag te.1):Nat):Int))) (aG (ed i (((ag te.1):Nat):Int)) (aG ((fP (nth fV te.1 (ae i)).1.2.1 (0:Int))) (kx (eR ()).1 (eR ()).2) (aG ((w5 (nth fV te.1 (ae i)).1.2.1 (63:Int))) (kx (eR ()).1 (eR ()).2) (ak (Qz.call (nth fV te.1 (ae i)).2.1) λx1=>aG ((!x1)) (kx (eR ()).1 (eR ()).2) (ak (DR (te,i,(0:Int),(nth fV te.1 (ae i)))) λx2=>aG (x2.isLeft) (ak (x2.getLeft?) λa3=>kx (eR ()).1 (eR ()).2) (ak (x2.getRight?) λb4=>kn (j5 (b4.1,(bH .i64 b4.2 (1:Int))))))))) none) (kx (rA te).1 (rA te).2):=by kernel_rfl
theorem Xj:jd DR rB im jA:=na (jK [.d eH,.d ti,.d ti,.d fV] λ_=>by kernel_rfl)
theorem Ir:oe @CU j6 rB im jA xD Io:=oB
theorem DS{R:Type}(zQ:dM)(gO:Int)(kv:Int)(n4:gC)(kn:AS->Option R)(kx:Exit->AS->Option R):CU (zQ,gO,kv,n4) kn kx=aG ((fP kv gO)) (aG (ed kv (((ag zQ.1):Nat):Int)) (aG ((Ty.beq aV (nth fV zQ.1 (ae kv)).1 n4.1)) (kx (kA ()).1 (kA ()).2) (kn (j6 (zQ,gO,(bH .i64 kv (1:Int)),n4)))) none) (kx (rC (zQ,gO)).1 (rC (zQ,gO)).2):=by kernel_rfl
theorem Xk:jd DT rD iq jB:=na (jK [.d eH,.d ti,.d ti] λ_=>by kernel_rfl)
theorem Iv:oe @CW j7 rD iq jB xE Is:=oB
theorem DU{R:Type}(aNw:dM)(sum:Int)(R7:Int)(kn:AS->Option R)(kx:Exit->AS->Option R):CW (aNw,sum,R7) kn kx=aG ((fP R7 (((ag aNw.2.1):Nat):Int))) (aG (ed R7 (((ag aNw.2.1):Nat):Int)) (aG ((fP (nth iV aNw.2.1 (ae R7)).1 (0:Int))) (kx (fN ()).1 (fN ()).2) (aG ((w5 (nth iV aNw.2.1 (ae R7)).1 (1125899906842624:Int))) (kx (fN ()).1 (fN ()).2) (ak (jZ.call (nth iV aNw.2.1 (ae R7)).2.1) λx1=>aG ((!x1)) (kx (fN ()).1 (fN ()).2) (kn (j7 (aNw,(bH .i64 sum (nth iV aNw.2.1 (ae R7)).1),(bH .i64 R7 (1:Int)))))))) none) (kx (rF sum).1 (rF sum).2):=by kernel_rfl
theorem aqJ{R:Type}(t)(k:K1 R):fp.A t k=aG ((fP (t.1.length:Int) 1)) (k (fp.out false)) (aG ((w5 (t.1.length:Int) 64)) (k (fp.out false)) (aG ((w5 (t.2.1.length:Int) 64)) (k (fp.out false)) (aG ((fP t.2.2.1 0)) (k (fp.out false)) (ak (DP (t,0)) λx5=>aG (x5.isLeft) (ak (x5.getLeft?) λa6=>k (fp.out false)) (ak (x5.getRight?) λb7=>ak (DT (b7,0,0)) λx9=>aG (x9.isLeft) (ak (x9.getLeft?) λa10=>k (fp.out false)) (ak (x9.getRight?) λaZU=>k (fp.out (amw aZU 1125899906842624)))))))):=by kernel_rfl
theorem abH:Io:=by
 refine Ir (λ(_,i,j,_)=>(i - j).toNat) ?_
 rintro⟨t,i,j,x⟩ ⟨n,k,hn,hk,hm,rfl,rfl⟩;by_cases gv:k < n
 ·have asT:k < (t.1.take n).length:=by rw[bq];omega
  have n1:nth fV t.1 k=t.1[k]:=bV (t:=fV) (by omega);have hd:(t.1.take n).drop k=t.1[k]::(t.1.take n).drop (k+1):=by rw[ao asT,List.getElem_take]
  have hh:ZN ((t.1.take n).drop k) x.1=(Ty.beq aV t.1[k].1 x.1 || ZN ((t.1.take n).drop (k+1)) x.1):=by rw[hd];rfl
  have step:∀ {R:Type} (kn:AS->Option R) (kx:Exit->AS->Option R),CU (t,(n:Int),(k:Int),x) kn kx=aG (Ty.beq aV t.1[k].1 x.1) (kx (kA ()).1 (kA ()).2) (kn (j6 (t,(n:Int),((k+1:Nat):Int),x))):=by intro R kn kx;rw[DS,aT (by omega),aj,bf (by omega) (by omega),aj,aa,n1,N.mq (by omega)]
  cases hb:Ty.beq aV t.1[k].1 x.1 with
  |true=>
   right;refine⟨kA (),?_,λkn kx=> ?_⟩
   ·simp only[im,jA,aa,hh,hb,Bool.true_or,bG];rfl
   ·rw[step,hb,aj]
  |false=>
   left;refine⟨(t,(n:Int),((k+1:Nat):Int),x),⟨n,k+1,hn,by omega,hm,rfl,rfl⟩,by show((n:Int) - ((k+1:Nat):Int)).toNat < ((n:Int) - (k:Int)).toNat;omega,?_,λkn kx=> ?_⟩
   ·simp only[im,jA,aa,hh,hb,lq]
   ·rw[step,hb,al]
 ·right;obtain rfl:k=n:=by omega
  have e:(t.1.take k).drop k=[]:=du (by rw[bq];omega);refine⟨rC (t,(k:Int)),?_,λkn kx=> ?_⟩
  ·simp only[im,jA,aa,e];rfl
  ·rw[DS,aO (by omega),al]
theorem abE:Ij:=by
 refine Im (λ(t,i)=>t.1.length - i.toNat) ?_
 rintro⟨t,i⟩ ⟨EU,k,hk,rfl⟩;have EU:t.1.length<=64:=EU;have hk:k<=t.1.length:=hk;by_cases gv:k < t.1.length
 ·have n1:nth fV t.1 k=t.1[k]:=bV (t:=fV) gv;have hd:apb (t.1.take k) (t.1.drop k)=((HH t.1[k] && !(ZN (t.1.take k) t.1[k].1)) && apb (t.1.take (k+1)) (t.1.drop (k+1))):=by rw[ao gv,apb,gY gv]
  have step:∀ {R:Type} (kn:AS->Option R) (kx:Exit->AS->Option R),CS (t,(k:Int)) kn kx=aG (HH t.1[k] && !(ZN (t.1.take k) t.1[k].1)) (kn (j5 (t,((k+1:Nat):Int)))) (kx (eR ()).1 (eR ()).2):=by
   intro R kn kx;rw[DQ,aT (by omega),aj,bf (by omega) (by omega),aj,aa,n1];unfold HH;by_cases h1:t.1[k].1.2.1 < 0
   ·rw[aT h1,aj,aS (by omega)];rfl
   rw[aO h1,al];by_cases h2:t.1[k].1.2.1 > 63
   ·rw[df h2,aj,aS (by omega)];rfl
   rw[cE h2,al,aH (by omega),aD4 (d:=t.1[k].2.1) trivial];simp only[ah,bm,ak1,bN];cases Bh t.1[k].2.1 with
   |false=>rfl
   |true=>
    rw[ct,al,bN,Xj (d:=(t,(k:Int),0,t.1[k])) ⟨k,0,hk,aL _,by omega,rfl,rfl⟩];simp only[ah,im,jA,aa,aY,aF];cases ZN (t.1.take k) t.1[k].1 with
    |true=>rfl
    |false=>
     simp only[bE,bp,ee,al,dv,ah,eT,aj];rw[N.mq (by omega)]
  cases hp:HH t.1[k] && !(ZN (t.1.take k) t.1[k].1)
  ·right;refine⟨eR (),?_,λkn kx=> ?_⟩
   ·simp only[il,jz,aa,hd,hp,dr,bE,bp];rfl
   ·rw[step,hp,al]
  ·left;refine⟨(t,((k+1:Nat):Int)),⟨EU,k+1,by omega,rfl⟩,by simp only[aa];omega,?_,λkn kx=> ?_⟩
   ·simp only[il,jz,aa,hd,hp,bN]
   ·rw[step,hp,aj]
 ·right;obtain rfl:k=t.1.length:=by omega
  refine⟨rA t,?_,λkn kx=> ?_⟩
  ·simp only[il,jz,aa,aK];rfl
  ·rw[DQ,aO (by omega),al]
theorem abK:Is:=by
 refine Iv (λ(t,_,i)=>t.2.1.length - i.toNat) ?_
 rintro⟨t,s,i⟩ ⟨EU,hu,k,hk,rfl,h0,h1⟩;have EU:t.2.1.length<=64:=EU;have hk:k<=t.2.1.length:=hk;have h0:0<=s:=h0;have h1:s<=(k:Int)*1125899906842624:=h1;by_cases gv:k < t.2.1.length
 ·have n1:nth iV t.2.1 k=t.2.1[k]:=bV (t:=iV) gv;have hd:t.2.1.drop k=t.2.1[k]::t.2.1.drop (k+1):=ao gv;have step:∀ {R:Type} (kn:AS->Option R) (kx:Exit->AS->Option R),CW (t,s,(k:Int)) kn kx=aG (AJ t.2.1[k]) (kn (j7 (t,s+t.2.1[k].1,((k+1:Nat):Int)))) (kx (fN ()).1 (fN ()).2):=by
   intro R kn kx;rw[DU,aT (by omega),aj,bf (by omega) (by omega),aj,aa,n1];unfold AJ rS;by_cases c1:t.2.1[k].1 < 0
   ·rw[aT c1,aj,aS (by omega)];rfl
   rw[aO c1,al];by_cases c2:t.2.1[k].1 > 1125899906842624
   ·rw[df c2,aj,aS (by omega)];rfl
   rw[cE c2,al,aH (by omega),Qy (d:=t.2.1[k].2.1) (hu _ (aM gv))];simp only[ah,bm,Ff,bN];rw[fE (by omega) (by omega),N.mq (by omega)];cases km t.2.1[k].2.1 <;> rfl
  cases hp:AJ t.2.1[k]
  ·right;refine⟨fN (),?_,λkn kx=> ?_⟩
   ·simp only[iq,jB,aa,hd,iK,hp,dr,bE,bp];rfl
   ·rw[step,hp,al]
  ·left;have hp':=hp;unfold AJ at hp';rw[aq]at hp';have c:0<=t.2.1[k].1/\t.2.1[k].1<=1125899906842624:=of_decide_eq_true hp'.1;refine⟨(t,s+t.2.1[k].1,((k+1:Nat):Int)),⟨EU,hu,k+1,by omega,rfl,by show 0<=s+t.2.1[k].1;omega,by show s+t.2.1[k].1<=((k+1:Nat):Int)*1125899906842624;omega⟩,by simp only[aa];omega,?_,λkn kx=> ?_⟩
   ·simp only[iq,jB,aa,hd,iK,hp,bN,B0,Int.add_assoc]
   ·rw[step,hp,aj]
 ·right;obtain rfl:k=t.2.1.length:=by omega
  refine⟨rF s,?_,λkn kx=> ?_⟩
  ·simp only[iq,jB,aa,aK];rw[show s+jX ([]:List gR)=s+0 from rfl,Int.add_zero];rfl
  ·rw[DU,aO (by omega),al]
theorem aqK:fp.Ok:=by
 intro t hv;have hv:aXr t:=hv;rw[aqJ];simp only[bm,NQ,gJ,adB];by_cases h1:t.1.length < 1
 ·rw[aT (by omega),aS (by omega)];rfl
 by_cases h2:t.1.length > 64
 ·rw[aO (by omega),al,df (by omega),aS (by omega)];rfl
 by_cases h3:t.2.1.length > 64
 ·rw[aO (by omega),al,cE (by omega),al,df (by omega),aS (by omega)];rfl
 rw[aO (by omega),al,cE (by omega),al,cE (by omega),al];by_cases h4:t.2.2.1 < 0
 ·rw[aT h4,aS (by omega)];rfl
 rw[aO h4,al,aH (by omega),bN,Xi (d:=(t,0)) ⟨by show t.1.length<=64;omega,0,aL _,rfl⟩];simp only[ah,il,jz,aY,aF,dF];rw[aKf t.1 [] [] (λo=>by rw[sN];rfl),aqb t.2.1 0 (by decide) (by decide)];cases apb [] t.1 with
 |false=>rfl
 |true=>
  simp only[bG,ee,al,dv,ah,bN];rw[Xk (d:=(t,0,0)) ⟨by show t.2.1.length<=64;omega,λo ho=>(hv.1 o ho).1,0,aL _,rfl,iO 0,by omega⟩];simp only[ah,iq,jB,aY,aF];cases t.2.1.all AJ with
  |false=>rfl
  |true=>
   simp only[bG,ee,al,dv,ah,bN];by_cases hs:0+jX t.2.1<=1125899906842624
   ·rw[oP hs,aH hs]
   ·rw[lY hs,aS hs]
theorem ak6:fp.RS:=rE [.d eH] fp
def aqL:=fp.eN aqK 3 ⟨.fm abE,⟨.fm abH,⟨.fm abK,trivial⟩⟩⟩
abbrev CQ:=dM×Bs×Int
abbrev Lv:=Bs
abbrev aeX:=(dM)×(Bs)
def ru:CQ->Lv->aeX:=λ(te,b,i) y=>(te,y)
abbrev CR:=dM×Bs×Int
abbrev Lw:=Bs
abbrev aeY:=(dM)×(Bs)
def rv:CR->Lw->aeY:=λ(zQ,gE,gO) y=>(zQ,y)
abbrev abx:=dM
abbrev avV:=Bs
def Xe:CQ->Prop:=λ(t,b,i)=>(t.1).length<=1000000000/\∃k:Nat,k<=(t.1).length/\i=k/\(t.1.length<=64)/\(∀x∈t.1,x.1.1.length=32/\x.1.2.1<=9223372036854775807)/\(b.length<=100+50*k)
def wo:CQ->Lv:=λ(t,b,i)=>(bR (ae i) t.1).foldl JU b
def Xg:CR->Prop:=λ(t,b,i)=>(t.2.1).length<=1000000000/\∃k:Nat,k<=(t.2.1).length/\i=k/\(t.2.1.length<=64)/\(∀o∈t.2.1,o.1<=9223372036854775807/\ad8 o.2.1)/\(b.length<=4000+1100*k)
def wq:CR->Lw:=λ(t,b,i)=>(bR (ae i) t.2.1).foldl Ko b
def ak3:abx->Prop:=λt=>gJ t=true/\qt t
def aby:abx->avV:=λt=>ui t
def lf:Ls Xe ru wo:=qv (λ(te,b,i)=>⟨([bA,.dL eH te,bA,.d tB b,.d ti i]++aP 63 []),[],(ab 68 [])⟩) (λx=>(.exit 0,⟨([bA,.dL eH x.1,bA,.d tB x.2]++aP 64 []),[],(ab 68 [])⟩))
def lg:Ls Xg rv wq:=qv (λ(zQ,gE,gO)=>⟨([bA,.dL eH zQ,bA,.d tB gE,bA,.d ti gO]++aP 62 []),[],(ab 68 [])⟩) (λx=>(.exit 2,⟨([bA,.dL eH x.1,bA,.d tB x.2]++aP 64 []),[],(ab 68 [])⟩))
def mc:Fs Tryz.prog ak3 bm aby:=eI 101 Tryz.f101 (λt=>([.d eH t],[])) (λx=>⟨.d tB x,[],[]⟩) [some eH] [abS,ahB,aqD,aEg] {loops:=nD [(3,{aU:=[1,3,4]}),(9,{aU:=[1,3,5]})],outs:=nC [(3,{aU:=[1,3]},{aU:=[2]}),(9,{aU:=[1,3]},{aU:=[2]})],fu:=np [(3,lf.E),(9,lg.E)],res:=[some tB]}
theorem Xf:lf.RS:=rL [.d eH,.d tB,.d ti] lf
theorem DN{R:Type}(te b i)(kn:K2 R)(kx:K3 R):mc.R 0 lf (te,b,i) kn kx=aG ((fP i (te.1.length:Int))) (aG (ed i (te.1.length:Int)) (ak (vu.call (b,(nth fV te.1 (ae i)).1.1)) λx1=>aG (ed i (te.1.length:Int)) (ak (qW.call (x1,(nth fV te.1 (ae i)).1.2.1)) λx2=>kn (lf.st (te,x2,(bH .i64 i 1)))) none) none) (lf.go kx (te,b)):=by kernel_rfl
theorem Xh:lg.RS:=rL [.d eH,.d tB,.d ti] lg
theorem DO{R:Type}(zQ gE gO)(kn:K2 R)(kx:K3 R):mc.R 1 lg (zQ,gE,gO) kn kx=aG ((fP gO (zQ.2.1.length:Int))) (aG (ed gO (zQ.2.1.length:Int)) (ak (qW.call (gE,(nth iV zQ.2.1 (ae gO)).1)) λx1=>aG (ed gO (zQ.2.1.length:Int)) (ak (kX.call (nth iV zQ.2.1 (ae gO)).2.1) λx2=>ak (NS.call (x1,x2)) λx3=>kn (lg.st (zQ,x3,(bH .i64 gO 1)))) none) none) (lg.go kx (zQ,gE)):=by kernel_rfl
theorem aqG{R:Type}(t)(k:K1 R):mc.A t k=ak (qW.call (([]:List Int),(t.1.length:Int))) λx1=>ak (lf.call (t,x1,0)) λx4=>ak (qW.call (x4.2,(x4.1.2.1.length:Int))) λx5=>ak (lg.call (x4.1,x5,0)) λx9=>ak (qW.call (x9.2,x9.1.2.2.1)) λasN=>k (mc.out asN):=by kernel_rfl
theorem abz:(mc.jP 0 lf):=by
 refine(mc.lk 0 lf) (λ(t,b,i)=>(t.1).length - ae i) ?_
 rintro⟨t,b,i⟩ ⟨hlen,k,hk,rfl,EU,hx,hb⟩;have hlen:(t.1).length<=1000000000:=hlen;have hk:k<=(t.1).length:=hk;have EU:t.1.length<=64:=EU;have hx:∀x∈t.1,x.1.1.length=32/\x.1.2.1<=9223372036854775807:=hx;have hb:b.length<=100+50*k:=hb;by_cases h:k < (t.1).length
 ·left;have n1:nth fV t.1 k=t.1[k]:=bV (t:=fV) h;have hd:bR k t.1=t.1[k]::bR (k+1) t.1:=ao h;refine⟨(t,(JU b t.1[k]),((k+1:Nat):Int)),⟨hlen,k+1,by omega,rfl,EU,hx,by have:=aj7 b t.1[k];have:=(hx _ (aM h)).1;omega⟩,by simp only[aa];omega,?_,λkn kx=> ?_⟩
  ·simp only[ru,wo,aa,hd,bo]
  ·rw[DN,aT (by omega),bf (by omega) (by omega),aa,n1];simp only[aj];have e:=hx _ (aM h);have e2:(b++t.1[k].1.1).length=b.length+t.1[k].1.1.length:=ai;rw[Fh (d:=(b,t.1[k].1.1)) ⟨by show b.length<=_;omega,e.1⟩];simp only[ah,bm,DY];rw[jc (d:=(b++t.1[k].1.1,t.1[k].1.2.1)) ⟨by show(b++t.1[k].1.1).length<=_;omega,e.2⟩];simp only[ah,bm,mX];rw[N.mq (by omega)];rfl
 ·right;obtain rfl:k=(t.1).length:=by omega
  intro R kn kx;rw[DN,aO (by omega),al];simp only[ru,wo,aa,aK,cK]
theorem abA:(mc.jP 1 lg):=by
 refine(mc.lk 1 lg) (λ(t,b,i)=>(t.2.1).length - ae i) ?_
 rintro⟨t,b,i⟩ ⟨hlen,k,hk,rfl,EU,hx,hb⟩;have hlen:(t.2.1).length<=1000000000:=hlen;have hk:k<=(t.2.1).length:=hk;have EU:t.2.1.length<=64:=EU;have hx:∀o∈t.2.1,o.1<=9223372036854775807/\ad8 o.2.1:=hx;have hb:b.length<=4000+1100*k:=hb;by_cases h:k < (t.2.1).length
 ·left;have n1:nth iV t.2.1 k=t.2.1[k]:=bV (t:=iV) h;have hd:bR k t.2.1=t.2.1[k]::bR (k+1) t.2.1:=ao h;refine⟨(t,(Ko b t.2.1[k]),((k+1:Nat):Int)),⟨hlen,k+1,by omega,rfl,EU,hx,by have:=aba b t.2.1[k];omega⟩,by simp only[aa];omega,?_,λkn kx=> ?_⟩
  ·simp only[rv,wq,aa,hd,bo]
  ·rw[DO,aT (by omega),bf (by omega) (by omega),aa,n1];simp only[aj];have e:=hx _ (aM h);have e1:=dm b t.2.1[k].1;have e2:=JY t.2.1[k].2.1;rw[jc (d:=(b,t.2.1[k].1)) ⟨by show b.length<=_;omega,e.1⟩];simp only[ah,bm,mX];rw[akZ (d:=t.2.1[k].2.1) e.2];simp only[ah,bm,NP];rw[av8 (d:=(cz b t.2.1[k].1,No t.2.1[k].2.1)) (by show(cz b t.2.1[k].1).length+(No t.2.1[k].2.1).length<=_;omega)];simp only[ah,bm,abT];rw[N.mq (by omega)];rfl
 ·right;obtain rfl:k=(t.2.1).length:=by omega
  intro R kn kx;rw[DO,aO (by omega),al];simp only[rv,wq,aa,aK,cK]
theorem aqH:mc.Ok:=by
 rintro t ⟨iT,hv⟩;have hv:qt t:=hv;obtain⟨⟨_,a2,a3,_⟩,b1,b2⟩:=jt iT;have h0:([]:List Int).length=0:=rfl;have l0:=dm [] t.1.length;have l1:=XM t.1 (cz [] t.1.length) λx hx=>(hv.2.1 x hx).1.1
 have l2:=dm (t.1.foldl JU (cz [] t.1.length)) t.2.1.length;have l3:=Qm t.2.1 (cz (t.1.foldl JU (cz [] t.1.length)) t.2.1.length);rw[aqG,jc (d:=([],(t.1.length:Int))) ⟨by show([]:List Int).length<=_;omega,by show(t.1.length:Int)<=_;omega⟩];simp only[ah,bm,mX];rw[Xf (d:=(t,cz [] t.1.length,0)) ⟨by show t.1.length<=_;omega,0,aL _,rfl,a2,λx hx=>⟨(hv.2.1 x hx).1.1,by have:=Aw (lZ _ _ b1 x hx);omega⟩,by show(cz [] t.1.length).length<=_;omega⟩];simp only[ah,ru,wo,aY,aF];rw[jc (d:=(t.1.foldl JU (cz [] t.1.length),(t.2.1.length:Int))) ⟨by show(t.1.foldl JU (cz [] t.1.length)).length<=_;omega,by show(t.2.1.length:Int)<=_;omega⟩];simp only[ah,bm,mX];rw[Xh (d:=(t,cz (t.1.foldl JU (cz [] t.1.length)) t.2.1.length,0)) ⟨by show t.2.1.length<=_;omega,0,aL _,rfl,a3,λo ho=>⟨by have:=(jY _ _ b2 o ho).1;omega,(hv.1.1 o ho).1⟩,by show(cz (t.1.foldl JU (cz [] t.1.length)) t.2.1.length).length<=_;omega⟩];simp only[ah,rv,wq,aY,aF];rw[jc (d:=(t.2.1.foldl Ko (cz (t.1.foldl JU (cz [] t.1.length)) t.2.1.length),t.2.2.1)) ⟨by show(t.2.1.foldl Ko (cz (t.1.foldl JU (cz [] t.1.length)) t.2.1.length)).length<=_;omega,hv.2.2⟩];rfl
theorem ak4:mc.RS:=rE [.d eH] mc
def aqI:=mc.eN aqH 2 ⟨.fm abz,⟨.fm abA,trivial⟩⟩
abbrev azE:=dM
abbrev aSb:=Bs
def aD5:azE->Prop:=λt=>qt t
def ak2:azE->aSb:=λt=>nP t
def V5:Fs Tryz.prog aD5 bm ak2:=eI 53 Tryz.f53 (λt=>([.d eH t],[])) (λx=>⟨.d tH x,[],[]⟩) [some eH] [aqL,aqI,az0]
theorem aL0{R:Type}(t)(k:K1 R):V5.A t k=ak (fp.call t) λx1=>aG ((!x1)) (k (V5.out (ab 32 0))) (ak (mc.call t) λx2=>ak (acr.call ((⟨#[116,120]⟩:ByteArray),[x2])) λx3=>k (V5.out x3)):=by kernel_rfl
theorem aL1:V5.Ok:=by
 intro t hv;have hv:qt t:=hv;rw[aL0,ak6 (d:=t) hv.1];simp only[ah,bm,NQ,bm,ak2,nP];cases iT:gJ t
 ·rfl
 ·have hl:=NK iT hv;rw[ak4 (d:=t) ⟨iT,hv⟩];simp only[ct,al,bG,ah,bm,aby];rw[arq (d:=((⟨#[116,120]⟩:ByteArray),[ui t])) (Rj (by decide) (by omega))];rfl
theorem aD6:V5.RS:=rE [.d eH] V5
def aL2:=V5.eN aL1
abbrev CY:=dz×Bs×Int
abbrev LD:=Bs
abbrev aeZ:=(dz)×(Bs)
def rG:CY->LD->aeZ:=λ(gE,x,i) y=>(gE,y)
abbrev LF:=dz×Bs×Int
abbrev ae0:=Bs
abbrev abL:=dz
abbrev avX:=Bs
def Xl:CY->Prop:=λ(b,x,i)=>(b.2.2.1).length<=1000000000/\∃k:Nat,k<=(b.2.2.1).length/\i=k/\(b.2.2.1.length<=1000)/\(∀t∈b.2.2.1,qt t)/\(x.length<=1000+32*k)
def wu:CY->LD:=λ(b,x,i)=>(bR (ae i) b.2.2.1).foldl ay0 x
def Xn:LF->Prop:=λ(b,x,i)=>(b.2.2.2.2.1).length<=1000000000/\∃k:Nat,k<=(b.2.2.2.2.1).length/\i=k/\(b.2.2.2.2.1.length<=1000)/\(∀o∈b.2.2.2.2.1,aAz o)/\(x.length<=100000+43*k)
def wx:LF->ae0:=λ(b,x,i)=>(bR (ae i) b.2.2.2.2.1).foldl aQ4 x
def ak7:abL->Prop:=λb=>axU b
def NR:abL->avX:=λb=>aUM b
def lh:Ls Xl rG wu:=qv (λ(gE,x,i)=>⟨([bA,.dL dU gE,bA,.d tB x,.d ti i]++aP 60 []),[],(ab 65 [])⟩) (λx=>(.exit 0,⟨([bA,.dL dU x.1,bA,.d tB x.2]++aP 61 []),[],(ab 65 [])⟩))
def lj:Ls Xn bm wx:=qv (λ(R3,aGu,gO)=>⟨([bA,.dL dU R3,bA,.d tB aGu,bA,.d ti gO]++aP 59 []),[],(ab 65 [])⟩) (λx=>(.exit 2,⟨([bA,bA,bA,.d tB x]++aP 61 []),[],(ab 65 [])⟩))
def me:Fs Tryz.prog ak7 bm NR:=eI 97 Tryz.f97 (λb=>([.d dU b],[])) (λx=>⟨.d tB x,[],[]⟩) [some dU] [abS,ahB,aL2] {loops:=nD [(4,{aU:=[1,3,4]}),(10,{aU:=[1,3,5]})],outs:=nC [(4,{aU:=[1,3]},{aU:=[2]}),(10,{aU:=[3]},{aU:=[2]})],fu:=np [(4,lh.E),(10,lj.E)]}
theorem Xm:lh.RS:=rL [.d dU,.d tB,.d ti] lh
theorem DW{R:Type}(gE x i)(kn:K2 R)(kx:K3 R):me.R 0 lh (gE,x,i) kn kx=aG ((fP i (gE.2.2.1.length:Int))) (aG (ed i (gE.2.2.1.length:Int)) (ak (V5.call (nth eH gE.2.2.1 (ae i))) λx1=>ak (vu.call (x,x1)) λx2=>kn (lh.st (gE,x2,(bH .i64 i 1)))) none) (lh.go kx (gE,x)):=by kernel_rfl
theorem Xo:lj.RS:=rL [.d dU,.d tB,.d ti] lj
theorem DX{R:Type}(R3 aGu gO)(kn:K2 R)(kx:K3 R):me.R 1 lj (R3,aGu,gO) kn kx=aG ((fP gO (R3.2.2.2.2.1.length:Int))) (aG (ed gO (R3.2.2.2.2.1.length:Int)) (ak (vu.call (aGu,(nth aV R3.2.2.2.2.1 (ae gO)).1)) λx1=>aG (ed gO (R3.2.2.2.2.1.length:Int)) (ak (qW.call (x1,(nth aV R3.2.2.2.2.1 (ae gO)).2.1)) λx2=>kn (lj.st (R3,x2,(bH .i64 gO 1)))) none) none) (lj.go kx aGu):=by kernel_rfl
theorem aqM{R:Type}(b)(k:K1 R):me.A b k=ak (qW.call (([]:List Int),b.1)) λx1=>ak (vu.call (x1,b.2.1)) λx2=>ak (qW.call (x2,(b.2.2.1.length:Int))) λx3=>ak (lh.call (b,x3,0)) λx6=>ak (qW.call (x6.2,x6.1.2.2.2.1)) λx7=>ak (qW.call (x7,(x6.1.2.2.2.2.1.length:Int))) λx8=>ak (lj.call (x6.1,x8,0)) λaAy=>k (me.out aAy):=by kernel_rfl
theorem abM:(me.jP 0 lh):=by
 refine(me.lk 0 lh) (λ(b,x,i)=>(b.2.2.1).length - ae i) ?_
 rintro⟨b,x,i⟩ ⟨hlen,k,hk,rfl,h3,hx,hb⟩;have hlen:(b.2.2.1).length<=1000000000:=hlen;have hk:k<=(b.2.2.1).length:=hk;have h3:b.2.2.1.length<=1000:=h3;have hx:∀t∈b.2.2.1,qt t:=hx;have hb:x.length<=1000+32*k:=hb;by_cases h:k < (b.2.2.1).length
 ·left;have n1:nth eH b.2.2.1 k=b.2.2.1[k]:=bV (t:=eH) h;have hd:bR k b.2.2.1=b.2.2.1[k]::bR (k+1) b.2.2.1:=ao h;refine⟨(b,(ay0 x b.2.2.1[k]),((k+1:Nat):Int)),⟨hlen,k+1,by omega,rfl,h3,hx,by unfold ay0;rw[ai,FJ.1];omega⟩,by simp only[aa];omega,?_,λkn kx=> ?_⟩
  ·simp only[rG,wu,aa,hd,bo]
  ·rw[DW,aT (by omega),bf (by omega) (by omega),aa,n1];simp only[aj];rw[aD6 (d:=b.2.2.1[k]) (hx _ (aM h))];simp only[ah,bm,ak2];rw[Fh (d:=(x,nP b.2.2.1[k])) ⟨by show x.length<=_;omega,FJ.1⟩];simp only[ah,bm,DY];rw[N.mq (by omega)];rfl
 ·right;obtain rfl:k=(b.2.2.1).length:=by omega
  intro R kn kx;rw[DW,aO (by omega),al];simp only[rG,wu,aa,aK,cK]
theorem abN:(me.jP 1 lj):=by
 refine(me.lk 1 lj) (λ(b,x,i)=>(b.2.2.2.2.1).length - ae i) ?_
 rintro⟨b,x,i⟩ ⟨hlen,k,hk,rfl,h3,hx,hb⟩;have hlen:(b.2.2.2.2.1).length<=1000000000:=hlen;have hk:k<=(b.2.2.2.2.1).length:=hk;have h3:b.2.2.2.2.1.length<=1000:=h3;have hx:∀o∈b.2.2.2.2.1,aAz o:=hx;have hb:x.length<=100000+43*k:=hb;by_cases h:k < (b.2.2.2.2.1).length
 ·left;have n1:nth aV b.2.2.2.2.1 k=b.2.2.2.2.1[k]:=bV (t:=aV) h;have hd:bR k b.2.2.2.2.1=b.2.2.2.2.1[k]::bR (k+1) b.2.2.2.2.1:=ao h;refine⟨(b,(aQ4 x b.2.2.2.2.1[k]),((k+1:Nat):Int)),⟨hlen,k+1,by omega,rfl,h3,hx,by have:=JT [b.2.2.2.2.1[k]] x (λo ho=>by rw[bn]at ho;subst ho;exact hx _ (aM h));simp only[bo,cK,az,aX]at this;omega⟩,by simp only[aa];omega,?_,λkn kx=> ?_⟩
  ·simp only[bm,wx,aa,hd,bo]
  ·rw[DX,aT (by omega),bf (by omega) (by omega),aa,n1];simp only[aj];obtain⟨e1,e2⟩:=hx _ (aM h);rw[Fh (d:=(x,b.2.2.2.2.1[k].1)) ⟨by show x.length<=_;omega,e1⟩];simp only[ah,bm,DY];rw[jc (d:=(x++b.2.2.2.2.1[k].1,b.2.2.2.2.1[k].2.1)) ⟨by show(x++b.2.2.2.2.1[k].1).length<=_;rw[ai,e1];omega,e2⟩];simp only[ah,bm,mX];rw[N.mq (by omega)];rfl
 ·right;obtain rfl:k=(b.2.2.2.2.1).length:=by omega
  intro R kn kx;rw[DX,aO (by omega),al];simp only[bm,wx,aa,aK,cK]
theorem aqN:me.Ok:=by rintro b ⟨⟨h1,h2⟩,⟨h3,h4,h5⟩,h6,h7⟩;have z1:((0:Int)).toNat=0:=rfl;have p1:=dm [] b.1;have p2:=dm (cz [] b.1++b.2.1) b.2.2.1.length;rw[ai,h4]at p2;have l0:([]:Bs).length=0:=rfl;rw[l0]at p1;have q1:=XL b.2.2.1 (cz (cz [] b.1++b.2.1) b.2.2.1.length);obtain⟨x3,e3⟩:∃x,cz (cz [] b.1++b.2.1) b.2.2.1.length=x:=⟨_,rfl⟩;rw[e3]at p2 q1;obtain⟨x6,e6⟩:∃x,b.2.2.1.foldl ay0 x3=x:=⟨_,rfl⟩;rw[e6]at q1;have p7:=dm x6 b.2.2.2.1;have p8:=dm (cz x6 b.2.2.2.1) b.2.2.2.2.1.length;obtain⟨x8,e8⟩:∃x,cz (cz x6 b.2.2.2.1) b.2.2.2.2.1.length=x:=⟨_,rfl⟩;have q2:=JT b.2.2.2.2.1 x8 h7;rw[e8]at p8;rw[aqM,jc (d:=(([]:List Int),b.1)) ⟨by show(0:Nat)<=_;omega,h3⟩];simp only[ah,bm,mX];rw[Fh (d:=(cz [] b.1,b.2.1)) ⟨by show(cz [] b.1).length<=_;omega,h4⟩];simp only[ah,bm,DY];rw[jc (d:=(cz [] b.1++b.2.1,(b.2.2.1.length:Int))) ⟨by show(cz [] b.1++b.2.1).length<=_;rw[ai,h4];omega,by show(b.2.2.1.length:Int)<=_;omega⟩];simp only[ah,bm,mX];rw[e3,Xm (d:=(b,x3,0)) ⟨by show b.2.2.1.length<=_;omega,0,aL _,rfl,h1,h2,by omega⟩];simp only[ah,rG,wu,z1,aF];rw[e6,jc (d:=(x6,b.2.2.2.1)) ⟨by show x6.length<=_;omega,h5⟩];simp only[ah,bm,mX];rw[jc (d:=(cz x6 b.2.2.2.1,(b.2.2.2.2.1.length:Int))) ⟨by show(cz x6 b.2.2.2.1).length<=_;omega,by show(b.2.2.2.2.1.length:Int)<=_;omega⟩];simp only[ah,bm,mX];rw[e8,Xo (d:=(b,x8,0)) ⟨by show b.2.2.2.2.1.length<=_;omega,0,aL _,rfl,h6,h7,by omega⟩];simp only[ah,bm,wx,z1,aF,bm,NR,aUM,e3,e6,e8]
theorem ak8:me.RS:=rE [.d dU] me
def aqO:=me.eN aqN 2 ⟨.fm abM,⟨.fm abN,trivial⟩⟩
theorem aPp{b:dz}(h:axU b):(aUM b).length<=1000000:=by obtain⟨⟨h1,h2⟩,⟨h3,h4,h5⟩,h6,h7⟩:=h;have p1:=dm [] b.1;have p2:=dm (cz [] b.1++b.2.1) b.2.2.1.length;rw[ai,h4]at p2;have l0:([]:Bs).length=0:=rfl;rw[l0]at p1;have q1:=XL b.2.2.1 (cz (cz [] b.1++b.2.1) b.2.2.1.length);have p7:=dm (b.2.2.1.foldl ay0 (cz (cz [] b.1++b.2.1) b.2.2.1.length)) b.2.2.2.1;have p8:=dm (cz (b.2.2.1.foldl ay0 (cz (cz [] b.1++b.2.1) b.2.2.1.length)) b.2.2.2.1) b.2.2.2.2.1.length;have q2:=JT b.2.2.2.2.1 (cz (cz (b.2.2.1.foldl ay0 (cz (cz [] b.1++b.2.1) b.2.2.1.length)) b.2.2.2.1) b.2.2.2.2.1.length) h7;unfold aUM;omega
abbrev azF:=dz
abbrev aSc:=Bs
def aD7:azF->Prop:=λb=>axU b
def azG:azF->aSc:=λb=>atv b
def QA:Fs Tryz.prog aD7 bm azG:=eI 47 Tryz.f47 (λb=>([.d dU b],[])) (λx=>⟨.d tH x,[],[]⟩) [some dU] [aqO,az0]
theorem aL3{R:Type}(b)(k:K1 R):QA.A b k=ak (me.call b) λx1=>ak (acr.call ((⟨#[98,108,111,99,107]⟩:ByteArray),[x1])) λx2=>k (QA.out x2):=by kernel_rfl
theorem aL4:QA.Ok:=by intro b h;rw[aL3,ak8 (d:=b) h];simp only[ah,bm,NR];rw[arq (d:=((⟨#[98,108,111,99,107]⟩:ByteArray),[aUM b])) (Rj (by decide) (aPp h))];rfl
theorem Tu:QA.RS:=rE [.d dU] QA
def aqP:=QA.eN aL4
abbrev acj:=Int×Int×(List dM)×Nat×Int×Bs×(List dz)
abbrev awB:=Nat×(List dz)
abbrev azY:=Bs×Int×Int×(List dM)
abbrev aSw:=(List dz)
def Xs(txs:List dM):Nat->Bs->Int->List dz
 | 0,_,_=> []
 |j+1,p,h=>zK h p (if j=0 then txs else []) 0::Xs txs j (atv (zK h p (if j=0 then txs else []) 0)) (h+1)
def ad9(txs:List dM):Prop:=txs.length<=100/\∀t∈txs,qt t/\t.1.length<=1000000
theorem aTD{txs:List dM}(ht:ad9 txs){h:Int}{p:Bs}(hh:h<=9223372036854775807)(hp:p.length=32)(c:Prop) [Decidable c]:WS (zK h p (if c then txs else []) 0):=by
 split
 ·exact⟨⟨⟨gz ht.1 (by decide),λt h=>(ht.2 t h).1⟩,⟨hh,hp,by show(0:Int)<=_;decide⟩,aL _,λo ho=>(by cases ho)⟩,ht.1,λt h=>(ht.2 t h).2⟩
 ·exact⟨⟨⟨aL _,λt ht=>(by cases ht)⟩,⟨hh,hp,by show(0:Int)<=_;decide⟩,aL _,λo ho=>(by cases ho)⟩,aL _,λt ht=>(by cases ht)⟩
theorem awC{txs:List dM}(ht:ad9 txs):∀(j:Nat) (p:Bs) (h:Int),h+j<=9223372036854775807->p.length=32->∀b∈Xs txs j p h,WS b
 | 0,_,_,_,_,b,hb=>by cases hb
 |j+1,p,h,hh,hp,b,hb=>by
  rcases cj.1 hb with rfl | hb
  ·exact aTD ht (by omega) hp _
  ·exact awC ht j _ (h+1) (by omega) (Bz _) b hb
theorem QR(txs:List dM):∀(j:Nat) (p:Bs) (h:Int),(Xs txs j p h).length=j
 | 0,_,_=>rfl
 |j+1,p,h=>bl (· +1) (QR txs j _ _)
theorem aco(txs:List dM):∀(j:Nat) (p:Bs) (h:Int),adh (Xs txs j p h)<=txs.length
 | 0,_,_=>aL _
 | 1,p,h=>aw _
 |j+2,p,h=>by show 0+adh (Xs txs (j+1) _ _)<=_;rw[aJ];exact aco txs (j+1) _ _
def ali:acj->Prop:=λ(h,m',txs,oL,i,p,out)=>(0<=h/\h<=1000000)/\ad9 txs/\p.length=32/\oL=out.length/\∃m k:Nat,m'=m/\k<=m/\m<=20/\i=k/\out.length=k
def Fo:acj->awB:=λ(h,m,txs,_,i,p,out)=>((out++Xs txs (m - i).toNat p (h+1+i)).length,out++Xs txs (m - i).toNat p (h+1+i))
def aEL:azY->Prop:=λ(p,h,m',txs)=>(0<=h/\h<=1000000)/\ad9 txs/\p.length=32/\∃m:Nat,m'=m/\m<=20
def X1:azY->aSw:=λ(p,h,m,txs)=>Xs txs m.toNat p (h+1)
def qY:Ls ali bm Fo:=qv (λ(dN,Nt,adC,outL,i,n4,n32)=>⟨([bA,.d ti dN,.d ti Nt,.d (.slice eH) adC,eG 4]++aP 4 ([nE 32 outL,.d ti i]++aP 25 [])),[],(bC 4 ([dH (.d tH n4)]++bC 27 [dH (.vec 48 dU n32),[],[],[]]))⟩) (λx=>(.exit 0,⟨(aP 9 ([nE 32 x.1]++aP 26 [])),[],(bC 32 [dH (.vec 48 dU x.2),[],[],[]])⟩))
def Gm:Fs Tryz.prog aEL bm X1:=eI 44 Tryz.f44 (λ(parent,height,many,txs)=>([.d tH parent,.d ti height,.d ti many,.d (.slice eH) txs],[])) (λx=>⟨.d (.slice dU) x,[],[]⟩) [some tH,some ti,some ti,some (.slice eH)] [aqP] {bI:=[4],loops:=nD [(3,{aU:=[1,2,3,4,9,10],sites:=[4,32],owns:=[⟨9,[],32,41⟩]})],outs:=nC [(3,{aU:=[9],sites:=[32]},{aU:=[8]})],fu:=np [(3,qY.E)],res:=[some (.slice dU)]}
theorem alj:qY.RS:=rL [.d ti,.d ti,.d (.slice eH),.n,.d ti,.d tB,.d (.slice dU)] qY
theorem LJ{R:Type}(dN Nt adC outL i n4 n32)(kn:K2 R)(kx:K3 R):Gm.R 0 qY (dN,Nt,adC,outL,i,n4,n32) kn kx=aG ((fP i Nt)) (aG ((qO i (cI .i64 Nt 1))) (aG (decide (outL<=(ag n32))) (aG (cT (outL+1) 96) (ak (QA.call ((bH .i64 (bH .i64 dN 1) i),(n4,(adC,(0,(([]:List bw),())))))) λx1=>kn (qY.st (dN,Nt,adC,(outL+1),(bH .i64 i 1),x1,((aQ outL n32)++ [((bH .i64 (bH .i64 dN 1) i),(n4,(adC,(0,(([]:List bw),())))))])))) none) none) (aG (decide (outL<=(ag n32))) (aG (cT (outL+1) 96) (ak (QA.call ((bH .i64 (bH .i64 dN 1) i),(n4,(([]:List dM),(0,(([]:List bw),())))))) λx2=>kn (qY.st (dN,Nt,adC,(outL+1),(bH .i64 i 1),x2,((aQ outL n32)++ [((bH .i64 (bH .i64 dN 1) i),(n4,(([]:List dM),(0,(([]:List bw),())))))])))) none) none)) (qY.go kx (outL,n32)):=by kernel_rfl
theorem aMN{R:Type}(parent height many txs)(k:K1 R):Gm.A (parent,height,many,txs) k=ak (qY.call (height,many,txs,0,0,parent,([]:List dz))) λx4=>aG (decide (0=0/\(0+x4.1)<=(ag x4.2))) (k (Gm.out (cut x4.2 0 x4.1))) none:=by kernel_rfl
theorem arj:(Gm.jP 0 qY):=by
 refine(Gm.lk 0 qY) (λ(_,m,_,_,i,_)=>(m - i).toNat) ?_
 rintro⟨h,m',txs,oL,i,p,out⟩ ⟨⟨h0,h1⟩,ht,hp,rfl,m,k,rfl,hk,hm,rfl,ho⟩;have h0:0<=h:=h0;have h1:h<=1000000:=h1;have hk:k<=m:=hk;have hm:m<=20:=hm;by_cases gv:k < m
 ·left;obtain⟨j,hj⟩:∃j,m=k+1+j:=⟨m - (k+1),by omega⟩;have e1:((m:Int) - (k:Int)).toNat=j+1:=by omega
  have e2:((m:Int) - ((k+1:Nat):Int)).toNat=j:=by omega
  have e3:h+1+((k+1:Nat):Int)=h+1+(k:Int)+1:=by omega
  have hb:=aTD ht (h:=h+1+(k:Int)) (p:=p) (by omega) hp (j=0);refine⟨(h,(m:Int),txs,out.length+1,((k+1:Nat):Int),atv (zK (h+1+(k:Int)) p (if j=0 then txs else []) 0),out++ [zK (h+1+(k:Int)) p (if j=0 then txs else []) 0]),⟨⟨h0,h1⟩,ht,Bz _,by rw[ai];rfl,m,k+1,rfl,gv,hm,rfl,by rw[ai,ho];rfl⟩,by simp only[e1,e2];omega,?_,λkn kx=> ?_⟩
  ·simp only[bm,Fo,e1,e2,e3,Xs,aC,cS]
  ·rw[LJ,aT (by omega),aj,ez (by omega) (by omega),fE (x:=h) (by omega) (by omega),fE (x:=h+1) (by omega) (by omega)];by_cases hz:j=0
   ·rw[if_pos hz]at hb ⊢;rw[dj (by omega),aj,aH (aw _),aj,de (by omega) (by omega),aj,bJ];refine(bl (λz=>ak z _) (Tu (d:=zK (h+1+(k:Int)) p txs 0) hb.1)).trans ?_
    rw[ah,N.mq (by omega)];rfl
   ·rw[if_neg hz]at hb ⊢;rw[eM (by omega),al,aH (aw _),aj,de (by omega) (by omega),aj,bJ];refine(bl (λz=>ak z _) (Tu (d:=zK (h+1+(k:Int)) p [] 0) hb.1)).trans ?_
    rw[ah,N.mq (by omega)];rfl
 ·right;obtain rfl:k=m:=by omega
  intro R kn kx;have e1:((k:Int) - (k:Int)).toNat=0:=by omega
  rw[LJ,aO (by omega),al];simp only[bm,Fo,e1,Xs,bj]
theorem aMO:Gm.Ok:=by
 rintro⟨p,h,m',txs⟩ ⟨hh,ht,hp,m,rfl,hm⟩;have e1:((m:Int) - 0).toNat=m:=by omega
 rw[aMN,alj (d:=(h,(m:Int),txs,0,0,p,[])) ⟨hh,ht,hp,rfl,m,0,rfl,aL _,hm,rfl,rfl⟩];simp only[ah,bm,Fo,e1,aR,Int.add_zero,aJ];rw[aH (by exact⟨trivial,aw _⟩),aj,eP rfl];simp only[bm,X1,aa]
theorem TI:Gm.RS:=rE [.d tB,.d ti,.d ti,.d (.slice eH)] Gm
def aMP:=Gm.eN aMO 1 ⟨.fm arj,trivial⟩
abbrev anj:=aOL×Nat×Nat×(List (bw×dS))×(List bW)×(List dz)
abbrev aHq:=(List dz)×Nat×Nat×(List (bw×dS))×(List bW)×(List dz)
def tr(a:aOL):Int:=cD .and .i64 a.1 7
def El(a:aOL)(nb:Nat)(bs:List dz):List dz:=if tr a < 3 then Xs a.2.1 1 (q9 nb bs) ((nb:Int)+1) else if 1<=a.2.2.1/\a.2.2.1<=nb/\a.2.2.1<=8 then Xs a.2.1 (a.2.2.1.toNat+1) (q9 (nb - a.2.2.1.toNat) bs) ((nb:Int) - a.2.2.1+1) else []
def atI:anj->Prop:=λ(a,nb,n,at',s,bs)=>(∃A0 m,uO A0 m nb n at' s bs)/\ad9 a.2.1
def YH:anj->aHq:=λ(a,nb,n,at',s,bs)=>(El a nb bs,nb,n,at',s,bs)
def xu:Fs Tryz.prog atI bm YH:=eI 14 Tryz.f14 (λ(a,o0baL,o1baL,o2,o3,o4)=>([.ptr (.bh 0) 0 [] 0,.d aGs a],[.obj 0 false (.pr (.ptr (.bh 1) 0 [] 0) (.pr (.bu (.bh 4) 0 [] 0 0 o0baL) (.d .unit ()))),.obj 0 false (.pr (.cm (.bh 2) 0) (.pr (.bu (.bh 3) 0 [] 0 0 o1baL) (.d .unit ()))),.obj 0 false (.mp aV eS o2),.obj 0 false (.vec 256 cC o3),.obj 0 false (.vec 48 dU o4)])) (λx=>⟨.d (.slice dU) x.1,[.obj 0 false (.pr (.ptr (.bh 1) 0 [] 0) (.pr (.bu (.bh 4) 0 [] 0 0 x.2.1) (.d .unit ()))),.obj 0 false (.pr (.cm (.bh 2) 0) (.pr (.bu (.bh 3) 0 [] 0 0 x.2.2.1) (.d .unit ()))),.obj 0 false (.mp aV eS x.2.2.2.1),.obj 0 false (.vec 256 cC x.2.2.2.2.1),.obj 0 false (.vec 48 dU x.2.2.2.2.2)],[]⟩) [none,some aGs] [BD,anH,aMP,aPN,aqP] {res:=[some (.slice dU)]}
theorem aBd{R:Type}(a o0baL o1baL o2 o3 o4)(k:K1 R):xu.A (a,o0baL,o1baL,o2,o3,o4) k=ak (oD.call (o0baL,o1baL,o2,o3,o4)) λx1=>aG ((fP (cD .and .i64 a.1 7) 3)) (ak (KI.call (x1.1.1,x1.1.2.1,x1.1.2.2.1,x1.1.2.2.2.1,x1.1.2.2.2.2)) λx2=>ak (Gm.call (x2.2,x1.2,1,a.2.1)) λx3=>k (xu.out (x3,x2.1.1,x2.1.2.1,x2.1.2.2.1,x2.1.2.2.2.1,x2.1.2.2.2.2))) (aG ((fP a.2.2.1 1)) (k (xu.out (([]:List dz),x1.1.1,x1.1.2.1,x1.1.2.2.1,x1.1.2.2.2.1,x1.1.2.2.2.2))) (aG ((w5 a.2.2.1 x1.2)) (k (xu.out (([]:List dz),x1.1.1,x1.1.2.1,x1.1.2.2.1,x1.1.2.2.2.1,x1.1.2.2.2.2))) (aG ((w5 a.2.2.1 8)) (k (xu.out (([]:List dz),x1.1.1,x1.1.2.1,x1.1.2.2.1,x1.1.2.2.2.1,x1.1.2.2.2.2))) (ak (ai6.call ((cI .i64 x1.2 a.2.2.1),x1.1.1,x1.1.2.1,x1.1.2.2.1,x1.1.2.2.2.1,x1.1.2.2.2.2)) λx4=>aG (x4.2.2) (ak (QA.call x4.2.1) λx5=>ak (Gm.call (x5,(cI .i64 x1.2 a.2.2.1),(bH .i64 a.2.2.1 1),a.2.1)) λx6=>k (xu.out (x6,x4.1.1,x4.1.2.1,x4.1.2.2.1,x4.1.2.2.2.1,x4.1.2.2.2.2))) (ak (Gm.call ((ab 32 0),(cI .i64 x1.2 a.2.2.1),(bH .i64 a.2.2.1 1),a.2.1)) λx7=>k (xu.out (x7,x4.1.1,x4.1.2.1,x4.1.2.2.1,x4.1.2.2.2.1,x4.1.2.2.2.2))))))):=by kernel_rfl
theorem aWB{A0:At}{m nb n:Nat}{a:At}{s:List bW}{bs:List dz}(h:uO A0 m nb n a s bs){k:Nat}(hk:k < nb):aqd (nth dU bs k)=nth dU bs k/\axU (nth dU bs k):=by
 have hl:nb<=bs.length:=h.ch.1;have hk':k < bs.length:=by omega
 have n1:nth dU bs k=bs[k]:=bV (t:=dU) hk';rw[n1];have hv:=h.ch.2.2 _ (aM hk');refine⟨akM hv λt ht=>(h.bbP (b:=bs[k]) ?_ ht).1,hv⟩;have:(bs.take nb)[k]'(by rw[bq];omega)=bs[k]:=List.getElem_take;rw[<-this];exact aM _
theorem aBe:xu.Ok:=by
 rintro⟨a,nb,n,at',s,bs⟩ ⟨⟨A0,m,h⟩,ht⟩;have aXK:nb<=1000000:=h.ch.2.1;have z1:(1:Int).toNat=1:=rfl;have hs:∀l:List dz,aG (decide (0=0/\0+l.length<=l.length)) (some l) none=some l:=λl=>by rw[aH (by omega)];rfl
 rw[aBd,YS,show cD .and .i64 a.1 7=tr a from rfl];simp only[ah,bm,YH,El];by_cases h3:tr a < 3
 ·rw[if_pos h3,aT h3,aj,aPQ h.ch];simp only[ah];rw[TI (d:=(q9 nb bs,(nb:Int),1,a.2.1)) ⟨⟨by omega,by omega⟩,ht,A6 _ _,1,rfl,by decide⟩];rfl
 ·rw[if_neg h3,aO h3,al];by_cases d1:1<=a.2.2.1;rotate_left
  ·rw[aT (by omega),aj,if_neg (λe=>d1 e.1)]
  rw[aO (by omega),al];by_cases d2:a.2.2.1<=nb;rotate_left
  ·rw[df (by omega),aj,if_neg (λe=>d2 e.2.1)]
  rw[cE (by omega),al];by_cases d3:a.2.2.1<=8;rotate_left
  ·rw[df (by omega),aj,if_neg (λe=>d3 e.2.2)]
  rw[cE (by omega),al,if_pos ⟨d1,d2,d3⟩];generalize a.2.2.1=d at d1 d2 d3;obtain⟨k,rfl⟩:∃k:Nat,d=(k:Int):=⟨d.toNat,by omega⟩;have ei:cI .i64 (nb:Int) (k:Int)=((nb - k:Nat):Int):=by rw[ez (by omega) (by omega)];omega
  have ej:bH .i64 (k:Int) 1=((k+1:Nat):Int):=by rw[fE (by omega) (by omega)];omega
  rw[ei,ej,aHU (d:=(((nb - k:Nat):Int),nb,n,at',s,bs)) h.ch];simp only[ah,anA,YO,aXu,aa];by_cases hz:nb - k=0
  ·rw[if_neg (by omega),al,TI (d:=(ab 32 0,((nb - k:Nat):Int),((k+1:Nat):Int),a.2.1)) ⟨⟨by omega,by omega⟩,ht,b8,k+1,rfl,by omega⟩];simp only[ah,bm,X1,aa];rw[show q9 (nb - k) bs=ab 32 0 from if_pos hz,show((nb - k:Nat):Int)=(nb:Int) - (k:Int) by omega]
  ·obtain⟨o1,o2⟩:=aWB h (k:=nb - k - 1) (by omega);rw[if_pos ⟨by omega,by omega⟩,o1];simp only[aj];rw[Tu (d:=nth dU bs (nb - k - 1)) o2];simp only[ah,bm,azG];rw[TI (d:=(atv (nth dU bs (nb - k - 1)),((nb - k:Nat):Int),((k+1:Nat):Int),a.2.1)) ⟨⟨by omega,by omega⟩,ht,Bz _,k+1,rfl,by omega⟩];simp only[ah,bm,X1,aa];rw[show q9 (nb - k) bs=atv (nth dU bs (nb - k - 1)) from if_neg hz,show((nb - k:Nat):Int)=(nb:Int) - (k:Int) by omega]
theorem atJ:xu.RS:=rE [.d aGs,.n,.n,.d (.slice (.pair aV eS)),.d (.slice cC),.d (.slice dU)] xu
def aBf:=xu.eN aBe
abbrev yE:=aOL×(List dz)×Int×Bool×Nat×Nat×(List (bw×dS))×(List bW)×(List dz)×(List (bw×iY))
def KX:yE->AS:=λ(a,l,t13,t14,o0L,o1L,o2,o3,o4,o6)=>⟨([.ptr (.bh 0) 0 [] 0,.ptr (.bh 5) 0 [] 0,bA,bA,bA,.dL aGs a,bA,.d (.slice dU) l]++aP 5 ([.d ti t13,.d .bool t14]++aP 33 [])),[.obj 0 false (.pr (.ptr (.bh 1) 0 [] 0) (.pr (.bu (.bh 4) 0 [] 0 0 o0L) fL)),.obj 0 false (.pr (.cm (.bh 2) 0) (.pr (.bu (.bh 3) 0 [] 0 0 o1L) fL)),.obj 0 false (.mp aV eS o2),.obj 0 false (.vec 256 cC o3),.obj 0 false (.vec 48 dU o4),.obj 0 false (.pr (.cm (.bh 6) 0) fL),.obj 0 false (.mp aV jN o6)],(ab 48 [])⟩
def Pq:qJ:=qJ.of {aU:=[0,1,5,7,13,14]} KX
def tO:yE->Option yE:=λx=>(Pq).aCR .normal (KX x)
theorem Pr(x:yE):tO x=some x:=qJ.H2 (jK [.d aGs,.d (.slice dU),.d ti,.d .bool,.n,.n,.d (.slice (.pair aV eS)),.d (.slice cC),.d (.slice dU),.d (.slice (.pair aV jN))] λ_=>by kernel_rfl) x
abbrev yF:=aOL×(List dz)×Int×Bool×Nat×Nat×(List (bw×dS))×(List bW)×(List dz)×(List (bw×iY))
def KY:yF->AS:=λ(a,l,t13,t23,o0L,o1L,o2,o3,o4,o6)=>⟨([.ptr (.bh 0) 0 [] 0,.ptr (.bh 5) 0 [] 0,bA,bA,bA,.dL aGs a,bA,.d (.slice dU) l]++aP 5 ([.d ti t13]++aP 9 ([.d .bool t23]++aP 24 []))),[.obj 0 false (.pr (.ptr (.bh 1) 0 [] 0) (.pr (.bu (.bh 4) 0 [] 0 0 o0L) fL)),.obj 0 false (.pr (.cm (.bh 2) 0) (.pr (.bu (.bh 3) 0 [] 0 0 o1L) fL)),.obj 0 false (.mp aV eS o2),.obj 0 false (.vec 256 cC o3),.obj 0 false (.vec 48 dU o4),.obj 0 false (.pr (.cm (.bh 6) 0) fL),.obj 0 false (.mp aV jN o6)],(ab 48 [])⟩
def Ps:qJ:=qJ.of {aU:=[0,1,5,7,13,23]} KY
def Aq:yF->Option yF:=λx=>(Ps).aCR .normal (KY x)
theorem Pt(x:yF):Aq x=some x:=qJ.H2 (jK [.d aGs,.d (.slice dU),.d ti,.d .bool,.n,.n,.d (.slice (.pair aV eS)),.d (.slice cC),.d (.slice dU),.d (.slice (.pair aV jN))] λ_=>by kernel_rfl) x
abbrev Ht:=aOL×Nat×Nat×(List (bw×dS))×(List bW)×(List dz)×(List (bw×iY))
def SL:Ht->SA:=λ(a,o0baL,o1baL,o2,o3,o4,o6)=>([.ptr (.bh 0) 0 [] 0,.ptr (.bh 5) 0 [] 0,.d aGs a],[.obj 0 false (.pr (.ptr (.bh 1) 0 [] 0) (.pr (.bu (.bh 4) 0 [] 0 0 o0baL) fL)),.obj 0 false (.pr (.cm (.bh 2) 0) (.pr (.bu (.bh 3) 0 [] 0 0 o1baL) fL)),.obj 0 false (.mp aV eS o2),.obj 0 false (.vec 256 cC o3),.obj 0 false (.vec 48 dU o4),.obj 0 false (.pr (.cm (.bh 6) 0) fL),.obj 0 false (.mp aV jN o6)])
abbrev aov:=((List GY)×Nat×Nat×(List (bw×dS))×(List bW)×(List dz)×(List (bw×iY)))⊕((List GY)×Nat×Nat×(List (bw×dS))×(List bW)×(List dz)×(List (bw×iY))×Nat×(List (bw×dS))×(List bW)×(List dz))
abbrev Hu:=((List GY)×Nat×Nat×(List (bw×dS))×(List bW)×(List dz)×(List (bw×iY)))⊕((List GY)×Nat×Nat×(List (bw×dS))×(List bW)×(List dz)×(List (bw×iY))×Nat×(List (bw×dS))×(List bW)×(List dz))
def mW:Hu->fx:=λx=>match x with | .inl x=>⟨.d (.slice LP) x.1,[.obj 0 false (.pr (.ptr (.bh 1) 0 [] 0) (.pr (.bu (.bh 4) 1 [] 0 0 x.2.1) fL)),.obj 0 false (.pr (.cm (.bh 2) 0) (.pr (.bu (.bh 3) 1 [] 0 0 x.2.2.1) fL)),.obj 0 false (.mp aV eS x.2.2.2.1),.obj 1 false (.vec 256 cC x.2.2.2.2.1),.obj 1 false (.vec 48 dU x.2.2.2.2.2.1),.obj 0 false (.pr (.cm (.bh 6) 0) fL),.obj 0 false (.mp aV jN x.2.2.2.2.2.2)],[]⟩ | .inr x=>⟨.d (.slice LP) x.1,[.obj 0 false (.pr (eG 0) (.pr (.bu (.new 0 3) 0 [] 0 0 x.2.1) fL)),.obj 0 false (.pr (.cm (.bh 2) 0) (.pr (.bu (.bh 3) 1 [] 0 0 x.2.2.1) fL)),.obj 0 false (.mp aV eS x.2.2.2.1),.obj 1 false (.vec 256 cC x.2.2.2.2.1),.obj 1 false (.vec 48 dU x.2.2.2.2.2.1),.obj 0 false (.pr (.cm (.bh 6) 0) fL),.obj 0 false (.mp aV jN x.2.2.2.2.2.2.1)],[.obj 0 false (.pr (.cm (.new 0 1) 0) (.pr (.bu (.new 0 2) 0 [] 0 0 x.2.2.2.2.2.2.2.1) fL)),.obj 0 false (.mp aV eS x.2.2.2.2.2.2.2.2.1),.obj 0 false (.vec 256 cC x.2.2.2.2.2.2.2.2.2.1),.obj 0 false (.vec 48 dU x.2.2.2.2.2.2.2.2.2.2)]⟩
def MX:Ht->aov->Hu:=λ(a,o0baL,o1baL,o2,o3,o4,o6) y=>match y with | .inl y=> .inl y | .inr y=> .inr y
def aZi(v:Int):Bool:=qO v 0 || (qO v 1 || qO v 2)
def bag(v:Int):Bool:=qO v 3 || qO v 4
def aq8(d:Int)(l:List dz)(nb n:Nat)(a:At)(s:List bW)(bs:List dz):JB:=(kK (d,l,nb,n,a,s,bs)).getD (.inl (0,nb,n,a,s,bs))
def RI(o:bw)(m:Wm):Wm:=if(bZ aV o m).isSome then m else eJ aV o s9 m
def aSH(a:aOL)(nb:Nat)(bs:List dz)(m:Wm):Wm×List GY:=if tr a=5 then(RI a.2.2.2.1 m,[]) else if tr a=6 then(fR aV a.2.2.2.1 m,[]) else if tr a=7 then yU nb bs m else(m,[])
def MW:Ht->Prop:=λ(a,nb,n,at',s,bs,m)=>(∃A0 b,uO A0 b nb n at' s bs/\b+a.2.1.length<=400)/\nb<=900/\ad9 a.2.1/\WG m
def Ap:Ht->aov:=λ(a,nb,n,at',s,bs,m)=>
 if aZi (tr a) then .inl ([],(lM (nth dU (El a nb bs) 0) nb (n,at',s) bs).2.1,(lM (nth dU (El a nb bs) 0) nb (n,at',s) bs).2.2.1,(lM (nth dU (El a nb bs) 0) nb (n,at',s) bs).2.2.2.1,(lM (nth dU (El a nb bs) 0) nb (n,at',s) bs).2.2.2.2.1,(lM (nth dU (El a nb bs) 0) nb (n,at',s) bs).2.2.2.2.2,m)
 else if bag (tr a) then match aq8 a.2.2.1 (El a nb bs) nb n at' s bs with
  | .inl x=> .inl ([],x.2.1,x.2.2.1,x.2.2.2.1,x.2.2.2.2.1,x.2.2.2.2.2,m)
  | .inr x=> .inr ([],x.2.1,x.2.2.1,x.2.2.2.1,x.2.2.2.2.1,x.2.2.2.2.2.1,m,x.2.2.2.2.2.2.1,x.2.2.2.2.2.2.2.1,x.2.2.2.2.2.2.2.2.1,x.2.2.2.2.2.2.2.2.2)
 else .inl ((aSH a nb bs m).2,nb,n,at',s,bs,(aSH a nb bs m).1)
def aI5:om:=kh (P:=Tryz.prog) [aBf,anx,at2,adZ,adT,aOt]
def aB4:wO:= {res:=[some (.slice LP)],atK:=[(3,1),(4,1)],ay5:=np [(6,Pq),(9,Ps)]}
def aou:= @G2 Tryz.prog aI5 aB4 0 Tryz.f20 _ SL
abbrev aB3:=aiz @aou MW MX Ap mW
theorem aB5{R:Type}(a:aOL)(o0baL:Nat)(o1baL:Nat)(o2:(List (bw×dS)))(o3:(List bW))(o4:(List dz))(o6:(List (bw×iY)))(k:fx->Option R):aou (a,o0baL,o1baL,o2,o3,o4,o6) k=ak (xu.call (a,o0baL,o1baL,o2,o3,o4)) λx4=>ak (aG ((qO (cD .and .i64 a.1 (7:Int)) (0:Int))) (tO (a,x4.1,(cD .and .i64 a.1 (7:Int)),(qO (cD .and .i64 a.1 (7:Int)) (0:Int)),x4.2.1,x4.2.2.1,x4.2.2.2.1,x4.2.2.2.2.1,x4.2.2.2.2.2,o6)) (aG ((qO (cD .and .i64 a.1 (7:Int)) (1:Int))) (tO (a,x4.1,(cD .and .i64 a.1 (7:Int)),(qO (cD .and .i64 a.1 (7:Int)) (1:Int)),x4.2.1,x4.2.2.1,x4.2.2.2.1,x4.2.2.2.2.1,x4.2.2.2.2.2,o6)) (tO (a,x4.1,(cD .and .i64 a.1 (7:Int)),(qO (cD .and .i64 a.1 (7:Int)) (2:Int)),x4.2.1,x4.2.2.1,x4.2.2.2.1,x4.2.2.2.2.1,x4.2.2.2.2.2,o6)))) λOl=>aG (Ol.2.2.2.1) (aG (ed (0:Int) (((ag Ol.2.1):Nat):Int)) (ak (F5.call ((nth dU Ol.2.1 0),Ol.2.2.2.2.1,Ol.2.2.2.2.2.1,Ol.2.2.2.2.2.2.1,Ol.2.2.2.2.2.2.2.1,Ol.2.2.2.2.2.2.2.2.1)) λaZO=>k (mW (.inl (([]:List GY),aZO.2.1,aZO.2.2.1,aZO.2.2.2.1,aZO.2.2.2.2.1,aZO.2.2.2.2.2,Ol.2.2.2.2.2.2.2.2.2)))) none) (ak (aG ((qO Ol.2.2.1 (3:Int))) (Aq (Ol.1,Ol.2.1,Ol.2.2.1,(qO Ol.2.2.1 (3:Int)),Ol.2.2.2.2.1,Ol.2.2.2.2.2.1,Ol.2.2.2.2.2.2.1,Ol.2.2.2.2.2.2.2.1,Ol.2.2.2.2.2.2.2.2.1,Ol.2.2.2.2.2.2.2.2.2)) (Aq (Ol.1,Ol.2.1,Ol.2.2.1,(qO Ol.2.2.1 (4:Int)),Ol.2.2.2.2.1,Ol.2.2.2.2.2.1,Ol.2.2.2.2.2.2.1,Ol.2.2.2.2.2.2.2.1,Ol.2.2.2.2.2.2.2.2.1,Ol.2.2.2.2.2.2.2.2.2))) λvI=>aG (vI.2.2.2.1) (ak (kK (vI.1.2.2.1,vI.2.1,vI.2.2.2.2.1,vI.2.2.2.2.2.1,vI.2.2.2.2.2.2.1,vI.2.2.2.2.2.2.2.1,vI.2.2.2.2.2.2.2.2.1)) λG1=>aG (G1.isLeft) (ak (G1.getLeft?) λaOI=>k (mW (.inl (([]:List GY),aOI.2.1,aOI.2.2.1,aOI.2.2.2.1,aOI.2.2.2.2.1,aOI.2.2.2.2.2,vI.2.2.2.2.2.2.2.2.2)))) (ak (G1.getRight?) λamr=>k (mW (.inr (([]:List GY),amr.2.1,amr.2.2.1,amr.2.2.2.1,amr.2.2.2.2.1,amr.2.2.2.2.2.1,vI.2.2.2.2.2.2.2.2.2,amr.2.2.2.2.2.2.1,amr.2.2.2.2.2.2.2.1,amr.2.2.2.2.2.2.2.2.1,amr.2.2.2.2.2.2.2.2.2))))) (aG ((qO vI.2.2.1 (5:Int))) (ak (D9.call (vI.1.2.2.2.1,vI.2.2.2.2.2.2.2.2.2)) λOg=>k (mW (.inl (([]:List GY),vI.2.2.2.2.1,vI.2.2.2.2.2.1,vI.2.2.2.2.2.2.1,vI.2.2.2.2.2.2.2.1,vI.2.2.2.2.2.2.2.2.1,Og)))) (aG ((qO vI.2.2.1 (6:Int))) (ak (Me.call (vI.1.2.2.2.1,vI.2.2.2.2.2.2.2.2.2)) λad1=>k (mW (.inl (([]:List GY),vI.2.2.2.2.1,vI.2.2.2.2.2.1,vI.2.2.2.2.2.2.1,vI.2.2.2.2.2.2.2.1,vI.2.2.2.2.2.2.2.2.1,ad1)))) (aG ((qO vI.2.2.1 (7:Int))) (ak (Mg.call (vI.2.2.2.2.2.2.2.2.2,vI.2.2.2.2.1,vI.2.2.2.2.2.1,vI.2.2.2.2.2.2.1,vI.2.2.2.2.2.2.2.1,vI.2.2.2.2.2.2.2.2.1)) λaGt=>aG (decide (0=0/\(0+aGt.1)<=(ag aGt.2.2.2.2.2.2.2))) (k (mW (.inl ((cut aGt.2.2.2.2.2.2.2 0 aGt.1),aGt.2.2.1,aGt.2.2.2.1,aGt.2.2.2.2.1,aGt.2.2.2.2.2.1,aGt.2.2.2.2.2.2.1,aGt.2.1)))) none) (k (mW (.inl (([]:List GY),vI.2.2.2.2.1,vI.2.2.2.2.2.1,vI.2.2.2.2.2.2.1,vI.2.2.2.2.2.2.2.1,vI.2.2.2.2.2.2.2.2.1,vI.2.2.2.2.2.2.2.2.2)))))))):=by kernel_rfl
theorem aUR{a:aOL}(ht:ad9 a.2.1){nb:Nat}(hn:nb<=1000000)(bs:List dz):(∀b∈El a nb bs,WS b)/\adh (El a nb bs)<=a.2.1.length/\(El a nb bs).length<=9/\(tr a < 3->(El a nb bs).length=1):=by
 unfold El;split
 ·exact⟨awC ht 1 _ _ (by omega) (A6 _ _),aco _ _ _ _,by rw[QR];decide,λ_=>QR _ _ _ _⟩
 ·rename_i h3;split
  ·rename_i hd;exact⟨awC ht _ _ _ (by omega) (A6 _ _),aco _ _ _ _,by rw[QR];omega,λh=>absurd h h3⟩
  ·exact⟨λb hb=>(by cases hb),aL _,by show 0<=9;decide,λh=>absurd h h3⟩
theorem uO.aq8{A0:At}{m nb n:Nat}{a:At}{s:List bW}{bs:List dz}(h:uO A0 m nb n a s bs)(d:Int){l:List dz}(hl:∀b∈l,WS b)(hm:m+adh l<=400)(hn:nb+l.length<=1000):
  kK (d,l,nb,n,a,s,bs)=some (Ab.aq8 d l nb n a s bs):=by
 unfold Ab.aq8;rcases h.aUm d hl hm hn with⟨e,_,h1⟩ | ⟨n',a',s',bs',h1,_⟩
 ·rw[h1];rfl
 ·rw[h1];rfl
theorem aB6:aB3:=by
 rintro⟨a,nb,n,at',s,bs,m⟩ ⟨⟨A0,b,h,hb⟩,aXK,ht,hw⟩;have hb:b+a.2.1.length<=400:=hb;have aXK:nb<=900:=aXK;obtain⟨g1,g2,g3,g4⟩:=aUR ht (nb:=nb) (by omega) bs;rw[aB5,atJ (d:=(a,nb,n,at',s,bs)) ⟨⟨A0,b,h⟩,ht⟩];simp only[ah,bm,YH,Pr,Pt];rw[show cD .and .i64 a.1 7=tr a from rfl];refine(bl (λz=>ak z _) (?_:_=some (a,El a nb bs,tr a,aZi (tr a),nb,n,at',s,bs,m))).trans ?_
 ·unfold aZi;cases qO (tr a) 0 <;> cases qO (tr a) 1 <;> cases qO (tr a) 2 <;> rfl
 rw[ah];simp only[Ap];generalize hl:El a nb bs=l at g1 g2 g3 g4 ⊢;cases h3:aZi (tr a) with
 |true=>
  have hv:tr a < 3:=by unfold aZi qO at h3;simp only[gw,dp]at h3;rcases h3 with h3 | h3 | h3 <;> rw[h3] <;> decide
  have g4:=g4 hv;have aTW:nth dU l 0∈l:=by rw[bV (t:=dU) (show 0 < l.length by omega)];exact aM _
  rw[aj,if_pos rfl,bf (by decide) (by omega),aj,h.bax (g1 _ aTW) (by omega)];rfl
 |false=>
  rw[al,if_neg (by decide)];refine(bl (λz=>ak z _) (?_:_=some (a,l,tr a,bag (tr a),nb,n,at',s,bs,m))).trans ?_
  ·unfold bag;cases qO (tr a) 3 <;> cases qO (tr a) 4 <;> rfl
  rw[ah];simp only[];cases h4:bag (tr a) with
  |true=>
   rw[aj,if_pos rfl,h.aq8 a.2.2.1 g1 (by omega) (by omega)];simp only[ah];cases aq8 a.2.2.1 l nb n at' s bs <;> rfl
  |false=>
   rw[al,if_neg (by decide)];unfold aSH;by_cases c5:tr a=5
   ·rw[dj c5,aj,if_pos c5,Kc (d:=(a.2.2.2.1,m)) trivial];rfl
   rw[eM c5,al,if_neg c5];by_cases c6:tr a=6
   ·rw[dj c6,aj,if_pos c6,Uf (d:=(a.2.2.2.1,m)) trivial];rfl
   rw[eM c6,al,if_neg c6];by_cases c7:tr a=7
   ·rw[dj c7,aj,if_pos c7,aF7 (d:=(m,nb,n,at',s,bs)) ⟨⟨A0,b,h⟩,hw⟩];simp only[ah,bm,amk];rw[aH (⟨trivial,tp (aJ _)⟩:True/\0+(yU nb bs m).2.length<=(yU nb bs m).2.length),aj,eP rfl];rfl
   rw[eM c7,al,if_neg c7];rfl
def Du:=Entry.aeF [none,none,some aGs] SL MW MX Ap mW
def eh:Ht->Option Hu:=KB Du SL
theorem MY:jd eh MW MX Ap:=acu (W0 [.d aGs,.n,.n,.d (.slice (.pair aV eS)),.d (.slice cC),.d (.slice dU),.d (.slice (.pair aV jN))] λ_=>by kernel_rfl)
def agC:SG Tryz.prog:=⟨20,lO,Du,.of (.aUp (.fn 0 (by kernel_rfl) aB6 trivial)) (by rfl)⟩
section
def aT7:List aA->Bool:=λvs=>match vs with | [_,_,.d (.pair (.int .i64) _) x]=>decide ((x.1:Int)=3) | _=>false
def aZn:List aA->Bool:=λvs=> !aT7 vs
def baF.E:Entry:=Entry.half [none,none,some aGs] (X:=Hu) (Z:=(List GY)×Nat×Nat×(List (bw×dS))×(List bW)×(List dz)×(List (bw×iY))) Du.run Du.out Sum.inl cP
def baF.sg:SG Tryz.prog:=⟨20,aZn,baF.E,uS.of (qw.half aYv (agC.h.1 (by rfl))) (by rfl)⟩
def baG.E:Entry:=Entry.half [none,none,some aGs] (X:=Hu) (Z:=(List GY)×Nat×Nat×(List (bw×dS))×(List bW)×(List dz)×(List (bw×iY))×Nat×(List (bw×dS))×(List bW)×(List dz)) Du.run Du.out Sum.inr Sum.getRight?
def baG.sg:SG Tryz.prog:=⟨20,aT7,baG.E,uS.of (qw.half aYw (agC.h.1 (by rfl))) (by rfl)⟩
abbrev pk:=(List GY)×(List GY)×Bool×bw×(List (bw×iY))
def Gu:pk->AS:=λ(d,e,one,n6,n29)=>⟨([bA,bA,bA,eG 29,bA,bA,eG 6]++aP 6 ([.d (.slice LP) d,bA,.d (.slice LP) e,bA,.d .bool one]++aP 235 [])),[],(bC 6 ([dH (.d aV n6)]++bC 22 ([[.obj 0 false (.pr (.cm (.new 29 1) 0) fL),.obj 0 false (.mp aV jN n29)]]++bC 223 [])))⟩
def I0:qJ:=qJ.of {aU:=[3,6,13,15,17],sites:=[6,29]} Gu
def iI:pk->Option pk:=λx=>(I0).aCR .normal (Gu x)
theorem Kp(x:pk):iI x=some x:=qJ.H2 (jK [.d (.slice LP),.d (.slice LP),.d .bool,.d aV,.d (.slice (.pair aV jN))] λ_=>by kernel_rfl) x
abbrev pn:=Bool×Bool×bw×(List (bw×iY))
def Gv:pn->AS:=λ(one,two,n6,n29)=>⟨([bA,bA,bA,eG 29,bA,bA,eG 6]++aP 10 ([.d .bool one,.d .bool two]++aP 234 [])),[],(bC 6 ([dH (.d aV n6)]++bC 22 ([[.obj 0 false (.pr (.cm (.new 29 1) 0) fL),.obj 0 false (.mp aV jN n29)]]++bC 223 [])))⟩
def I1:qJ:=qJ.of {aU:=[3,6,17,18],sites:=[6,29]} Gv
def fU:pn->Option pn:=λx=>(I1).aCR .normal (Gv x)
theorem Kq(x:pn):fU x=some x:=qJ.H2 (jK [.d .bool,.d .bool,.d aV,.d (.slice (.pair aV jN))] λ_=>by kernel_rfl) x
abbrev ah7:=Unit
abbrev aFb:=Bool
def arU:ah7->Prop:=λ_=>True
def ah8:ah7->aFb:=λ_=>true
def js:Fs Tryz.prog arU bm ah8:=eI 8 Tryz.f8 (λ_=>([],[])) (λx=>⟨.d .bool x,[],[]⟩) [] [Qq,aRs,aH0,aAt,aNZ,adZ,baF.sg,asM,baG.sg,aNT,ais,amc,adT] {loops:=nD [(19,{aU:=[2,3,4,6,7,8,9,11,12,13,14],sites:=[1,4,6,7,10,20,23,24,28,29,44,50,53,58,62,68,72,76,85,89,97,101,105,155,207,212,216,219,223,249]})],outs:=nC [(19,{aU:=[2,3,4,6,7,8,9,11,12,13],sites:=[1,4,6,7,10,20,23,24,28,29,44,50,53,58,62,68,72,76,85,89,97,101,105,155,207,212,216,219,223,249]},{aU:=[0],sites:=[1,4,6,7,10,20,23,24,28,29,44,50,53,58,62,68,72,76,85,89,97,101,105,155,207,212,216,219,223,249]})],ay5:=np [(27,I0),(28,I1)]} 8
theorem aw2{R:Type}(d)(k:K1 R):js.A d k=ak (Gf.call 7) λx7=>ak (apr.call x7) λx8=>ak (MB [(100,(x8,()))]) λvI=>aG (vI.isLeft) (ak (vI.getLeft?) λbeE=>ak (afO.call ()) λOg=>k (js.out false)) (ak (vI.getRight?) λaXl=>ak (afO.call ()) λaGt=>ak (uX.call (([(((ab 32 0),(0,())),((0,(([]:List Sg),(0,()))),()))],([(90,(x8,()))],(0,()))),0,0,[7],0)) λaXY=>ak (D9.call (((ab 32 0),(1,())),aGt)) λaUr=>ak (D9.call (((ab 32 0),(0,())),aUr)) λbeF=>ak (jv cP (eh ((7,(([]:List dM),(0,(((ab 32 0),(0,())),())))),0,0,aXl.1,aXl.2.1,aXl.2.2,beF))) λaXn=>ak (jv cP (eh ((0,(([]:List dM),(0,(((ab 32 0),(0,())),())))),aXn.2.1,aXn.2.2.1,aXn.2.2.2.1,aXn.2.2.2.2.1,aXn.2.2.2.2.2.1,aXn.2.2.2.2.2.2))) λaXZ=>ak (jv cP (eh ((0,([aXY.1],(0,(((ab 32 0),(0,())),())))),aXZ.2.1,aXZ.2.2.1,aXZ.2.2.2.1,aXZ.2.2.2.2.1,aXZ.2.2.2.2.2.1,aXZ.2.2.2.2.2.2))) λaX1=>ak (jv cP (eh ((7,(([]:List dM),(0,(((ab 32 0),(0,())),())))),aX1.2.1,aX1.2.2.1,aX1.2.2.2.1,aX1.2.2.2.2.1,aX1.2.2.2.2.2.1,aX1.2.2.2.2.2.2))) λaxR=>ak (D8.call (((ab 32 0),(0,())),axR.2.2.2.2.2.2)) λbco=>ak (jv Sum.getRight? (eh ((3,([aXY.1],(1,(((ab 32 0),(0,())),())))),axR.2.1,axR.2.2.1,axR.2.2.2.1,axR.2.2.2.2.1,axR.2.2.2.2.2.1,bco.1))) λaX2=>ak (jv cP (eh ((7,(([]:List dM),(0,(((ab 32 0),(0,())),())))),aX2.2.1,aX2.2.2.2.2.2.2.2.1,aX2.2.2.2.2.2.2.2.2.1,aX2.2.2.2.2.2.2.2.2.2.1,aX2.2.2.2.2.2.2.2.2.2.2,aX2.2.2.2.2.2.2.1))) λaGi=>ak (jv cP (eh ((0,(([]:List dM),(0,(((ab 32 0),(0,())),())))),aGi.2.1,aGi.2.2.1,aGi.2.2.2.1,aGi.2.2.2.2.1,aGi.2.2.2.2.2.1,aGi.2.2.2.2.2.2))) λaGc=>ak (jv cP (eh ((0,(([]:List dM),(0,(((ab 32 0),(0,())),())))),aGc.2.1,aGc.2.2.1,aGc.2.2.2.1,aGc.2.2.2.2.1,aGc.2.2.2.2.2.1,aGc.2.2.2.2.2.2))) λaGd=>ak (jv cP (eh ((0,(([]:List dM),(0,(((ab 32 0),(0,())),())))),aGd.2.1,aGd.2.2.1,aGd.2.2.2.1,aGd.2.2.2.2.1,aGd.2.2.2.2.2.1,aGd.2.2.2.2.2.2))) λasO=>ak (jv cP (eh ((0,(([]:List dM),(0,(((ab 32 0),(0,())),())))),asO.2.1,asO.2.2.1,asO.2.2.2.1,asO.2.2.2.2.1,asO.2.2.2.2.2.1,asO.2.2.2.2.2.2))) λaGe=>ak (jv cP (eh ((0,(([]:List dM),(0,(((ab 32 0),(0,())),())))),aGe.2.1,aGe.2.2.1,aGe.2.2.2.1,aGe.2.2.2.2.1,aGe.2.2.2.2.2.1,aGe.2.2.2.2.2.2))) λOf=>ak (jv cP (eh ((0,(([]:List dM),(0,(((ab 32 0),(0,())),())))),Of.2.1,Of.2.2.1,Of.2.2.2.1,Of.2.2.2.2.1,Of.2.2.2.2.2.1,Of.2.2.2.2.2.2))) λaGf=>ak (jv cP (eh ((0,(([]:List dM),(0,(((ab 32 0),(0,())),())))),aGf.2.1,aGf.2.2.1,aGf.2.2.2.1,aGf.2.2.2.2.1,aGf.2.2.2.2.2.1,aGf.2.2.2.2.2.2))) λafP=>ak (jv cP (eh ((7,(([]:List dM),(0,(((ab 32 0),(0,())),())))),afP.2.1,afP.2.2.1,afP.2.2.2.1,afP.2.2.2.2.1,afP.2.2.2.2.2.1,afP.2.2.2.2.2.2))) λUm=>ak (jv cP (eh ((7,(([]:List dM),(0,(((ab 32 0),(0,())),())))),Um.2.1,Um.2.2.1,Um.2.2.2.1,Um.2.2.2.2.1,Um.2.2.2.2.2.1,Um.2.2.2.2.2.2))) λaxQ=>aG ((BQ (aXn.1.length:Int) 0)) (k (js.out false)) (aG ((BQ (axR.1.length:Int) 1)) (k (js.out false)) (aG ((BQ (aGi.1.length:Int) 2)) (k (js.out false)) (aG ((BQ (Um.1.length:Int) 1)) (k (js.out false)) (aG ((BQ (axQ.1.length:Int) 0)) (k (js.out false)) (ak (aG (ed 0 (axR.1.length:Int)) (aG ((qO (nth LP axR.1 0).1 1)) (aG (ed 0 (axR.1.length:Int)) (aG ((qO (nth LP axR.1 0).2.2.2.1 2)) (aG (ed 0 (axR.1.length:Int)) (aG ((Ty.beq aV (nth LP axR.1 0).2.1 ((ab 32 0),(0,())))) (aG (ed 0 (axR.1.length:Int)) (ak (L0.call ((nth LP axR.1 0).2.2.1,aXY.1)) λaTz=>aG (aTz) (aG (bco.2.2.2) (iI (aGi.1,Um.1,(qO bco.2.2.1 2),((ab 32 0),(0,())),axQ.2.2.2.2.2.2)) (iI (aGi.1,Um.1,false,((ab 32 0),(0,())),axQ.2.2.2.2.2.2))) (iI (aGi.1,Um.1,false,((ab 32 0),(0,())),axQ.2.2.2.2.2.2))) none) (iI (aGi.1,Um.1,false,((ab 32 0),(0,())),axQ.2.2.2.2.2.2))) none) (iI (aGi.1,Um.1,false,((ab 32 0),(0,())),axQ.2.2.2.2.2.2))) none) (iI (aGi.1,Um.1,false,((ab 32 0),(0,())),axQ.2.2.2.2.2.2))) none) λnG=>ak (aG (ed 0 (nG.1.length:Int)) (aG ((qO (nth LP nG.1 0).1 2)) (aG (ed 0 (nG.1.length:Int)) (aG ((qO (nth LP nG.1 0).2.2.2.1 2)) (aG (ed 1 (nG.1.length:Int)) (aG ((qO (nth LP nG.1 1).1 1)) (aG (ed 1 (nG.1.length:Int)) (aG ((qO (nth LP nG.1 1).2.2.2.1 3)) (aG (ed 0 (nG.2.1.length:Int)) (aG ((qO (nth LP nG.2.1 0).1 3)) (aG (ed 0 (nG.2.1.length:Int)) (aG ((qO (nth LP nG.2.1 0).2.2.2.1 3)) (ak (xK.call (nG.2.2.2.1,nG.2.2.2.2)) λaXk=>aG (aXk.2) (ak (xK.call (((ab 32 0),(1,())),aXk.1)) λaZM=>fU (nG.2.2.1,(!aZM.2),nG.2.2.2.1,aZM.1)) (fU (nG.2.2.1,false,nG.2.2.2.1,aXk.1))) (fU (nG.2.2.1,false,nG.2.2.2.1,nG.2.2.2.2))) none) (fU (nG.2.2.1,false,nG.2.2.2.1,nG.2.2.2.2))) none) (fU (nG.2.2.1,false,nG.2.2.2.1,nG.2.2.2.2))) none) (fU (nG.2.2.1,false,nG.2.2.2.1,nG.2.2.2.2))) none) (fU (nG.2.2.1,false,nG.2.2.2.1,nG.2.2.2.2))) none) (fU (nG.2.2.1,false,nG.2.2.2.1,nG.2.2.2.2))) none) λaGh=>ak (wall.call aGh.2.2.2) λaOF=>ak (Me.call (aGh.2.2.1,aOF.2.1)) λbcj=>ak (D8.call (aGh.2.2.1,bcj)) λaZN=>aG (aGh.1) (aG (aGh.2.1) (aG ((qO ((aOF.1:Nat):Int) 2)) (aG (ed 0 ((aOF.1:Nat):Int)) (aG (decide (0 < (ag aOF.2.2))) (aG ((Ty.beq aV (nth aV aOF.2.2 0) aGh.2.2.1)) (aG ((!aZN.2.2.2)) (ak (wall.call aZN.1) λbck=>k (js.out (qO ((bck.1:Nat):Int) 1))) (k (js.out false))) (k (js.out false))) none) none) (k (js.out false))) (k (js.out false))) (k (js.out false)))))))):=by kernel_rfl
def o0:bw:=(ad3,((0:Int),()))
def o1:bw:=(ad3,((1:Int),()))
def Oo(d:Int)(l:List dM)(dep:Int):aOL:=(d,(l,(dep,(o0,()))))
def zI(x:iY):Wm:=[(o1,s9),(o0,x)]
theorem asZ{k:Int}:Ju (ad3,(k,())):=⟨b8,λx hx=>by rw[(rO.1 (show x∈ab 32 (0:Int) from hx)).2];exact⟨by decide,by decide⟩⟩
theorem bc5:¬o0=o1:=λh=>absurd (bl (λo:bw=>o.2.1) h:(0:Int)=1) (by decide)
theorem bbN:¬o1=o0:=λh=>bc5 h.symm
theorem aXw:Ty.beq aV o0 o1=false:=by
 cases h:Ty.beq aV o0 o1 with
 |false=>rfl
 |true=>exact absurd ((u7 _ _).1 h) bc5
theorem aAF:Ty.beq aV o1 o0=false:=by
 cases h:Ty.beq aV o1 o0 with
 |false=>rfl
 |true=>exact absurd ((u7 _ _).1 h) bbN
theorem aXv:Ty.beq aV o0 o0=true:=(u7 _ _).2 rfl
theorem aZU:Ty.beq aV o1 o1=true:=(u7 _ _).2 rfl
theorem baJ(x:iY):bZ aV o0 (zI x)=some x:=by unfold zI;rw[fB,if_neg (by rw[aXw];decide),fB,if_pos aXv]
theorem bcz(x:iY):bZ aV o1 (zI x)=some s9:=by unfold zI;rw[fB,if_pos aZU]
theorem bew(x y:iY):eJ aV o0 y (zI x)=zI y:=by unfold zI;rw[sj,if_neg (by rw[aXw];decide),sj,if_pos aXv]
theorem bex(x:iY):eJ aV o1 s9 (zI x)=zI x:=by unfold zI;rw[sj,if_pos aZU]
theorem aYf:GQ o1 o0=1:=by rw[tJ (a:=o1) (b:=o0) asZ asZ];decide+kernel
theorem aZL(x:iY):Dc (zI x)=[o0,o1]:=by
 have hq:∀y∈([o1,o0]:List bw),Ju y:=λy hy=>by
  rcases cj.1 hy with rfl | hy
  ·exact asZ
  ·rw[bn.1 hy];exact asZ
 refine(Fy Ae hq (λx hx y hy a b=>Af (hq x hx) (hq y hy) a b) ⟨List.Perm.swap o1 o0 [],?_⟩).symm;refine List.pairwise_cons.2 ⟨λy hy=> ?_,List.pairwise_singleton _ _⟩;rw[bn.1 hy,aYf];decide
theorem aXX{x:iY}(h:asR x):WG (zI x):=⟨by show 2<=_;decide,cY.2 ⟨λh=>bbN (bn.1 h),cY.2 ⟨λh=>(by cases h),gm⟩⟩,λp hp=>by
 rcases cj.1 hp with rfl | hp
 ·exact⟨asZ,ad4⟩
 ·rw[bn.1 hp];exact⟨asZ,h⟩⟩
theorem apv{H:Int}{l:List dz}{o:bw}(h:De o l 0=none):l7 H l o s9=(s9,[]):=by
 have hr:qF o l=(eH.zero,0,false):=by unfold qF;rw[h]
 have e1:∀id,GS o s9 0 false id=(s9,[]):=λid=>if_neg (show ¬agM s9 0 false id=true from λh=>(by cases h))
 have e2:∀id,P6 o eH.zero 0 false id s9=(s9,[]):=λid=>if_neg (λh=>(by cases h))
 have e3:aez o eH.zero 0 false H s9=(s9,[]):=if_neg (λh=>(by cases h));unfold l7;rw[if_neg (show ¬s9.2.2.2.2.1=true from λh=>(by cases h)),hr];simp only[e1,e2,e3,bj]
theorem aKI{nb:Nat}{bs:List dz}(x:iY)(h1:De o1 (bs.take nb) 0=none):yU nb bs (zI x)=(zI (l7 nb (bs.take nb) o0 x).1,(l7 nb (bs.take nb) o0 x).2):=by
 have g0:nA o0 (zI x)=x:=by unfold nA;rw[baJ];rfl
 have e0:lookW nb (bs.take nb) (zI x,[]) o0=(zI (l7 nb (bs.take nb) o0 x).1,(l7 nb (bs.take nb) o0 x).2):=by
  unfold lookW;rw[show(zI x,([]:List GY)).1=zI x from rfl,g0,bew];split
  ·rename_i hf;rw[show l7 nb (bs.take nb) o0 x=(x,[]) from if_pos hf]
  ·rfl
 unfold yU;rw[aZL,bo,bo,cK,e0];generalize l7 nb (bs.take nb) o0 x=r;have g1:nA o1 (zI r.1)=s9:=by unfold nA;rw[bcz];rfl
 unfold lookW;rw[show(zI r.1,r.2).1=zI r.1 from rfl,g1,if_neg (show ¬s9.2.2.2.2.1=true from λh=>(by cases h)),apv h1,bex];show(zI r.1,r.2++ [])=_;rw[bj]
theorem aXd:ad9 []:=⟨aL _,λt ht=>(by cases ht)⟩
theorem aZI{K:Int}(hk:KW K):ad9 [UW K]:=⟨by show 1<=_;decide,λt ht=>by
 rw[bn.1 ht];exact⟨(zV hk).2.1,gz (jt (zV hk).1).1.2.1 (by decide)⟩⟩
section
variable {A0:At} {b nb n:Nat} {a:At} {s:List bW} {bs:List dz}
theorem aon(h:uO A0 b nb n a s bs)(hb:b<=400)(hn:nb<=900)(h1:De o1 (bs.take nb) 0=none){x:iY}(hx:asR x):
  eh (Oo 7 [] 0,nb,n,a,s,bs,zI x)=some (.inl ((l7 nb (bs.take nb) o0 x).2,nb,n,a,s,bs,zI (l7 nb (bs.take nb) o0 x).1)):=by
 have e7:tr (Oo 7 [] 0)=7:=by unfold tr Oo;decide
 rw[MY (d:=(Oo 7 [] 0,nb,n,a,s,bs,zI x)) ⟨⟨A0,b,h,hb⟩,hn,aXd,aXX hx⟩];simp only[Ap,e7,aSH,aKI x h1];rfl
theorem aVd(h:uO A0 b nb n a s bs){l:List dM}(hl:ad9 l)(hb:b+l.length<=400)(hn:nb<=900){m:Wm}(hm:WG m){r:Int×Nat×Nat×At×List bW×List dz}(hr:lM (zK ((nb:Int)+1) (q9 nb bs) l 0) nb (n,a,s) bs=r):
  eh (Oo 0 l 0,nb,n,a,s,bs,m)=some (.inl ([],r.2.1,r.2.2.1,r.2.2.2.1,r.2.2.2.2.1,r.2.2.2.2.2,m)):=by
 have e7:tr (Oo 0 l 0)=0:=by show cD .and .i64 0 7=0;decide
 have eb:nth dU (El (Oo 0 l 0) nb bs) 0=zK ((nb:Int)+1) (q9 nb bs) l 0:=by unfold El;rw[if_pos (by rw[e7];decide)];rfl
 rw[MY (d:=(Oo 0 l 0,nb,n,a,s,bs,m)) ⟨⟨A0,b,h,hb⟩,hn,hl,hm⟩];simp only[Ap,e7,eb,hr];rfl
theorem aUy(h:uO A0 b nb n a s bs){c:dz}(hc:WS c)(hn:nb<=1000){nb' n':Nat}{a':At}{s':List bW}{bs':List dz}(e:lM c nb (n,a,s) bs=(0,nb',n',a',s',bs')){m':Nat}(hm:b+c.2.2.1.length<=m'):uO A0 m' nb' n' a' s' bs':=by
 rcases h.add hc hm hn with⟨e',he,e2⟩ | ⟨n2,a2,s2,e2,h2,_,_⟩
 ·rw[e]at e2;exact absurd (bl (λz=>z.1) e2).symm he
 ·rw[e]at e2;simp only[cv]at e2;obtain⟨_,rfl,rfl,rfl,rfl,rfl⟩:=e2;exact h2
end
def nT:dz:=zK 1 ad3 [] 0
def Eb(K:Int)(P1:Bs):dz:=zK 2 P1 [UW K] 0
def Cx(P1:Bs):dz:=zK 2 P1 [] 0
def GZ(K:Int)(P2:Bs):dz:=zK 3 P2 [UW K] 0
theorem aGS{K:Int}(hk:KW K)(P1:Bs):zX 1 2 1 (BW K 2) [sW K] [nT,Eb K P1]=(1,0,AW K 0 0,[sW K],[nT,Eb K P1]):=by have ec:iH (BW K 2)=BW K 2:=aYd;have eu:=bez hk 0 0 2;have e:wS [nT,Eb K P1] 1 (2,1,BW K 2,[sW K])=(1,0,xq (BW K 2) (sW K),[sW K]):=rfl;unfold zX;rw[ec];show((wS [nT,Eb K P1] 1 (2,1,BW K 2,[sW K])).1,(wS [nT,Eb K P1] 1 (2,1,BW K 2,[sW K])).2.1,(wS [nT,Eb K P1] 1 (2,1,BW K 2,[sW K])).2.2.1,(wS [nT,Eb K P1] 1 (2,1,BW K 2,[sW K])).2.2.2,[nT,Eb K P1])=_;rw[e];show(1,0,xq (BW K 2) (stepOf (UW K) (AW K 0 0)),[sW K],[nT,Eb K P1])=_;rw[eu]
theorem bbZ{K:Int}(hk:KW K)(gg:¬nP (TW K)=ad3){P1 P2:Bs}(hP:atv nT=P1)(hQ:atv (Cx P1)=P2)(h:uO (AW K 0 0) 1 2 1 (BW K 2) [sW K] [nT,Eb K P1]):
  kK (1,[Cx P1,GZ K P2],2,1,BW K 2,[sW K],[nT,Eb K P1])=some (.inr (0,3,1,BW K 2,[sW K],[nT,Eb K P1],1,BW K 3,[sW K],[nT,Cx P1,GZ K P2]))/\uO (AW K 0 0) 2 3 1 (BW K 3) [sW K] [nT,Cx P1,GZ K P2]:=by
 have l1:P1.length=32:=by rw[<-hP];exact Bz _
 have l2:P2.length=32:=by rw[<-hQ];exact Bz _
 have v2:WS (Cx P1):=baH (by decide) l1 aOO;have v3:WS (GZ K P2):=bdf hk (by decide) l2 aOO;have e1:lM (Cx P1) 1 (0,AW K 0 0,[sW K]) [nT,Eb K P1]=(0,2,0,AW K 0 0,[sW K],[nT,Cx P1]):=aO1 (h:=2) (p:=P1) (fill:=0) (nb:=1) (S:=(0,AW K 0 0,[sW K])) (bs:=[nT,Eb K P1]) hP.symm rfl (by decide) l1 aOO;have e2:lM (GZ K P2) 2 (0,AW K 0 0,[sW K]) [nT,Cx P1]=(0,3,1,BW K 3,[sW K],[nT,Cx P1,GZ K P2]):=bcw hk gg (h:=3) (p:=P2) (nb:=2) (n:=0) (s:=[sW K]) (bs:=[nT,Cx P1]) hQ.symm rfl (by decide) l2;have hl:∀b∈ [Cx P1,GZ K P2],WS b:=λb hb=>by
  rcases cj.1 hb with rfl | hb
  ·exact v2
  ·rw[bn.1 hb];exact v3
 have hF:jb (1,[Cx P1,GZ K P2],2,1,BW K 2,[sW K],[nT,Eb K P1])= .inr (0,3,1,BW K 2,[sW K],[nT,Eb K P1],1,BW K 3,[sW K],[nT,Cx P1,GZ K P2]):=by
  have ek:iQ [Cx P1,GZ K P2] (1,0,AW K 0 0,[sW K],[nT,Eb K P1])=(0,3,1,BW K 3,[sW K],[nT,Cx P1,GZ K P2]):=by rw[iQ];show(if(lM (Cx P1) 1 (0,AW K 0 0,[sW K]) [nT,Eb K P1]).1≠0 then lM (Cx P1) 1 (0,AW K 0 0,[sW K]) [nT,Eb K P1] else iQ [GZ K P2] (lM (Cx P1) 1 (0,AW K 0 0,[sW K]) [nT,Eb K P1]).2)=_;rw[e1,if_neg (λh=>h rfl),iQ];show(if(lM (GZ K P2) 2 (0,AW K 0 0,[sW K]) [nT,Cx P1]).1≠0 then lM (GZ K P2) 2 (0,AW K 0 0,[sW K]) [nT,Cx P1] else iQ [] (lM (GZ K P2) 2 (0,AW K 0 0,[sW K]) [nT,Cx P1]).2)=_;rw[e2,if_neg (λh=>h rfl)];rfl
  simp only[jb];rw[if_pos ⟨by decide,by decide,by show(1:Int) < ((2:Nat):Int);decide⟩,if_pos (by decide),aGS hk P1,ek,if_neg (λh=>h rfl)]
 have key:kK (1,[Cx P1,GZ K P2],2,1,BW K 2,[sW K],[nT,Eb K P1])=some (.inr (0,3,1,BW K 2,[sW K],[nT,Eb K P1],1,BW K 3,[sW K],[nT,Cx P1,GZ K P2])):=by
  have aj3:wV (1,[Cx P1,GZ K P2],2,1,BW K 2,[sW K],[nT,Eb K P1]):=⟨h.ch,h.bcb (by decide),by show 2<=_;decide,λ_=>by
   rw[aGS hk P1];have sg:=bes hk;refine⟨⟨v2,sg,oo 1,by decide,h.ch.2.2⟩,λ_=> ?_⟩;show X6 [GZ K P2] (lM (Cx P1) 1 (0,AW K 0 0,[sW K]) [nT,Eb K P1]).2;rw[e1];refine⟨⟨v3,sg,baE (h.ch.2.2 nT (by simp)) v2.1⟩,λ_=>trivial⟩⟩
  rw[UG (d:=(1,[Cx P1,GZ K P2],2,1,BW K 2,[sW K],[nT,Eb K P1])) aj3,hF];rfl
 refine⟨key,?_⟩;rcases h.aUm 1 hl (by show 2<=400;decide) (by show 4<=1000;decide) with⟨e,_,h1⟩ | ⟨n',a',s',bs',h1,_,h2,_⟩
 ·rw[key]at h1;cases h1
 ·rw[key]at h1;simp only[ay,Sum.inr.injEq,cv]at h1;obtain⟨_,_,_,_,_,_,rfl,rfl,rfl,rfl⟩:=h1;exact h2
def XE(l:List dz):Nat->List dz
 | 0=>l
 |j+1=>XE l j++ [zK (((j+3:Nat):Int)+1) (q9 (j+3) (XE l j)) [] 0]
theorem XF(l:List dz)(hl:l.length=3):∀j,(XE l j).length=j+3
 | 0=>by show l.length=0+3;omega
 |j+1=>by show(XE l j++ [_]).length=_;rw[ai,XF l hl j];show j+3+1=_;omega
theorem auH{o:bw}(l:List dz):∀j,De o (XE l j) 0=De o l 0
 | 0=>rfl
 |j+1=>by
  show De o (XE l j++ [_]) 0=_;rw[az5,auH l j]
  all_goals cases De o l 0 <;> rfl
theorem baI{A0:At}{b n:Nat}{a:At}{s:List bW}{l:List dz}(hl:l.length=3)(h:uO A0 b 3 n a s l):∀j,j<=100->uO A0 b (j+3) n a s (XE l j)
 | 0,_=>by rw[aJ];exact h
 |j+1,hj=>by have ih:=baI hl h j (by omega);have et:(XE l j).take (j+3)=XE l j:=aW (by rw[XF l hl];exact aw _);have e:=aO1 (h:=((j+3:Nat):Int)+1) (p:=q9 (j+3) (XE l j)) (fill:=0) (nb:=j+3) (S:=(n,a,s)) (bs:=XE l j) rfl rfl (by omega) (A6 _ _) aOO;rw[et]at e;have:=aUy ih (baH (h:=((j+3:Nat):Int)+1) (p:=q9 (j+3) (XE l j)) (fill:=0) (by omega) (A6 _ _) aOO) (by omega) e (aw _);rw[show j+3+1=j+1+3 by omega]at this;exact this
theorem bdr{A0:At}{b n:Nat}{a:At}{s:List bW}{l:List dz}(hl:l.length=3)(h:uO A0 b 3 n a s l)(hb:b<=400){m:Wm}(hm:WG m)(j:Nat)(hj:j<=100):
  eh (Oo 0 [] 0,j+3,n,a,s,XE l j,m)=some (.inl ([],j+1+3,n,a,s,XE l (j+1),m)):=by
 have ih:=baI hl h j hj;have et:(XE l j).take (j+3)=XE l j:=aW (by rw[XF l hl];exact aw _);have e:=aO1 (h:=((j+3:Nat):Int)+1) (p:=q9 (j+3) (XE l j)) (fill:=0) (nb:=j+3) (S:=(n,a,s)) (bs:=XE l j) rfl rfl (by omega) (A6 _ _) aOO;rw[et]at e;rw[aVd ih aXd hb (by omega) hm e,show j+3+1=j+1+3 by omega];rfl
theorem aZB{K:Int}(hk:KW K):T3 o0 [UW K]=some (UW K):=by rw[T3,bao hk,if_pos];show(Ty.beq aV o0 o0 || _)=true;rw[aXv];rfl
theorem aZC{K:Int}(hk:KW K):T3 o1 [UW K]=none:=by
 rw[T3,bao hk,if_neg]
 ·rfl
 ·intro h;have h:(asS o1 o0 || false)=true:=h;rw[qH]at h;exact bbN ((u7 _ _).1 h)
def G0(K:Int)(h:Int)(f:Bool):iY:=(true,(UW K,(nP (TW K),(h,(f,())))))
theorem acO{K:Int}(hk:KW K)(h:Int)(f:Bool):asR (G0 K h f):=⟨(zV hk).2.1,λ_=>(zV hk).1⟩
theorem aKJ{K:Int}(hk:KW K){l:List dz}{h H:Int}(hs:De o0 l 0=some (UW K,h)):
  (H - h<=6->l7 H l o0 s9=(G0 K h false,[(1,(o0,(UW K,(h,()))))]))/\
  (∀h',h'≠h->H - h<=6->l7 H l o0 (G0 K h' false)=(G0 K h false,[(2,(o0,(UW K,(h',())))),(1,(o0,(UW K,(h,()))))]))/\
  (6 < H - h->l7 H l o0 (G0 K h false)=(G0 K h true,[(3,(o0,(UW K,(h,()))))])):=by
 have hr:qF o0 l=(UW K,h,true):=by unfold qF;rw[hs]
 have cR:=(zV hk).2.2.1;have e2:P6 o0 (UW K) h true (nP (TW K)) s9=(G0 K h false,[(1,(o0,(UW K,(h,()))))]):=if_pos rfl;have e3:∀x:iY,H - h<=6->aez o0 (UW K) h true H x=(x,[]):=λx hx=>if_neg (by rw[bN,cE (by omega)];decide)
 refine⟨λhH=> ?_,λh' gg hH=> ?_,λhH=> ?_⟩
 ·have e1:GS o0 s9 h true (nP (TW K))=(s9,[]):=if_neg (show ¬agM s9 h true _=true from λh=>(by cases h));unfold l7;rw[if_neg (show ¬s9.2.2.2.2.1=true from λh=>(by cases h)),hr];simp only[cR,e1,e2,e3 _ hH,bj,aR]
 ·have e1:GS o0 (G0 K h' false) h true (nP (TW K))=(s9,[(2,(o0,(UW K,(h',()))))]):=if_pos (by
   unfold agM;rw[show BQ h (G0 K h' false).2.2.2.1=true from fa (λe:h=h'=>gg e.symm)];rfl)
  unfold l7;rw[if_neg (show ¬(G0 K h' false).2.2.2.2.1=true from λh=>(by cases h)),hr];simp only[cR,e1,e2,e3 _ hH,bj,iD,aR]
 ·have e1:GS o0 (G0 K h false) h true (nP (TW K))=(G0 K h false,[]):=if_neg (by
   unfold agM;rw[show BQ h (G0 K h false).2.2.2.1=false from dx rfl,show Ty.beq tH (nP (TW K)) (G0 K h false).2.2.1=true by rw[aYj];exact gq rfl];show ¬(false=true);decide)
  have e2:P6 o0 (UW K) h true (nP (TW K)) (G0 K h false)=(G0 K h false,[]):=if_neg (λh=>(by cases h));have e3:aez o0 (UW K) h true H (G0 K h false)=(G0 K h true,[(3,(o0,(UW K,(h,()))))]):=if_pos (by rw[bN];exact df (by omega));unfold l7;rw[if_neg (show ¬(G0 K h false).2.2.2.2.1=true from λh=>(by cases h)),hr];simp only[cR,e1,e2,e3,aR]
theorem aSJ{x:iY}(hx:asR x)(h1:x.1=true):D8.call (o0,zI x)=some (zI x,(x.2.1,(x.2.2.2.1,true))):=by
 have g0:nA o0 (zI x)=x:=by unfold nA;rw[baJ];rfl
 rw[Uk (d:=(o0,zI x)) (by show qt (nA o0 (zI x)).2.1;rw[g0];exact hx.1)];simp only[Uj,R2,g0,h1,bG,Tx hx.1 (hx.2 h1)]
theorem ZD(o:bw)(m:Wm):xK.call (o,m)=some (m,(nA o m).2.2.2.2.1):=axL (d:=(o,m)) trivial
theorem aw3:js.Ok:=by
 rintro⟨⟩ _;obtain⟨K,hK,hk,gg⟩:∃K:Int,(7:Int)=K/\KW K/\¬nP (TW K)=ad3:=⟨7,rfl,⟨by decide,by decide⟩,bek⟩;obtain⟨P1,hP⟩:∃x,atv nT=x:=⟨_,rfl⟩;obtain⟨P2,hQ⟩:∃x,atv (Cx P1)=x:=⟨_,rfl⟩;have l1:P1.length=32:=by rw[<-hP];exact Bz _
 have l2:P2.length=32:=by rw[<-hQ];exact Bz _
 have c1:Gf.call 7=some (fQ K):=by rw[hK];exact DI (d:=K) ⟨by have:=hk.1;omega,by have:=hk.2;omega⟩
 have c2:apr.call (fQ K)=some (LW K 0 0):=aKC (d:=fQ K) trivial;have c3:=bbM K aTO aTO;have c4:afO.call ()=some []:=asK (d:=()) trivial;have c5:uX.call (TW K,0,0,[7],0)=some (UW K,0):=by rw[hK];exact aZz hk
 have c6:D9.call (o1,[])=some [(o1,s9)]:=Kc (d:=(o1,[])) trivial;have c7:D9.call (o0,[(o1,s9)])=some (zI s9):=by
  rw[Kc (d:=(o0,[(o1,s9)])) trivial];have e1:bZ aV o0 [(o1,s9)]=none:=by rw[fB,if_neg (by rw[aXw];decide),sN]
  have e2:eJ aV o0 s9 [(o1,s9)]=zI s9:=by rw[sj,if_neg (by rw[aXw];decide)];rfl
  simp only[bm,X5,e1,e2];rfl
 have i0:uO (AW K 0 0) 0 0 0 (AW K 0 0) [] []:=uO.new (bcx K aTO aTO);have a1:lM (zK (((0:Nat):Int)+1) (q9 0 []) [] 0) 0 (0,AW K 0 0,[]) []=(0,1,0,AW K 0 0,[],[nT]):=aO1 (h:=1) (p:=ad3) (fill:=0) (nb:=0) (S:=(0,AW K 0 0,[])) (bs:=[]) rfl rfl (by decide) b8 aOO;have i1:=aUy i0 (baH (h:=1) (p:=ad3) (fill:=0) (by decide) b8 aOO) (by decide) a1 (aw 0);have a2:lM (zK (((1:Nat):Int)+1) (q9 1 [nT]) [UW K] 0) 1 (0,AW K 0 0,[]) [nT]=(0,2,1,BW K 2,[sW K],[nT,Eb K P1]):=by have:=bcw hk gg (h:=2) (p:=P1) (nb:=1) (n:=0) (s:=[]) (bs:=[nT]) hP.symm rfl (by decide) l1;rw[show q9 1 [nT]=P1 from hP];exact this
 have i2:=aUy i1 (c:=zK (((1:Nat):Int)+1) (q9 1 [nT]) [UW K] 0) (bdf hk (by decide) (A6 _ _) aOO) (by decide) a2 (show 0+1<=1 by decide);obtain⟨r3,i3⟩:=bbZ hk gg hP hQ i2;have l3:([nT,Cx P1,GZ K P2]:List dz).length=3:=rfl;have ben:De o0 [nT,Eb K P1] 0=some (UW K,2):=by rw[De,show T3 o0 nT.2.2.1=none from rfl,De,show T3 o0 (Eb K P1).2.2.1=some (UW K) from aZB hk];rfl
 have bep:De o1 [nT,Eb K P1] 0=none:=by rw[De,show T3 o1 nT.2.2.1=none from rfl,De,show T3 o1 (Eb K P1).2.2.1=none from aZC hk];rfl
 have bc8:De o0 [nT,Cx P1,GZ K P2] 0=some (UW K,3):=by rw[De,show T3 o0 nT.2.2.1=none from rfl,De,show T3 o0 (Cx P1).2.2.1=none from rfl,De,show T3 o0 (GZ K P2).2.2.1=some (UW K) from aZB hk];rfl
 have bc9:De o1 [nT,Cx P1,GZ K P2] 0=none:=by rw[De,show T3 o1 nT.2.2.1=none from rfl,De,show T3 o1 (Cx P1).2.2.1=none from rfl,De,show T3 o1 (GZ K P2).2.2.1=none from aZC hk];rfl
 have d9:=aon i0 (by decide) (by decide) rfl ad4;rw[show l7 ((0:Nat):Int) (([]:List dz).take 0) o0 s9=(s9,[]) from apv rfl]at d9;have d10:=aVd i0 aXd (by decide) (by decide) (aXX ad4) a1;have d11:=aVd i1 (aZI hk) (show 0+1<=400 by decide) (by decide) (aXX ad4) a2;have d12:=aon i2 (by decide) (by decide) bep ad4;rw[(aKJ hk (H:=((2:Nat):Int)) (l:=[nT,Eb K P1].take 2) ben).1 (by decide)]at d12;have d13:=aSJ (acO hk 2 false) rfl;have d14:eh (Oo 3 [UW K] 1,2,1,BW K 2,[sW K],[nT,Eb K P1],zI (G0 K 2 false))=some (.inr ([],3,1,BW K 2,[sW K],[nT,Eb K P1],zI (G0 K 2 false),1,BW K 3,[sW K],[nT,Cx P1,GZ K P2])):=by
  have e7:tr (Oo 3 [UW K] 1)=3:=by show cD .and .i64 3 7=3;decide
  have eb:El (Oo 3 [UW K] 1) 2 [nT,Eb K P1]=[Cx P1,GZ K P2]:=by unfold El;rw[if_neg (by rw[e7];decide),if_pos ⟨by show(1:Int)<=1;decide,by show(1:Int)<=((2:Nat):Int);decide,by show(1:Int)<=8;decide⟩];show [zK 2 (q9 1 [nT,Eb K P1]) [] 0,zK 3 (atv (zK 2 (q9 1 [nT,Eb K P1]) [] 0)) [UW K] 0]=_;rw[show q9 1 [nT,Eb K P1]=P1 from hP,show atv (zK 2 P1 [] 0)=P2 from hQ];rfl
  have er:aq8 1 [Cx P1,GZ K P2] 2 1 (BW K 2) [sW K] [nT,Eb K P1]= .inr (0,3,1,BW K 2,[sW K],[nT,Eb K P1],1,BW K 3,[sW K],[nT,Cx P1,GZ K P2]):=by unfold aq8;rw[r3];rfl
  rw[MY (d:=(Oo 3 [UW K] 1,2,1,BW K 2,[sW K],[nT,Eb K P1],zI (G0 K 2 false))) ⟨⟨AW K 0 0,1,i2,by show 1+1<=400;decide⟩,by show 2<=900;decide,aZI hk,aXX (acO hk 2 false)⟩];simp only[Ap,e7,eb];rw[show(Oo 3 [UW K] 1).2.2.1=1 from rfl,er];rfl
 have d15:=aon i3 (by decide) (by decide) bc9 (acO hk 2 false);rw[(aKJ hk (H:=((3:Nat):Int)) (l:=[nT,Cx P1,GZ K P2].take 3) bc8).2.1 2 (by decide) (by decide)]at d15;have dg:=λj hj=>bdr l3 i3 (by decide) (aXX (acO hk 3 false)) j hj
 have i10:=baI l3 i3 7 (by decide);have e10:(XE [nT,Cx P1,GZ K P2] 7).take 10=XE [nT,Cx P1,GZ K P2] 7:=aW (by rw[XF _ l3];decide);have beo:De o0 ((XE [nT,Cx P1,GZ K P2] 7).take 10) 0=some (UW K,3):=by rw[e10,auH];exact bc8
 have bda:De o1 ((XE [nT,Cx P1,GZ K P2] 7).take 10) 0=none:=by rw[e10,auH];exact bc9
 have d23:=aon i10 (by decide) (by decide) bda (acO hk 3 false);rw[(aKJ hk (H:=((7+3:Nat):Int)) (l:=(XE [nT,Cx P1,GZ K P2] 7).take (7+3)) beo).2.2 (by decide)]at d23;have d24:=aon i10 (by decide) (by decide) bda (acO hk 3 true);rw[show l7 ((7+3:Nat):Int) ((XE [nT,Cx P1,GZ K P2] 7).take (7+3)) o0 (G0 K 3 true)=(G0 K 3 true,[]) from if_pos rfl]at d24;have dsame:L0.call (UW K,UW K)=some true:=(aFN (d:=(UW K,UW K)) (aM9 (zV hk).1)).trans (bl some (gq rfl));have f0:xK.call (o0,zI (G0 K 3 true))=some (zI (G0 K 3 true),true):=by rw[ZD];unfold nA;rw[baJ];rfl
 have f1:xK.call (o1,zI (G0 K 3 true))=some (zI (G0 K 3 true),false):=by rw[ZD];unfold nA;rw[bcz];rfl
 have w1:wall.call (zI (G0 K 3 true))=some (2,zI (G0 K 3 true),[o0,o1]):=by rw[RH (d:=zI (G0 K 3 true)) ⟨by show 2<=_;decide,λp hp=>((aXX (acO hk 3 true)).2.2 p hp).1⟩];simp only[bm,amb,aZL];rfl
 have w2:Me.call (o0,zI (G0 K 3 true))=some [(o1,s9)]:=by
  rw[Uf (d:=(o0,zI (G0 K 3 true))) trivial];have:fR aV o0 (zI (G0 K 3 true))=[(o1,s9)]:=by unfold zI;rw[vg,if_neg (by rw[aXw];decide),vg,if_pos aXv]
  simp only[bm,amh,this]
 have w3:∃y,D8.call (o0,[(o1,s9)])=some ([(o1,s9)],y)/\y.2.2=false:=by
  have e1:bZ aV o0 [(o1,s9)]=none:=by rw[fB,if_neg (by rw[aXw];decide),sN]
  have g0:nA o0 [(o1,s9)]=s9:=by unfold nA;rw[e1];rfl
  refine⟨_,Uk (d:=(o0,[(o1,s9)])) (by show qt (nA o0 [(o1,s9)]).2.1;rw[g0];exact v0),?_⟩;simp only[R2,g0];rfl
 obtain⟨y3,w3,y3f⟩:=w3;have w4:∃l,wall.call [(o1,s9)]=some (1,[(o1,s9)],l):=⟨_,RH (d:=[(o1,s9)]) ⟨by show 1<=_;decide,λp hp=>by rw[bn.1 hp];exact asZ⟩⟩;obtain⟨l4,w4⟩:=w4;rw[aw2];refine(bl (λz=>ak z _) c1).trans ?_
 rw[ah];refine(bl (λz=>ak z _) c2).trans ?_
 rw[ah];refine(bl (λz=>ak z _) c3).trans ?_
 rw[ah];simp only[ee,al,dv,ah];refine(bl (λz=>ak z _) (c4)).trans ?_
 rw[ah];refine(bl (λz=>ak z _) (c5)).trans ?_
 rw[ah];refine(bl (λz=>ak z _) (c6)).trans ?_
 rw[ah];refine(bl (λz=>ak z _) (c7)).trans ?_
 rw[ah];refine(bl (λz=>ak (jv cP z) _) (d9)).trans ?_
 rw[oc,ah];refine(bl (λz=>ak (jv cP z) _) (d10)).trans ?_
 rw[oc,ah];refine(bl (λz=>ak (jv cP z) _) (d11)).trans ?_
 rw[oc,ah];refine(bl (λz=>ak (jv cP z) _) (d12)).trans ?_
 rw[oc,ah];refine(bl (λz=>ak z _) (d13)).trans ?_
 rw[ah];refine(bl (λz=>ak (jv Sum.getRight? z) _) (d14)).trans ?_
 rw[aQM,ah];refine(bl (λz=>ak (jv cP z) _) (d15)).trans ?_
 rw[oc,ah];refine(bl (λz=>ak (jv cP z) _) (dg 0 (by decide))).trans ?_
 rw[oc,ah];refine(bl (λz=>ak (jv cP z) _) (dg 1 (by decide))).trans ?_
 rw[oc,ah];refine(bl (λz=>ak (jv cP z) _) (dg 2 (by decide))).trans ?_
 rw[oc,ah];refine(bl (λz=>ak (jv cP z) _) (dg 3 (by decide))).trans ?_
 rw[oc,ah];refine(bl (λz=>ak (jv cP z) _) (dg 4 (by decide))).trans ?_
 rw[oc,ah];refine(bl (λz=>ak (jv cP z) _) (dg 5 (by decide))).trans ?_
 rw[oc,ah];refine(bl (λz=>ak (jv cP z) _) (dg 6 (by decide))).trans ?_
 rw[oc,ah];refine(bl (λz=>ak (jv cP z) _) (d23)).trans ?_
 rw[oc,ah];refine(bl (λz=>ak (jv cP z) _) (d24)).trans ?_
 rw[oc,ah];have st:∀ {α:Type} {c:Bool} {x y z:Option α},c=true->x=z->aG c x y=z:=λh1 h2=>by rw[h1];exact h2
 have sf:∀ {α:Type} {c:Bool} {x y z:Option α},c=false->y=z->aG c x y=z:=λh1 h2=>by rw[h1];exact h2
 refine sf (dx rfl) (sf (dx rfl) (sf (dx rfl) (sf (dx rfl) (sf (dx rfl) ?_))));refine(bl (λz=>ak z _) (?_:_=some (([(2,(o0,(UW K,(2,())))),(1,(o0,(UW K,(3,()))))],[(3,(o0,(UW K,(3,()))))],true,o0,zI (G0 K 3 true)):pk))).trans ?_
 ·refine st rfl (st (dj rfl) (st rfl (st (dj rfl) (st rfl (st aXv (st rfl ?_))))));refine(bl (λz=>ak z _) dsame).trans ?_
  rw[ah];refine st rfl (st rfl ?_);exact(Kp _).trans rfl
 rw[ah];refine(bl (λz=>ak z _) (?_:_=some ((true,true,o0,zI (G0 K 3 true)):pn))).trans ?_
 ·refine st rfl (st (dj rfl) (st rfl (st (dj rfl) (st rfl (st (dj rfl) (st rfl (st (dj rfl) (st rfl (st (dj rfl) (st rfl (st (dj rfl) ?_)))))))))));refine(bl (λz=>ak z _) f0).trans ?_
  rw[ah];refine st rfl ?_
  refine(bl (λz=>ak z _) f1).trans ?_
  rw[ah];exact(Kq _).trans rfl
 rw[ah];refine(bl (λz=>ak z _) (w1)).trans ?_
 rw[ah];refine(bl (λz=>ak z _) (w2)).trans ?_
 rw[ah];refine(bl (λz=>ak z _) (w3)).trans ?_
 rw[ah];refine st rfl (st rfl (st (dj rfl) (st rfl (st rfl (st aXv (st (by show(!y3.2.2)=true;rw[y3f];rfl) ?_))))));refine(bl (λz=>ak z _) (w4)).trans ?_
 rw[ah];exact bl (λz=>some (js.out z)) (dj rfl)
theorem arV:js.RS:=rE [] js
def aw4:=js.eN aw3 1 ⟨.none (by kernel_rfl),trivial⟩
end
section
def aXb(l:List X7):At:=l.map λe=>(e.1,e.2.1)
def aXy(a b:bw):Bool:=decide (lx a.1 b.1 < 0\/lx a.1 b.1=0/\a.2.1 < b.2.1)
theorem aNH(l:List X7):eA (aXb l)=l.map (·.1):=by unfold aXb eA;rw[List.map_map];rfl
def bdl(l:List X7):Prop:=l.Pairwise λx y=>¬GQ y.1 x.1 < 0
theorem aPy{a b:bw}(ha:Ju a)(hb:Ju b):aXy a b=decide (GQ a b < 0):=by
 unfold aXy;rw[tJ ha hb];unfold y6;rw[akv _ _ (ha.1.trans hb.1.symm)];unfold aZp;by_cases h:lx a.1 b.1=0
 ·rw[if_pos h];unfold anK;by_cases h2:a.2.1 < b.2.1
  ·rw[if_pos h2,aH (.inr ⟨h,h2⟩),aH (by decide)]
  ·rw[if_neg h2,aS (by omega)];split
   ·rw[aS (by decide)]
   ·rw[aS (by decide)]
 ·rw[if_neg h];by_cases h2:lx a.1 b.1 < 0
  ·rw[aH (.inl h2),aH h2]
  ·rw[aS (by omega),aS h2]
structure Rl(a:At)(l:List X7):Prop where
 CB:amt a
 beu:bdl l
 nd:(eA (aXb l)).Nodup
 eqv:sq (aXb l) a
section
variable {a:At} {l:List X7}
theorem Rl.perm(h:Rl a l):(aXb l).Perm a:=h.eqv.perm h.nd h.CB.1
theorem Rl.bdo(h:Rl a l):amt (aXb l):=h.CB.perm h.perm.symm
theorem Rl.q(h:Rl a l):∀e∈l,Ju e.1:=λe he=>(h.bdo.2 (e.1,e.2.1) (c9.2 ⟨e,he,rfl⟩)).1
theorem Rl.len(h:Rl a l):l.length=a.length:=by have:=h.perm.length_eq;unfold aXb at this;rwa[bX]at this
theorem Rl.all(h:Rl a l):l.map (·.1)=bay a:=by
 have hq:∀x∈eA a,Ju x:=λx hx=>by obtain⟨p,hp,rfl⟩:=c9.1 hx;exact(h.CB.2 p hp).1
 refine Fy Ae hq (λx hx y hy a b=>Af (hq x hx) (hq y hy) a b) ⟨?_,?_⟩
 ·rw[<-aNH];exact h.perm.map _
 ·exact List.pairwise_map.2 h.beu
end
abbrev DZ:=bw×bw×Int
def vz:DZ->AS:=λ(FZ,gE,i)=>⟨([bA,bA,.dL aV FZ,.dL aV gE,bA,.d ti i]++aP 27 []),[],(ab 33 [])⟩
abbrev awj:=Bool
abbrev ab3:=Bool
def Ca:ab3->Exit×AS:=λx=>(.ret,⟨(aP 4 ([.d .bool x]++aP 28 [])),[],(ab 33 [])⟩)
abbrev awk:=Unit
abbrev ab4:=bw×bw
def Cb:ab4->Exit×AS:=λx=>(.exit 0,⟨([bA,bA,.dL aV x.1,.dL aV x.2]++aP 29 []),[],(ab 33 [])⟩)
abbrev Tv:=(ab3)⊕(ab4)
abbrev ahG:=(awj)⊕(awk)
def IE:Tv->Out (Exit×AS):=λx=> .br x.isLeft (.get x.getLeft? λa=> .ok (Ca a)) (.get x.getRight? λb=> .ok (Cb b))
def mE:DZ->ahG->Tv:=λ(FZ,gE,i) y=>match y with | .inl y=> .inl y | .inr z=> .inr ((FZ,gE))
abbrev aMh:=bw×bw
abbrev aWL:=Bool
def B9:DZ->Prop:=λ(a,b,i)=>a.1.length=32/\b.1.length=32/\∃k:Nat,k<=32/\i=k
def sR:DZ->ahG:=λ(a,b,i)=>if lx (a.1.drop i.toNat) (b.1.drop i.toNat)=0 then .inr () else .inl (decide (lx (a.1.drop i.toNat) (b.1.drop i.toNat) < 0))
def aMi:aMh->Prop:=λ(a,b)=>a.1.length=32/\b.1.length=32
def awi:aMh->aWL:=λ(a,b)=>aXy a b
def ahE:=dA.fm vz B9 mE sR IE
def QD:DZ->Option Tv:=gN ahE vz
def Xq:Fs Tryz.prog aMi bm awi:=eI 35 Tryz.f35 (λ(a,b)=>([.d aV a,.d aV b],[])) (λx=>⟨.d .bool x,[],[]⟩) [some aV,some aV] [] {loops:=nD [(2,{aU:=[2,3,5]})],outs:=nC [(2,{aU:=[2,3]},{aU:=[4]})],fu:=np [(2,ahE)]}
def ahF:= @eE Tryz.prog (kh Xq.G) Xq.an 0 Tryz.f35 0 _ vz
abbrev ab2:=lu Tryz.prog (kh Xq.G) Xq.an 0 Tryz.f35 0 vz B9 mE sR IE
theorem aq4:jd QD B9 mE sR:=na (jK [.d aV,.d aV,.d ti] λ_=>by kernel_rfl)
theorem Tw:oe @ahF vz B9 mE sR IE ab2:=oB
theorem Fj{R:Type}(FZ:bw)(gE:bw)(i:Int)(kn:AS->Option R)(kx:Exit->AS->Option R):ahF (FZ,gE,i) kn kx=aG ((fP i (32:Int))) (aG (ed i (32:Int)) (aG (ed i (32:Int)) (aG ((BQ (nth tb FZ.1 (ae i)) (nth tb gE.1 (ae i)))) (aG (ed i (32:Int)) (aG (ed i (32:Int)) (kx (Ca (fP (nth tb FZ.1 (ae i)) (nth tb gE.1 (ae i)))).1 (Ca (fP (nth tb FZ.1 (ae i)) (nth tb gE.1 (ae i)))).2) none) none) (kn (vz (FZ,gE,(bH .i64 i (1:Int)))))) none) none) (kx (Cb (FZ,gE)).1 (Cb (FZ,gE)).2):=by kernel_rfl
theorem aSf{R:Type}(a b)(k:K1 R):Xq.A (a,b) k=ak (QD (a,b,0)) λx1=>aG (x1.isLeft) (ak (x1.getLeft?) λa2=>k (Xq.out a2)) (ak (x1.getRight?) λb3=>k (Xq.out (fP b3.1.2.1 b3.2.2.1))):=by kernel_rfl
theorem awl:ab2:=by
 refine Tw (λ(_,_,i)=>(32 - i).toNat) ?_
 rintro⟨a,b,i⟩ ⟨ha,hb,k,hk,rfl⟩;have ha:a.1.length=32:=ha;have hb:b.1.length=32:=hb;by_cases gv:k < 32
 ·have n1:nth tb a.1 k=a.1[k]:=bV (t:=tb) (by omega);have n2:nth tb b.1 k=b.1[k]:=bV (t:=tb) (by omega);have hd:lx (a.1.drop k) (b.1.drop k)=if a.1[k]≠b.1[k] then(if a.1[k] < b.1[k] then -1 else 1) else lx (a.1.drop (k+1)) (b.1.drop (k+1)):=by rw[ao (show k < a.1.length by omega),ao (show k < b.1.length by omega),lx]
  by_cases h:a.1[k]=b.1[k]
  ·left;refine⟨(a,b,((k+1:Nat):Int)),⟨ha,hb,k+1,by omega,rfl⟩,by show(32 - ((k+1:Nat):Int)).toNat < (32 - (k:Int)).toNat;omega,?_,λkn kx=> ?_⟩
   ·rw[if_neg (λe=>e h)]at hd;simp only[mE,sR,aa,hd]
   ·rw[Fj,aT (by omega),aj,bf (by omega) (by omega),aj,aj,aa,n1,n2,dx h,al,N.mq (by omega)]
  ·right;rw[if_pos h]at hd;refine⟨Ca (decide (a.1[k] < b.1[k])),?_,λkn kx=> ?_⟩
   ·simp only[mE,sR,aa,hd];by_cases h2:a.1[k] < b.1[k]
    ·simp only[h2,bG];rfl
    ·simp only[h2,bp];rfl
   ·rw[Fj,aT (by omega),aj,bf (by omega) (by omega),aj,aj,aa,n1,n2,fa h,aj,aj,aj];by_cases h2:a.1[k] < b.1[k]
    ·rw[aT h2,aH h2]
    ·rw[aO h2,aS h2]
 ·right;obtain rfl:k=32:=by omega
  refine⟨Cb (a,b),?_,λkn kx=> ?_⟩
  ·have e:lx (a.1.drop 32) (b.1.drop 32)=0:=by rw[du (by omega),du (by omega)];rfl
   simp only[mE,sR,aa,e];rfl
  ·rw[Fj,aO (by omega),al]
theorem aSg:Xq.Ok:=by
 rintro⟨a,b⟩ ⟨ha,hb⟩;rw[aSf,aq4 (d:=(a,b,0)) ⟨ha,hb,0,by omega,rfl⟩];simp only[ah,mE,sR,aY,aF,bm,awi,aXy];by_cases h:lx a.1 b.1=0
 ·simp only[h,bG,ee,al,dv,ah];by_cases h2:a.2.1 < b.2.1
  ·rw[aT h2,aH (.inr ⟨by trivial,h2⟩)]
  ·rw[aO h2,aS (by rintro(h3 | h3);exact absurd h3 (by decide);exact h2 h3.2)]
 ·simp only[h,bp,ot,aj,lV,ah];by_cases h2:lx a.1 b.1 < 0
  ·rw[aH h2,aH (.inl h2)]
  ·rw[aS h2,aS (by rintro(h3 | h3);exact h2 h3;exact h3.1)]
theorem aMj:Xq.RS:=rE [.d aV,.d aV] Xq
def aSh:=Xq.eN aSg 1 ⟨.fm awl,trivial⟩
end
abbrev FL:=(List bw)×(List bw)×Bool×Int×(List (bw×iY))
abbrev RJ:=(List (bw×iY))
abbrev amd:=((List bw)×(List bw)×Bool)×((List (bw×iY)))
def uC:FL->RJ->amd:=λ(vR,EM,head,i,n20) y=>((vR,EM,head),y)
abbrev FM:=(List bw)×(List bw)×Bool×Int×(List (bw×iY))
abbrev RK:=(List (bw×iY))
abbrev ame:=((List bw)×(List bw)×Bool)×((List (bw×iY)))
def uD:FM->RK->ame:=λ(Ex,vW,Nb,gO,ahh) y=>((Ex,vW,Nb),y)
abbrev uE:=(List bw)×(List bw)×Bool×Nat×Int×(List (bw×iY))×(List bw)
def nQ:uE->AS:=λ(BE,BJ,HC,lL,R7,VB,n57)=>⟨([.d (.slice aV) BE,.d (.slice aV) BJ,bA,bA,bA,.d .bool HC,eG 20,bA,bA,.bu (.new 57 0) 1 [] 0 0 lL,.d ti R7]++aP 138 []),[],(bC 20 ([[.obj 0 false (.pr (.cm (.new 20 1) 0) fL),.obj 0 false (.mp aV jN VB)]]++bC 36 ([[.obj 1 false (.vec 38 aV n57)]]++bC 91 [])))⟩
abbrev afG:=Unit
abbrev L9:=Unit
def Be:L9->Exit×AS:=λx=>(.ret,⟨(aP 4 ([.d .bool false]++aP 144 [])),[],(ab 149 [])⟩)
abbrev afH:=Unit
abbrev Ma:=(List bw)×(List bw)×Bool×Nat×(List (bw×iY))×(List bw)
def uH:Ma->Exit×AS:=λx=>(.exit 4,⟨([.d (.slice aV) x.1,.d (.slice aV) x.2.1,bA,bA,bA,.d .bool x.2.2.1,eG 20,bA,bA,.bu (.new 57 0) 1 [] 0 0 x.2.2.2.1]++aP 139 []),[],(bC 20 ([[.obj 0 false (.pr (.cm (.new 20 1) 0) fL),.obj 0 false (.mp aV jN x.2.2.2.2.1)]]++bC 36 ([[.obj 1 false (.vec 38 aV x.2.2.2.2.2)]]++bC 91 [])))⟩)
abbrev FN:=(L9)⊕(Ma)
abbrev RN:=(afG)⊕(afH)
def Bf:FN->Out (Exit×AS):=λx=> .br x.isLeft (.get x.getLeft? λa=> .ok (Be a)) (.get x.getRight? λb=> .ok (uH b))
def pz:uE->RN->FN:=λ(BE,BJ,HC,lL,R7,VB,n57) y=>match y with | .inl y=> .inl y | .inr z=> .inr ((BE,BJ,HC,lL,VB,n57))
abbrev uI:=(List bw)×(List bw)×Bool×Nat×Int×(List (bw×iY))×(List bw)
def nR:uI->AS:=λ(BF,Pu,Nc,au6,aXT,apP,aaS)=>⟨([.d (.slice aV) BF,.d (.slice aV) Pu,bA,bA,bA,.d .bool Nc,eG 20,bA,bA,.bu (.new 57 0) 1 [] 0 0 au6,bA,.d ti aXT]++aP 137 []),[],(bC 20 ([[.obj 0 false (.pr (.cm (.new 20 1) 0) fL),.obj 0 false (.mp aV jN apP)]]++bC 36 ([[.obj 1 false (.vec 38 aV aaS)]]++bC 91 [])))⟩
abbrev afJ:=Unit
abbrev Mc:=Unit
def kc:Mc->Exit×AS:=λx=>(.ret,⟨(aP 4 ([.d .bool false]++aP 144 [])),[],(ab 149 [])⟩)
abbrev afK:=(List bw)×Bool×Nat×(List bw)
abbrev Md:=(List bw)×Bool×Nat×(List bw)
def uL:Md->Exit×AS:=λx=>(.exit 6,⟨([.d (.slice aV) x.1]++aP 4 ([.d .bool x.2.1,bA,bA,bA,.bu (.new 57 0) 1 [] 0 0 x.2.2.1]++aP 139 [])),[],(bC 57 ([[.obj 1 false (.vec 38 aV x.2.2.2)]]++bC 91 []))⟩)
abbrev FO:=(Mc)⊕(Md)
abbrev RQ:=(afJ)⊕(afK)
def Bg:FO->Out (Exit×AS):=λx=> .br x.isLeft (.get x.getLeft? λa=> .ok (kc a)) (.get x.getRight? λb=> .ok (uL b))
def pA:uI->RQ->FO:=λ(BF,Pu,Nc,au6,aXT,apP,aaS) y=>match y with | .inl y=> .inl y | .inr z=> .inr (z)
abbrev FP:=(List bw)×(List bw)×Bool×Nat×Int×Bool×Int×(List (bw×iY))×(List bw)
abbrev RR:=Bool
abbrev amf:=((List bw)×(List bw)×Bool×Nat×Int×(List (bw×iY))×(List bw))×(Bool)
def uM:FP->RR->amf:=λ(vS,tP,HD,api,aOV,dropped,kv,VD,VJ) y=>((vS,tP,HD,api,aOV,VD,VJ),y)
abbrev FQ:=(List bw)×(List bw)×Bool×Nat×Int×Bool×Bool×Int×(List (bw×iY))×(List bw)
abbrev RT:=Bool
abbrev amg:=((List bw)×(List bw)×Bool×Nat×Int×Bool×(List (bw×iY))×(List bw))×(Bool)
def uN:FQ->RT->amg:=λ(vT,BK,HE,aeu,aOW,sD,there,W1,VE,Lj) y=>((vT,BK,HE,aeu,aOW,sD,VE,Lj),y)
abbrev aiq:=(List bw)×(List bw)
abbrev aFZ:=Bool
def adJ:FL->Prop:=λ(coins,dw,aCA,i,m)=>(coins).length<=1000000000/\∃k:Nat,k<=(coins).length/\i=k
def zz:FL->RJ:=λ(coins,dw,aCA,i,m)=>(bR (ae i) coins).foldl (λm o=>RI o m) m
def adL:FM->Prop:=λ(coins,dw,aCA,i,m)=>(dw).length<=1000000000/\∃k:Nat,k<=(dw).length/\i=k
def zA:FM->RK:=λ(coins,dw,aCA,i,m)=>(bR (ae i) dw).foldl (λm o=>fR aV o m) m
def Kj(o:bw)(l:List bw):Bool:=l.any λx=>Ty.beq aV x o
theorem ZO{o:bw}{l:List bw}:Kj o l=true↔o∈l:=by unfold Kj;rw[pH];exact⟨λ⟨x,hx,h⟩=>by rw[<-(u7 _ _).1 h];exact hx,λh=>⟨o,h,(u7 _ _).2 rfl⟩⟩
def adP:FP->Prop:=λ(coins,dw,_,_,i,_,j,_,_)=>(0<=i/\i < (coins.length:Int))/\coins.length<=40/\dw.length<=40/\∃k:Nat,k<=dw.length/\j=k
def zB:FP->RR:=λ(coins,dw,_,_,i,d,j,_,_)=>d || Kj (nth aV coins i.toNat) (dw.drop j.toNat)
def adR:FQ->Prop:=λ(coins,_,_,lL,i,_,_,j,_,l)=>(0<=i/\i < (coins.length:Int))/\coins.length<=40/\lL=l.length/\l.length<=1000/\∃k:Nat,k<=l.length/\j=k
def zC:FQ->RT:=λ(coins,_,_,_,i,_,t,j,_,l)=>t || Kj (nth aV coins i.toNat) (l.drop j.toNat)
def uG:uE->Prop:=λ(_,_,_,lL,i,_,l)=>lL=l.length/\l.length<=1000/\(∀x∈l,Ju x)/\(l.Pairwise λx y=>aXy x y=true)/\1<=i/\i<=1001
def uF:uE->RN:=λ_=> .inr ()
def uK:uI->Prop:=λ(coins,dw,_,lL,i,m,l)=>coins.length<=40/\dw.length<=40/\lL=l.length/\l.length<=1000/\(∀o∈coins,Kj o l= !(Kj o dw)/\nA o m=s9)/\∃k:Nat,k<=coins.length/\i=k
def uJ:uI->RQ:=λ(coins,_,hd,lL,_,_,l)=> .inr (coins,hd,lL,l)
def asF:aiq->Prop:=λ(coins,dw)=>∀o∈coins,Ju o
def aFY:aiq->aFZ:=λ_=>true
def nj:Ls adJ uC zz:=qv (λ(vR,EM,head,i,n20)=>⟨([.d (.slice aV) vR,.d (.slice aV) EM,bA,bA,bA,.d .bool head,eG 20,.d ti i]++aP 141 []),[],(bC 20 ([[.obj 0 false (.pr (.cm (.new 20 1) 0) fL),.obj 0 false (.mp aV jN n20)]]++bC 128 []))⟩) (λx=>(.exit 0,⟨([.d (.slice aV) x.1.1,.d (.slice aV) x.1.2.1,bA,bA,bA,.d .bool x.1.2.2,eG 20]++aP 142 []),[],(bC 20 ([[.obj 0 false (.pr (.cm (.new 20 1) 0) fL),.obj 0 false (.mp aV jN x.2)]]++bC 128 []))⟩))
def nk:Ls adL uD zA:=qv (λ(Ex,vW,Nb,gO,ahh)=>⟨([.d (.slice aV) Ex,.d (.slice aV) vW,bA,bA,bA,.d .bool Nb,eG 20,bA,.d ti gO]++aP 140 []),[],(bC 20 ([[.obj 0 false (.pr (.cm (.new 20 1) 0) fL),.obj 0 false (.mp aV jN ahh)]]++bC 128 []))⟩) (λx=>(.exit 2,⟨([.d (.slice aV) x.1.1,.d (.slice aV) x.1.2.1,bA,bA,bA,.d .bool x.1.2.2,eG 20]++aP 142 []),[],(bC 20 ([[.obj 0 false (.pr (.cm (.new 20 1) 0) fL),.obj 0 false (.mp aV jN x.2)]]++bC 128 []))⟩))
def RL:=dA.fm nQ uG pz uF Bf
def GF:uE->Option FN:=gN RL nQ
def RO:=dA.fm nR uK pA uJ Bg
def GH:uI->Option FO:=gN RO nR
def lI:Ls adP uM zB:=qv (λ(vS,tP,HD,api,aOV,dropped,kv,VD,VJ)=>⟨([.d (.slice aV) vS,.d (.slice aV) tP,bA,bA,bA,.d .bool HD,eG 20,bA,bA,.bu (.new 57 0) 1 [] 0 0 api,bA,.d ti aOV,.d .bool dropped,.d ti kv]++aP 135 []),[],(bC 20 ([[.obj 0 false (.pr (.cm (.new 20 1) 0) fL),.obj 0 false (.mp aV jN VD)]]++bC 36 ([[.obj 1 false (.vec 38 aV VJ)]]++bC 91 [])))⟩) (λx=>(.exit 8,⟨([.d (.slice aV) x.1.1,.d (.slice aV) x.1.2.1,bA,bA,bA,.d .bool x.1.2.2.1,eG 20,bA,bA,.bu (.new 57 0) 1 [] 0 0 x.1.2.2.2.1,bA,.d ti x.1.2.2.2.2.1,.d .bool x.2]++aP 136 []),[],(bC 20 ([[.obj 0 false (.pr (.cm (.new 20 1) 0) fL),.obj 0 false (.mp aV jN x.1.2.2.2.2.2.1)]]++bC 36 ([[.obj 1 false (.vec 38 aV x.1.2.2.2.2.2.2)]]++bC 91 [])))⟩))
def lJ:Ls adR uN zC:=qv (λ(vT,BK,HE,aeu,aOW,sD,there,W1,VE,Lj)=>⟨([.d (.slice aV) vT,.d (.slice aV) BK,bA,bA,bA,.d .bool HE,eG 20,bA,bA,.bu (.new 57 0) 1 [] 0 0 aeu,bA,.d ti aOW,.d .bool sD,bA,.d .bool there,.d ti W1]++aP 133 []),[],(bC 20 ([[.obj 0 false (.pr (.cm (.new 20 1) 0) fL),.obj 0 false (.mp aV jN VE)]]++bC 36 ([[.obj 1 false (.vec 38 aV Lj)]]++bC 91 [])))⟩) (λx=>(.exit 10,⟨([.d (.slice aV) x.1.1,.d (.slice aV) x.1.2.1,bA,bA,bA,.d .bool x.1.2.2.1,eG 20,bA,bA,.bu (.new 57 0) 1 [] 0 0 x.1.2.2.2.1,bA,.d ti x.1.2.2.2.2.1,.d .bool x.1.2.2.2.2.2.1,bA,.d .bool x.2]++aP 134 []),[],(bC 20 ([[.obj 0 false (.pr (.cm (.new 20 1) 0) fL),.obj 0 false (.mp aV jN x.1.2.2.2.2.2.2.1)]]++bC 36 ([[.obj 1 false (.vec 38 aV x.1.2.2.2.2.2.2.2)]]++bC 91 [])))⟩))
def fj:Fs Tryz.prog asF bm aFY:=eI 7 Tryz.f7 (λ(coins,dw)=>([.d (.slice aV) coins,.d (.slice aV) dw],[])) (λx=>⟨.d .bool x,[],[]⟩) [some (.slice aV),some (.slice aV)] [aw4,aAt,adZ,adT,amc,aSh,asM,ais] {loops:=nD [(8,{aU:=[0,1,5,6,7],sites:=[20]}),(12,{aU:=[0,1,5,6,8],sites:=[20]}),(17,{aU:=[0,1,5,6,9,10],sites:=[20,57]}),(22,{aU:=[0,1,5,6,9,11],sites:=[20,57]}),(26,{aU:=[0,1,5,6,9,11,12,13],sites:=[20,57]}),(31,{aU:=[0,1,5,6,9,11,12,14,15],sites:=[20,57]})],outs:=nC [(8,{aU:=[0,1,5,6],sites:=[20]},{aU:=[4]}),(12,{aU:=[0,1,5,6],sites:=[20]},{aU:=[4]}),(17,{aU:=[0,1,5,6,9],sites:=[20,57]},{aU:=[4]}),(22,{aU:=[0,5,9],sites:=[57]},{aU:=[4]}),(26,{aU:=[0,1,5,6,9,11,12],sites:=[20,57]},{aU:=[4]}),(31,{aU:=[0,1,5,6,9,11,12,14],sites:=[20,57]},{aU:=[4]})],fu:=np [(8,nj.E),(12,nk.E),(17,RL),(22,RO),(26,lI.E),(31,lJ.E)]}
def RM:= @eE Tryz.prog (kh fj.G) fj.an 0 Tryz.f7 2 _ nQ
abbrev L8:=lu Tryz.prog (kh fj.G) fj.an 0 Tryz.f7 2 nQ uG pz uF Bf
def RP:= @eE Tryz.prog (kh fj.G) fj.an 0 Tryz.f7 3 _ nR
abbrev Mb:=lu Tryz.prog (kh fj.G) fj.an 0 Tryz.f7 3 nR uK pA uJ Bg
theorem adK:nj.RS:=rL [.d (.slice aV),.d (.slice aV),.d .bool,.d ti,.d (.slice (.pair aV jN))] nj
theorem GC{R:Type}(vR EM head i n20)(kn:K2 R)(kx:K3 R):fj.R 0 nj (vR,EM,head,i,n20) kn kx=aG ((fP i (vR.length:Int))) (aG (ed i (vR.length:Int)) (ak (D9.call ((nth aV vR (ae i)),n20)) λx4=>kn (nj.st (vR,EM,head,(bH .i64 i 1),x4))) none) (nj.go kx ((vR,EM,head),n20)):=by kernel_rfl
theorem adM:nk.RS:=rL [.d (.slice aV),.d (.slice aV),.d .bool,.d ti,.d (.slice (.pair aV jN))] nk
theorem GD{R:Type}(Ex vW Nb gO ahh)(kn:K2 R)(kx:K3 R):fj.R 1 nk (Ex,vW,Nb,gO,ahh) kn kx=aG ((fP gO (vW.length:Int))) (aG (ed gO (vW.length:Int)) (ak (Me.call ((nth aV vW (ae gO)),ahh)) λx4=>kn (nk.st (Ex,vW,Nb,(bH .i64 gO 1),x4))) none) (nk.go kx ((Ex,vW,Nb),ahh)):=by kernel_rfl
theorem adN:jd GF uG pz uF:=na (jK [.d (.slice aV),.d (.slice aV),.d .bool,.n,.d ti,.d (.slice (.pair aV jN)),.d (.slice aV)] λ_=>by kernel_rfl)
theorem Kr:oe @RM nQ uG pz uF Bf L8:=oB
theorem GG{R:Type}(BE:(List bw))(BJ:(List bw))(HC:Bool)(lL:Nat)(R7:Int)(VB:(List (bw×iY)))(n57:(List bw))(kn:AS->Option R)(kx:Exit->AS->Option R):RM (BE,BJ,HC,lL,R7,VB,n57) kn kx=aG ((fP R7 ((lL:Nat):Int))) (aG (ed (cI .i64 R7 (1:Int)) ((lL:Nat):Int)) (aG (decide ((0+(ae (cI .i64 R7 (1:Int)))) < (ag n57))) (aG (decide ((((0+(ae (cI .i64 R7 (1:Int))))*33)+0)=(0+((ae (cI .i64 R7 (1:Int)))*33)))) (aG (ed R7 ((lL:Nat):Int)) (aG (decide ((0+(ae R7)) < (ag n57))) (aG (decide ((((0+(ae R7))*33)+0)=(0+((ae R7)*33)))) (ak (Xq.call ((nth aV n57 (0+(ae (cI .i64 R7 (1:Int))))),(nth aV n57 (0+(ae R7))))) λx8=>aG ((!x8)) (kx (Be ()).1 (Be ()).2) (kn (nQ (BE,BJ,HC,lL,(bH .i64 R7 (1:Int)),VB,n57)))) none) none) none) none) none) none) (kx (uH (BE,BJ,HC,lL,VB,n57)).1 (uH (BE,BJ,HC,lL,VB,n57)).2):=by kernel_rfl
theorem adO:jd GH uK pA uJ:=na (jK [.d (.slice aV),.d (.slice aV),.d .bool,.n,.d ti,.d (.slice (.pair aV jN)),.d (.slice aV)] λ_=>by kernel_rfl)
theorem Ks:oe @RP nR uK pA uJ Bg Mb:=oB
theorem GI{R:Type}(BF:(List bw))(Pu:(List bw))(Nc:Bool)(au6:Nat)(aXT:Int)(apP:(List (bw×iY)))(aaS:(List bw))(kn:AS->Option R)(kx:Exit->AS->Option R):RP (BF,Pu,Nc,au6,aXT,apP,aaS) kn kx=aG ((fP aXT (((ag BF):Nat):Int))) (ak (lI.call (BF,Pu,Nc,au6,aXT,false,(0:Int),apP,aaS)) λaGg=>ak (lJ.call (aGg.1.1,aGg.1.2.1,aGg.1.2.2.1,aGg.1.2.2.2.1,aGg.1.2.2.2.2.1,aGg.2,false,(0:Int),aGg.1.2.2.2.2.2.1,aGg.1.2.2.2.2.2.2)) λFV=>aG (ed FV.1.2.2.2.2.1 (((ag FV.1.1):Nat):Int)) (ak (D8.call ((nth aV FV.1.1 (ae FV.1.2.2.2.2.1)),FV.1.2.2.2.2.2.2.1)) λvI=>aG ((Ty.beq .bool FV.2 FV.1.2.2.2.2.2.1)) (kx (kc ()).1 (kc ()).2) (aG (vI.2.2.2) (kx (kc ()).1 (kc ()).2) (aG (ed FV.1.2.2.2.2.1 (((ag FV.1.1):Nat):Int)) (ak (xK.call ((nth aV FV.1.1 (ae FV.1.2.2.2.2.1)),vI.1)) λOg=>aG (Og.2) (kx (kc ()).1 (kc ()).2) (kn (nR (FV.1.1,FV.1.2.1,FV.1.2.2.1,FV.1.2.2.2.1,(bH .i64 FV.1.2.2.2.2.1 (1:Int)),Og.1,FV.1.2.2.2.2.2.2.2)))) none))) none) (kx (uL (BF,Nc,au6,aaS)).1 (uL (BF,Nc,au6,aaS)).2):=by kernel_rfl
theorem adQ:lI.RS:=rL [.d (.slice aV),.d (.slice aV),.d .bool,.n,.d ti,.d .bool,.d ti,.d (.slice (.pair aV jN)),.d (.slice aV)] lI
theorem GJ{R:Type}(vS tP HD api aOV dropped kv VD VJ)(kn:K2 R)(kx:K3 R):fj.R 4 lI (vS,tP,HD,api,aOV,dropped,kv,VD,VJ) kn kx=aG ((fP kv (tP.length:Int))) (aG (dropped) (kn (lI.st (vS,tP,HD,api,aOV,true,(bH .i64 kv 1),VD,VJ))) (aG (ed kv (tP.length:Int)) (aG (ed aOV (vS.length:Int)) (kn (lI.st (vS,tP,HD,api,aOV,(Ty.beq aV (nth aV tP (ae kv)) (nth aV vS (ae aOV))),(bH .i64 kv 1),VD,VJ))) none) none)) (lI.go kx ((vS,tP,HD,api,aOV,VD,VJ),dropped)):=by kernel_rfl
theorem adS:lJ.RS:=rL [.d (.slice aV),.d (.slice aV),.d .bool,.n,.d ti,.d .bool,.d .bool,.d ti,.d (.slice (.pair aV jN)),.d (.slice aV)] lJ
theorem GK{R:Type}(vT BK HE aeu aOW sD there W1 VE Lj)(kn:K2 R)(kx:K3 R):fj.R 5 lJ (vT,BK,HE,aeu,aOW,sD,there,W1,VE,Lj) kn kx=aG ((fP W1 ((aeu:Nat):Int))) (aG (there) (kn (lJ.st (vT,BK,HE,aeu,aOW,sD,true,(bH .i64 W1 1),VE,Lj))) (aG (ed W1 ((aeu:Nat):Int)) (aG (decide ((0+(ae W1)) < (ag Lj))) (aG (decide ((((0+(ae W1))*33)+0)=(0+((ae W1)*33)))) (aG (ed aOW (vT.length:Int)) (kn (lJ.st (vT,BK,HE,aeu,aOW,sD,(Ty.beq aV (nth aV Lj (0+(ae W1))) (nth aV vT (ae aOW))),(bH .i64 W1 1),VE,Lj))) none) none) none) none)) (lJ.go kx ((vT,BK,HE,aeu,aOW,sD,VE,Lj),there)):=by kernel_rfl
theorem axG{R:Type}(coins dw)(k:K1 R):fj.A (coins,dw) k=ak (js.call ()) λx4=>ak (afO.call ()) λx8=>aG ((w5 (coins.length:Int) 40)) (k (fj.out x4)) (aG ((w5 (dw.length:Int) 40)) (k (fj.out x4)) (ak (nj.call (coins,dw,x4,0,x8)) λaGg=>ak (nk.call (aGg.1.1,aGg.1.2.1,aGg.1.2.2,0,aGg.2)) λvI=>ak (wall.call vI.2) λOg=>ak (GF (vI.1.1,vI.1.2.1,vI.1.2.2,Og.1,1,Og.2.1,Og.2.2)) λaUr=>aG (aUr.isLeft) (ak (aUr.getLeft?) λa37=>k (fj.out false)) (ak (aUr.getRight?) λb38=>ak (GH (b38.1,b38.2.1,b38.2.2.1,b38.2.2.2.1,0,b38.2.2.2.2.1,b38.2.2.2.2.2)) λDf=>aG (Df.isLeft) (ak (Df.getLeft?) λa67=>k (fj.out false)) (ak (Df.getRight?) λb68=>aG (b68.2.1) (k (fj.out (amw ((b68.2.2.1:Nat):Int) (b68.1.length:Int)))) (k (fj.out false)))))):=by kernel_rfl
theorem afE:(fj.jP 0 nj):=by
 refine(fj.lk 0 nj) (λ(coins,dw,aCA,i,m)=>(coins).length - ae i) ?_
 rintro⟨coins,dw,aCA,i,m⟩ ⟨hlen,k,hk,rfl⟩;have hlen:(coins).length<=1000000000:=hlen;have hk:k<=(coins).length:=hk;by_cases h:k < (coins).length
 ·left;have n1:nth aV coins k=coins[k]:=bV (t:=aV) h;have hd:bR k coins=coins[k]::bR (k+1) coins:=ao h;refine⟨(coins,dw,aCA,((k+1:Nat):Int),((λm o=>RI o m) m coins[k])),⟨hlen,k+1,by omega,rfl⟩,by simp only[aa];omega,?_,λkn kx=> ?_⟩
  ·simp only[uC,zz,aa,hd,bo]
  ·rw[GC,aT (by omega),bf (by omega) (by omega),aa,n1];simp only[aj];rw[Kc (d:=(coins[k],m)) trivial];simp only[ah,bm,X5];rw[N.mq (by omega)];rfl
 ·right;obtain rfl:k=(coins).length:=by omega
  intro R kn kx;rw[GC,aO (by omega),al];simp only[uC,zz,aa,aK,cK]
theorem afF:(fj.jP 1 nk):=by
 refine(fj.lk 1 nk) (λ(coins,dw,aCA,i,m)=>(dw).length - ae i) ?_
 rintro⟨coins,dw,aCA,i,m⟩ ⟨hlen,k,hk,rfl⟩;have hlen:(dw).length<=1000000000:=hlen;have hk:k<=(dw).length:=hk;by_cases h:k < (dw).length
 ·left;have n1:nth aV dw k=dw[k]:=bV (t:=aV) h;have hd:bR k dw=dw[k]::bR (k+1) dw:=ao h;refine⟨(coins,dw,aCA,((k+1:Nat):Int),((λm o=>fR aV o m) m dw[k])),⟨hlen,k+1,by omega,rfl⟩,by simp only[aa];omega,?_,λkn kx=> ?_⟩
  ·simp only[uD,zA,aa,hd,bo]
  ·rw[GD,aT (by omega),bf (by omega) (by omega),aa,n1];simp only[aj];rw[Uf (d:=(dw[k],m)) trivial];simp only[ah,bm,amh];rw[N.mq (by omega)]
 ·right;obtain rfl:k=(dw).length:=by omega
  intro R kn kx;rw[GD,aO (by omega),al];simp only[uD,zA,aa,aK,cK]
theorem afM:(fj.jP 4 lI):=by
 refine(fj.lk 4 lI) (λ(_,dw,_,_,_,_,j,_)=>dw.length - j.toNat) ?_
 rintro⟨coins,dw,hd,lL,i,d,j,m,l⟩ ⟨hi,hc,aCz,k,hk,rfl⟩;have aJI:0<=i:=hi.1;have aOQ:i < (coins.length:Int):=hi.2;have hc:coins.length<=40:=hc;have aCz:dw.length<=40:=aCz;have hk:k<=dw.length:=hk;by_cases h:k < dw.length
 ·left;have n1:nth aV dw k=dw[k]:=bV (t:=aV) h;have aCA:dw.drop k=dw[k]::dw.drop (k+1):=ao h;refine⟨(coins,dw,hd,lL,i,d || Ty.beq aV dw[k] (nth aV coins i.toNat),((k+1:Nat):Int),m,l),⟨hi,hc,aCz,k+1,h,rfl⟩,by simp only[aa];omega,?_,λkn kx=> ?_⟩
  ·simp only[uM,zB,aa,aCA,Kj,lr,Bool.or_assoc]
  ·rw[GJ,aT (by omega),aj,N.mq (by omega)];cases d with
   |true=>rfl
   |false=>rw[al,bf (by omega) (by omega),aj,bf (by omega) (by omega),aj,aa,n1,lq]
 ·right;obtain rfl:k=dw.length:=by omega
  intro R kn kx;rw[GJ,aO (by omega),al];simp only[uM,zB,aa,aK,Kj,tl,qH]
theorem afN:(fj.jP 5 lJ):=by
 refine(fj.lk 5 lJ) (λ(_,_,_,_,_,_,_,j,_,l)=>l.length - j.toNat) ?_
 rintro⟨coins,dw,hd,lL,i,d,t,j,m,l⟩ ⟨hi,hc,rfl,hl,k,hk,rfl⟩;have aJI:0<=i:=hi.1;have aOQ:i < (coins.length:Int):=hi.2;have hc:coins.length<=40:=hc;have hl:l.length<=1000:=hl;have hk:k<=l.length:=hk;by_cases h:k < l.length
 ·left;have n1:nth aV l k=l[k]:=bV (t:=aV) h;have aCA:l.drop k=l[k]::l.drop (k+1):=ao h;refine⟨(coins,dw,hd,l.length,i,d,t || Ty.beq aV l[k] (nth aV coins i.toNat),((k+1:Nat):Int),m,l),⟨hi,hc,rfl,hl,k+1,h,rfl⟩,by simp only[aa];omega,?_,λkn kx=> ?_⟩
  ·simp only[uN,zC,aa,aCA,Kj,lr,Bool.or_assoc]
  ·rw[GK,aT (by omega),aj,N.mq (by omega)];cases t with
   |true=>rfl
   |false=>rw[al,bf (by omega) (by omega),aj,aa,aJ,aH h,aj,aH (by omega),aj,bf (by omega) (by omega),aj,n1,lq]
 ·right;obtain rfl:k=l.length:=by omega
  intro R kn kx;rw[GK,aO (by omega),al];simp only[uN,zC,aa,aK,Kj,tl,qH]
theorem aR0{α:Type}{R:α->α->Prop}{l:List α}(h:l.Pairwise R){i j:Nat}(hi:i < j)(hj:j < l.length):R (l[i]'(by omega)) l[j]:=List.pairwise_iff_getElem.1 h i j _ hj hi
theorem afI:L8:=by
 refine Kr (λ(_,_,_,_,i,_,l)=>l.length+1 - i.toNat) ?_
 rintro⟨coins,dw,hd,lL,i,m,l⟩ ⟨rfl,hl,hq,hp,h1,h2⟩;have hl:l.length<=1000:=hl;have h1:1<=i:=h1;have h2:i<=1001:=h2;obtain⟨k,rfl⟩:∃k:Nat,i=(k:Int)+1:=⟨(i - 1).toNat,by omega⟩;by_cases h:k+1 < l.length
 ·left;have n1:nth aV l k=l[k]:=bV (t:=aV) (by omega);have n2:nth aV l (k+1)=l[k+1]:=bV (t:=aV) h;have e1:cI .i64 ((k:Int)+1) 1=(k:Int):=by rw[ez (by omega) (by omega)];omega
  have e2:((k:Int)+1).toNat=k+1:=by omega
  refine⟨(coins,dw,hd,l.length,(k:Int)+1+1,m,l),⟨rfl,hl,hq,hp,by omega,by omega⟩,by simp only[e2];omega,rfl,λkn kx=> ?_⟩;rw[GG,aT (by omega),aj,e1,bf (by omega) (by omega),aj,aa,aJ,aH (by omega),aj,aH (by omega),aj,bf (by omega) (by omega),aj,e2,aJ,aH h,aj,aH (by omega),aj,n1,n2];rw[aMj (d:=(l[k],l[k+1])) ⟨(hq _ (aM _)).1,(hq _ (aM _)).1⟩];simp only[ah,bm,awi,aR0 hp (Nat.lt_succ_self k) h,ct,al];rw[fE (by omega) (by omega)]
 ·right;refine⟨uH (coins,dw,hd,l.length,m,l),rfl,λkn kx=> ?_⟩;rw[GG,aO (by omega),al]
theorem aSI{o:bw}{m:Wm}(h:nA o m=s9):D8.call (o,m)=some (m,(s9.2.1,(0,false))):=by rw[Uk (d:=(o,m)) (by show qt (nA o m).2.1;rw[h];exact v0)];simp only[R2,h];rfl
theorem afL:Mb:=by
 refine Ks (λ(coins,_,_,_,i,_)=>coins.length - i.toNat) ?_
 rintro⟨coins,dw,hd,lL,i,m,l⟩ ⟨hc,aCz,rfl,hl,ho,k,hk,rfl⟩;have hc:coins.length<=40:=hc;have hl:l.length<=1000:=hl;have hk:k<=coins.length:=hk;by_cases h:k < coins.length
 ·left;have n1:nth aV coins k=coins[k]:=bV (t:=aV) h;obtain⟨o1,o2⟩:=ho _ (aM h);refine⟨(coins,dw,hd,l.length,((k+1:Nat):Int),m,l),⟨hc,aCz,rfl,hl,ho,k+1,h,rfl⟩,by simp only[aa];omega,rfl,λkn kx=> ?_⟩;rw[GI,aT (by omega),aj,adQ (d:=(coins,dw,hd,l.length,(k:Int),false,0,m,l)) ⟨⟨by omega,by omega⟩,hc,aCz,0,aL _,rfl⟩];simp only[ah,uM,zB];rw[adS (d:=(coins,dw,hd,l.length,(k:Int),_,false,0,m,l)) ⟨⟨by omega,by omega⟩,hc,rfl,hl,0,aL _,rfl⟩];simp only[ah,uN,zC,aY,aF,lq,aa,n1];rw[bf (by omega) (by omega),aj,aSI o2];simp only[ah];rw[o1,show Ty.beq .bool (!(Kj coins[k] dw)) (Kj coins[k] dw)=false by cases Kj coins[k] dw <;> rfl];simp only[al,ZD,ah,o2];rw[aj,show s9.2.2.2.2.1=false from rfl,al,N.mq (by omega)]
 ·right;obtain rfl:k=coins.length:=by omega
  refine⟨uL (coins,hd,l.length,l),rfl,λkn kx=> ?_⟩;rw[GI,aO (by omega),al]
structure MZ(m:Wm)(f:bw->Prop):Prop where
 apV:(m.map (·.1)).Nodup
 get:∀o,(f o/\bZ aV o m=some s9)\/(¬f o/\bZ aV o m=none)
 asZ:∀p∈m,Ju p.1
theorem MZ.want{m:Wm}{f:bw->Prop}(h:MZ m f){o:bw}(ho:Ju o):MZ (RI o m) (λx=>x=o\/f x)/\(RI o m).length<=m.length+1:=by
 unfold RI;rcases h.get o with⟨h1,h2⟩ | ⟨h1,h2⟩
 ·rw[h2];refine⟨⟨h.apV,λx=> ?_,h.asZ⟩,oo _⟩;rcases h.get x with⟨h3,h4⟩ | ⟨h3,h4⟩
  ·exact .inl ⟨.inr h3,h4⟩
  ·refine .inr ⟨λe=> ?_,h4⟩;rcases e with rfl | e
   ·exact h3 h1
   ·exact h3 e
 ·rw[h2];refine⟨⟨HX fY h.apV,λx=> ?_,λp hp=> ?_⟩,?_⟩
  ·have hg:bZ aV x (eJ aV o s9 m)=_:=JM fY x o s9 m;show(_/\bZ aV x (eJ aV o s9 m)=some s9)\/_/\bZ aV x (eJ aV o s9 m)=none;rw[hg];by_cases e:x=o
   ·rw[if_pos ((u7 _ _).2 e)];exact .inl ⟨.inl e,rfl⟩
   ·rw[if_neg (λhb=>e ((u7 _ _).1 hb))];rcases h.get x with⟨h3,h4⟩ | ⟨h3,h4⟩
    ·exact .inl ⟨.inr h3,h4⟩
    ·exact .inr ⟨λe'=>e'.elim e h3,h4⟩
  ·rcases ahb hp with rfl | hp
   ·exact ho
   ·exact h.asZ p hp
  ·show(eJ aV o s9 m).length<=_;unfold eJ;split
   ·rw[re];exact oo _
   ·rw[ai];exact aw _
theorem MZ.drop{m:Wm}{f:bw->Prop}(h:MZ m f)(o:bw):MZ (fR aV o m) (λx=>¬x=o/\f x)/\(fR aV o m).length<=m.length:=by
 have sub:(fR aV o m).Sublist m:=by
  unfold fR;split
  ·exact List.eraseIdx_sublist _ _
  ·exact List.Sublist.refl _
 refine⟨⟨BY fY h.apV,λx=> ?_,λp hp=>h.asZ p (sub.subset hp)⟩,sub.length_le⟩;have hg:bZ aV x (fR aV o m)=_:=ajW fY x o h.apV;rw[hg];by_cases e:x=o
 ·rw[if_pos ((u7 _ _).2 e)];exact .inr ⟨λe'=>e'.1 e,rfl⟩
 ·rw[if_neg (λhb=>e ((u7 _ _).1 hb))];rcases h.get x with⟨h3,h4⟩ | ⟨h3,h4⟩
  ·exact .inl ⟨⟨e,h3⟩,h4⟩
  ·exact .inr ⟨λe'=>h3 e'.2,h4⟩
theorem MZ.ext{m:Wm}{f g:bw->Prop}(h:MZ m f)(e:∀o,f o↔g o):MZ m g:=⟨h.apV,λo=>by rw[<-e o];exact h.get o,h.asZ⟩
theorem MZ.aUq:∀(l:List bw) {m:Wm} {f:bw->Prop},MZ m f->(∀o∈l,Ju o)->MZ (l.foldl (λm o=>RI o m) m) (λx=>x∈l\/f x)/\(l.foldl (λm o=>RI o m) m).length<=m.length+l.length
 |[],m,f,h,_=>⟨h.ext λo=>by simp,aw _⟩
 |o::l,m,f,h,hq=>by
  obtain⟨h1,h2⟩:=h.want (hq o aN);obtain⟨h3,h4⟩:=MZ.aUq l h1 λx hx=>hq x (aI _ hx)
  rw[bo];refine⟨h3.ext λx=> ?_,by rw[az];omega⟩;rw[cj];exact⟨λe=>e.elim (λe=> .inl (.inr e)) λe=>e.elim (λe=> .inl (.inl e)) .inr,λe=>e.elim (λe=>e.elim (λe=> .inr (.inl e)) .inl) λe=> .inr (.inr e)⟩
theorem MZ.dw:∀(l:List bw) {m:Wm} {f:bw->Prop},MZ m f->MZ (l.foldl (λm o=>fR aV o m) m) (λx=>¬x∈l/\f x)/\(l.foldl (λm o=>fR aV o m) m).length<=m.length
 |[],m,f,h=>⟨h.ext λo=>by simp,aw _⟩
 |o::l,m,f,h=>by obtain⟨h1,h2⟩:=h.drop o;obtain⟨h3,h4⟩:=MZ.dw l h1;rw[bo];refine⟨h3.ext λx=> ?_,gz h4 h2⟩;rw[cj];exact⟨λe=>⟨λe'=>e'.elim e.2.1 e.1,e.2.2⟩,λe=>⟨λe'=>e.1 (.inr e'),λe'=>e.1 (.inl e'),e.2⟩⟩
theorem aTp{m:Wm}(hn:(m.map (·.1)).Nodup)(hq:∀p∈m,Ju p.1):(Dc m).Pairwise λx y=>aXy x y=true:=by
 have hq':∀x∈m.map (·.1),Ju x:=λx hx=>by obtain⟨p,hp,rfl⟩:=c9.1 hx;exact hq p hp
 obtain⟨h1,h2⟩:=acR Ae hq';have h1:(Dc m).Perm (m.map (·.1)):=h1;have aOS:(Dc m).Nodup:=h1.symm.nodup_iff.1 hn |>.imp id
 refine(h2.and aOS).imp_of_mem λ {x y} hx hy ⟨h3,h4⟩=> ?_
 have qx:=hq' x (h1.mem_iff.1 hx);have qy:=hq' y (h1.mem_iff.1 hy);rw[aPy qx qy,ba];refine Classical.byContradiction λh5=>h4 (Af qx qy h5 h3)
theorem axH:fj.Ok:=by
 rintro⟨coins,dw⟩ hq;have hq:∀o∈coins,Ju o:=hq;rw[axG,arV (d:=()) trivial];simp only[ah,bm,ah8];rw[asK (d:=()) trivial];simp only[ah,bm,aOv];by_cases h1:coins.length<=40;rotate_left
 ·rw[df (by omega),aj];rfl
 by_cases h2:dw.length<=40;rotate_left
 ·rw[cE (by omega),al,df (by omega),aj];rfl
 have z0:MZ [] (λ_=>False):=⟨gm,λo=> .inr ⟨id,rfl⟩,λp hp=>(by cases hp)⟩;obtain⟨z1,l1⟩:=MZ.aUq coins z0 hq;obtain⟨z2,l2⟩:=MZ.dw dw z1;rw[cE (by omega),al,cE (by omega),al,adK (d:=(coins,dw,true,0,[])) ⟨by show coins.length<=_;omega,0,aL _,rfl⟩];simp only[ah,uC,zz,aY,aF];generalize coins.foldl (λm o=>RI o m) []=m1 at z1 l1 z2 l2 ⊢;rw[adM (d:=(coins,dw,true,0,m1)) ⟨by show dw.length<=_;omega,0,aL _,rfl⟩];simp only[ah,uD,zA,aY,aF];generalize dw.foldl (λm o=>fR aV o m) m1=m at z2 l2 ⊢;have l1:m1.length<=coins.length:=by simpa using l1
 have hp:=aiv z2.asZ;have hlen:(Dc m).length=m.length:=by rw[hp.length_eq,bX]
 rw[RH (d:=m) ⟨by show m.length<=_;omega,z2.asZ⟩];simp only[ah,bm,amb];rw[<-hlen,adN (d:=(coins,dw,true,(Dc m).length,1,m,Dc m)) ⟨rfl,by show(Dc m).length<=_;omega,λx hx=>by
  obtain⟨p,hp',rfl⟩:=c9.1 (hp.mem_iff.1 hx);exact z2.asZ p hp',aTp z2.apV z2.asZ,by show(1:Int)<=1;decide,by show(1:Int)<=1001;decide⟩]
 simp only[ah,pz,uF,ee,al,dv];rw[adO (d:=(coins,dw,true,(Dc m).length,0,m,Dc m)) ⟨h1,h2,rfl,by show(Dc m).length<=_;omega,λo ho=> ?_,0,aL _,rfl⟩]
 ·simp only[ah,pA,uJ,ee,al,dv,aj];rw[oP (by omega)];rfl
 ·have hk:Kj o (Dc m)=true↔(¬o∈dw/\(o∈coins\/False)):=by
   rw[ZO,hp.mem_iff];have hg:=get_none (l:=m) fY (o:=o) z2.apV;rcases z2.get o with⟨h3,h4⟩ | ⟨h3,h4⟩
   ·refine⟨λ_=>h3,λ_=> ?_⟩;refine Classical.byContradiction λhn=> ?_
    rw[hg.2 hn]at h4;cases h4
   ·exact⟨λhm=>absurd hm (hg.1 h4),λhf=>absurd hf h3⟩
  refine⟨?_,?_⟩
  ·cases hd:Kj o dw with
   |true=>
    cases hw:Kj o (Dc m) with
    |false=>rfl
    |true=>exact absurd (ZO.1 hd) (hk.1 hw).1
   |false=>
    exact hk.2 ⟨λhm=>(by rw[ZO.2 hm]at hd;cases hd),.inl ho⟩
  ·unfold nA;rcases z2.get o with⟨_,h4⟩ | ⟨_,h4⟩ <;> rw[h4] <;> rfl
theorem asG:fj.RS:=rE [.d (.slice aV),.d (.slice aV)] fj
def axI:=fj.eN axH 6 ⟨.fm afE,⟨.fm afF,⟨.fm afI,⟨.fm afL,⟨.fm afM,⟨.fm afN,trivial⟩⟩⟩⟩⟩⟩
end Go.Ab
end
