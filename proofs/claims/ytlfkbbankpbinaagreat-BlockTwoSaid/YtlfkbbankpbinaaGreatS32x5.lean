/-
  Made short by a program of mine (wip/tools/mini.py).
-/
import Derived.Test.YtlfkbbankpbinaaGreatS32x4
set_option linter.unusedVariables false
set_option linter.unusedSimpArgs false
set_option maxRecDepth 100000
set_option synthInstance.maxSize 5000
open List renaming replicate->ai,set->gB,length->ag,take->bj,drop->bT
open BitVec renaming ofInt->bh
open Int renaming toNat->ab
open Or renaming inr->fv,inl->lr
open Option renaming some->al,none->aJ
open Bool renaming true->aT,false->aR
noncomputable section
variable {R:Type}
namespace Go.Ab
open Go.Proofs
def aEl(c:eU):Prop:=nI c.1.2.1=aT/\akP c.1.2.1/\0<=c.1.1/\c.1.1<=1125899906842624/\0<=c.2.1/\c.2.1<=1048576
def Na(a:List (cC×eU)):Prop:=(a.map (·.1)).Nodup/\∀p∈a,acC p.1/\aEl p.2
theorem Na.get{a:List (cC×eU)}(h:Na a){o:cC}{c:eU}(hg:cq bP o a=al c):aEl c:=(h.2 _ ((lX ju h.1).1 hg)).2
def axK:eU:=((0,(([],()),())),(0,()))
theorem aEl.own{c:eU}(h:aEl c):aHw c.1.2.1:=by have:=Tt h.1;exact⟨au,λb hb=>by have:=this.2 b hb;omega⟩
abbrev yY:=Int×dS×Int×(List kj)×Int×Int×Nat×(List (cC×eU))×(List cZ)×Bs
def oh:yY->AS:=λ(ei,nO,jG,t35,t36,t37,o0L,ed,dm,n8)=>⟨([.ptr (.bG 0) 0 [] 0,cw,.d ti ei,cw,.eN fg nO,cw,cw,cw,fI 8,.d ti jG]++bg 25 ([.d (.slice gK) t35,.d ti t36,.d ti t37]++bg 69 [])),[dH (.pr (.cP (.bG 1) 0) (.pr (.b8 (.bG 2) 0 [] 0 0 o0L) kO)),dH (.mp bP eR ed),dH (.vec 139 cD dm)],(bK 8 ([dK (.d tH n8)]++bK 98 []))⟩
abbrev Pd:=(Nat×(List (cC×eU))×(List cZ))×(Int)
def jB:Pd->Exit×AS:=λ((a,b,c),e)=>(.ret,⟨(bg 6 ([.d ti (0:Int),.d ti e]++bg 99 [])),[dH (.pr (.cP (.bG 1) 0) (.pr (.b8 (.bG 2) 0 [] 0 0 a) kO)),dH (.mp bP eR b),dH (.vec 139 cD c)],(ai 107 [])⟩)
abbrev Pe:=(dS×Nat×(List (cC×eU))×(List cZ))×(Int)
def xg:Pe->Exit×AS:=λ((a,b,c,e),f)=>(.exit 0,⟨([.ptr (.bG 0) 0 [] 0,cw,cw,cw,.eN fg a]++bg 4 ([.d ti f]++bg 97 [])),[dH (.pr (.cP (.bG 1) 0) (.pr (.b8 (.bG 2) 0 [] 0 0 b) kO)),dH (.mp bP eR c),dH (.vec 139 cD e)],(ai 107 [])⟩)
abbrev IC:=(Pd)⊕(Pe)
abbrev Sr:=(Int)⊕(Int)
def CI:IC->Out (Exit×AS):=λx=> .br x.isLeft (.get x.getLeft? λa=> .ok (jB a)) (.get x.getRight? λb=> .ok (xg b))
def jA:yY->Sr->IC:=λ(ei,nO,jG,t35,t36,t37,o0L,ed,dm,n8) y=>match y with | .inl y=> .inl ((o0L,ed,dm),y) | .inr z=> .inr (((nO,o0L,ed,dm),z))
abbrev yZ:=dS×Int×(List cC)×Int×Int×Nat×(List (cC×eU))×(List cZ)
def rJ:yZ->AS:=λ(BC,Pp,t75,t76,t77,lI,ud,ko)=>⟨([.ptr (.bG 0) 0 [] 0,cw,cw,cw,.eN fg BC]++bg 4 ([.d ti Pp]++bg 65 ([.d (.slice bP) t75,.d ti t76,.d ti t77]++bg 29 []))),[dH (.pr (.cP (.bG 1) 0) (.pr (.b8 (.bG 2) 0 [] 0 0 lI) kO)),dH (.mp bP eR ud),dH (.vec 139 cD ko)],(ai 107 [])⟩
abbrev Pg:=Nat×(List (cC×eU))×(List cZ)
def xi:Pg->Exit×AS:=λ(a,b,c)=>(.ret,⟨(bg 6 ([.d ti (0:Int),.d ti (4:Int)]++bg 99 [])),[dH (.pr (.cP (.bG 1) 0) (.pr (.b8 (.bG 2) 0 [] 0 0 a) kO)),dH (.mp bP eR b),dH (.vec 139 cD c)],(ai 107 [])⟩)
abbrev Ph:=dS×Int×Nat×(List (cC×eU))×(List cZ)
def xj:Ph->Exit×AS:=λ(a,b,c,e,f)=>(.exit 2,⟨(bg 4 ([.eN fg a]++bg 4 ([.d ti b]++bg 97 []))),[dH (.pr (.cP (.bG 1) 0) (.pr (.b8 (.bG 2) 0 [] 0 0 c) kO)),dH (.mp bP eR e),dH (.vec 139 cD f)],(ai 107 [])⟩)
abbrev ID:=(Pg)⊕(Ph)
abbrev Sv:=(Unit)⊕(Unit)
def CJ:ID->Out (Exit×AS):=λx=> .br x.isLeft (.get x.getLeft? λa=> .ok (xi a)) (.get x.getRight? λb=> .ok (xj b))
def kM:yZ->Sv->ID:=λ(BC,Pp,t75,t76,t77,lI,ud,ko) y=>match y with | .inl y=> .inl (lI,ud,ko) | .inr z=> .inr ((BC,Pp,lI,ud,ko))
abbrev IE:=Int×(List lM)×Int×Int×Nat×(List (cC×eU))×(List cZ)
def xk:IE->Int->((Nat×(List (cC×eU))×(List cZ))×(Int)):=λ(X6,t93,t94,t95,Uc,aje,qs) y=>((Uc,aje,qs),y)
abbrev alo:=dS×Int×Nat×(List (cC×eU))×(List cZ)
def tT(h:Int)(id:List Int)(a:List (cC×eU)):List kj->Int->Int⊕Int
 |[],jG=> .inr jG
 |x::l,jG=>match cq bP x.1 a with
  |none=> .inl 5
  |some c=>if B7 c.1.2.1 x.2.1 id h (h - c.2.1)≠0 then .inl (B7 c.1.2.1 x.2.1 id h (h - c.2.1)) else tT h id a l (jG+c.1.1)
def pC(a:List (cC×eU))(o:cC):Bool:=(cq bP o a).isSome
def lB(l:List lM):Int:=(l.map (·.1)).sum
def dL(t:dS)(h:Int)(a:List (cC×eU)):Int×Int:=
 if iM t=aT/\1<=h/\h<=1048576 then
  match tT h (wI t) a t.1 0 with
  | .inl e=>(0,e)
  | .inr jG=>if(gq t).any (pC a)=aT then(0,4) else if jG - lB t.2.1 < 0 then(0,8) else(jG - lB t.2.1,0)
 else(0,1)
def xf:yY->Prop:=λ(h,_,jG,l,n,i,_,a,_,id)=>(0<=h/\h<=1048576)/\Sm id/\l.length<=64/\(∀x∈l,aJm x)/\Na a/\∃k:Nat,k<=l.length/\i=k/\n=l.length/\0<=jG/\jG<=(k:Int)*1125899906842624
def mM:yY->Sr:=λ(h,_,jG,l,_,i,_,a,_,id)=>tT h id a (l.drop i.toNat) jG
def xh:yZ->Prop:=λ(_,_,l,n,i,_,_,_)=>l.length<=1000/\∃k:Nat,k<=l.length/\i=k/\n=l.length
def om:yZ->Sv:=λ(_,_,l,_,i,_,a,_)=>if(l.drop i.toNat).any (pC a)=aT then .inl () else .inr ()
def Z3:IE->Prop:=λ(jG,l,n,i,_,_,_)=>l.length<=64/\(∀o∈l,0<=o.1/\o.1<=1125899906842624)/\∃k:Nat,k<=l.length/\i=k/\n=l.length/\ -((k:Int)*1125899906842624)<=jG/\jG<=1000000000000000000
def CK:IE->Int:=λ(jG,l,_,i,_,_,_)=>jG - lB (l.drop i.toNat)
def aob:alo->Prop:=λ(t,_,_,a,_)=>vW t/\Na a
def Z0:alo->(Int×Int×Nat×(List (cC×eU))×(List cZ)):=λ(t,h,n,a,s)=>((dL t h a).1,(dL t h a).2,n,a,s)
def Sq:=ee.gQ oh xf jA mM CI
def Hl:yY->Option IC:=ji Sq oh
def Ss:=ee.gQ rJ xh kM om CJ
def Hm:yZ->Option ID:=ji Ss rJ
def sJ:Ls Z3 xk CK:=xM (λ(X6,t93,t94,t95,Uc,aje,qs)=>⟨(bg 9 ([.d ti X6]++bg 83 ([.d (.slice jv) t93,.d ti t94,.d ti t95]++bg 11 []))),[dH (.pr (.cP (.bG 1) 0) (.pr (.b8 (.bG 2) 0 [] 0 0 Uc) kO)),dH (.mp bP eR aje),dH (.vec 139 cD qs)],(ai 107 [])⟩) (λx=>(.exit 4,⟨(bg 9 ([.d ti x.2]++bg 97 [])),[dH (.pr (.cP (.bG 1) 0) (.pr (.b8 (.bG 2) 0 [] 0 0 x.1.1) kO)),dH (.mp bP eR x.1.2.1),dH (.vec 139 cD x.1.2.2)],(ai 107 [])⟩))
def lH:Fs Tryz.prog aob bF Z0:=gg 73 Tryz.f73 (λ(t,height,o0baL,o1,o2)=>([.ptr (.bG 0) 0 [] 0,.d fg t,.d ti height],[.obj 0 aR (.pr (.cP (.bG 1) 0) (.pr (.b8 (.bG 2) 0 [] 0 0 o0baL) (.d .unit ()))),.obj 0 aR (.mp bP eR o1),.obj 0 aR (.vec 139 cD o2)])) (λx=>⟨.cons (.d ti x.1) (.cons (.d ti x.2.1) (.nil)),[.obj 0 aR (.pr (.cP (.bG 1) 0) (.pr (.b8 (.bG 2) 0 [] 0 0 x.2.2.1) (.d .unit ()))),.obj 0 aR (.mp bP eR x.2.2.2.1),.obj 0 aR (.vec 139 cD x.2.2.2.2)],[]⟩) [aJ,al fg,al ti] [pV,OG,auU,agN] {loops:=sk [(5,{bu:=[0,2,4,8,9,35,36,37],sites:=[8]}),(16,{bu:=[0,4,9,75,76,77]}),(23,{bu:=[9,93,94,95]})],outs:=sj [(5,{bu:=[0,4,9]},{bu:=[6,7]}),(16,{bu:=[4,9]},{bu:=[6,7]}),(23,{bu:=[9]},{bu:=[6,7]})],gV:=tK [(5,Sq),(16,Ss),(23,sJ.E)]}
def IB:= @fK Tryz.prog (mN lH.G) lH.an 0 Tryz.f73 0 _ oh
abbrev Pc:=nE Tryz.prog (mN lH.G) lH.an 0 Tryz.f73 0 oh xf jA mM CI
def Su:= @fK Tryz.prog (mN lH.G) lH.an 0 Tryz.f73 1 _ rJ
abbrev Pf:=nE Tryz.prog (mN lH.G) lH.an 0 Tryz.f73 1 rJ xh kM om CJ
theorem Z1:lN Hl xf jA mM:=qe (oE [.d ti,.d fg,.d ti,.d (.slice gK),.d ti,.d ti,.n,.d (.slice (.pair bP eR)),.d (.slice cD),.d tB] λ_=>cT)
theorem KH:sx @IB oh xf jA mM CI Pc:=tI
theorem AZ(ei nO jG t35 t36 t37 o0L ed dm n8)(kn:K2 R)(kx:K3 R):IB (ei,nO,jG,t35,t36,t37,o0L,ed,dm,n8) kn kx=aS (iE t37 t36) (aS (gU t37 (((ag t35):Nat):Int)) (aS (!(cq bP (nth gK t35 (ab t37)).1 ed).isSome) (kx (jB ((o0L,ed,dm),(5:Int))).1 (jB ((o0L,ed,dm),(5:Int))).2) (aq (mg.call (((cq bP (nth gK t35 (ab t37)).1 ed).getD (((0:Int),((([]:List tG),()),())),((0:Int),()))).1.2.1,(nth gK t35 (ab t37)).2.1,n8,ei,(dM .i64 ei ((cq bP (nth gK t35 (ab t37)).1 ed).getD (((0:Int),((([]:List tG),()),())),((0:Int),()))).2.1))) λx1=>aS (G5 x1 (0:Int)) (kx (jB ((o0L,ed,dm),x1)).1 (jB ((o0L,ed,dm),x1)).2) (kn (oh (ei,nO,(bV .i64 jG ((cq bP (nth gK t35 (ab t37)).1 ed).getD (((0:Int),((([]:List tG),()),())),((0:Int),()))).1.1),t35,t36,(bV .i64 t37 (1:Int)),o0L,ed,dm,n8))))) aJ) (kx (xg ((nO,o0L,ed,dm),jG)).1 (xg ((nO,o0L,ed,dm),jG)).2):=cT
theorem Z2:lN Hm xh kM om:=qe (oE [.d fg,.d ti,.d (.slice bP),.d ti,.d ti,.n,.d (.slice (.pair bP eR)),.d (.slice cD)] λ_=>cT)
theorem KI:sx @Su rJ xh kM om CJ Pf:=tI
theorem A0(BC Pp t75 t76 t77 lI ud ko)(kn:K2 R)(kx:K3 R):Su (BC,Pp,t75,t76,t77,lI,ud,ko) kn kx=aS (iE t77 t76) (aS (gU t77 (((ag t75):Nat):Int)) (aS ((cq bP (nth bP t75 (ab t77)) ud).isSome) (kx (xi (lI,ud,ko)).1 (xi (lI,ud,ko)).2) (kn (rJ (BC,Pp,t75,t76,(bV .i64 t77 (1:Int)),lI,ud,ko)))) aJ) (kx (xj (BC,Pp,lI,ud,ko)).1 (xj (BC,Pp,lI,ud,ko)).2):=cT
theorem Z4:sJ.RS:=rL [.d ti,.d (.slice jv),.d ti,.d ti,.n,.d (.slice (.pair bP eR)),.d (.slice cD)] sJ
theorem Hn(X6 t93 t94 t95 Uc aje qs)(kn:K2 R)(kx:K3 R):lH.R 2 sJ (X6,t93,t94,t95,Uc,aje,qs) kn kx=aS (iE t95 t94) (aS (gU t95 (t93.length:Int)) (kn (sJ.st ((dM .i64 X6 (nth jv t93 (ab t95)).1),t93,t94,(bV .i64 t95 1),Uc,aje,qs))) aJ) (sJ.go kx ((Uc,aje,qs),X6)):=cT
theorem ate(t height o0baL o1 o2)(k:K1 R):lH.A (t,height,o0baL,o1,o2) k=aq (ik.call t) λx1=>aS (!x1) (k (lH.out (0,1,o0baL,o1,o2))) (aS (iE height 1) (k (lH.out (0,1,o0baL,o1,o2))) (aS (Ap height 1048576) (k (lH.out (0,1,o0baL,o1,o2))) (aq (tid.call t) λx2=>aq (Hl (height,t,0,t.1,(t.1.length:Int),0,o0baL,o1,o2,x2)) λx4=>aS x4.isLeft (aq x4.getLeft? λa5=>k (lH.out (0,a5.2,a5.1.1,a5.1.2.1,a5.1.2.2))) (aq x4.getRight? λb6=>aq (D7.call b6.1.1) λx7=>aq (Hm (b6.1.1,b6.2,x7,(x7.length:Int),0,b6.1.2.1,b6.1.2.2.1,b6.1.2.2.2)) λx8=>aS x8.isLeft (aq x8.getLeft? λa9=>k (lH.out (0,4,a9.1,a9.2.1,a9.2.2))) (aq x8.getRight? λb10=>aq (sJ.call (b10.2.1,b10.1.2.1,(b10.1.2.1.length:Int),0,b10.2.2.1,b10.2.2.2.1,b10.2.2.2.2)) λamV=>aS (iE amV.2 0) (k (lH.out (0,8,amV.1.1,amV.1.2.1,amV.1.2.2))) (k (lH.out (amV.2,0,amV.1.1,amV.1.2.1,amV.1.2.2)))))))):=cT
theorem adV:Pc:=by
 refine KH (λ(_,_,_,l,_,i,_,_,_,_)=>l.length - i.toNat) ?_
 rintro⟨h,t,jG,l,n,i,o,a,s,id⟩ ⟨⟨aH0,aG0⟩,dg,hl,hu,ha,k,hk,rfl,rfl,aCU,aBr⟩;have aH0:0<=h:=aH0;have aG0:h<=1048576:=aG0;have hl:l.length<=64:=hl;have aCU:0<=jG:=aCU;have aBr:jG<=(k:Int)*1125899906842624:=aBr;have hk:k<=l.length:=hk;by_cases jb:k < l.length
 ·have hx:=hu _ (aX jb);have n1:nth gK l k=l[k]:=dj (t:=gK) jb;have hd:l.drop k=l[k]::l.drop (k+1):=aC jb;cases hg:cq bP l[k].1 a with
  |none=>
   right;refine⟨jB ((o,a,s),5),?_,λkn kx=> ?_⟩;rotate_left
   ·rw[AZ,bm au,ak,bz au au,ak,aa,n1,hg];simp only[qX,fj,ak]
   ·simp only[jA,mM,aa,hd,tT,hg];rfl
  |some c=>
   have hc:=ha.get hg;obtain⟨c1,c2,c3,c4,c5,c6⟩:=hc
   have nG:∀ {R:Type} (kn:AS->Option R) (kx:Exit->AS->Option R),IB (h,t,jG,l,(l.length:Int),(k:Int),o,a,s,id) kn kx=
     aS (G5 (B7 c.1.2.1 l[k].2.1 id h (h - c.2.1)) 0) (kx (jB ((o,a,s),B7 c.1.2.1 l[k].2.1 id h (h - c.2.1))).1 (jB ((o,a,s),B7 c.1.2.1 l[k].2.1 id h (h - c.2.1))).2)
      (kn (oh (h,t,jG+c.1.1,l,(l.length:Int),((k+1:Nat):Int),o,a,s,id))):=λkn kx=>by
    rw[AZ,bm au,ak,bz au au,ak,aa,n1,hg];simp only[Option.isSome_some,cv,ao,dB];rw[gE au au,apd (d:=(c.1.2.1,l[k].2.1,id,h,h - c.2.1)) ⟨c2,by have:=Tt c1;omega,hx.2.1,dg⟩];simp only[ae,bF,aaX];rw[hZ au au,N.pn au]
   by_cases he:B7 c.1.2.1 l[k].2.1 id h (h - c.2.1)=0
   ·left;refine⟨(h,t,jG+c.1.1,l,(l.length:Int),((k+1:Nat):Int),o,a,s,id),⟨⟨aH0,aG0⟩,dg,hl,hu,ha,k+1,au,rfl,rfl,by show 0<=jG+c.1.1;omega,by show jG+c.1.1<=_;omega⟩,by simp only[aa];omega,?_,λkn kx=> ?_⟩
    ·simp only[jA,mM,aa,hd,tT,hg,he,ne_eq,not_true_eq_false,cK]
    ·rw[nG,eJ he,ao]
   ·right;refine⟨jB ((o,a,s),B7 c.1.2.1 l[k].2.1 id h (h - c.2.1)),?_,λkn kx=> ?_⟩;rotate_left
    ·rw[nG,iJ he,ak]
    ·simp only[jA,mM,aa,hd,tT,hg];rw[if_pos he];rfl
 ·right;obtain rfl:k=l.length:=au;refine⟨xg ((t,o,a,s),jG),?_,λkn kx=> ?_⟩;rotate_left
  ·rw[AZ,bn au,ao]
  ·simp only[jA,mM,aa,aU,tT];rfl
theorem adW:Pf:=by
 refine KI (λ(_,_,l,_,i,_,_,_)=>l.length - i.toNat) ?_
 rintro⟨t,jG,l,n,i,o,a,s⟩ ⟨hl,k,hk,rfl,rfl⟩;have hl:l.length<=1000:=hl;have hk:k<=l.length:=hk;by_cases jb:k < l.length
 ·have n1:nth bP l k=l[k]:=dj (t:=bP) jb;have hd:l.drop k=l[k]::l.drop (k+1):=aC jb;cases hg:(cq bP l[k] a).isSome with
  |true=>
   right;refine⟨xi (o,a,s),?_,λkn kx=> ?_⟩;rotate_left
   ·rw[A0,bm au,ak,bz au au,ak,aa,n1,hg,ak]
   ·simp only[kM,om,aa,hd,gb,pC,hg,Bool.true_or,da];rfl
  |false=>
   left;refine⟨(t,jG,l,(l.length:Int),((k+1:Nat):Int),o,a,s),⟨hl,k+1,au,rfl,rfl⟩,by simp only[aa];omega,?_,λkn kx=> ?_⟩
   ·simp only[kM,om,aa,hd,gb,pC,hg,Bool.false_or]
   ·rw[A0,bm au,ak,bz au au,ak,aa,n1,hg,ao,N.pn au]
 ·right;obtain rfl:k=l.length:=au;refine⟨xj (t,jG,o,a,s),?_,λkn kx=> ?_⟩;rotate_left
  ·rw[A0,bn au,ao]
  ·simp only[kM,om,aa,aU,kG,bW,cK];rfl
theorem adX:(lH.mw 2 sJ):=by
 refine(lH.qz 2 sJ) (λ(_,l,_,i,_,_,_)=>l.length - i.toNat) ?_
 rintro⟨jG,l,n,i,o,a,s⟩ ⟨hl,ho,k,hk,rfl,rfl,aCU,aBr⟩;have hl:l.length<=64:=hl;have hk:k<=l.length:=hk;have aCU: -((k:Int)*1125899906842624)<=jG:=aCU;have aBr:jG<=1000000000000000000:=aBr;by_cases jb:k < l.length
 ·left;have n1:nth jv l k=l[k]:=dj (t:=jv) jb;have hd:l.drop k=l[k]::l.drop (k+1):=aC jb;have hx:=ho _ (aX jb);refine⟨(jG - l[k].1,l,(l.length:Int),((k+1:Nat):Int),o,a,s),⟨hl,ho,k+1,au,rfl,rfl,by show _<=jG - l[k].1;omega,by show jG - l[k].1<=_;omega⟩,by simp only[aa];omega,?_,λkn kx=> ?_⟩
  ·simp only[xk,CK,aa,hd,lB,cn,List.sum_cons];rw[Int.sub_sub]
  ·rw[Hn,bm au,ak,bz au au,ak,aa,n1,gE au au,N.pn au]
 ·right;obtain rfl:k=l.length:=au;intro R kn kx;rw[Hn,bn au,ao];simp only[xk,CK,aa,aU,lB,iT,List.sum_nil,pa]
theorem tY{t:dS}(h:iM t=aT):(gq t).length=t.2.1.length:=by unfold gq;rw[if_pos h];simp[DP]
theorem Tf{h:Int}{id:List Int}{a:List (cC×eU)}(ha:Na a):∀(l:List kj) (jG f:Int),tT h id a l jG= .inr f->jG<=f/\f<=jG+(l.length:Int)*1125899906842624
 |[],jG,f,e=>by simp only[tT,Sum.inr.injEq]at e;subst e;simp
 |x::l,jG,f,e=>by
  simp only[tT]at e;cases hg:cq bP x.1 a with
  |none=>rw[hg]at e;cases e
  |some c=>
   rw[hg]at e;simp only at e;split at e
   ·cases e
   ·have hc:=ha.get hg;have:=Tf ha l _ _ e;obtain⟨_,_,c3,c4,_⟩:=hc;rw[aH];omega
theorem atf:lH.Ok:=by
 rintro⟨t,h,n,a,s⟩ ⟨hv,ha⟩;have hv:vW t:=hv;have ha:Na a:=ha;rw[ate,mY (d:=t) hv.1];simp only[ae,bF,o8,bF,Z0,dL];by_cases jd:iM t=aT
 ·rw[jd,cv,ao];obtain⟨⟨_,a2,a3,_⟩,b1,b2⟩:=jo jd;by_cases h1:1<=h
  ·rw[bn au,ao];by_cases h2:h<=1048576
   ·rw[dx au,ao,if_pos ⟨rfl,h1,h2⟩,GR (d:=t) hv];simp only[ae,bF,VR];rw[Z1 (d:=(h,t,0,t.1,(t.1.length:Int),0,n,a,s,wI t)) ⟨⟨by show 0<=h;omega,h2⟩,BF,a2,hv.2.1,ha,0,aP _,rfl,rfl,fb,fb⟩];simp only[ae,jA,mM,bt,aQ];cases hi:tT h (wI t) a t.1 0 with
    |inl e=>
     simp only[Sum.isLeft_inl,ak,Sum.getLeft?_inl,ae]
    |inr jG=>
     have hb:=Tf ha _ _ _ hi;simp only[e7,ao,dT,ae];rw[Zi (d:=t) hv];simp only[ae,bF,RJ];rw[Z2 (d:=(t,jG,gq t,((gq t).length:Int),0,n,a,s)) ⟨by rw[tY jd];omega,0,aP _,rfl,rfl⟩];simp only[ae,kM,om,bt,aQ];by_cases hm:(gq t).any (pC a)=aT
     ·rw[if_pos hm];simp only[Sum.isLeft_inl,ak,Sum.getLeft?_inl,ae,da,hm]
     ·rw[if_neg hm];simp only[e7,ao,dT,ae];rw[Z4 (d:=(jG,t.2.1,(t.2.1.length:Int),0,n,a,s)) ⟨a3,λo ho=>(mP _ _ b2 o ho).1,0,aP _,rfl,rfl,by show -((0:Int)*_)<=jG;omega,by show jG<=_;omega⟩];simp only[ae,xk,CK,bt,aQ];rw[if_neg hm];by_cases hf:jG - lB t.2.1 < 0
      ·rw[bm hf,ak,if_pos hf]
      ·rw[bn hf,ao,if_neg hf]
   ·rw[dX au,ak,if_neg (λe=>h2 e.2.2)]
  ·rw[bm au,ak,if_neg (λe=>h1 e.2.1)]
 ·have hok':iM t=aR:=by simpa using jd
  rw[hok',fj,ak,if_neg (λe=>by cases e.1)]
theorem XY:lH.RS:=rE [.d fg,.d ti,.n,.d (.slice (.pair bP eR)),.d (.slice cD)] lH
def KJ:=lH.gm atf 3 ⟨.gQ adV,⟨.gQ adW,⟨.gQ adX,trivial⟩⟩⟩
def A1(l:List cC)(a:List (cC×eU)):List (cC×eU):=l.foldl (λm o=>j6 bP o m) a
def UU(l:List acK)(a:List (cC×eU)):List (cC×eU):=l.foldl (λm e=>ff bP e.1 e.2.1 m) a
def Cq(a:List (cC×eU))(st:cZ):List (cC×eU):=UU st.1 (A1 st.2.1 a)
abbrev II:=Int×(List cC)×Int×Int×Nat×(List (cC×eU))×(List cZ)
abbrev SB:=(List (cC×eU))
def xo:II->SB->((Int×Nat×(List cZ))×((List (cC×eU)))):=λ(n,t23,t24,t25,o0L,ed,dm) y=>((n,o0L,dm),y)
abbrev IJ:=Int×(List acK)×Int×Int×Nat×(List (cC×eU))×(List cZ)
abbrev SC:=(List (cC×eU))
def xp:IJ->SC->((Int×Nat×(List cZ))×((List (cC×eU)))):=λ(Cr,t42,t43,t44,lI,ud,ko) y=>((Cr,lI,ko),y)
abbrev alu:=Nat×(List (cC×eU))×(List cZ)
def aac:II->Prop:=λ(_,l,n,i,_,_,_)=>l.length<=1000/\∃k:Nat,k<=l.length/\i=k/\n=l.length
def CN:II->SB:=λ(_,l,_,i,_,a,_)=>A1 (l.drop i.toNat) a
def aae:IJ->Prop:=λ(_,l,n,i,_,_,_)=>l.length<=1000/\∃k:Nat,k<=l.length/\i=k/\n=l.length
def CO:IJ->SC:=λ(_,l,_,i,_,a,_)=>UU (l.drop i.toNat) a
def am4(st:cZ):Prop:=st.1.length<=1000/\st.2.1.length<=1000
def aof:alu->Prop:=λ(n,_,s)=>n<=s.length/\s.length<=1000000/\∀st∈s,am4 st
def Rk:alu->(Bool×Nat×(List (cC×eU))×(List cZ)):=λ(n,a,s)=>if n=0 then(aR,n,a,s) else(aT,n - 1,Cq a (nth cD s (n - 1)),s)
def sN:Ls aac xo CN:=xM (λ(n,t23,t24,t25,o0L,ed,dm)=>⟨([.ptr (.bG 0) 0 [] 0,cw,cw,.d ti n]++bg 19 ([.d (.slice bP) t23,.d ti t24,.d ti t25]++bg 40 [])),[dH (.pr (.cP (.bG 1) 0) (.pr (.b8 (.bG 2) 0 [] 0 0 o0L) kO)),dH (.mp bP eR ed),dH (.vec 139 cD dm)],(ai 66 [])⟩) (λx=>(.exit 0,⟨([.ptr (.bG 0) 0 [] 0,cw,cw,.d ti x.1.1]++bg 62 []),[dH (.pr (.cP (.bG 1) 0) (.pr (.b8 (.bG 2) 0 [] 0 0 x.1.2.1) kO)),dH (.mp bP eR x.2),dH (.vec 139 cD x.1.2.2)],(ai 66 [])⟩))
def sO:Ls aae xp CO:=xM (λ(Cr,t42,t43,t44,lI,ud,ko)=>⟨([.ptr (.bG 0) 0 [] 0,cw,cw,.d ti Cr]++bg 38 ([.d (.slice aqX) t42,.d ti t43,.d ti t44]++bg 21 [])),[dH (.pr (.cP (.bG 1) 0) (.pr (.b8 (.bG 2) 0 [] 0 0 lI) kO)),dH (.mp bP eR ud),dH (.vec 139 cD ko)],(ai 66 [])⟩) (λx=>(.exit 2,⟨([.ptr (.bG 0) 0 [] 0,cw,cw,.d ti x.1.1]++bg 62 []),[dH (.pr (.cP (.bG 1) 0) (.pr (.b8 (.bG 2) 0 [] 0 0 x.1.2.1) kO)),dH (.mp bP eR x.2),dH (.vec 139 cD x.1.2.2)],(ai 66 [])⟩))
def y5:Fs Tryz.prog aof bF Rk:=gg 35 Tryz.f35 (λ(o0baL,o1,o2)=>([.ptr (.bG 0) 0 [] 0],[.obj 0 aR (.pr (.cP (.bG 1) 0) (.pr (.b8 (.bG 2) 0 [] 0 0 o0baL) (.d .unit ()))),.obj 0 aR (.mp bP eR o1),.obj 0 aR (.vec 139 cD o2)])) (λx=>⟨.d .bool x.1,[.obj 0 aR (.pr (.cP (.bG 1) 0) (.pr (.b8 (.bG 2) 0 [] 0 0 x.2.1) (.d .unit ()))),.obj 0 aR (.mp bP eR x.2.2.1),.obj 0 aR (.vec 139 cD x.2.2.2)],[]⟩) [aJ] [] {loops:=sk [(5,{bu:=[0,3,23,24,25]}),(10,{bu:=[0,3,42,43,44]})],outs:=sj [(5,{bu:=[0,3]},{bu:=[2]}),(10,{bu:=[0,3]},{bu:=[2]})],gV:=tK [(5,sN.E),(10,sO.E)]}
theorem aad:sN.RS:=rL [.d ti,.d (.slice bP),.d ti,.d ti,.n,.d (.slice (.pair bP eR)),.d (.slice cD)] sN
theorem Hr(n t23 t24 t25 o0L ed dm)(kn:K2 R)(kx:K3 R):y5.R 0 sN (n,t23,t24,t25,o0L,ed,dm) kn kx=aS (iE t25 t24) (aS (gU t25 (t23.length:Int)) (kn (sN.st (n,t23,t24,(bV .i64 t25 1),o0L,(j6 bP (nth bP t23 (ab t25)) ed),dm))) aJ) (sN.go kx ((n,o0L,dm),ed)):=cT
theorem aaf:sO.RS:=rL [.d ti,.d (.slice aqX),.d ti,.d ti,.n,.d (.slice (.pair bP eR)),.d (.slice cD)] sO
theorem Hs(Cr t42 t43 t44 lI ud ko)(kn:K2 R)(kx:K3 R):y5.R 1 sO (Cr,t42,t43,t44,lI,ud,ko) kn kx=aS (iE t44 t43) (aS (gU t44 (t42.length:Int)) (kn (sO.st (Cr,t42,t43,(bV .i64 t44 1),lI,(ff bP (nth aqX t42 (ab t44)).1 (nth aqX t42 (ab t44)).2.1 ud),ko))) aJ) (sO.go kx ((Cr,lI,ko),ud)):=cT
theorem atl(o0baL o1 o2)(k:K1 R):y5.A (o0baL,o1,o2) k=aS (iE (dM .i64 ((o0baL:Nat):Int) 1) 0) (k (y5.out (aR,o0baL,o1,o2))) (aS (gU (dM .i64 ((o0baL:Nat):Int) 1) ((o0baL:Nat):Int)) (aS (decide ((0+(ab (dM .i64 ((o0baL:Nat):Int) 1))) < (ag o2))) (aS (decide ((((0+(ab (dM .i64 ((o0baL:Nat):Int) 1)))*2)+1)=((0+((ab (dM .i64 ((o0baL:Nat):Int) 1))*2))+1))) (aq (sN.call ((dM .i64 ((o0baL:Nat):Int) 1),(nth cD o2 (0+(ab (dM .i64 ((o0baL:Nat):Int) 1)))).2.1,(((ag (nth cD o2 (0+(ab (dM .i64 ((o0baL:Nat):Int) 1)))).2.1):Nat):Int),0,o0baL,o1,o2)) λx1=>aS (gU x1.1.1 ((x1.1.2.1:Nat):Int)) (aS (decide ((0+(ab x1.1.1)) < (ag x1.1.2.2))) (aS (decide ((((0+(ab x1.1.1))*2)+0)=((0+((ab x1.1.1)*2))+0))) (aq (sO.call (x1.1.1,(nth cD x1.1.2.2 (0+(ab x1.1.1))).1,(((ag (nth cD x1.1.2.2 (0+(ab x1.1.1))).1):Nat):Int),0,x1.1.2.1,x1.2,x1.1.2.2)) λx2=>aS (inc x2.1.1 ((x2.1.2.1:Nat):Int)) (k (y5.out (aT,((ab x2.1.1) - 0),x2.2,x2.1.2.2))) aJ) aJ) aJ) aJ) aJ) aJ) aJ):=cT
theorem ad5:(y5.mw 0 sN):=by
 refine(y5.qz 0 sN) (λ(_,l,_,i,_,_,_)=>l.length - i.toNat) ?_
 rintro⟨u,l,n,i,o,a,s⟩ ⟨hl,k,hk,rfl,rfl⟩;have hl:l.length<=1000:=hl;have hk:k<=l.length:=hk;by_cases jb:k < l.length
 ·left;have n1:nth bP l k=l[k]:=dj (t:=bP) jb;have hd:l.drop k=l[k]::l.drop (k+1):=aC jb;refine⟨(u,l,(l.length:Int),((k+1:Nat):Int),o,A1 [l[k]] a,s),⟨hl,k+1,au,rfl,rfl⟩,by simp only[aa];omega,?_,λkn kx=> ?_⟩
  ·simp only[xo,CN,aa,hd,A1,aY,dd]
  ·rw[Hr,bm au,ak,bz au au,ak,aa,n1,N.pn au];rfl
 ·right;obtain rfl:k=l.length:=au;intro R kn kx;rw[Hr,bn au,ao];simp only[xo,CN,aa,aU,A1,dd]
theorem ad6:(y5.mw 1 sO):=by
 refine(y5.qz 1 sO) (λ(_,l,_,i,_,_,_)=>l.length - i.toNat) ?_
 rintro⟨u,l,n,i,o,a,s⟩ ⟨hl,k,hk,rfl,rfl⟩;have hl:l.length<=1000:=hl;have hk:k<=l.length:=hk;by_cases jb:k < l.length
 ·left;have n1:nth aqX l k=l[k]:=dj (t:=aqX) jb;have hd:l.drop k=l[k]::l.drop (k+1):=aC jb;refine⟨(u,l,(l.length:Int),((k+1:Nat):Int),o,UU [l[k]] a,s),⟨hl,k+1,au,rfl,rfl⟩,by simp only[aa];omega,?_,λkn kx=> ?_⟩
  ·simp only[xp,CO,aa,hd,UU,aY,dd]
  ·rw[Hs,bm au,ak,bz au au,ak,aa,n1,N.pn au];rfl
 ·right;obtain rfl:k=l.length:=au;intro R kn kx;rw[Hs,bn au,ao];simp only[xp,CO,aa,aU,UU,dd]
theorem atm:y5.Ok:=by
 rintro⟨n,a,s⟩ ⟨h1,h2,h3⟩;have h1:n<=s.length:=h1;have h2:s.length<=1000000:=h2;have h3:∀st∈s,am4 st:=h3;rw[atl];simp only[bF,Rk];cases n with
 |zero=>
  rw[bm fb,ak];rfl
 |succ m=>
  have e1:dM .i64 (((m+1:Nat):Nat):Int) (1:Int)=(m:Int):=by rw[gE au au];omega
  have hm:m < s.length:=au;have n1:nth cD s m=s[m]:=dj (t:=cD) hm;have hs:=h3 _ (aX hm);rw[e1,bn au,ao,bz au au,ak];simp only[aa,ba,cW,bf hm,ak,cR,n1];rw[aad (d:=((m:Int),s[m].2.1,(s[m].2.1.length:Int),0,m+1,a,s)) ⟨hs.2,0,aP _,rfl,rfl⟩];simp only[ae,xo,CN,bt,aQ];rw[bz au au,ak];simp only[aa,ba,cW,bf hm,ak,cR,n1];rw[aaf (d:=((m:Int),s[m].1,(s[m].1.length:Int),0,m+1,A1 s[m].2.1 a,s)) ⟨hs.1,0,aP _,rfl,rfl⟩];simp only[ae,xp,CO,bt,aQ];rw[qp au au,ak,if_neg au];simp only[aa,Nat.sub_zero,qW,n1,Cq]
theorem X1:y5.RS:=rE [.n,.d (.slice (.pair bP eR)),.d (.slice cD)] y5
def atn:=y5.gm atm 2 ⟨.gQ ad5,⟨.gQ ad6,trivial⟩⟩
abbrev yW:=Int×dS×(List cC)×Int×Int×Nat×(List (cC×eU))×(List cZ)×Nat×((List cC)×Unit)×(List acK)
def rH:yW->AS:=λ(ei,nO,t28,t29,t30,o0L,ed,dm,axV,n9,n45)=>⟨([.ptr (.bG 0) 0 [] 0,cw,.d ti ei,cw,.eN fg nO]++bg 4 ([fI 9]++bg 18 ([.d (.slice bP) t28,.d ti t29,.d ti t30]++bg 54 []))),[dH (.pr (.cP (.bG 1) 0) (.pr (.b8 (.bG 2) 0 [] 0 0 o0L) kO)),dH (.mp bP eR ed),dH (.vec 139 cD dm)],(bK 9 ([dK (.pr (nR 45 axV) (.d (.pair (.slice bP) .unit) n9))]++bK 35 ([dK (.vec 141 aqX n45)]++bK 39 [])))⟩
abbrev Af:=(Int×dS×Nat×(List cZ)×((List cC)×Unit))×((List (cC×eU))×Nat×(List acK))
def xc:Af->Exit×AS:=λ((a,b,c,e,f),g,h,i)=>(.exit 0,⟨([.ptr (.bG 0) 0 [] 0,cw,.d ti a,cw,.eN fg b]++bg 4 ([fI 9]++bg 75 [])),[dH (.pr (.cP (.bG 1) 0) (.pr (.b8 (.bG 2) 0 [] 0 0 c) kO)),dH (.mp bP eR g),dH (.vec 139 cD e)],(bK 9 ([dK (.pr (nR 45 h) (.d (.pair (.slice bP) .unit) f))]++bK 35 ([dK (.vec 141 aqX i)]++bK 39 [])))⟩)
def KC:Af->Out (Exit×AS):=λx=> .ok (xc x)
def mK:yW->((List (cC×eU))×Nat×(List acK))->Af:=λ(ei,nO,t28,t29,t30,o0L,ed,dm,axV,n9,n45) y=>((ei,nO,o0L,dm,n9),y)
abbrev yX:=Int×dS×(List cC)×Int×Int×Nat×(List (cC×eU))×(List cZ)×Nat×((List cC)×Unit)×(List acK)
def rI:yX->AS:=λ(B0,BC,t54,t55,t56,lI,ud,ko,PX,uc,PT)=>⟨([.ptr (.bG 0) 0 [] 0,cw,.d ti B0,cw,.eN fg BC]++bg 4 ([fI 9]++bg 44 ([.d (.slice bP) t54,.d ti t55,.d ti t56]++bg 28 []))),[dH (.pr (.cP (.bG 1) 0) (.pr (.b8 (.bG 2) 0 [] 0 0 lI) kO)),dH (.mp bP eR ud),dH (.vec 139 cD ko)],(bK 9 ([dK (.pr (nR 45 PX) (.d (.pair (.slice bP) .unit) uc))]++bK 35 ([dK (.vec 141 aqX PT)]++bK 39 [])))⟩
abbrev Ag:=(Nat×(List cZ)×Nat×((List cC)×Unit)×(List acK))×((List (cC×eU)))
def xe:Ag->Exit×AS:=λ((a,b,c,e,f),g)=>(.exit 2,⟨([.ptr (.bG 0) 0 [] 0]++bg 8 ([fI 9]++bg 75 [])),[dH (.pr (.cP (.bG 1) 0) (.pr (.b8 (.bG 2) 0 [] 0 0 a) kO)),dH (.mp bP eR g),dH (.vec 139 cD b)],(bK 9 ([dK (.pr (nR 45 c) (.d (.pair (.slice bP) .unit) e))]++bK 35 ([dK (.vec 141 aqX f)]++bK 39 [])))⟩)
def KE:Ag->Out (Exit×AS):=λx=> .ok (xe x)
def mL:yX->((List (cC×eU)))->Ag:=λ(B0,BC,t54,t55,t56,lI,ud,ko,PX,uc,PT) y=>((lI,ko,PX,uc,PT),y)
abbrev Kz:=dS×Int×Nat×(List (cC×eU))×(List cZ)
def Sp:Kz->SA:=λ(t,height,o0baL,o1,o2)=>([.ptr (.bG 0) 0 [] 0,.d fg t,.d ti height],[dH (.pr (.cP (.bG 1) 0) (.pr (.b8 (.bG 2) 0 [] 0 0 o0baL) kO)),dH (.mp bP eR o1),dH (.vec 139 cD o2)])
abbrev aln:=(Int×Nat×(List (cC×eU))×(List cZ))⊕(Int×Nat×(List (cC×eU))×(List cZ))
abbrev ZZ:=(Int×Nat×(List (cC×eU))×(List cZ))⊕(Int×Nat×(List (cC×eU))×(List cZ))
def Gw:ZZ->im:=λx=>match x with | .inl x=>⟨.d ti x.1,[dH (.pr (.cP (.bG 1) 0) (.pr (.b8 (.bG 2) 0 [] 0 0 x.2.1) kO)),dH (.mp bP eR x.2.2.1),dH (.vec 139 cD x.2.2.2)],[]⟩ | .inr x=>⟨.d ti x.1,[dH (.pr (.cP (.bG 1) 0) (.pr (.b8 (.bG 2) 1 [] 0 0 x.2.1) kO)),dH (.mp bP eR x.2.2.1),.obj 1 aR (.vec 139 cD x.2.2.2)],[]⟩
def yE:Kz->aln->ZZ:=λ(t,height,o0baL,o1,o2) y=>match y with | .inl y=> .inl y | .inr y=> .inr y
def wF(a:List (cC×eU)):List cC->List acK
 |[]=> []
 |o::l=>(o,((cq bP o a).getD axK,()))::wF (j6 bP o a) l
def Ij(h:Int):List cC->List lM->List (cC×eU)->List (cC×eU)
 |o::l,x::xs,a=>Ij h l xs (ff bP o (x,(h,())) a)
 |_,_,a=>a
def stepOf(t:dS)(a:List (cC×eU)):cZ:=(wF a (dV t),(gq t,()))
def cm(t:dS)(h:Int)(a:List (cC×eU)):List (cC×eU):=Ij h (gq t) t.2.1 (A1 (dV t) a)
def w9:yW->Prop:=λ(_,_,l,n,i,_,_,_,gL,_,g)=>l.length<=1000/\∃k:Nat,k<=l.length/\i=k/\n=l.length/\gL=g.length/\g.length=k
def ra:yW->((List (cC×eU))×Nat×(List acK)):=λ(_,_,l,_,i,_,a,_,gL,_,g)=>(A1 (l.drop i.toNat) a,gL+(l.drop i.toNat).length,g++wF a (l.drop i.toNat))
def xd:yX->Prop:=λ(_,t,l,n,i,_,_,_,_,_,_)=>l.length<=1000/\l.length=t.2.1.length/\(∀o∈t.2.1,aHw o.2.1)/\∃k:Nat,k<=l.length/\i=k/\n=l.length
def rb:yX->((List (cC×eU))):=λ(h,t,l,_,i,_,a,_,_,_,_)=>Ij h (l.drop i.toNat) (t.2.1.drop i.toNat) a
def Nv:Kz->Prop:=λ(t,_,n,a,s)=>vW t/\Na a/\n<=s.length/\s.length<=1000000
def Gv:Kz->aln:=λ(t,h,n,a,s)=>if(dL t h a).2≠0 then .inl ((dL t h a).2,n,a,s) else .inr (0,n+1,cm t h a,s.take n++ [stepOf t a])
def KA:pZ:=mN (P:=Tryz.prog) [KJ,agN,V7,alh]
def Sj:=ee.gQ rH w9 mK ra KC
def Hh:yW->Option Af:=ji Sj rH
def Sl:=ee.gQ rI xd mL rb KE
def Hj:yX->Option Ag:=ji Sl rI
def EH:wK:= {loops:=sk [(6,{bu:=[0,2,4,9,28,29,30],sites:=[9,45],owns:=[⟨9,[.fst],45,137⟩]}),(12,{bu:=[0,2,4,9,54,55,56],sites:=[9,45]})],outs:=sj [(6,{bu:=[0,2,4,9],sites:=[9,45]},{bu:=[6]}),(12,{bu:=[0,9],sites:=[9,45]},{bu:=[6]})],gV:=tK [(6,Sj),(12,Sl)]}
def alk:= @M9 Tryz.prog KA EH 0 Tryz.f34 _ Sp
abbrev atb:=am0 @alk Nv yE Gv Gw
def Sk:= @fK Tryz.prog KA EH 0 Tryz.f34 0 _ rH
abbrev Pa:=nE Tryz.prog KA EH 0 Tryz.f34 0 rH w9 mK ra KC
def Sn:= @fK Tryz.prog KA EH 0 Tryz.f34 1 _ rI
abbrev Pb:=nE Tryz.prog KA EH 0 Tryz.f34 1 rI xd mL rb KE
theorem ZX:lN Hh w9 mK ra:=qe (oE [.d ti,.d fg,.d (.slice bP),.d ti,.d ti,.n,.d (.slice (.pair bP eR)),.d (.slice cD),.n,.d (.pair (.slice bP) .unit),.d (.slice aqX)] λ_=>cT)
theorem KB:arF @Sk rH w9 mK ra xc Pa:=aCp
theorem Hi(ei nO t28 t29 t30 o0L ed dm axV n9 n45)(kn:K2 R)(kx:K3 R):Sk (ei,nO,t28,t29,t30,o0L,ed,dm,axV,n9,n45) kn kx=aS (iE t30 t29) (aS (gU t30 (((ag t28):Nat):Int)) (aS (decide (axV<=(ag n45))) (aS (ea (axV+1) 80) (kn (rH (ei,nO,t28,t29,(bV .i64 t30 (1:Int)),o0L,(j6 bP (nth bP t28 (ab t30)) ed),dm,(axV+1),n9,((bj axV n45)++ [((nth bP t28 (ab t30)),(((cq bP (nth bP t28 (ab t30)) ed).getD (((0:Int),((([]:List tG),()),())),((0:Int),()))),()))])))) aJ) aJ) aJ) (kx (xc ((ei,nO,o0L,dm,n9),(ed,axV,n45))).1 (xc ((ei,nO,o0L,dm,n9),(ed,axV,n45))).2):=cT
theorem ZY:lN Hj xd mL rb:=qe (oE [.d ti,.d fg,.d (.slice bP),.d ti,.d ti,.n,.d (.slice (.pair bP eR)),.d (.slice cD),.n,.d (.pair (.slice bP) .unit),.d (.slice aqX)] λ_=>cT)
theorem KD:arF @Sn rI xd mL rb xe Pb:=aCp
theorem Hk(B0 BC t54 t55 t56 lI ud ko PX uc PT)(kn:K2 R)(kx:K3 R):Sn (B0,BC,t54,t55,t56,lI,ud,ko,PX,uc,PT) kn kx=aS (iE t56 t55) (aS (gU t56 (((ag t54):Nat):Int)) (aS (gU t56 (((ag BC.2.1):Nat):Int)) (aq (QO.call (nth jv BC.2.1 (ab t56))) λx1=>kn (rI (B0,BC,t54,t55,(bV .i64 t56 (1:Int)),lI,(ff bP (nth bP t54 (ab t56)) (x1,(B0,())) ud),ko,PX,uc,PT))) aJ) aJ) (kx (xe ((lI,ko,PX,uc,PT),ud)).1 (xe ((lI,ko,PX,uc,PT),ud)).2):=cT
theorem atc(t height o0baL o1 o2)(k:K1 R):alk (t,height,o0baL,o1,o2) k=aq (lH.call (t,height,o0baL,o1,o2)) λx1=>aS (G5 x1.2.1 (0:Int)) (k (Gw (.inl (x1.2.1,x1.2.2.1,x1.2.2.2.1,x1.2.2.2.2)))) (aq (D7.call t) λx2=>aq (qP.call t) λx3=>aq (Hh (height,t,x3,(((ag x3):Nat):Int),(0:Int),x1.2.2.1,x1.2.2.2.1,x1.2.2.2.2,0,(x2,()),([]:List acK))) λx4=>aq (Hj (x4.1.1,x4.1.2.1,x4.1.2.2.2.2.1,(((ag x4.1.2.2.2.2.1):Nat):Int),(0:Int),x4.1.2.2.1,x4.2.1,x4.1.2.2.2.1,x4.2.2.1,x4.1.2.2.2.2,x4.2.2.2)) λx6=>aS (decide (0=0/\(0+x6.1.2.2.1)<=(ag x6.1.2.2.2.2))) (aS (decide (x6.1.1<=(ag x6.1.2.1))) (aS (ea (x6.1.1+1) 48) (k (Gw (.inr ((0:Int),(x6.1.1+1),x6.2,((bj x6.1.1 x6.1.2.1)++ [((cut x6.1.2.2.2.2 0 x6.1.2.2.1),x6.1.2.2.2.1)]))))) aJ) aJ) aJ):=cT
theorem adT:Pa:=by
 refine KB (λ(_,_,l,_,i,_,_,_,_,_,_)=>l.length - i.toNat) ?_
 rintro⟨h,t,l,n,i,o,a,s,gL,u,g⟩ ⟨hl,k,hk,rfl,rfl,rfl,hg⟩;have hl:l.length<=1000:=hl;have hk:k<=l.length:=hk;have hg:g.length=k:=hg;by_cases jb:k < l.length
 ·left;have n1:nth bP l k=l[k]:=dj (t:=bP) jb;have hd:l.drop k=l[k]::l.drop (k+1):=aC jb;refine⟨(h,t,l,(l.length:Int),((k+1:Nat):Int),o,j6 bP l[k] a,s,g.length+1,u,g++ [(l[k],((cq bP l[k] a).getD axK,()))]),⟨hl,k+1,au,rfl,rfl,by simp,by simp[hg]⟩,by simp only[aa];omega,?_,λkn kx=> ?_⟩
  ·simp only[mK,ra,aa,hd,A1,aY,wF,aM,dQ,aH];rw[show g.length+1+(l.drop (k+1)).length=g.length+((l.drop (k+1)).length+1) by omega]
  ·rw[Hi,bm au,ak,bz au au,ak,bf (aF _),ak,eW au au,ak,aa,n1,N.pn au,cJ];rfl
 ·right;obtain rfl:k=l.length:=au;intro R kn kx;rw[Hi,bn au,ao];simp only[mK,ra,aa,aU,A1,dd,wF,bO,bB,cW]
theorem adU:Pb:=by
 refine KD (λ(_,_,l,_,i,_,_,_,_,_,_)=>l.length - i.toNat) ?_
 rintro⟨h,t,l,n,i,o,a,s,gL,u,g⟩ ⟨hl,he,hb,k,hk,rfl,rfl⟩;have hl:l.length<=1000:=hl;have he:l.length=t.2.1.length:=he;have hk:k<=l.length:=hk;by_cases jb:k < l.length
 ·left;have aC5:k < t.2.1.length:=au;have n1:nth bP l k=l[k]:=dj (t:=bP) jb;have n2:nth jv t.2.1 k=t.2.1[k]:=dj (t:=jv) aC5;have hd:l.drop k=l[k]::l.drop (k+1):=aC jb;have aGV:t.2.1.drop k=t.2.1[k]::t.2.1.drop (k+1):=aC aC5;refine⟨(h,t,l,(l.length:Int),((k+1:Nat):Int),o,ff bP l[k] (t.2.1[k],(h,())) a,s,gL,u,g),⟨hl,he,hb,k+1,au,rfl,rfl⟩,by simp only[aa];omega,?_,λkn kx=> ?_⟩
  ·simp only[mL,rb,aa,hd,aGV,Ij]
  ·rw[Hk,bm au,ak,bz au au,ak,bz au au,ak,aa,n1,n2,adN (d:=t.2.1[k]) (hb _ (aX aC5))];simp only[ae,bF,ah5];rw[N.pn au]
 ·right;obtain rfl:k=l.length:=au;intro R kn kx;rw[Hk,bn au,ao];simp only[mL,rb,aa,aU,Ij]
theorem Gr{t:dS}{h:Int}{a:List (cC×eU)}(e:(dL t h a).2=0):iM t=aT/\1<=h/\h<=1048576/\∃jG,tT h (wI t) a t.1 0= .inr jG/\(gq t).any (pC a)=aR/\0<=jG - lB t.2.1/\dL t h a=(jG - lB t.2.1,0):=by
 unfold dL at e ⊢;by_cases h0:iM t=aT/\1<=h/\h<=1048576
 ·rw[if_pos h0]at e;rw[if_pos h0];refine⟨h0.1,h0.2.1,h0.2.2,?_⟩;cases hi:tT h (wI t) a t.1 0 with
  |inl x=>
   exfalso;rw[hi]at e;simp only at e;subst e;have key:∀(l:List kj) (f:Int),tT h (wI t) a l f≠ .inl 0:=by
    intro l
    induction l with
    |nil=>intro f hf;cases hf
    |cons x l ih=>
     intro f hf;simp only[tT]at hf;cases hg:cq bP x.1 a with
     |none=>rw[hg]at hf;simp at hf
     |some c=>
      rw[hg]at hf;simp only at hf;split at hf
      ·rename_i gJ;exact gJ (by injection hf)
      ·exact ih _ hf
   exact key _ _ hi
  |inr jG=>
   rw[hi]at e;simp only at e ⊢;by_cases hm:(gq t).any (pC a)=aT
   ·rw[if_pos hm]at e;cases e
   ·rw[if_neg hm]at e;rw[if_neg hm];by_cases hf:jG - lB t.2.1 < 0
    ·rw[if_pos hf]at e;cases e
    ·rw[if_neg hf];exact⟨jG,rfl,by simpa using hm,au,rfl⟩
 ·rw[if_neg h0]at e;cases e
theorem Th{t:dS}(h:iM t=aT):(dV t).length=t.1.length:=by unfold dV;rw[if_pos h,cF]
theorem atd:atb:=by
 rintro⟨t,h,n,a,s⟩ ⟨hv,ha,hn,hs⟩;have hv:vW t:=hv;have ha:Na a:=ha;have hn:n<=s.length:=hn;have hs:s.length<=1000000:=hs;rw[atc,XY (d:=(t,h,n,a,s)) ⟨hv,ha⟩];simp only[ae,bF,Z0,yE,Gv];by_cases he:(dL t h a).2=0
 ·rw[eJ he,ao,if_neg (λe=>e he)];obtain⟨jd,_,_,_⟩:=Gr he;obtain⟨⟨_,a2,a3,_⟩,b1,b2⟩:=jo jd;rw[Zi (d:=t) hv];simp only[ae,bF,RJ];rw[QJ (d:=t) hv.1];simp only[ae,bF,GU];rw[ZX (d:=(h,t,dV t,((dV t).length:Int),0,n,a,s,0,(gq t,()),[])) ⟨by rw[Th jd];omega,0,aP _,rfl,rfl,rfl,rfl⟩];simp only[ae,mK,ra,bt,aQ,aV,ba];rw[ZY (d:=(h,t,gq t,((gq t).length:Int),0,n,A1 (dV t) a,s,(dV t).length,(gq t,()),wF a (dV t))) ⟨by rw[tY jd];omega,tY jd,λo ho=>by
   have:=Tt (mP _ _ b2 o ho).2;exact⟨au,λb hb=>by have:=this.2 b hb;omega⟩,0,aP _,rfl,rfl⟩]
  simp only[ae,mL,rb,bt,aQ];have aGZ:∀(l:List cC) (a:List (cC×eU)),(wF a l).length=l.length:=by
   intro l
   induction l with
   |nil=>intro a;rfl
   |cons o l ih=>intro a;simp[wF,ih]
  rw[bf (by rw[aGZ];exact⟨trivial,au⟩),ak,bf hn,ak,eW au au,ak,fp (aGZ _ _)];rfl
 ·rw[iJ he,ak,if_pos he]
def alm:=Entry.ai4 [aJ,al fg,al ti] Sp Nv yE Gv Gw
def re:Kz->Option ZZ:=O3 alm Sp
theorem aoa:lN re Nv yE Gv:=amH (aeQ [.d fg,.d ti,.n,.d (.slice (.pair bP eR)),.d (.slice cD)] λ_=>cT)
def KF:SG Tryz.prog:=⟨34,qD,alm,.of (.aGx (.fn 2 cT atd (And.intro (.gQ adT cT) (And.intro (.gQ adU cT) trivial)))) (by rfl)⟩
theorem awW(k:Int)(m:List Int):aB8 (mn k m):=by
 unfold mn;split
 ·exact⟨(aAO _).u,(akT _ _).u⟩
 ·exact⟨⟨fx 0,fb⟩,fx 0,fb⟩
theorem aen:∀(l l':List kj) (b:List Int),l.map (·.1)=l'.map (·.1)->l.foldl Rs b=l'.foldl Rs b
 |[],[],_,_=>rfl
 |[],_::_,_,h=>by cases h
 |_::_,[],_,h=>by cases h
 |x::l,y::l',b,h=>by
  rw[cn,cn,cz]at h;have e:Rs b x=Rs b y:=by unfold Rs;rw[h.1]
  rw[aY,aY,e,aen l l' _ h.2]
theorem ap8{l l':List kj}(t:List lM×Int×Unit)(h:l.map (·.1)=l'.map (·.1)):wg (l,t)=wg (l',t):=by
 have hl:l.length=l'.length:=by have:=bE ag h;simpa using this
 unfold wg;simp only[hl];rw[aen l l' _ h]
theorem aeR:∀(l l':List kj) (m:List (cC×Bool)),l.map (·.1)=l'.map (·.1)->Eh m l=aT->(∀x∈l',Ea x.2.1=aT)->Eh m l'=aT
 |[],[],_,_,_,_=>rfl
 |[],_::_,_,h,_,_=>by cases h
 |_::_,[],_,h,_,_=>by cases h
 |x::l,y::l',m,h,hi,hw=>by
  rw[cn,cn,cz]at h;rw[Eh,av,av]at hi ⊢;have hx:=hi.1.2;unfold S7 at hx;rw[av]at hx;refine⟨⟨?_,?_⟩,?_⟩
  ·have:=hi.1.1;unfold Pt at this ⊢;rw[<-h.1];exact this
  ·unfold S7;rw[<-h.1,hx.1,hw y aL];rfl
  ·rw[<-h.1];exact aeR l l' _ h.2 hi.2 λz hz=>hw z (aK _ hz)
theorem axz{l l':List kj}{t:List lM×Int×Unit}(h:l.map (·.1)=l'.map (·.1))(jd:iM (l,t)=aT)(hw:∀x∈l',Ea x.2.1=aT):iM (l',t)=aT:=by
 have hl:l.length=l'.length:=by have:=bE ag h;simpa using this
 unfold iM acq at jd ⊢;rw[av,av]at jd ⊢;simp only[hl]at jd;exact⟨jd.1,aeR l l' _ h jd.2.1 hw,jd.2.2⟩
theorem amP{l l':List kj}{t:List lM×Int×Unit}(h:l.map (·.1)=l'.map (·.1))(h1:iM (l,t)=aT)(h2:iM (l',t)=aT):wI (l',t)=wI (l,t):=by unfold wI;rw[h1,h2,ap8 t h]
theorem akj{l l':List kj}{t:List lM×Int×Unit}(h:l.map (·.1)=l'.map (·.1))(h1:iM (l,t)=aT)(h2:iM (l',t)=aT):dV (l',t)=dV (l,t):=by unfold dV;rw[h1,h2];exact h.symm
theorem au3{l l':List kj}{t:List lM×Int×Unit}(h:l.map (·.1)=l'.map (·.1))(h1:iM (l,t)=aT)(h2:iM (l',t)=aT):gq (l',t)=gq (l,t):=by unfold gq;rw[h1,h2,amP h h1 h2]
def Q9(t:dS)(k:Nat)(w:Re):dS:=(t.1.set k ((nth gK t.1 k).1,w,()),t.2)
theorem MB(l:List kj)(k:Nat)(w:Re)(h:k < l.length):l.map (·.1)=(l.set k ((nth gK l k).1,w,())).map (·.1):=by
 have n1:nth gK l k=l[k]:=dj (t:=gK) h;rw[n1,List.map_set];have e:(l[k].1:cC)=(l.map (·.1))[k]'(by rw[cF];exact h):=by rw[List.getElem_map]
 show _=(l.map (·.1)).set k l[k].1;rw[e,gz]
theorem agq{l:List kj}{k:Nat}{w:Re}{x:kj}(h:k < l.length)(hx:x∈l.set k ((nth gK l k).1,w,())):x∈l\/(x.1=l[k].1/\x.2.1=w):=by
 have n1:nth gK l k=l[k]:=dj (t:=gK) h;rw[n1]at hx;rcases List.mem_or_eq_of_mem_set hx with h1 | h1
 ·exact .inl h1
 ·exact .inr ⟨by rw[h1],by rw[h1]⟩
theorem RI{t:dS}{k:Nat}{w:Re}(h:k < t.1.length)(jd:iM t=aT)(hw:Ea w=aT):iM (Q9 t k w)=aT:=by
 obtain⟨_,b1,_⟩:=jo jd;refine axz (l:=t.1) (MB t.1 k w h) jd λx hx=> ?_
 rcases agq h hx with h1 | h1
 ·have:=oF _ _ b1 x h1;unfold S7 at this;rw[av]at this;exact this.2
 ·rw[h1.2];exact hw
theorem aDS{t:dS}{k:Nat}{w:Re}(h:k < t.1.length)(hv:vW t)(hu:RL w)(hl:w.2.1.length<=9223372036854775807):vW (Q9 t k w):=by
 refine⟨⟨hv.1.1,by show(t.1.set k _).length<=_;rw[List.length_set];exact hv.1.2.1,hv.1.2.2⟩,λx hx=> ?_,hv.2.2⟩;rcases agq h hx with h1 | h1
 ·exact hv.2.1 x h1
 ·refine⟨?_,by rw[h1.2];exact hu,by rw[h1.2];exact hl⟩;rw[h1.1];exact(hv.2.1 _ (aX h)).1
theorem aAC{t:dS}{k:Nat}{w:Re}(h:k < t.1.length)(jd:iM t=aT)(hw:Ea w=aT):wI (Q9 t k w)=wI t/\dV (Q9 t k w)=dV t/\gq (Q9 t k w)=gq t:=⟨amP (l:=t.1) (MB t.1 k w h) jd (RI h jd hw),akj (l:=t.1) (MB t.1 k w h) jd (RI h jd hw),au3 (l:=t.1) (MB t.1 k w h) jd (RI h jd hw)⟩
def W7(t:dS)(br:Int)(ks:List Int)(sc:Int):Re:=(br,ks.map (λk=>mn k (wI t)),sc,())
theorem awY(t:dS)(i br:Int)(ks:List Int)(sc:Int):awX t i br ks sc=if Dv t i br ks then(Q9 t i.toNat (W7 t br ks sc),0) else(([],[],0,()),1):=rfl
theorem agu{t:dS}{i br:Int}{ks:List Int}(h:Dv t i br ks=aT):iM t=aT/\(0<=i/\i < t.1.length/\0<=br/\br < 4/\ks.length<=12)/\∀k∈ks,k < 2305843009213688669/\k≠0:=by unfold Dv at h;simp only[av,aW,ct]at h;refine⟨h.1,h.2.1,λk hk=> ?_⟩;have:=h.2.2;rw[jg]at this;have:=this k hk;unfold Ik at this;simpa using this
theorem aAE{t:dS}{i br:Int}{ks:List Int}(sc:Int)(h:Dv t i br ks=aT):Ea (W7 t br ks sc)=aT:=by have e:=(agu h).2.1;unfold Ea W7;rw[bf ⟨e.2.2.1,e.2.2.2.1⟩,bf (by rw[cF];exact e.2.2.2.2)];rfl
theorem aDV(t:dS)(br:Int)(ks:List Int){sc:Int}(h:nY sc):RL (W7 t br ks sc):=⟨λs hs=>by
  obtain⟨k,_,rfl⟩:=dO.1 (show s∈ks.map λk=>mn k (wI t) from hs);exact awW k _,h⟩
theorem awZ{t:dS}{i br sc:Int}{ks:List Int}(hv:vW t)(h:Dv t i br ks=aT)(hs:nY sc):
  iM (Q9 t i.toNat (W7 t br ks sc))=aT/\vW (Q9 t i.toNat (W7 t br ks sc))/\wI (Q9 t i.toNat (W7 t br ks sc))=wI t/\dV (Q9 t i.toNat (W7 t br ks sc))=dV t/\gq (Q9 t i.toNat (W7 t br ks sc))=gq t:=by
 obtain⟨jd,e,_⟩:=agu h;have hk:i.toNat < t.1.length:=au;have hw:=aAE sc h;exact⟨RI hk jd hw,aDS hk hv (aDV t br ks hs) (by show(ks.map _).length<=_;rw[cF];omega),aAC hk jd hw⟩
abbrev BN:=Bs×Bs×Int×Int
def qZ:BN->AS:=λ(aj2,aj3,t12,t13)=>⟨([.d tB aj2,.d tB aj3]++bg 10 ([.d ti t12,.d ti t13]++bg 12 [])),[],(ai 26 [])⟩
def rC:Unit->Exit×AS:=λx=>(.ret,⟨(bg 4 ([.d .bool aR]++bg 21 [])),[],(ai 26 [])⟩)
def zZ:Unit->Exit×AS:=λx=>(.exit 0,⟨(bg 26 []),[],(ai 26 [])⟩)
abbrev Ng:=(Unit)⊕(Unit)
abbrev XG:=(Unit)⊕(Unit)
def Es:Ng->Out (Exit×AS):=λx=> .br x.isLeft (.get x.getLeft? λa=> .ok (rC a)) (.get x.getRight? λb=> .ok (zZ b))
def l9:BN->XG->Ng:=λ(aj2,aj3,t12,t13) y=>match y with | .inl y=> .inl y | .inr z=> .inr (z)
def zY:BN->Prop:=λ(a,b,m,i)=>a.length<=1000000000/\a.length=b.length/\m=a.length/\∃k:Nat,k<=a.length/\i=k
def rB:BN->XG:=λ(a,b,m,i)=>if a.drop i.toNat=b.drop i.toNat then .inr () else .inl ()
def arX:(Bs×Bs)->Prop:=λ(a,b)=>a.length<=1000000000
def ahy:(Bs×Bs)->Bool:=λ(a,b)=>decide (a=b)
def XF:=ee.gQ qZ zY l9 rB Es
def J4:BN->Option Ng:=ji XF qZ
def Nd:Fs Tryz.prog arX bF ahy:=gg 157 Tryz.f157 (λ(s1,s2)=>([.d tB s1,.d tB s2],[])) (λx=>⟨.d .bool x,[],[]⟩) [al tB,al tB] [] {loops:=sk [(4,{bu:=[0,1,12,13]})],outs:=sj [(4,{},{bu:=[4]})],gV:=tK [(4,XF)]}
def Nf:= @fK Tryz.prog (mN Nd.G) Nd.an 0 Tryz.f157 0 _ qZ
abbrev RV:=nE Tryz.prog (mN Nd.G) Nd.an 0 Tryz.f157 0 qZ zY l9 rB Es
theorem ac6:lN J4 zY l9 rB:=qe (oE [.d tB,.d tB,.d ti,.d ti] λ_=>cT)
theorem Nh:sx @Nf qZ zY l9 rB Es RV:=tI
theorem J5(aj2 aj3 t12 t13)(kn:K2 R)(kx:K3 R):Nf (aj2,aj3,t12,t13) kn kx=aS (iE t13 t12) (aS (gU t13 (((ag aj2):Nat):Int)) (aS (gU t13 (((ag aj3):Nat):Int)) (aS (G5 (nth tb aj2 (ab t13)) (nth tb aj3 (ab t13))) (kx (rC ()).1 (rC ()).2) (kn (qZ (aj2,aj3,t12,(bV .i64 t13 (1:Int)))))) aJ) aJ) (kx (zZ ()).1 (zZ ()).2):=cT
theorem ax8(s1 s2)(k:K1 R):Nd.A (s1,s2) k=aS (G5 (s1.length:Int) (s2.length:Int)) (k (Nd.out aR)) (aq (J4 (s1,s2,(s1.length:Int),0)) λx1=>aS x1.isLeft (aq x1.getLeft? λa2=>k (Nd.out aR)) (aq x1.getRight? λb3=>k (Nd.out aT))):=cT
theorem ahz:RV:=by
 refine Nh (λ(a,b,m,i)=>a.length - i.toNat) ?_
 rintro⟨a,b,m,i⟩ ⟨hl,acG,rfl,k,hk,rfl⟩;have hl:a.length<=1000000000:=hl;have acG:a.length=b.length:=acG;have hk:k<=a.length:=hk;by_cases h:k < a.length
 ·have h2:k < b.length:=au;have n1:nth (.int .u8) a k=a[k]:=dj (t:=(.int .u8)) h;have n2:nth (.int .u8) b k=b[k]:=dj (t:=(.int .u8)) h2;have hd:(a.drop k=b.drop k)=(a[k]=b[k]/\a.drop (k+1)=b.drop (k+1)):=by rw[aC h,aC h2,cz]
  have step:∀ {R:Type} (kn:AS->Option R) (kx:Exit->AS->Option R),Nf (a,b,(a.length:Int),(k:Int)) kn kx=if a[k]=b[k] then kn (qZ (a,b,(a.length:Int),((k+1:Nat):Int))) else kx (rC ()).1 (rC ()).2:=by
   intro R kn kx;rw[J5,bm au,bz au au,bz au au,aa,n1,n2,N.pn au];simp only[ak];by_cases hx:a[k]=b[k]
   ·rw[eJ hx,if_pos hx];rfl
   ·rw[iJ hx,if_neg hx];rfl
  by_cases hx:a[k]=b[k]
  ·left;refine⟨(a,b,(a.length:Int),((k+1:Nat):Int)),⟨hl,acG,rfl,k+1,au,rfl⟩,by simp only[aa];omega,?_,λkn kx=> ?_⟩
   ·simp only[l9,rB,aa,hd,hx,zP]
   ·rw[step,if_pos hx]
  ·right;refine⟨rC (),?_,λkn kx=> ?_⟩
   ·simp only[l9,rB,aa,hd,hx,false_and,cK];rfl
   ·rw[step,if_neg hx]
 ·right;obtain rfl:k=a.length:=au;refine⟨zZ (),?_,λkn kx=> ?_⟩
  ·simp only[l9,rB,aa,aU];rw[acG,aU,if_pos rfl];rfl
  ·rw[J5,bn au,ao]
theorem ax9:Nd.Ok:=by
 rintro⟨a,b⟩ hl;have hl:a.length<=1000000000:=hl;rw[ax8];simp only[bF,ahy];by_cases h:a.length=b.length
 ·rw[eJ au,ao,ac6 (d:=(a,b,(a.length:Int),0)) ⟨hl,h,rfl,0,aP _,rfl⟩];simp only[ae,l9,rB,bt,aQ];by_cases hx:a=b
  ·rw[if_pos hx,bf hx];rfl
  ·rw[if_neg hx,bI hx];rfl
 ·rw[iJ au,bI (λx=>h (by rw[x]))];rfl
theorem arY:Nd.RS:=rE [.d tB,.d tB] Nd
def aya:=Nd.gm ax9 1 ⟨.gQ ahz,trivial⟩
theorem arZ(t:Ty)(x:t.den)(h:t.comp=aT):t.beq x x=aT:=beq_refl t x h
theorem ayc(t:Ty)(hc:t.comp=aT)(x y:t.den) [Decidable (x=y)]:t.beq x y=decide (x=y):=by
 by_cases h:x=y
 ·subst h;rw[bf rfl,arZ t x hc]
 ·rw[bI h];cases hb:t.beq x y
  ·rfl
  ·exact absurd (beq_eq t x y hc hb) h
theorem aCe(x y:cC):Ty.beq bP x y=decide (x=y):= @ayc bP rfl x y (inferInstanceAs (Decidable (x=y)))
def u6(x:kj):Bool:=decide (x.2.1.2.1.length<=14)
def u5(b:tG):Bool:=decide (b.1.length<=14)
def qA(o:lM):Bool:=decide (o.2.1.1.length<=6) && o.2.1.1.all u5
def oV(t:dS):Bool:=decide (t.1.length<=66/\t.2.1.length<=66) && (t.1.all u6 && t.2.1.all qA)
abbrev qu:=dS×Int
def j9:qu->AS:=λ(nO,i)=>⟨([cw,.eN fg nO,cw,.d ti i]++bg 69 []),[],(ai 73 [])⟩
def kB:Unit->Exit×AS:=λx=>(.ret,⟨([cw,cw,.d .bool aR]++bg 70 []),[],(ai 73 [])⟩)
def qI:dS->Exit×AS:=λx=>(.exit 0,⟨([cw,.eN fg x]++bg 71 []),[],(ai 73 [])⟩)
abbrev Bo:=(Unit)⊕(dS)
abbrev HV:=(Unit)⊕(Unit)
def wi:Bo->Out (Exit×AS):=λx=> .br x.isLeft (.get x.getLeft? λa=> .ok (kB a)) (.get x.getRight? λb=> .ok (qI b))
def iv:qu->HV->Bo:=λ(nO,i) y=>match y with | .inl y=> .inl y | .inr z=> .inr (nO)
abbrev qv:=dS×Int
def ka:qv->AS:=λ(BC,ahf)=>⟨([cw,.eN fg BC,cw,cw,.d ti ahf]++bg 68 []),[],(ai 73 [])⟩
def iC:Unit->Exit×AS:=λx=>(.ret,⟨([cw,cw,.d .bool aR]++bg 70 []),[],(ai 73 [])⟩)
def qK:Unit->Exit×AS:=λx=>(.exit 2,⟨(bg 73 []),[],(ai 73 [])⟩)
abbrev Bq:=(Unit)⊕(Unit)
abbrev HX:=(Unit)⊕(Unit)
def wj:Bq->Out (Exit×AS):=λx=> .br x.isLeft (.get x.getLeft? λa=> .ok (iC a)) (.get x.getRight? λb=> .ok (qK b))
def iw:qv->HX->Bq:=λ(BC,ahf) y=>match y with | .inl y=> .inl y | .inr z=> .inr (z)
abbrev qw:=dS×Int×Int
def kc:qw->AS:=λ(aqY,aoQ,kv)=>⟨([cw,.eN fg aqY,cw,cw,.d ti aoQ,.d ti kv]++bg 67 []),[],(ai 73 [])⟩
def kC:Unit->Exit×AS:=λx=>(.ret,⟨([cw,cw,.d .bool aR]++bg 70 []),[],(ai 73 [])⟩)
def qM:(dS×Int)->Exit×AS:=λx=>(.exit 4,⟨([cw,.eN fg x.1,cw,cw,.d ti x.2]++bg 68 []),[],(ai 73 [])⟩)
abbrev Bu:=(Unit)⊕((dS×Int))
abbrev HZ:=(Unit)⊕(Unit)
def wk:Bu->Out (Exit×AS):=λx=> .br x.isLeft (.get x.getLeft? λa=> .ok (kC a)) (.get x.getRight? λb=> .ok (qM b))
def iD:qw->HZ->Bu:=λ(aqY,aoQ,kv) y=>match y with | .inl y=> .inl y | .inr z=> .inr ((aqY,aoQ))
def qH:qu->Prop:=λ(t,i)=>t.1.length<=1000000000/\∃k:Nat,k<=t.1.length/\i=k
def jL:qu->HV:=λ(t,i)=>if(bT (ab i) t.1).all u6 then .inr () else .inl ()
def qL:qw->Prop:=λ(t,j,i)=>(nth jv t.2.1 (ab j)).2.1.1.length<=1000000000/\∃k:Nat,k<=(nth jv t.2.1 (ab j)).2.1.1.length/\i=k/\(0<=j/\j < (t.2.1.length:Int))
def jN:qw->HZ:=λ(t,j,i)=>if(bT (ab i) (nth jv t.2.1 (ab j)).2.1.1).all u5 then .inr () else .inl ()
def qJ:qv->Prop:=λ(t,i)=>t.2.1.length<=1000000000/\∃k:Nat,k<=t.2.1.length/\i=k
def jM:qv->HX:=λ(t,i)=>if(bT (ab i) t.2.1).all qA then .inr () else .inl ()
def abP:dS->Prop:=λ_=>True
def Jy:dS->Bool:=λt=>oV t
def HU:=ee.gQ j9 qH iv jL wi
def Cg:qu->Option Bo:=ji HU j9
def HW:=ee.gQ ka qJ iw jM wj
def Ci:qv->Option Bq:=ji HW ka
def HY:=ee.gQ kc qL iD jN wk
def Ck:qw->Option Bu:=ji HY kc
def fW:Fs Tryz.prog abP bF Jy:=gg 25 Tryz.f25 (λt=>([.d fg t],[])) (λx=>⟨.d .bool x,[],[]⟩) [al fg] [] {loops:=sk [(4,{bu:=[1,3]}),(9,{bu:=[1,4]}),(14,{bu:=[1,4,5]})],outs:=sj [(4,{bu:=[1]},{bu:=[2]}),(9,{},{bu:=[2]}),(14,{bu:=[1,4]},{bu:=[2]})],gV:=tK [(4,HU),(9,HW),(14,HY)]}
def Bn:= @fK Tryz.prog (mN fW.G) fW.an 0 Tryz.f25 0 _ j9
abbrev Fx:=nE Tryz.prog (mN fW.G) fW.an 0 Tryz.f25 0 j9 qH iv jL wi
def Bp:= @fK Tryz.prog (mN fW.G) fW.an 0 Tryz.f25 1 _ ka
abbrev Fz:=nE Tryz.prog (mN fW.G) fW.an 0 Tryz.f25 1 ka qJ iw jM wj
def Br:= @fK Tryz.prog (mN fW.G) fW.an 0 Tryz.f25 2 _ kc
abbrev FB:=nE Tryz.prog (mN fW.G) fW.an 0 Tryz.f25 2 kc qL iD jN wk
theorem Q3:lN Cg qH iv jL:=qe (oE [.d fg,.d ti] λ_=>cT)
theorem Fy:sx @Bn j9 qH iv jL wi Fx:=tI
theorem Ch(nO i)(kn:K2 R)(kx:K3 R):Bn (nO,i) kn kx=aS (iE i (((ag nO.1):Nat):Int)) (aS (gU i (((ag nO.1):Nat):Int)) (aS (Ap (((ag (nth gK nO.1 (ab i)).2.1.2.1):Nat):Int) (14:Int)) (kx (kB ()).1 (kB ()).2) (kn (j9 (nO,(bV .i64 i (1:Int)))))) aJ) (kx (qI nO).1 (qI nO).2):=cT
theorem Q4:lN Ci qJ iw jM:=qe (oE [.d fg,.d ti] λ_=>cT)
theorem FA:sx @Bp ka qJ iw jM wj Fz:=tI
theorem Cj(BC ahf)(kn:K2 R)(kx:K3 R):Bp (BC,ahf) kn kx=aS (iE ahf (((ag BC.2.1):Nat):Int)) (aS (gU ahf (((ag BC.2.1):Nat):Int)) (aS (Ap (((ag (nth jv BC.2.1 (ab ahf)).2.1.1):Nat):Int) (6:Int)) (kx (iC ()).1 (iC ()).2) (aq (Ck (BC,ahf,(0:Int))) λx1=>aS x1.isLeft (aq x1.getLeft? λa2=>kx (iC ()).1 (iC ()).2) (aq x1.getRight? λb3=>kn (ka (b3.1,(bV .i64 b3.2 (1:Int))))))) aJ) (kx (qK ()).1 (qK ()).2):=cT
theorem Q5:lN Ck qL iD jN:=qe (oE [.d fg,.d ti,.d ti] λ_=>cT)
theorem FC:sx @Br kc qL iD jN wk FB:=tI
theorem Cl(aqY aoQ kv)(kn:K2 R)(kx:K3 R):Br (aqY,aoQ,kv) kn kx=aS (gU aoQ (((ag aqY.2.1):Nat):Int)) (aS (iE kv (((ag (nth jv aqY.2.1 (ab aoQ)).2.1.1):Nat):Int)) (aS (gU aoQ (((ag aqY.2.1):Nat):Int)) (aS (gU kv (((ag (nth jv aqY.2.1 (ab aoQ)).2.1.1):Nat):Int)) (aS (Ap (((ag (nth sa (nth jv aqY.2.1 (ab aoQ)).2.1.1 (ab kv)).1):Nat):Int) (14:Int)) (kx (kC ()).1 (kC ()).2) (kn (kc (aqY,aoQ,(bV .i64 kv (1:Int)))))) aJ) aJ) (kx (qM (aqY,aoQ)).1 (qM (aqY,aoQ)).2)) aJ:=cT
theorem af4(t)(k:K1 R):fW.A t k=aS (Ap (t.1.length:Int) 66) (k (fW.out aR)) (aS (Ap (t.2.1.length:Int) 66) (k (fW.out aR)) (aq (Cg (t,0)) λx1=>aS x1.isLeft (aq x1.getLeft? λa2=>k (fW.out aR)) (aq x1.getRight? λb3=>aq (Ci (b3,0)) λx7=>aS x7.isLeft (aq x7.getLeft? λa8=>k (fW.out aR)) (aq x7.getRight? λb9=>k (fW.out aT))))):=cT
theorem UY:Fx:=by
 refine Fy (λ(t,i)=>t.1.length - ab i) ?_
 rintro⟨t,i⟩ ⟨hlen,k,hk,rfl⟩;have hlen:t.1.length<=1000000000:=hlen;have hk:k<=t.1.length:=hk;by_cases h:k < t.1.length
 ·have n1:nth gK t.1 k=t.1[k]:=dj (t:=gK) h;have hd:(bT k t.1).all u6=(u6 t.1[k] && (bT (k+1) t.1).all u6):=by rw[aC h,lq]
  have step:∀ {R:Type} (kn:AS->Option R) (kx:Exit->AS->Option R),Bn (t,(k:Int)) kn kx=aS (u6 t.1[k]) (kn (j9 (t,((k+1:Nat):Int)))) (kx (kB ()).1 (kB ()).2):=by
   intro R kn kx;rw[Ch,bm au,bz (show(0:Int)<=(k:Int) by omega) au,aa,n1];simp only[ak];rw[N.pn au];unfold u6;by_cases hs:t.1[k].2.1.2.1.length<=14
   ·rw[dx au,bf hs];rfl
   ·rw[dX au,bI hs];rfl
  cases hp:u6 t.1[k]
  ·right;refine⟨kB (),?_,λkn kx=> ?_⟩
   ·simp only[iv,jL,aa,hd,hp,fJ,bW,cK];rfl
   ·rw[step,hp,ao]
  ·left;refine⟨(t,((k+1:Nat):Int)),⟨hlen,k+1,au,rfl⟩,by simp only[aa];omega,?_,λkn kx=> ?_⟩
   ·simp only[iv,jL,aa,hd,hp,cH]
   ·rw[step,hp,ak]
 ·right;obtain rfl:k=t.1.length:=au;refine⟨qI t,?_,λkn kx=> ?_⟩
  ·simp only[iv,jL,aa,aU];rfl
  ·rw[Ch,bn au,ao]
theorem U0:FB:=by
 refine FC (λ(t,j,i)=>(nth jv t.2.1 (ab j)).2.1.1.length - ab i) ?_
 rintro⟨t,j,i⟩ ⟨hlen,k,hk,rfl,hj⟩;have hlen:(nth jv t.2.1 (ab j)).2.1.1.length<=1000000000:=hlen;have hk:k<=(nth jv t.2.1 (ab j)).2.1.1.length:=hk;have hj:0<=j/\j < (t.2.1.length:Int):=hj;by_cases h:k < (nth jv t.2.1 (ab j)).2.1.1.length
 ·have n1:nth sa (nth jv t.2.1 (ab j)).2.1.1 k=(nth jv t.2.1 (ab j)).2.1.1[k]:=dj (t:=sa) h;have hd:(bT k (nth jv t.2.1 (ab j)).2.1.1).all u5=(u5 (nth jv t.2.1 (ab j)).2.1.1[k] && (bT (k+1) (nth jv t.2.1 (ab j)).2.1.1).all u5):=by rw[aC h,lq]
  have step:∀ {R:Type} (kn:AS->Option R) (kx:Exit->AS->Option R),Br (t,j,(k:Int)) kn kx=aS (u5 (nth jv t.2.1 (ab j)).2.1.1[k]) (kn (kc (t,j,((k+1:Nat):Int)))) (kx (kC ()).1 (kC ()).2):=by
   intro R kn kx;rw[Cl,bz hj.1 hj.2,ak,bm au,bz (show(0:Int)<=(k:Int) by omega) au,aa,n1];simp only[ak];rw[N.pn au];unfold u5;by_cases hs:(nth jv t.2.1 (ab j)).2.1.1[k].1.length<=14
   ·rw[dx au,bf hs];rfl
   ·rw[dX au,bI hs];rfl
  cases hp:u5 (nth jv t.2.1 (ab j)).2.1.1[k]
  ·right;refine⟨kC (),?_,λkn kx=> ?_⟩
   ·simp only[iD,jN,aa,hd,hp,fJ,bW,cK];rfl
   ·rw[step,hp,ao]
  ·left;refine⟨(t,j,((k+1:Nat):Int)),⟨hlen,k+1,au,rfl,hj⟩,by simp only[aa];omega,?_,λkn kx=> ?_⟩
   ·simp only[iD,jN,aa,hd,hp,cH]
   ·rw[step,hp,ak]
 ·right;obtain rfl:k=(nth jv t.2.1 (ab j)).2.1.1.length:=au;refine⟨qM (t,j),?_,λkn kx=> ?_⟩
  ·simp only[iD,jN,aa,aU];rfl
  ·rw[Cl,bz hj.1 hj.2,ak,bn au,ao]
theorem UZ:Fz:=by
 refine FA (λ(t,i)=>t.2.1.length - ab i) ?_
 rintro⟨t,i⟩ ⟨hlen,k,hk,rfl⟩;have hlen:t.2.1.length<=1000000000:=hlen;have hk:k<=t.2.1.length:=hk;by_cases h:k < t.2.1.length
 ·have n1:nth jv t.2.1 k=t.2.1[k]:=dj (t:=jv) h;have hd:(bT k t.2.1).all qA=(qA t.2.1[k] && (bT (k+1) t.2.1).all qA):=by rw[aC h,lq]
  have step:∀ {R:Type} (kn:AS->Option R) (kx:Exit->AS->Option R),Bp (t,(k:Int)) kn kx=aS (qA t.2.1[k]) (kn (ka (t,((k+1:Nat):Int)))) (kx (iC ()).1 (iC ()).2):=by
   intro R kn kx;rw[Cj,bm au,bz (show(0:Int)<=(k:Int) by omega) au,aa,n1];simp only[ak];unfold qA;by_cases hs:t.2.1[k].2.1.1.length<=6
   ·rw[dx au,bf hs,ao,Q5 (d:=(t,(k:Int),0)) ⟨by rw[aa,n1];show t.2.1[k].2.1.1.length<=_;omega,0,aP _,rfl,by show(0:Int)<=(k:Int);omega,by show(k:Int) < (t.2.1.length:Int);omega⟩];simp only[ae,iD,jN,aa,n1,bt,aQ,cH];cases t.2.1[k].2.1.1.all u5
    ·rfl
    ·simp only[da,e7,dT,ao,ae,ak];rw[N.pn au]
   ·rw[dX au,bI hs];rfl
  cases hp:qA t.2.1[k]
  ·right;refine⟨iC (),?_,λkn kx=> ?_⟩
   ·simp only[iw,jM,aa,hd,hp,fJ,bW,cK];rfl
   ·rw[step,hp,ao]
  ·left;refine⟨(t,((k+1:Nat):Int)),⟨hlen,k+1,au,rfl⟩,by simp only[aa];omega,?_,λkn kx=> ?_⟩
   ·simp only[iw,jM,aa,hd,hp,cH]
   ·rw[step,hp,ak]
 ·right;obtain rfl:k=t.2.1.length:=au;refine⟨qK (),?_,λkn kx=> ?_⟩
  ·simp only[iw,jM,aa,aU];rfl
  ·rw[Cj,bn au,ao]
theorem af5:fW.Ok:=by
 intro t _;rw[af4];simp only[bF,Jy,oV];by_cases h1:t.1.length<=66
 ·by_cases h2:t.2.1.length<=66
  ·rw[dx au,dx au,ao,ao,bf ⟨h1,h2⟩,Q3 (d:=(t,0)) ⟨by show t.1.length<=_;omega,0,aP _,rfl⟩];simp only[ae,iv,jL,bt,aQ,cH];cases t.1.all u6
   ·rfl
   ·simp only[da,e7,dT,ao,ae,cH];rw[Q4 (d:=(t,0)) ⟨by show t.2.1.length<=_;omega,0,aP _,rfl⟩];simp only[ae,iw,jM,bt,aQ];cases t.2.1.all qA <;> rfl
  ·rw[dx au,dX au,bI (λx=>h2 x.2)];rfl
 ·rw[dX au,bI (λx=>h1 x.1)];rfl
theorem Mf:fW.RS:=rE [.d fg] fW
def Qp:=fW.gm af5 3 ⟨.gQ UY,⟨.gQ UZ,⟨.gQ U0,trivial⟩⟩⟩
abbrev oR:=(List cC)×(List cC)×Int
def jn:oR->AS:=λ(acO,nZ,i)=>⟨([.d (.slice bP) acO,.d (.slice bP) nZ,cw,cw,cw,.d ti i]++bg 20 []),[],(ai 26 [])⟩
def jW:Unit->Exit×AS:=λx=>(.ret,⟨(bg 4 ([.d .bool aR]++bg 21 [])),[],(ai 26 [])⟩)
def pN:Unit->Exit×AS:=λx=>(.exit 0,⟨(bg 26 []),[],(ai 26 [])⟩)
abbrev zF:=(Unit)⊕(Unit)
abbrev Fw:=(Unit)⊕(Unit)
def uh:zF->Out (Exit×AS):=λx=> .br x.isLeft (.get x.getLeft? λa=> .ok (jW a)) (.get x.getRight? λb=> .ok (pN b))
def gR:oR->Fw->zF:=λ(acO,nZ,i) y=>match y with | .inl y=> .inl y | .inr z=> .inr (z)
abbrev Qo:=(List cC)×(List cC)
def pM:oR->Prop:=λ(a,b,i)=>a.length<=1000000000/\a.length=b.length/\∃k:Nat,k<=a.length/\i=k
def jc:oR->Fw:=λ(a,b,i)=>if bT (ab i) a=bT (ab i) b then .inr () else .inl ()
def W2:Qo->Prop:=λ(a,b)=>a.length<=1000000000
def AH:Qo->Bool:=λ(a,b)=>decide (a=b)
def Fv:=ee.gQ jn pM gR jc uh
def AI:oR->Option zF:=ji Fv jn
def jk:Fs Tryz.prog W2 bF AH:=gg 12 Tryz.f12 (λ(a,b)=>([.d (.slice bP) a,.d (.slice bP) b],[])) (λx=>⟨.d .bool x,[],[]⟩) [al (.slice bP),al (.slice bP)] [] {loops:=sk [(4,{bu:=[0,1,5]})],outs:=sj [(4,{},{bu:=[4]})],gV:=tK [(4,Fv)]}
def zD:= @fK Tryz.prog (mN jk.G) jk.an 0 Tryz.f12 0 _ jn
abbrev DS:=nE Tryz.prog (mN jk.G) jk.an 0 Tryz.f12 0 jn pM gR jc uh
theorem Og:lN AI pM gR jc:=qe (oE [.d (.slice bP),.d (.slice bP),.d ti] λ_=>cT)
theorem Ei:sx @zD jn pM gR jc uh DS:=tI
theorem AJ(acO nZ i)(kn:K2 R)(kx:K3 R):zD (acO,nZ,i) kn kx=aS (iE i (((ag acO):Nat):Int)) (aS (gU i (((ag acO):Nat):Int)) (aS (gU i (((ag nZ):Nat):Int)) (aS (!(Ty.beq bP (nth bP acO (ab i)) (nth bP nZ (ab i)))) (kx (jW ()).1 (jW ()).2) (kn (jn (acO,nZ,(bV .i64 i (1:Int)))))) aJ) aJ) (kx (pN ()).1 (pN ()).2):=cT
theorem abM(a b)(k:K1 R):jk.A (a,b) k=aS (G5 (a.length:Int) (b.length:Int)) (k (jk.out aR)) (aq (AI (a,b,0)) λx1=>aS x1.isLeft (aq x1.getLeft? λa2=>k (jk.out aR)) (aq x1.getRight? λb3=>k (jk.out aT))):=cT
theorem Q2:DS:=by
 refine Ei (λ(a,b,i)=>a.length - ab i) ?_
 rintro⟨a,b,i⟩ ⟨hlen,acG,k,hk,rfl⟩;have hlen:a.length<=1000000000:=hlen;have acG:a.length=b.length:=acG;have hk:k<=a.length:=hk;by_cases h:k < a.length
 ·have h2:k < b.length:=au;have n1:nth bP a k=a[k]:=dj (t:=bP) h;have n2:nth bP b k=b[k]:=dj (t:=bP) h2;have hd:(bT k a=bT k b)=(a[k]=b[k]/\bT (k+1) a=bT (k+1) b):=by rw[aC h,aC h2,cz]
  have step:∀ {R:Type} (kn:AS->Option R) (kx:Exit->AS->Option R),zD (a,b,(k:Int)) kn kx=if a[k]=b[k] then kn (jn (a,b,((k+1:Nat):Int))) else kx (jW ()).1 (jW ()).2:=by
   intro R kn kx;rw[AJ,bm au,bz au au,bz au au,aa,n1,n2];simp only[ak];rw[aCe,N.pn au];by_cases hx:a[k]=b[k]
   ·rw[bf hx,if_pos hx];rfl
   ·rw[bI hx,if_neg hx];rfl
  by_cases hx:a[k]=b[k]
  ·left;refine⟨(a,b,((k+1:Nat):Int)),⟨hlen,acG,k+1,au,rfl⟩,by simp only[aa];omega,?_,λkn kx=> ?_⟩
   ·simp only[gR,jc,aa,hd,hx,zP]
   ·rw[step,if_pos hx]
  ·right;refine⟨jW (),?_,λkn kx=> ?_⟩
   ·simp only[gR,jc,aa,hd,hx,false_and,cK];rfl
   ·rw[step,if_neg hx]
 ·right;obtain rfl:k=a.length:=au;refine⟨pN (),?_,λkn kx=> ?_⟩
  ·simp only[gR,jc,aa,aU];rw[acG,aU,if_pos rfl];rfl
  ·rw[AJ,bn au,ao]
theorem abN:jk.Ok:=by
 rintro⟨a,b⟩ h;have h:a.length<=1000000000:=h;rw[abM];simp only[bF,AH];by_cases e3:a.length=b.length
 ·rw[eJ au,Og (d:=(a,b,0)) ⟨h,e3,0,aP _,rfl⟩];simp only[ae,gR,jc,bt,aQ,ao];by_cases e4:a=b
  ·rw[if_pos e4,bf e4];rfl
  ·rw[if_neg e4,bI e4];rfl
 ·rw[iJ au,bI (λx=>e3 (by rw[x]))];rfl
theorem HT:jk.RS:=rE [.d (.slice bP),.d (.slice bP)] jk
def abO:=jk.gm abN 1 ⟨.gQ Q2,trivial⟩
def KS:gI:=([],aT,())
def qi(r:gI):Prop:=r.1.length<=1000000000/\Bytes r.1
def lZ(n:Nat)(r:gI):List Int×gI:=if r.2.1=aT\/r.1.length < n then([],KS) else(r.1.take n,(r.1.drop n,r.2))
def Ji(l:List Int):Int:=l.foldl (λn b=>n*256+b) 0
def qC(r:gI):Int×gI:=(Ji (lZ 8 r).1,(lZ 8 r).2)
theorem aar:qi KS:=⟨aP _,λx hx=>by cases hx⟩
theorem yo{n:Nat}{r:gI}(h:qi r):(lZ n r).1.length<=n/\Bytes (lZ n r).1/\qi (lZ n r).2:=by
 unfold lZ;split
 ·exact⟨aP _,λx hx=>(by cases hx),aar⟩
 ·refine⟨by rw[cG];omega,λx hx=>h.2 x (kJ hx),?_,λx hx=>h.2 x (nW hx)⟩;show(r.1.drop n).length<=_;rw[de];have:=h.1;omega
theorem apA(l:List Int)(b:Int):Ji (l++ [b])=Ji l*256+b:=by unfold Ji;rw[List.foldl_append];rfl
theorem afo:∀(l:List Int) (n:Int) (k:Nat),Bytes l->0<=n->n < 256^k->0<=l.foldl (λn b=>n*256+b) n/\l.foldl (λn b=>n*256+b) n < 256^(k+l.length)
 |[],n,k,_,h0,h1=>⟨h0,h1⟩
 |b::l,n,k,hb,h0,h1=>by obtain⟨aG9,aHa⟩:=hb b aL;have e:(256:Int)^(k+1)=256^k*256:=gh 256 k;have:=afo l (n*256+b) (k+1) (λx hx=>hb x (aK _ hx)) au (by rw[e];omega);rw[show k+(b::l).length=k+1+l.length by rw[aH];omega];exact this
theorem al5{l:List Int}(h:Bytes l):0<=Ji l/\Ji l < 256^l.length:=by have:=afo l 0 0 h (fx 0) fb;rw[ba]at this;exact this
theorem YQ{a b:Nat}(h:a<=b):(256:Int)^a<=256^b:=by have:((256^a:Nat):Int)<=((256^b:Nat):Int):=Int.ofNat_le.2 (Nat.pow_le_pow_right fb h);rw[ky,ky]at this;exact this
theorem aDC{l:List Int}(h:Bytes l)(h8:l.length<=8):nY (Ji l):=by have e:=al5 h;have e2:=YQ h8;have e3:(256:Int)^8=18446744073709551616:=rfl;exact⟨e.1,au⟩
theorem OI{r:gI}(h:qi r):nY (qC r).1/\qi (qC r).2:=⟨aDC (yo h).2.1 (yo h).1,(yo h).2.2⟩
theorem aGw{n b:Int}(h0:0<=n)(h1:n < 72057594037927936)(hb:Zt b):eh .or .u64 (nQ .u64 n 8) (eD .u64 b)=n*256+b:=by have e:=(Pr (n:=n) (b:=b) ⟨h0,au⟩ hb).1;rw[uX 56 (by rfl) au]at e;have p:(2:Int)^56=72057594037927936:=rfl;rw[p]at e;omega
def aqu:gI->Prop:=λ_=>True
def aAt:gI->gI:=λ_=>KS
def Mq:Fs Tryz.prog aqu bF aAt:=gg 155 Tryz.f155 (λo0=>([.ptr (.bG 0) 0 [] 0],[.obj 0 aR (.d sr o0)])) (λx=>⟨.nil,[.obj 0 aR (.d sr x)],[]⟩) [aJ] [] {KM:=[⟨0,[.arr],sr⟩]}
theorem awB(o0)(k:K1 R):Mq.A o0 k=k (Mq.out (([]:List Int),(aT,o0.2.2))):=cT
theorem awC:Mq.Ok:=by intro o _;rw[awB];rfl
theorem Oo:Mq.RS:=rE [.d sr] Mq
def af9:=Mq.gm awC
def YX:gI->Int->((gI)×(Int)):=λo0 y=>(o0,y)
def aqx:gI->Prop:=λ_=>True
def amE:gI->Int:=λo=>(o.1.length:Int)
def Vb:Fs Tryz.prog aqx YX amE:=gg 136 Tryz.f136 (λo0=>([.ptr (.bG 0) 0 [] 0],[.obj 0 aR (.d sr o0)])) (λx=>⟨.d ti x.2,[.obj 0 aR (.d sr x.1)],[]⟩) [aJ]
theorem awG(o0)(k:K1 R):Vb.A o0 k=k (Vb.out (o0,(o0.1.length:Int))):=cT
theorem awH:Vb.Ok:=by intro o _;rw[awG];rfl
theorem aqy:Vb.RS:=rE [.d sr] Vb
def awI:=Vb.gm awH
def agb:gI->Bool->((gI)×(Bool)):=λo0 y=>(o0,y)
def awL:gI->Prop:=λ_=>True
def awK:gI->Bool:=λo=> !o.2.1
def ajY:Fs Tryz.prog awL agb awK:=gg 135 Tryz.f135 (λo0=>([.ptr (.bG 0) 0 [] 0],[.obj 0 aR (.d sr o0)])) (λx=>⟨.d .bool x.2,[.obj 0 aR (.d sr x.1)],[]⟩) [aJ]
theorem aAw(o0)(k:K1 R):ajY.A o0 k=k (ajY.out (o0,(!o0.2.1))):=cT
theorem aAx:ajY.Ok:=by intro o _;rw[aAw];rfl
theorem awM:ajY.RS:=rE [.d sr] ajY
def aAy:=ajY.gm aAx
def aqD:(Int×gI)->Prop:=λ(n,o)=>0<=n/\o.1.length<=1000000000
def RH:(Int×gI)->(Bs×gI):=λ(n,o)=>lZ n.toNat o
def FH:Fs Tryz.prog aqD bF RH:=gg 156 Tryz.f156 (λ(n,o0)=>([.ptr (.bG 0) 0 [] 0,.d ti n],[.obj 0 aR (.d sr o0)])) (λx=>⟨.d tB x.1,[.obj 0 aR (.d sr x.2)],[]⟩) [aJ,al ti] [af9,Nr] {res:=[al tB],KM:=[⟨0,[.arr],sr⟩]}
theorem awR(n o0)(k:K1 R):FH.A (n,o0) k=aS (o0.2.1) (aq (Mq.call o0) λx1=>k (FH.out (([]:List Int),x1))) (aS (Ap n (o0.1.length:Int)) (aq (Mq.call o0) λx2=>k (FH.out (([]:List Int),x2))) (aS (inc n (o0.1.length:Int)) (aq (yT.call (cut o0.1 0 ((ab n) - 0))) λx3=>aS (inc n (o0.1.length:Int)) (aS (decide (0=0/\(0+x3.1)<=(ag x3.2))) (k (FH.out ((cut x3.2 0 x3.1),((cut o0.1 (ab n) ((ag o0.1) - (ab n))),o0.2)))) aJ) aJ) aJ)):=cT
theorem awS:FH.Ok:=by
 rintro⟨n,o⟩ ⟨h0,hl⟩;have h0:0<=n:=h0;have hl:o.1.length<=1000000000:=hl;obtain⟨k,rfl⟩:∃k:Nat,n=k:=⟨n.toNat,au⟩;rw[awR];simp only[bF,RH,lZ,aa,Nat.sub_zero];cases h2:o.2.1
 ·by_cases hn:o.1.length < k
  ·rw[dX au,if_pos (fv hn),Oo (d:=o) trivial];rfl
  ·have e1:cut o.1 0 k=o.1.take k:=rfl;have e2:cut o.1 k (o.1.length - k)=o.1.drop k:=by unfold cut;rw[bC];rw[de];omega
   rw[dx au,if_neg (by intro x;rcases x with x | x;exact absurd x fb;exact hn x),qp au au,e1,e2,Iv (d:=o.1.take k) (by show(o.1.take k).length<=_;rw[cG];omega)];simp only[ao,ak,ae,bF,EB,ba,aF,j4,cR,fp]
 ·rw[ak,if_pos (lr rfl),Oo (d:=o) trivial];rfl
theorem Oz:FH.RS:=rE [.d ti,.d sr] FH
def Vh:=FH.gm awS
abbrev OB:=Int×Bs×Int×Int×gI
def agf:OB->Int->((gI)×(Int)):=λ(n,t7,t8,t9,qc) y=>(qc,y)
def agd:OB->Prop:=λ(n,l,m,i,o)=>Bytes l/\l.length<=8/\m=l.length/\∃k:Nat,k<=l.length/\i=k/\n=Ji (l.take k)
def aqE:OB->Int:=λ(n,l,m,i,o)=>Ji l
def awT:gI->Prop:=λo=>qi o
def OA:gI->(Int×gI):=λo=>qC o
def yj:Ls agd agf aqE:=xM (λ(n,t7,t8,t9,qc)=>⟨([cw,cw,cw,.d tu n,cw,cw,cw,.d tB t7,.d ti t8,.d ti t9]++bg 10 []),dK (.d sr qc),(ai 20 [])⟩) (λx=>(.exit 0,⟨([cw,cw,cw,.d tu x.2]++bg 16 []),dK (.d sr x.1),(ai 20 [])⟩))
def Mu:Fs Tryz.prog awT bF OA:=gg 134 Tryz.f134 (λo0=>([.ptr (.bG 0) 0 [] 0],[.obj 0 aR (.d sr o0)])) (λx=>⟨.d tu x.1,[.obj 0 aR (.d sr x.2)],[]⟩) [aJ] [Vh] {loops:=sk [(3,{bu:=[3,7,8,9]})],outs:=sj [(3,{bu:=[3]},{bu:=[2]})],gV:=tK [(3,yj.E)]}
theorem agh:yj.RS:=rL [.d tu,.d tB,.d ti,.d ti,.d sr] yj
theorem Mv(n t7 t8 t9 qc)(kn:K2 R)(kx:K3 R):Mu.R 0 yj (n,t7,t8,t9,qc) kn kx=aS (iE t9 t8) (aS (gU t9 (t7.length:Int)) (kn (yj.st ((eh .or .u64 (nQ .u64 n 8) (eD .u64 (nth tb t7 (ab t9)))),t7,t8,(bV .i64 t9 1),qc))) aJ) (yj.go kx (qc,n)):=cT
theorem aAz(o0)(k:K1 R):Mu.A o0 k=aq (FH.call (8,o0)) λx1=>aq (yj.call (0,x1.1,(x1.1.length:Int),0,x1.2)) λx2=>k (Mu.out (x2.2,x2.1)):=cT
theorem aj0:(Mu.mw 0 yj):=by
 refine(Mu.qz 0 yj) (λ(n,l,m,i,o)=>l.length - i.toNat) ?_
 rintro⟨n,l,m,i,o⟩ ⟨hb,h8,rfl,k,hk,rfl,rfl⟩;have h8:l.length<=8:=h8;have hk:k<=l.length:=hk;by_cases h:k < l.length
 ·left;have hx:=hb _ (aX h);have n1:nth (.int .u8) l k=l[k]:=dj (t:= .int .u8) h;have ht:(l.take k).length=k:=by rw[cG];omega
  have b0:=al5 (l:=l.take k) λx hx=>hb x (kJ hx)
  rw[ht]at b0;have b1:=YQ (show k<=7 by omega);have b2:(256:Int)^7=72057594037927936:=rfl;refine⟨(Ji (l.take (k+1)),l,l.length,((k+1:Nat):Int),o),⟨hb,h8,rfl,k+1,au,rfl,rfl⟩,by simp only[aa];omega,rfl,λkn kx=> ?_⟩;rw[Mv,bm au,bz au au,aa,n1,N.pn au,aGw b0.1 au hx,List.take_succ_eq_append_getElem h,apA];rfl
 ·right;obtain rfl:k=l.length:=au;intro R kn kx;rw[Mv,bn au,ao,cJ];rfl
theorem aAA:Mu.Ok:=by intro o h;have h:qi o:=h;have t:=yo (n:=8) h;rw[aAz,Oz (d:=(8,o)) ⟨fb,h.1⟩];simp only[ae,bF,RH];rw[show ab 8=8 from rfl,agh (d:=(0,(lZ 8 o).1,(lZ 8 o).1.length,0,(lZ 8 o).2)) ⟨t.2.1,t.1,rfl,0,aP _,rfl,rfl⟩];rfl
theorem FI:Mu.RS:=rE [.d sr] Mu
def amG:=Mu.gm aAA 1 ⟨.gQ aj0,trivial⟩
def aqz:Bs->Prop:=λb=>b.length<=1000000000
def abT:Bs->gI:=λb=>(b,aR,())
def Qt:Fs Tryz.prog aqz bF abT:=gg 128 Tryz.f128 (λb=>([.d tB b],[])) (λx=>⟨.ptr (.new 0 0) 0 [] 0,[],[.obj 0 aR (.d sr x)]⟩) [al tB] [Nr] {bM:=[6],KM:=[⟨2,[.arr],sr⟩]}
theorem awN(b)(k:K1 R):Qt.A b k=aq (yT.call b) λx1=>aS (decide (0=0/\(0+x1.1)<=(ag x1.2))) (k (Qt.out ((cut x1.2 0 x1.1),(aR,())))) aJ:=cT
theorem awO:Qt.Ok:=by intro b hb;have hb:b.length<=1000000000:=hb;rw[awN,Iv (d:=b) (by show b.length<=_;omega)];simp only[ae,bF,EB,ba,aF,j4,cR,ak,fp];rfl
theorem Y0:Qt.RS:=rE [.d tB] Qt
def agc:=Qt.gm awO
abbrev Vk:=Int×gI
def Dr:Vk->Bool->((Int×gI)×(Bool)):=λ(o0,o2) y=>((o0,o2),y)
def aj1:Vk->Prop:=λ(a,o)=>0<=a
def Mx:Vk->Bool:=λ(a,o)=>decide (o.1.length<=a.toNat\/8 < a.toNat\/(0 < a.toNat/\nth (.int .u8) o.1 a.toNat=0))
def Bx:Fs Tryz.prog aj1 Dr Mx:=gg 154 Tryz.f154 (λ(o0,o2)=>([.ptr (.bG 0) 0 [] 0,.ptr (.bG 1) 0 [] 0],[.obj 0 aR (.d ti o0),.obj 0 aR (.ptr (.bG 2) 0 [] 0),.obj 0 aR (.d sr o2)])) (λx=>⟨.d .bool x.2,[.obj 0 aR (.d ti x.1.1),.obj 0 aR (.ptr (.bG 2) 0 [] 0),.obj 0 aR (.d sr x.1.2)],[]⟩) [aJ,aJ]
theorem aqG(o0 o2)(k:K1 R):Bx.A (o0,o2) k=aS (BI o0 (o2.1.length:Int)) (k (Bx.out ((o0,o2),aT))) (aS (Ap o0 8) (k (Bx.out ((o0,o2),aT))) (aS (Ap o0 0) (aS (gU o0 (o2.1.length:Int)) (k (Bx.out ((o0,o2),(HA (nth tb o2.1 (ab o0)) 0)))) aJ) (k (Bx.out ((o0,o2),aR))))):=cT
theorem aqH:Bx.Ok:=by
 rintro⟨a,o⟩ h0;obtain⟨k,rfl⟩:∃k:Nat,a=k:=⟨a.toNat,by have h0:0<=a:=h0;omega⟩;rw[aqG];simp only[Dr,Mx,aa];by_cases h1:o.1.length<=k
 ·rw[ig au,bf (lr h1)];rfl
 by_cases h2:8 < k
 ·rw[fa au,dX au,bf (fv (lr h2))];rfl
 by_cases h3:0 < k
 ·rw[fa au,dx au,dX au,bz au au];simp only[ao,ak];by_cases h4:nth (.int .u8) o.1 k=0
  ·rw[qo h4,bf (fv (fv ⟨h3,h4⟩))]
  ·rw[nu h4,bI (by rintro(x | x | x);exact h1 x;exact h2 x;exact h4 x.2)]
 ·rw[fa au,dx au,dx au,bI (by rintro(x | x | x);exact h1 x;exact h2 x;exact h3 x.1)];rfl
theorem Vl:Bx.RS:=rE [.d ti,.d sr] Bx
def aqI:=Bx.gm aqH
def zp:List Int->Nat->Int->(Int×Nat)⊕Unit
 |[],_,_=> .inr ()
 |d::l,a,n=>if 8 < a\/(0 < a/\d=0) then .inr () else if d < 128 then .inl (n+d%128*128^a,a+1) else zp l (a+1) (n+d%128*128^a)
def dJ(r:gI):Int×gI:=match zp r.1 0 0 with | .inl v=>(v.1,(r.1.drop v.2,r.2)) | .inr _=>(0,KS)
theorem ajI(k:Nat):(128:Int)^k=((128^k:Nat):Int):=by rw[ky];rfl
theorem aeb{n d k:Nat}(hk:k<=8)(hn:n < 128^k)(hd:d < 128):eh .or .i64 (n:Int) (nQ .i64 (d:Int) ((7*k:Nat):Int))=((n+d*128^k:Nat):Int)/\n+d*128^k < 128^(k+1)/\128^(k+1)<=9223372036854775808:=by
 have p:128^k<=128^8:=Nat.pow_le_pow_right fb hk;have p8:128^8=72057594037927936:=rfl;have e1:128^(k+1)=128^k*128:=Nat.pow_succ (n:=128) (m:=k);have e2:2^(7*k)=128^k:=by rw[Nat.pow_mul]
 have e3:d*128^k<=127*128^k:=c9 _ au;refine⟨?_,au,au⟩;have s:nQ .i64 (d:Int) ((7*k:Nat):Int)=((d*128^k:Nat):Int):=by
  rw[nQ];have e:min (ab ((7*k:Nat):Int)) IntKind.i64.bits=7*k:=by simp only[IntKind.bits,aa];omega
  rw[e,show(2:Int)^(7*k)=((2^(7*k):Nat):Int) by rw[ky];rfl,e2,<-ku];exact sT au au
 rw[s];have e:(bh 64 (n:Int) ||| bh 64 ((d*128^k:Nat):Int)).toNat=n+d*128^k:=by
  rw[BitVec.toNat_or];have a:(bh 64 ((d*128^k:Nat):Int)).toNat=2^(7*k)*d:=by rw[iV,jY,e2,pj];exact jV (by rw[pj];omega)
  have b:(bh 64 (n:Int)).toNat=n:=by rw[iV,jY];exact jV au
  rw[a,b,Nat.or_comm,<-Nat.two_pow_add_eq_or_of_lt (by rw[e2];exact hn),e2,pj];omega
 show IntKind.i64.wrap ((bh 64 (n:Int) ||| bh 64 ((d*128^k:Nat):Int)).toNat:Int)=_;rw[e];exact sT au au
theorem abc:∀(l:List Int) (a:Nat) (n:Int) (v:Int×Nat),Bytes l->a<=9->0<=n->n < 128^a->zp l a n= .inl v->0<=v.1/\v.1 < 9223372036854775808/\a < v.2/\v.2<=a+l.length/\v.2<=9
 |[],a,n,v,_,_,_,_,h=>by cases h
 |d::l,a,n,v,hb,ha,h0,h1,h=>by
  have hx:=hb d aL;obtain⟨x1,x2⟩:=hx;rw[zp]at h;split at h
  ·cases h
  ·rename_i hc;have aJw:a<=8:=au;rw[ajI]at h1 h;obtain⟨nn,rfl⟩:∃m:Nat,n=m:=⟨n.toNat,au⟩;obtain⟨dn,axR⟩:∃m:Nat,d%128=m:=⟨(d%128).toNat,au⟩;have g:=(aeb (n:=nn) (d:=dn) aJw au au).2;rw[axR]at h;have ec:((nn:Int)+(dn:Int)*((128^a:Nat):Int))=((nn+dn*128^a:Nat):Int):=by rw[Int.natCast_add,ku]
   rw[ec]at h;split at h
   ·cases h;simp only[aH];exact⟨au,au,au,au,au⟩
   ·have:=abc l (a+1) _ v (λx hx=>hb x (aK _ hx)) au au (by rw[ajI];omega) h;simp only[aH];exact⟨this.1,this.2.1,au,au,this.2.2.2.2⟩
theorem qF{r:gI}(h:qi r):0<=(dJ r).1/\(dJ r).1<=9223372036854775807/\qi (dJ r).2:=by
 unfold dJ;cases hf:zp r.1 0 0 with
 |inl v=>
  have:=abc r.1 0 0 v h.2 fb fb fb hf;refine⟨this.1,by have:=this.2.1;show v.1<=_;omega,?_,λx hx=>h.2 x (nW hx)⟩;show(r.1.drop v.2).length<=_;rw[de];have:=h.1;omega
 |inr _=>exact⟨fx 0,(show(0:Int)<=9223372036854775807 by decide),aar⟩
theorem afq:∀(f:Nat) (n:Int) (a:Nat) (m:Int) (rest:List Int),0<=n->n < 128^(f+1)->a+f<=8->(a=0\/0 < n)->
  zp ((gG f n).1++(gG f n).2::rest) a m= .inl (m+n*128^a,a+(gG f n).1.length+1)
 | 0,n,a,m,rest,h0,h1,ha,hp=>by have h1:n < 128:=h1;show zp (n::rest) a m=_;rw[zp,if_neg au,if_pos h1,fo h0 h1];rfl
 |f+1,n,a,m,rest,h0,h1,ha,hp=>by
  rw[gG];have e:(128:Int)^(f+1+1)=128^(f+1)*128:=gh 128 (f+1);split
  ·rename_i h;show zp ((n%128+128)::((gG f (n / 128)).1++(gG f (n / 128)).2::rest)) a m=_;rw[zp,if_neg au,if_neg au,afq f (n / 128) (a+1) _ rest au au au (fv au)];have e2:(128:Int)^(a+1)=128^a*128:=gh 128 a;have e3:(n%128+128)%128=n%128:=au;have e4:m+n%128*128^a+n / 128*(128^a*128)=m+n*128^a:=by
    have:n*128^a=(n%128+n / 128*128)*128^a:=by rw[show n%128+n / 128*128=n by omega]
    rw[this,Int.add_mul,Int.mul_assoc (n / 128),Int.mul_comm 128 (128^a),Int.add_assoc]
   rw[e3,e2,e4];simp only[aH];rw[show a+1+(gG f (n / 128)).1.length+1=a+((gG f (n / 128)).1.length+1)+1 by omega]
  ·rename_i h;show zp (n::rest) a m=_;rw[zp,if_neg au,if_pos au,fo h0 au];rfl
theorem E9(n:Int)(h:Ec n)(rest:List Int)(u:Bool×Unit):dJ (iF n++rest,u)=(n,(rest,u)):=by
 have h0:=h.1;have h1:=h.2;have e8:(128:Int)^(8+1)=9223372036854775808:=rfl;have e10:(128:Int)^(10+1)=151115727451828646838272:=rfl;have er:gG 10 n=gG 8 n:=GQ 10 8 n (by rw[e10];omega) (by rw[e8];omega);have el:iF n++rest=(gG 8 n).1++(gG 8 n).2::rest:=by unfold iF;rw[er,aM];rfl
 have e:=afq 8 n 0 0 rest h0 (by rw[e8];omega) fb (lr rfl);unfold dJ;show(match zp (iF n++rest) 0 0 with | .inl v=>(v.1,((iF n++rest).drop v.2,u)) | .inr _=>(0,KS))=_;rw[el,e];show(0+n*128^0,(((gG 8 n).1++(gG 8 n).2::rest).drop (0+(gG 8 n).1.length+1),u))=_;rw[kE,Int.mul_one,Int.zero_add,ba,List.append_cons,kz (by rw[aj];rfl)]
theorem avg(n:Int)(h:nY n):Ji (l6 n)=n:=by obtain⟨h0,h1⟩:=h;unfold Ji l6;simp only[aY,dd];omega
theorem Gc(n:Int)(h:nY n)(rest:List Int):qC (l6 n++rest,aR,())=(n,(rest,aR,())):=by
 unfold qC lZ;have l8:=dC n;rw[if_neg (by
  intro x;rcases x with x | x
  ·have x:aR=aT:=x;cases x
  ·have x:(l6 n++rest).length < 8:=x;rw[aj]at x;omega)]
 show(Ji ((l6 n++rest).take 8),((l6 n++rest).drop 8,aR,()))=_;rw[kA l8,kz l8,avg n h]
abbrev Cm:=Int×gI×Int
def rA:Cm->AS:=λ(n,qc,n4)=>⟨([.ptr (.bG 0) 0 [] 0,fI 1,cw,.d ti n,fI 4,.fn 154 (.cons (fI 4) (.cons (fI 1) (.nil)))]++bg 35 []),dK (.d sr qc),([[],dK (.ptr (.bG 0) 0 [] 0),[],[],dK (.d ti n4)]++bK 36 [])⟩
def AM:gI->Exit×AS:=λx=>(.ret,⟨([.ptr (.bG 0) 0 [] 0,cw,.d ti (0:Int)]++bg 38 []),dK (.d sr x),(ai 41 [])⟩)
def rY:(Int×gI×Int)->Exit×AS:=λ(a,b,c)=>(.exit 0,⟨([.ptr (.bG 0) 0 [] 0,fI 1,cw,.d ti a,fI 4]++bg 36 []),dK (.d sr b),([[],dK (.ptr (.bG 0) 0 [] 0),[],[],dK (.d ti c)]++bK 36 [])⟩)
abbrev Ot:=(gI)⊕((Int×gI×Int))
abbrev YZ:=(gI)⊕((Int×gI×Int))
def FG:Ot->Out (Exit×AS):=λx=> .br x.isLeft (.get x.getLeft? λa=> .ok (AM a)) (.get x.getRight? λb=> .ok (rY b))
def mm:Cm->YZ->Ot:=λ(n,qc,n4) y=>match y with | .inl y=> .inl y | .inr z=> .inr (z)
def AL:Cm->Prop:=λ(n,o,i)=>qi o/\∃(k m:Nat),k<=9/\i=k/\n=m/\m < 128^k
def rX:Cm->YZ:=λ(n,o,i)=>match zp (o.1.drop i.toNat) i.toNat n with | .inl v=> .inr (v.1,o,(v.2:Int)) | .inr _=> .inl KS
def awJ:gI->Prop:=λo=>qi o
def uj:gI->(Int×gI):=λo=>dJ o
def YY:=ee.gQ rA AL mm rX FG
def Mr:Cm->Option Ot:=ji YY rA
def Bw:Fs Tryz.prog awJ bF uj:=gg 130 Tryz.f130 (λo0=>([.ptr (.bG 0) 0 [] 0],[.obj 0 aR (.d sr o0)])) (λx=>⟨.d ti x.1,[.obj 0 aR (.d sr x.2)],[]⟩) [aJ] [aqI,af9] {bM:=[1],loops:=sk [(3,{bu:=[0,1,3,4,5],sites:=[1,4]})],outs:=sj [(3,{bu:=[0,1,3,4],sites:=[1,4]},{bu:=[0,2]})],gV:=tK [(3,YY)],KM:=[⟨0,[.arr],sr⟩]}
def Oq:= @fK Tryz.prog (mN Bw.G) Bw.an 0 Tryz.f130 0 _ rA
abbrev Vc:=nE Tryz.prog (mN Bw.G) Bw.an 0 Tryz.f130 0 rA AL mm rX FG
theorem aga:lN Mr AL mm rX:=qe (oE [.d ti,.d sr,.d ti] λ_=>cT)
theorem Ou:sx @Oq rA AL mm rX FG Vc:=tI
theorem Ms(n qc n4)(kn:K2 R)(kx:K3 R):Oq (n,qc,n4) kn kx=aq (Bx.call (n4,qc)) λx1=>aS (x1.2) (aq (Mq.call x1.1.2) λx2=>kx (AM x2).1 (AM x2).2) (aS (gU x1.1.1 (((ag x1.1.2.1):Nat):Int)) (aS (rr (je .i64 (7:Int) x1.1.1)) (aS (iE (nth tb x1.1.2.1 (ab x1.1.1)) (128:Int)) (kx (rY ((eh .or .i64 n (nQ .i64 (eD .i64 (tW (nth tb x1.1.2.1 (ab x1.1.1)) (128:Int))) (je .i64 (7:Int) x1.1.1))),x1.1.2,(bV .i64 x1.1.1 (1:Int)))).1 (rY ((eh .or .i64 n (nQ .i64 (eD .i64 (tW (nth tb x1.1.2.1 (ab x1.1.1)) (128:Int))) (je .i64 (7:Int) x1.1.1))),x1.1.2,(bV .i64 x1.1.1 (1:Int)))).2) (kn (rA ((eh .or .i64 n (nQ .i64 (eD .i64 (tW (nth tb x1.1.2.1 (ab x1.1.1)) (128:Int))) (je .i64 (7:Int) x1.1.1))),x1.1.2,(bV .i64 x1.1.1 (1:Int)))))) aJ) aJ):=cT
theorem aAu(o0)(k:K1 R):Bw.A o0 k=aq (Mr (0,o0,0)) λx3=>aS x3.isLeft (aq x3.getLeft? λa4=>k (Bw.out (0,a4))) (aq x3.getRight? λb5=>aS (inc b5.2.2 (b5.2.1.1.length:Int)) (k (Bw.out (b5.1,((cut b5.2.1.1 (ab b5.2.2) ((ag b5.2.1.1) - (ab b5.2.2))),b5.2.1.2)))) aJ):=cT
theorem ajX:Vc:=by
 refine Ou (λ(n,o,i)=>9 - i.toNat) ?_
 rintro⟨n,o,i⟩ ⟨hr,k,m,hk,rfl,rfl,hm⟩;have hk:k<=9:=hk;have hr:qi o:=hr;by_cases hw:o.1.length<=k\/8 < k\/(0 < k/\nth (.int .u8) o.1 k=0)
 ·right;have hf:zp (o.1.drop k) k (m:Int)= .inr ():=by
   by_cases h:k < o.1.length
   ·have n1:nth (.int .u8) o.1 k=o.1[k]:=dj (t:= .int .u8) h;rw[aC h,zp,if_pos (by rw[n1]at hw;rcases hw with x | x | x;exact absurd x au;exact lr x;exact fv x)]
   ·rw[gj au];rfl
  refine⟨AM KS,?_,λkn kx=> ?_⟩
  ·simp only[mm,rX,aa,hf];rfl
  ·rw[Ms,Vl (d:=((k:Int),o)) (gH k)];simp only[ae,Dr,Mx,aa];rw[bf hw,ak,Oo (d:=o) trivial];rfl
 ·have h:k < o.1.length:=au;have hx:=hr.2 _ (aX h);obtain⟨x1,x2⟩:=hx;have n1:nth (.int .u8) o.1 k=o.1[k]:=dj (t:= .int .u8) h;have hc:¬(8 < k\/(0 < k/\o.1[k]=0)):=λx=>hw (x.elim (λy=> .inr (.inl y)) λy=> .inr (.inr ⟨y.1,n1.trans y.2⟩))
  obtain⟨dn,axR⟩:∃d:Nat,o.1[k]=d:=⟨o.1[k].toNat,au⟩;have g:=aeb (n:=m) (d:=dn%128) (k:=k) au hm au;have step:∀ {R:Type} (kn:AS->Option R) (kx:Exit->AS->Option R),Oq ((m:Int),o,(k:Int)) kn kx=aS (iE o.1[k] 128) (kx (rY (((m+dn%128*128^k:Nat):Int),o,((k+1:Nat):Int))).1 (rY (((m+dn%128*128^k:Nat):Int),o,((k+1:Nat):Int))).2) (kn (rA (((m+dn%128*128^k:Nat):Int),o,((k+1:Nat):Int)))):=by intro R kn kx;rw[Ms,Vl (d:=((k:Int),o)) (gH k)];simp only[ae,Dr,Mx,aa];rw[bI hw,ao,bz au au,n1,axR,N.aF9 au,vG au,N.aIR,N.cN au,g.1,N.pn au];rfl
  have ef:zp (o.1.drop k) k (m:Int)=if o.1[k] < 128 then .inl (((m+dn%128*128^k:Nat):Int),k+1) else zp (o.1.drop (k+1)) (k+1) ((m+dn%128*128^k:Nat):Int):=by
   have ec:(m:Int)+o.1[k]%128*128^k=((m+dn%128*128^k:Nat):Int):=by rw[axR,ajI,Int.natCast_add,ku];rfl
   rw[aC h,zp,if_neg hc,ec]
  by_cases hl:o.1[k] < 128
  ·right;refine⟨rY (((m+dn%128*128^k:Nat):Int),o,((k+1:Nat):Int)),?_,λkn kx=> ?_⟩
   ·simp only[mm,rX,aa,ef,if_pos hl];rfl
   ·rw[step,bm hl,ak]
  ·left;refine⟨(((m+dn%128*128^k:Nat):Int),o,((k+1:Nat):Int)),⟨hr,k+1,_,au,rfl,rfl,g.2.1⟩,by simp only[aa];omega,?_,λkn kx=> ?_⟩
   ·simp only[mm,rX,aa,ef,if_neg hl]
   ·rw[step,bn hl,ao]
theorem aAv:Bw.Ok:=by
 intro o h;have h:qi o:=h;rw[aAu,aga (d:=(0,o,0)) ⟨h,0,0,fb,rfl,rfl,fb⟩];simp only[ae,mm,rX,bt,aQ,bF,uj,dJ];cases hf:zp o.1 0 0 with
 |inl v=>
  have g:=abc o.1 0 0 v h.2 fb fb fb hf;have e2:cut o.1 v.2 (o.1.length - v.2)=o.1.drop v.2:=by unfold cut;rw[bC];rw[de];omega
  simp only[e7,dT,ao,ae,aa];rw[qp au au,ak,e2]
 |inr _=>rfl
theorem oS:Bw.RS:=rE [.d sr] Bw
def RG:=Bw.gm aAv 1 ⟨.gQ ajX,trivial⟩
theorem gl{a b:List Int}(ha:Bytes a)(hb:Bytes b):Bytes (a++b):=λx hx=>by
 rcases bD.1 hx with h | h
 ·exact ha x h
 ·exact hb x h
theorem Ve:∀(f:Nat) (n:Int),0<=n->n < 128^(f+1)->Bytes (gG f n).1/\Zt (gG f n).2
 | 0,n,h0,h1=>by have h1:n < 128:=h1;exact⟨λx hx=>(by cases hx),h0,by show n < 256;omega⟩
 |f+1,n,h0,h1=>by
  have e:(128:Int)^(f+1+1)=128^(f+1)*128:=gh 128 (f+1);rw[gG];split
  ·have ih:=Ve f (n / 128) au au;refine⟨λx hx=> ?_,ih.2⟩;rcases cg.1 hx with rfl | hx
   ·exact⟨au,au⟩
   ·exact ih.1 x hx
  ·exact⟨λx hx=>(by cases hx),h0,by show n < 256;omega⟩
theorem kD{n:Int}(h:Ec n):Bytes (iF n):=by have e10:(128:Int)^(10+1)=151115727451828646838272:=rfl;obtain⟨h0,h1⟩:=h;have:=Ve 10 n h0 (by rw[e10];omega);unfold iF;exact gl this.1 λx hx=>by rw[bq]at hx;subst hx;exact this.2
theorem aeW:∀(ks:List Int) (o:List Int),tO o ks=o++ks.flatMap l6
 |[],o=>by rw[pc,bO];rfl
 |k::ks,o=>by show tO (o++l6 k) ks=_;rw[aeW ks,du,aM]
theorem aiP(ks:List Int):Bytes (ks.flatMap l6):=λx hx=>by obtain⟨k,_,hk⟩:=iN.1 hx;exact BT k x hk
def axO(b:tG):List Int:=iF b.1.length++(b.1.flatMap l6++(iF b.2.1++(iF b.2.2.1++l6 b.2.2.2.1)))
theorem RF(o:List Int){n:Int}(h:0<=n):dW o n=o++iF n:=by rw[dW,if_neg au]
structure aB4(b:tG):Prop where
 len:b.1.length<=12
 af:Ec b.2.1
 dl:Ec b.2.2.1
theorem aCm{b:tG}(h:Ed b=aT):aB4 b:=by unfold Ed NM at h;simp only[av,aW]at h;obtain⟨h1,_,h2,h3,_⟩:=h;exact⟨h1,⟨h2.1,au⟩,⟨h3.1,au⟩⟩
theorem sZ{n:Nat}(h:n<=1000000000):Ec (n:Int):=⟨au,au⟩
theorem aCk(o:List Int){b:tG}(h:aB4 b):axN o b=o++axO b:=by unfold axN axO;rw[RF _ (gH _),aeW,RF _ h.af.1,RF _ h.dl.1];simp only[aM]
theorem alc:∀(bs:List tG) (o:List Int),(∀b∈bs,aB4 b)->bs.foldl axN o=o++bs.flatMap axO
 |[],o,_=>by rw[pc,bO];rfl
 |b::bs,o,h=>by rw[aY,aCk o (h b aL),alc bs _ λx hx=>h x (aK _ hx),du,aM]
theorem aiW{l:Lk}(h:nI l=aT):(∀b∈l.1,aB4 b)/\0 < l.1.length/\l.1.length<=4:=by unfold nI at h;simp only[av,c7,aW]at h;exact⟨λb hb=>aCm (h.1 b hb),h.2⟩
theorem auK{l:Lk}(h:nI l=aT):NV l=iF l.1.length++l.1.flatMap axO:=by unfold NV;rw[if_pos h,alc _ _ (aiW h).1,RF _ (gH _),aV]
theorem anF{b:tG}(h:aB4 b):Bytes (axO b):=
 have aoE:=h.len
 gl (kD (sZ au)) (gl (aiP _) (gl (kD h.af) (gl (kD h.dl) (BT _))))
theorem ao7(l:Lk):Bytes (NV l):=by
 cases h:nI l
 ·unfold NV;rw[h,if_neg fb];exact λx hx=>(by cases hx)
 ·have hk:=aiW h;rw[auK h];refine gl (kD (sZ au)) λx hx=> ?_
  obtain⟨b,hb,hx⟩:=iN.1 hx;exact anF (hk.1 b hb) x hx
theorem ajT{b:List Int}(h:Bytes b)(hl:b.length<=1000000000)(u:Bool×Unit):qi (b,u):=⟨hl,h⟩
def rN:Nat->gI->List Int×gI
 | 0,r=>([],r)
 |k+1,r=>((qC r).1::(rN k (qC r).2).1,(rN k (qC r).2).2)
def BR(k:Nat)(r:gI):tG×gI:=(((rN k r).1,(dJ (rN k r).2).1,(dJ (dJ (rN k r).2).2).1,(qC (dJ (dJ (rN k r).2).2).2).1,()),(qC (dJ (dJ (rN k r).2).2).2).2)
def BS:Nat->Int->gI->List tG
 | 0,_,_=> []
 |f+1,n,r=>if 0 < n then(if f=0\/12 < (dJ r).1 then [] else(BR (dJ r).1.toNat (dJ r).2).1::BS f (n - 1) (BR (dJ r).1.toNat (dJ r).2).2) else []
def rW(b:List Int):List tG:=BS 5 (dJ (b,aR,())).1 (dJ (b,aR,())).2
theorem aaS:∀(k:Nat) (r:gI),qi r->DH (rN k r).1/\(rN k r).1.length=k/\qi (rN k r).2
 | 0,r,h=>⟨λx hx=>(by cases hx),rfl,h⟩
 |k+1,r,h=>by
  have e:=OI h;have ih:=aaS k _ e.2;refine⟨λx hx=> ?_,by rw[rN,aH,ih.2.1],ih.2.2⟩;rcases cg.1 hx with rfl | hx
  ·exact e.1
  ·exact ih.1 x hx
theorem ak9(k:Nat)(r:gI)(h:qi r):aA9 (BR k r).1/\(BR k r).1.1.length=k/\qi (BR k r).2:=by have h1:=aaS k r h;have h2:=qF h1.2.2;have h3:=qF h2.2.2;have h4:=OI h3.2.2;exact⟨⟨h1.1,h4.1⟩,h1.2.1,h4.2⟩
theorem asq:∀(f:Nat) (n:Int) (r:gI),qi r->(∀b∈BS f n r,aA9 b)/\(BS f n r).length<=f
 | 0,n,r,h=>⟨λx hx=>(by cases hx),aF _⟩
 |f+1,n,r,h=>by
  have h1:=qF h;have h2:=ak9 (dJ r).1.toNat _ h1.2.2;have ih:=asq f (n - 1) _ h2.2.2;rw[BS];split
  ·split
   ·exact⟨λx hx=>(by cases hx),aP _⟩
   ·refine⟨λx hx=> ?_,by rw[aH];omega⟩;rcases cg.1 hx with rfl | hx
    ·exact h2.1
    ·exact ih.1 x hx
  ·exact⟨λx hx=>(by cases hx),aP _⟩
theorem amB{b:List Int}(h:Bytes b)(hl:b.length<=1000000000):akP (rW b,())/\(rW b).length<=5:=by have e:=asq 5 (dJ (b,aR,())).1 _ (qF (ajT h hl (aR,()))).2.2;exact⟨e.1,e.2⟩
theorem Yn:∀(ks:List Int) (rest:List Int),DH ks->rN ks.length (ks.flatMap l6++rest,aR,())=(ks,(rest,aR,()))
 |[],rest,_=>rfl
 |k::ks,rest,h=>by
  have e:qC ((k::ks).flatMap l6++rest,aR,())=(k,(ks.flatMap l6++rest,aR,())):=by rw[du,aM];exact Gc k (h k aL) _
  have ih:=Yn ks rest λx hx=>h x (aK _ hx)
  rw[aH,rN,e,ih]
theorem anB(b:tG)(hb:aA9 b)(hk:aB4 b)(rest:List Int):BR b.1.length (b.1.flatMap l6++(iF b.2.1++(iF b.2.2.1++(l6 b.2.2.2.1++rest))),aR,())=(b,(rest,aR,())):=by unfold BR;rw[Yn _ _ hb.1];simp only[];rw[E9 _ hk.af,E9 _ hk.dl,Gc _ hb.2]
theorem asp(b:tG)(rest:List Int):axO b++rest=iF b.1.length++(b.1.flatMap l6++(iF b.2.1++(iF b.2.2.1++(l6 b.2.2.2.1++rest)))):=by unfold axO;simp only[aM]
theorem adr:∀(bs:List tG) (f:Nat) (rest:List Int),(∀b∈bs,aA9 b)->(∀b∈bs,aB4 b)->bs.length+1<=f->BS f bs.length (bs.flatMap axO++rest,aR,())=bs
 |[],0,rest,_,_,h=>absurd h (by simp)
 |[],f+1,rest,_,_,_=>by rw[BS,if_neg (by show ¬(0:Int) < ((0:Nat):Int);omega)]
 |b::bs,0,rest,_,_,h=>absurd h (by simp)
 |b::bs,f+1,rest,hu,hk,h=>by
  have ub:=hu b aL;have kb:=hk b aL;have h:bs.length+1+1<=f+1:=h;have e:(b::bs).flatMap axO++rest=iF b.1.length++(b.1.flatMap l6++(iF b.2.1++(iF b.2.2.1++(l6 b.2.2.2.1++(bs.flatMap axO++rest))))):=by rw[du,aM,asp]
  have aoE:=kb.len;rw[BS,if_pos (by rw[aH];omega),e,E9 _ (sZ au)];simp only[aa];rw[if_neg au,anB b ub kb];simp only[];rw[show((b::bs).length:Int) - 1=(bs.length:Int) by rw[aH];omega,adr bs f rest (λx hx=>hu x (aK _ hx)) (λx hx=>hk x (aK _ hx)) au]
theorem aqr{l:Lk}(hu:akP l)(jd:nI l=aT)(rest:List Int):rW (NV l++rest)=l.1:=by have hk:=aiW jd;unfold rW;rw[auK jd,aM,E9 _ (sZ au)];exact adr l.1 5 rest hu hk.1 au
def DT(b:List Int):Lk×Bool:=if nI (rW b,())=aT/\NV (rW b,())=b then((rW b,()),aT) else(([],()),aR)
theorem YV{l:Lk}(hu:akP l)(jd:nI l=aT):DT (NV l)=(l,aT):=by
 have e:rW (NV l)=l.1:=by have e:=aqr hu jd [];rw[bO]at e;exact e
 unfold DT;rw[e];have e2:((l.1,()):Lk)=l:=rfl;rw[e2,if_pos ⟨jd,rfl⟩]
theorem awv{b:List Int}(h:(DT b).2=aT):∃l:Lk,nI l=aT/\NV l=b/\DT b=(l,aT)/\l=(rW b,()):=by
 unfold DT at h ⊢;split at h
 ·rename_i hc;exact⟨(rW b,()),hc.1,hc.2,by rw[if_pos hc],rfl⟩
 ·cases h
abbrev TB:=Bs×Int×Int×Nat×gI×(List tG)
abbrev Jb:=Bs×Int×Int×Int×Int×Nat×Nat×(Int×(Int×(Int×Unit)))×gI×(List Int)×(List tG)
abbrev TC:=Nat×gI×(List Int)
def xK:Jb->TC->((Bs×Int×Int×Nat×(Int×(Int×(Int×Unit)))×(List tG))×(Nat×gI×(List Int))):=λ(acD,Cr,ahf,t27,t28,T7,azL,n8,Yv,n35,T4) y=>((acD,Cr,ahf,T7,n8,T4),y)
def aa2:Jb->Prop:=λ(b,n,i,t,j,m1,m2,x,r,ks,bs)=>qi r/\ks.length=m2/\m2<=1000/\∃k c:Nat,j=k/\t=c/\k<=c/\c<=12/\m2=k
def C6:Jb->TC:=λ(b,n,i,t,j,m1,m2,x,r,ks,bs)=>(m2+(t - j).toNat,(rN (t - j).toNat r).2,ks++(rN (t - j).toNat r).1)
def aa0:TB->Prop:=λ(b,n,i,m,r,bs)=>qi r/\n<=9223372036854775807/\bs.length=m/\∃k:Nat,i=k/\k<=4/\m=k
def zh:TB->(Bs×Nat×(List tG)):=λ(b,n,i,m,r,bs)=>(b,m+(BS (5 - i.toNat) (n - i) r).length,bs++BS (5 - i.toNat) (n - i) r)
def ape:Bs->Prop:=λb=>Bytes b/\b.length<=1000000000
def aaZ:Bs->(Lk×Bool):=λb=>DT b
def oI:Ls aa0 bF zh:=xM (λ(nZ,n,i,aDv,n11,n51)=>⟨([.d tB nZ,cw,fI 2,cw,fI 11,fI 5,.d ti n,.d ti i]++bg 57 []),[],([[],[],dK (.pr (.dI) kO),[],[],dK (.pr (nR 51 aDv) kO)]++bK 5 ([dK (.d sr n11)]++bK 39 ([dK (.vec 93 sa n51)]++bK 13 [])))⟩) (λx=>(.exit 0,⟨([.d tB x.1,cw,fI 2,cw,cw,fI 5]++bg 59 []),[],([[],[],dK (.pr (.dI) kO),[],[],dK (.pr (nR 51 x.2.1) kO)]++bK 45 ([dK (.vec 93 sa x.2.2)]++bK 13 []))⟩))
def sV:Ls aa2 xK C6:=xM (λ(acD,Cr,ahf,t27,t28,T7,azL,n8,Yv,n35,T4)=>⟨([.d tB acD,cw,fI 2,cw,fI 11,fI 5,.d ti Cr,.d ti ahf,fI 8]++bg 18 ([.d ti t27,.d ti t28]++bg 36 [])),[],([[],[],dK (.pr (.dI) kO),[],[],dK (.pr (nR 51 T7) kO),[],[],dK (.pr (nR 35 azL) (.d (.pair ti (.pair ti (.pair tu .unit))) n8)),[],[],dK (.d sr Yv)]++bK 23 ([dK (.vec 89 tu n35)]++bK 15 ([dK (.vec 93 sa T4)]++bK 13 [])))⟩) (λx=>(.exit 2,⟨([.d tB x.1.1,cw,fI 2,cw,fI 11,fI 5,.d ti x.1.2.1,.d ti x.1.2.2.1,fI 8]++bg 56 []),[],([[],[],dK (.pr (.dI) kO),[],[],dK (.pr (nR 51 x.1.2.2.2.1) kO),[],[],dK (.pr (nR 35 x.2.1) (.d (.pair ti (.pair ti (.pair tu .unit))) x.1.2.2.2.2.1)),[],[],dK (.d sr x.2.2.1)]++bK 23 ([dK (.vec 89 tu x.2.2.2)]++bK 15 ([dK (.vec 93 sa x.1.2.2.2.2.2)]++bK 13 [])))⟩))
def zg:Fs Tryz.prog ape bF aaZ:=gg 132 Tryz.f132 (λb=>([.d tB b],[])) (λx=>⟨.cons (.d ahh x.1) (.cons (.d .bool x.2) (.nil)),[],[]⟩) [al tB] [agc,RG,amG,B4,Yo,aya] {loops:=sk [(5,{bu:=[0,2,4,5,6,7],sites:=[2,5,11,51],owns:=[⟨5,[.fst],51,44⟩]}),(11,{bu:=[0,2,4,5,6,7,8,27,28],sites:=[2,5,8,11,35,51],owns:=[⟨8,[.fst],35,91⟩]})],outs:=sj [(5,{bu:=[0,2,5],sites:=[2,5,51]},{bu:=[2,3]}),(11,{bu:=[0,2,4,5,6,7,8],sites:=[2,5,8,11,35,51]},{bu:=[2,3]})],gV:=tK [(5,oI.E),(11,sV.E)],res:=[al ahh,aJ]}
theorem aa1:oI.RS:=rL [.d tB,.d ti,.d ti,.n,.d sr,.d (.slice sa)] oI
theorem A9(nZ n i aDv n11 n51)(kn:K2 R)(kx:K3 R):zg.R 0 oI (nZ,n,i,aDv,n11,n51) kn kx=aS (iE i n) (aq (Bw.call n11) λIh=>aS (HA i 4) (oI.go kx (nZ,aDv,n51)) (aS (Ap Ih.1 12) (oI.go kx (nZ,aDv,n51)) (aq (sV.call (nZ,n,i,Ih.1,0,aDv,0,(0,(0,(0,()))),Ih.2,([]:List Int),n51)) λRc=>aq (Bw.call Rc.2.2.1) λaJ9=>aq (Bw.call aJ9.2) λaB0=>aq (Mu.call aB0.2) λaB1=>aS (decide (0=0/\(0+Rc.2.1)<=(ag Rc.2.2.2))) (aS (decide (Rc.1.2.2.2.1<=(ag Rc.1.2.2.2.2.2))) (aS (ea (Rc.1.2.2.2.1+1) 48) (kn (oI.st (Rc.1.1,Rc.1.2.1,(bV .i64 Rc.1.2.2.1 1),(Rc.1.2.2.2.1+1),aB1.2,((bj Rc.1.2.2.2.1 Rc.1.2.2.2.2.2)++ [((cut Rc.2.2.2 0 Rc.2.1),(aJ9.1,(aB0.1,(aB1.1,Rc.1.2.2.2.2.1.2.2.2))))])))) aJ) aJ) aJ))) (oI.go kx (nZ,aDv,n51)):=cT
theorem aa3:sV.RS:=rL [.d tB,.d ti,.d ti,.d ti,.d ti,.n,.n,.d (.pair ti (.pair ti (.pair tu .unit))),.d sr,.d tU,.d (.slice sa)] sV
theorem HF(acD Cr ahf t27 t28 T7 azL n8 Yv n35 T4)(kn:K2 R)(kx:K3 R):zg.R 1 sV (acD,Cr,ahf,t27,t28,T7,azL,n8,Yv,n35,T4) kn kx=aS (iE t28 t27) (aq (Mu.call Yv) λx4=>aS (decide (azL<=(ag n35))) (aS (ea (azL+1) 8) (kn (sV.st (acD,Cr,ahf,t27,(bV .i64 t28 1),T7,(azL+1),n8,x4.2,((bj azL n35)++ [x4.1]),T4))) aJ) aJ) (sV.go kx ((acD,Cr,ahf,T7,n8,T4),(azL,Yv,n35))):=cT
theorem auV(b)(k:K1 R):zg.A b k=aq (Qt.call b) λx4=>aq (Bw.call x4) λx6=>aq (oI.call (b,x6.1,0,0,x6.2,([]:List tG))) λarv=>aS (decide (0=0/\(0+arv.2.1)<=(ag arv.2.2))) (aq (oJ.call ((cut arv.2.2 0 arv.2.1),())) λaJb=>aS (!aJb) (k (zg.out ((([]:List tG),()),aR))) (aS (decide (0=0/\(0+arv.2.1)<=(ag arv.2.2))) (aq (rp.call ((cut arv.2.2 0 arv.2.1),())) λaJc=>aq (Nd.call (aJc,arv.1)) λaJd=>aS (!aJd) (k (zg.out ((([]:List tG),()),aR))) (aS (decide (0=0/\(0+arv.2.1)<=(ag arv.2.2))) (k (zg.out (((cut arv.2.2 0 arv.2.1),()),aT))) aJ)) aJ)) aJ:=cT
theorem ae8:(zg.mw 1 sV):=by
 refine(zg.qz 1 sV) (λ(b,n,i,t,j,m1,m2,x,r,ks,bs)=>(t - j).toNat) ?_
 rintro⟨b,n,i,t,j,m1,m2,x,r,ks,bs⟩ ⟨hr,aG4,hm,k,c,rfl,rfl,aLs,hc,at8⟩;have hr:qi r:=hr;have aG4:ks.length=m2:=aG4;have at8:m2=k:=at8;by_cases h:k < c
 ·left;have e1:((c:Int) - (k:Int)).toNat=(c - (k+1))+1:=au;have e2:((c:Int) - ((k+1:Nat):Int)).toNat=c - (k+1):=au;refine⟨(b,n,i,(c:Int),((k+1:Nat):Int),m1,m2+1,x,(qC r).2,ks++ [(qC r).1],bs),⟨(OI hr).2,by rw[aj];show ks.length+1=_;omega,au,k+1,c,rfl,rfl,au,hc,au⟩,by show((c:Int) - ((k+1:Nat):Int)).toNat < ((c:Int) - (k:Int)).toNat;omega,?_,λkn kx=> ?_⟩
  ·simp only[xK,C6,e1,e2,rN,aM,dQ];rw[show m2+1+(c - (k+1))=m2+(c - (k+1)+1) by omega]
  ·rw[HF,bm au,FI (d:=r) hr];simp only[ae,ak,bF,OA];rw[bf au,eW au au,N.pn au,bC au];rfl
 ·right;obtain rfl:k=c:=au;intro R kn kx;rw[HF,bn au,ao];simp only[xK,C6,Int.sub_self,bt,rN,bO,cW]
theorem ae7:(zg.mw 0 oI):=by
 refine(zg.qz 0 oI) (λ(b,n,i,m,r,bs)=>5 - i.toNat) ?_
 rintro⟨b,n,i,m,r,bs⟩ ⟨hr,hn,aJz,k,rfl,hk,at8⟩;have hr:qi r:=hr;have hn:n<=9223372036854775807:=hn;have aJz:bs.length=m:=aJz;have at8:m=k:=at8;have e0:5 - (k:Int).toNat=(4 - k)+1:=by rw[aa];omega
 have g1:=qF hr;by_cases h:(k:Int) < n
 ·have hp:0 < n - (k:Int):=au;by_cases hc:4 - k=0\/12 < (dJ r).1
  ·right;intro R kn kx;have eb:BS ((4 - k)+1) (n - (k:Int)) r=[]:=by rw[BS,if_pos hp,if_pos hc]
   rw[A9,bm h,oS (d:=r) hr];simp only[ae,ak,bF,uj,bF,zh,e0,eb,bB,cW,bO];by_cases h4:(k:Int)=4
   ·rw[qo h4,ak]
   ·rw[nu h4,ao,dX au,ak]
  ·left;have h4:¬(k:Int)=4:=au;have aFE:¬(dJ r).1 > 12:=au;obtain⟨c,aJB⟩:∃c:Nat,(dJ r).1=c:=⟨(dJ r).1.toNat,au⟩;have aez:=ak9 c _ g1.2.2;have gk:=aaS c _ g1.2.2;have ga:=qF gk.2.2;have gd:=qF ga.2.2;have eb:BS ((4 - k)+1) (n - (k:Int)) r=(BR c (dJ r).2).1::BS (4 - k) (n - (k:Int) - 1) (BR c (dJ r).2).2:=by rw[BS,if_pos hp,if_neg hc,aJB,aa]
   have e1:5 - ((k+1:Nat):Int).toNat=4 - k:=by rw[aa];omega
   refine⟨(b,n,((k+1:Nat):Int),m+1,(BR c (dJ r).2).2,bs++ [(BR c (dJ r).2).1]),⟨aez.2.2,hn,by rw[aj];show bs.length+1=_;omega,k+1,rfl,au,au⟩,by simp only[aa];omega,?_,λkn kx=> ?_⟩
   ·simp only[bF,zh,e0,e1,eb,aM,dQ,aH];rw[show n - ((k+1:Nat):Int)=n - (k:Int) - 1 by omega,show m+1+(BS (4 - k) (n - (k:Int) - 1) (BR c (dJ r).2).2).length=m+((BS (4 - k) (n - (k:Int) - 1) (BR c (dJ r).2).2).length+1) by omega]
   ·rw[A9,bm h,oS (d:=r) hr];simp only[ae,ak,bF,uj];rw[nu h4,ao,dx aFE,ao,aJB,aa3 (d:=(b,n,(k:Int),(c:Int),0,m,0,(0,0,0,()),(dJ r).2,[],bs)) ⟨g1.2.2,rfl,fb,0,c,rfl,rfl,aP _,au,rfl⟩];simp only[ae,xK,C6,pa,aa,ba,aV];rw[oS (d:=(rN c (dJ r).2).2) gk.2.2];simp only[ae,bF,uj];rw[oS (d:=(dJ (rN c (dJ r).2).2).2) ga.2.2];simp only[ae,bF,uj];rw[FI (d:=(dJ (dJ (rN c (dJ r).2).2).2).2) gd.2.2];simp only[ae,bF,OA];rw[bf ⟨by trivial,by rw[gk.2.1];exact aF _⟩,bf au,eW au au,N.pn au,bC au,fp gk.2.1];rfl
 ·right;intro R kn kx;have eb:BS ((4 - k)+1) (n - (k:Int)) r=[]:=by rw[BS,if_neg au]
  rw[A9,bn h,ao];simp only[bF,zh,e0,eb,bB,cW,bO]
theorem auW:zg.Ok:=by
 rintro b ⟨hb,hl⟩;have hb:Bytes b:=hb;have hl:b.length<=1000000000:=hl;have g0:=ajT hb hl (aR,());have g1:=qF g0;have gu:=amB hb hl;rw[auV,Y0 (d:=b) hl];simp only[ae,bF,abT];rw[oS (d:=(b,aR,())) g0];simp only[ae,bF,uj];rw[aa1 (d:=(b,(dJ (b,aR,())).1,0,0,(dJ (b,aR,())).2,[])) ⟨g1.2.2,g1.2.1,rfl,0,rfl,fb,rfl⟩];simp only[ae,bF,zh,bt,Nat.sub_zero,pa,ba,aV,aF,j4,cR,ak,fp];rw[show BS 5 (dJ (b,aR,())).1 (dJ (b,aR,())).2=rW b from rfl];have hL1:((rW b,()):Lk).1.length<=1000000000:=by show(rW b).length<=_;omega
 rw[zi (d:=(rW b,())) ⟨gu.1,jx hL1 fb⟩];simp only[ae,bF,B3,bF,aaZ,DT];cases jd:nI (rW b,())
 ·rw[if_neg (by rintro⟨x,_⟩;cases x)];rfl
 ·rw[Tp (d:=(rW b,())) ⟨gu.1,jx hL1 fb⟩];simp only[cv,ao,ae,bF,Ll];rw[arY (d:=(NV (rW b,()),b)) (by show(NV _).length<=_;have:=Ln (rW b,());omega)];simp only[ae,bF,ahy];by_cases hx:NV (rW b,())=b
  ·rw[bf hx,if_pos ⟨by trivial,hx⟩];rfl
  ·rw[bI hx,if_neg (λy=>hx y.2)];rfl
theorem apf:zg.RS:=rE [.d tB] zg
def auX:=zg.gm auW 2 ⟨.gQ ae7,⟨.gQ ae8,trivial⟩⟩
def ER(r:gI):List Int×gI:=((lZ 32 r).1++bT (lZ 32 r).1.length (ai 32 (0:Int)),(lZ 32 r).2)
def Ef(r:gI):List Int×gI:=if(dJ r).2.2.1=aT then([],(dJ r).2) else lZ (dJ r).1.toNat (dJ r).2
def JQ(most:Int)(r:gI):Int×gI:=(if(dJ r).1 > most then -1 else(dJ r).1,(dJ r).2)
def aBQ(r:gI):cC×gI:=(((ER r).1,(dJ (ER r).2).1,()),(dJ (ER r).2).2)
def G7:Nat->gI->List cC×gI
 | 0,r=>([],r)
 |k+1,r=>((aBQ r).1::(G7 k (aBQ r).2).1,(G7 k (aBQ r).2).2)
def Ug(r:gI):lM×gI:=(((dJ r).1,(DT (Ef (dJ r).2).1).1,()),(Ef (dJ r).2).2)
def DR:Nat->gI->Option (List lM×gI)
 | 0,r=>al ([],r)
 |k+1,r=>if(DT (Ef (dJ r).2).1).2=aT then(match DR k (Ug r).2 with
  |some x=>al ((Ug r).1::x.1,x.2)
  |none=>aJ) else aJ
def aBW(r:gI):Sg×gI:=(((qC r).1,(qC (qC r).2).1,()),(qC (qC r).2).2)
def Du:Nat->gI->List Sg×gI
 | 0,r=>([],r)
 |k+1,r=>((aBW r).1::(Du k (aBW r).2).1,(Du k (aBW r).2).2)
def uq(r:gI):List Sg×gI:=Du (JQ 12 (dJ r).2).1.toNat (JQ 12 (dJ r).2).2
def akG(r:gI):Option (Re×gI):=if(JQ 12 (dJ r).2).1 < 0 then aJ else al (((dJ r).1,(uq r).1,(qC (uq r).2).1,()),(qC (uq r).2).2)
def Eb:List cC->gI->Option (List kj×gI)
 |[],r=>al ([],r)
 |o::l,r=>match akG r with
  |none=>aJ
  |some w=>match Eb l w.2 with
   |none=>aJ
   |some x=>al ((o,w.1,())::x.1,x.2)
def aDA:dS×Bool:=(([],[],0,()),aR)
def atx(n m:Int)(t:dS)(r:gI):dS×Bool:=if n < 0\/m < 0\/r.2.1=aT\/0 < r.1.length\/iM t=aR then aDA else(t,aT)
def au4(n m:Int)(ops:List cC)(os:List lM)(r:gI):dS×Bool:=match Eb ops (dJ r).2 with
 |none=>aDA
 |some x=>atx n m (x.1,os,(dJ r).1,()) x.2
def abQ(b:List Int):dS×Bool:=
 let n:=JQ 64 (b,aR,())
 let ops:=G7 n.1.toNat n.2
 let m:=JQ 64 ops.2
 match DR m.1.toNat m.2 with
 |none=>aDA
 |some x=>au4 n.1 m.1 ops.1 x.1 x.2
def ajh(o:cC):List Int:=o.1++iF o.2.1
def B8(o:lM):List Int:=iF o.1++(iF (NV o.2.1).length++NV o.2.1)
def arC(s:Sg):List Int:=l6 s.1++l6 s.2.1
def BH(w:Re):List Int:=iF w.1++(iF w.2.1.length++(w.2.1.flatMap arC++l6 w.2.2.1))
def aHl(t:dS):List Int:=iF t.1.length++(t.1.flatMap (λx=>ajh x.1)++(iF t.2.1.length++(t.2.1.flatMap B8++(iF t.2.2.1++t.1.flatMap λx=>BH x.2.1))))
theorem BY{α:Type}(f:List Int->α->List Int)(w:α->List Int):∀(l:List α) (b:List Int),(∀x∈l,∀b,f b x=b++w x)->l.foldl f b=b++l.flatMap w
 |[],b,_=>by simp
 |x::l,b,h=>by rw[aY,h x aL,BY f w l _ λy hy=>h y (aK _ hy),du,aM]
theorem zC(b:List Int){n:Int}(h:0<=n):dW b n=b++iF n:=by unfold dW;rw[if_neg au]
theorem axy{t:dS}(jd:iM t=aT):aAT t=aHl t:=by
 obtain⟨⟨_,a2,a3,a4⟩,b1,b2⟩:=jo jd;have e1:∀b,t.1.foldl Rs b=b++t.1.flatMap λx=>ajh x.1:=λb=>BY _ _ _ _ λx hx b=>by have:=C0 (oF _ _ b1 x hx);unfold Rs ajh;rw[zC _ this.1,aM]
 have e2:∀b,t.2.1.foldl Q1 b=b++t.2.1.flatMap B8:=λb=>BY _ _ _ _ λo ho b=>by have:=(mP _ _ b2 o ho).1;unfold Q1 B8;rw[zC _ this.1,aM]
 have e3:∀(l:List Sg) b,l.foldl Vn b=b++l.flatMap arC:=λl b=>BY _ _ _ _ λs _ b=>by unfold Vn arC;rw[aM]
 have e4:∀b,t.1.foldl akF b=b++t.1.flatMap λx=>BH x.2.1:=λb=>BY _ _ _ _ λx hx b=>by have:=C0 (oF _ _ b1 x hx);unfold akF BH;rw[e3,zC _ this.2.2.1,zC _ au];simp only[aM]
 unfold aAT wg aHl;rw[if_pos jd,e4,zC _ a4,e2,zC _ au,e1,zC _ au,aV];simp only[aM]
theorem Zg{n:Nat}(a rest:List Int)(h:a.length=n):lZ n (a++rest,aR,())=(a,(rest,aR,())):=by
 unfold lZ;rw[if_neg (by
  intro x;rcases x with x | x
  ·cases x
  ·have x:(a++rest).length < n:=x;rw[aj]at x;omega)]
 show((a++rest).take n,((a++rest).drop n,aR,()))=_;rw[kA h,kz h]
theorem aoF(a rest:List Int)(h:a.length=32):ER (a++rest,aR,())=(a,(rest,aR,())):=by unfold ER;rw[Zg a rest h];simp only[h];rw[show bT 32 (ai 32 (0:Int))=[] from rfl,bO]
theorem B6(n:Int)(h:Ec n)(rest:List Int):dJ (iF n++rest,aR,())=(n,(rest,aR,())):=E9 n h rest _
theorem asu(a rest:List Int)(h:a.length<=1000000000):Ef (iF a.length++(a++rest),aR,())=(a,(rest,aR,())):=by unfold Ef;rw[B6 _ (sZ au)];simp only[bW,cK,aa];exact Zg a rest rfl
theorem acv{n m:Int}(h:Ec n)(hm:n<=m)(rest:List Int):JQ m (iF n++rest,aR,())=(n,(rest,aR,())):=by unfold JQ;rw[B6 n h];simp only[if_neg (show ¬n > m by omega)]
theorem afx:∀(l:List cC) (rest:List Int),(∀o∈l,o.1.length=32/\Ec o.2.1)->G7 l.length (l.flatMap ajh++rest,aR,())=(l,(rest,aR,()))
 |[],rest,_=>rfl
 |o::l,rest,h=>by
  obtain⟨h1,h2⟩:=h o aL;have e:aBQ ((o::l).flatMap ajh++rest,aR,())=(o,(l.flatMap ajh++rest,aR,())):=by unfold aBQ ajh;rw[du,aM,aM,aoF _ _ h1];simp only[];rw[B6 _ h2]
  rw[aH,G7,e,afx l rest λx hx=>h x (aK _ hx)]
theorem YH:∀(l:List lM) (rest:List Int),(∀o∈l,Ec o.1/\nI o.2.1=aT/\akP o.2.1)->DR l.length (l.flatMap B8++rest,aR,())=al (l,(rest,aR,()))
 |[],rest,_=>rfl
 |o::l,rest,h=>by
  obtain⟨h1,h2,h3⟩:=h o aL;have hl:=Ln o.2.1;have e0:dJ ((o::l).flatMap B8++rest,aR,())=(o.1,(iF (NV o.2.1).length++(NV o.2.1++(l.flatMap B8++rest)),aR,())):=by rw[du];unfold B8;simp only[aM];exact B6 _ h1 _
  have e1:Ef (dJ ((o::l).flatMap B8++rest,aR,())).2=(NV o.2.1,(l.flatMap B8++rest,aR,())):=by rw[e0];exact asu _ _ au
  have e2:Ug ((o::l).flatMap B8++rest,aR,())=(o,(l.flatMap B8++rest,aR,())):=by unfold Ug;rw[e1,e0,YV h3 h2]
  rw[aH,DR,e1,YV h3 h2,if_pos rfl,e2,YH l rest λx hx=>h x (aK _ hx)]
theorem agr:∀(l:List Sg) (rest:List Int),(∀s∈l,nY s.1/\nY s.2.1)->Du l.length (l.flatMap arC++rest,aR,())=(l,(rest,aR,()))
 |[],rest,_=>rfl
 |s::l,rest,h=>by
  obtain⟨h1,h2⟩:=h s aL;have e:aBW ((s::l).flatMap arC++rest,aR,())=(s,(l.flatMap arC++rest,aR,())):=by unfold aBW arC;rw[du,aM,aM,Gc _ h1];simp only[];rw[Gc _ h2]
  rw[aH,Du,e,agr l rest λx hx=>h x (aK _ hx)]
theorem axH(w:Re)(rest:List Int)(hw:RL w)(hb:Ec w.1)(aoE:w.2.1.length<=12):akG (BH w++rest,aR,())=al (w,(rest,aR,())):=by
 have e0:dJ (BH w++rest,aR,())=(w.1,(iF w.2.1.length++(w.2.1.flatMap arC++(l6 w.2.2.1++rest)),aR,())):=by unfold BH;simp only[aM];exact B6 _ hb _
 have e1:JQ 12 (dJ (BH w++rest,aR,())).2=((w.2.1.length:Int),(w.2.1.flatMap arC++(l6 w.2.2.1++rest),aR,())):=by rw[e0];exact acv (sZ au) au _
 have e2:uq (BH w++rest,aR,())=(w.2.1,(l6 w.2.2.1++rest,aR,())):=by unfold uq;rw[e1];exact agr _ _ hw.1
 unfold akG;rw[e1,if_neg (by show ¬(w.2.1.length:Int) < 0;omega),e2,e0];simp only[];rw[Gc _ hw.2]
theorem Zq:∀(l:List kj) (rest:List Int),(∀x∈l,RL x.2.1/\Ec x.2.1.1/\x.2.1.2.1.length<=12)->Eb (l.map (·.1)) (l.flatMap (λx=>BH x.2.1)++rest,aR,())=al (l,(rest,aR,()))
 |[],rest,_=>rfl
 |x::l,rest,h=>by obtain⟨h1,h2,h3⟩:=h x aL;rw[du,aM,cn,Eb,axH _ _ h1 h2 h3];simp only[];rw[Zq l rest λy hy=>h y (aK _ hy)]
theorem ajU{t:dS}(hv:vW t)(jd:iM t=aT):abQ (aAT t)=(t,aT):=by
 obtain⟨⟨a1,a2,a3,a4⟩,b1,b2⟩:=jo jd;have aeB:∀x∈t.1,_:=λx hx=>C0 (oF _ _ b1 x hx)
 have aKG:=hv.2.2;rw[axy jd];have e1:=acv (n:=(t.1.length:Int)) (m:=64) (sZ au) au (t.1.flatMap (λx=>ajh x.1)++(iF t.2.1.length++(t.2.1.flatMap B8++(iF t.2.2.1++t.1.flatMap λx=>BH x.2.1))));have ef:t.1.flatMap (λx=>ajh x.1)=(t.1.map (·.1)).flatMap ajh:=by rw[List.flatMap_map]
 have e2:=afx (t.1.map (·.1)) (iF t.2.1.length++(t.2.1.flatMap B8++(iF t.2.2.1++t.1.flatMap λx=>BH x.2.1))) λo ho=>by obtain⟨x,hx,rfl⟩:=dO.1 ho;exact⟨(hv.2.1 x hx).1.1,(aeB x hx).1,by have:=(aeB x hx).2.1;omega⟩
 rw[<-ef,cF]at e2;have e3:=acv (n:=(t.2.1.length:Int)) (m:=64) (sZ au) au (t.2.1.flatMap B8++(iF t.2.2.1++t.1.flatMap λx=>BH x.2.1));have e4:=YH t.2.1 (iF t.2.2.1++t.1.flatMap λx=>BH x.2.1) λo ho=>by have:=mP _ _ b2 o ho;exact⟨⟨this.1.1,au⟩,this.2,(hv.1.1 o ho).1⟩
 have e5:=B6 t.2.2.1 ⟨a4,aKG⟩ (t.1.flatMap λx=>BH x.2.1);have e6:=Zq t.1 [] λx hx=>⟨(hv.2.1 x hx).2.1,⟨(aeB x hx).2.2.1,by have:=(aeB x hx).2.2.2.1;omega⟩,(aeB x hx).2.2.2.2⟩
 rw[bO]at e6;unfold abQ aHl;simp only[e1,aa,e2,e3,e4];unfold au4;simp only[e5,e6];unfold atx;rw[if_neg];rintro(x | x | x | x | x)
 ·omega
 ·omega
 ·cases x
 ·simp at x
 ·rw[show((t.1,t.2.1,t.2.2.1,()):dS)=t from rfl,jd]at x;cases x
def sD(r:gI):Prop:=qi r/\(r.2.1=aT->r.1=[])
def Ov(r r':gI)(e:List Int):Prop:=sD r'/\(r'.2.1=aR->r.2.1=aR/\r.1=e++r'.1)
theorem Ov.trans{r r1 r2:gI}{e1 e2:List Int}(h1:Ov r r1 e1)(h2:Ov r1 r2 e2):Ov r r2 (e1++e2):=
 ⟨h2.1,λh=>⟨(h1.2 (h2.2 h).1).1,by rw[(h1.2 (h2.2 h).1).2,(h2.2 h).2,aM]⟩⟩
theorem Ov.of{r r':gI}{e e':List Int}(h:Ov r r' e)(he:r'.2.1=aR->e=e'):Ov r r' e':=⟨h.1,λh'=>by rw[<-he h'];exact h.2 h'⟩
theorem Ov.refl{r:gI}(h:sD r):Ov r r []:=⟨h,λh'=>⟨h',rfl⟩⟩
theorem ayR:sD KS:=⟨aar,λ_=>rfl⟩
theorem aeh(r:gI)(e:List Int):Ov r KS e:=⟨ayR,λh=>by cases h⟩
theorem aAs{b:List Int}(hb:Bytes b)(hl:b.length<=1000000000):sD (b,aR,()):=⟨ajT hb hl (aR,()),λh=>by cases h⟩
theorem VI{r:gI}(h:sD r)(n:Nat):Ov r (lZ n r).2 (lZ n r).1/\((lZ n r).2.2.1=aR->(lZ n r).1.length=n):=by
 have hb:=(yo (n:=n) h.1).2.2
 revert hb
 unfold lZ;split
 ·exact λ_=>⟨aeh _ _,λh=>by cases h⟩
 ·rename_i hc;intro hb;have h1:r.2.1=aR:=by cases hr:r.2.1 with | false=>rfl | true=>exact absurd (lr hr) hc
  have h2:¬r.1.length < n:=λx=>hc (fv x)
  exact⟨⟨⟨hb,λ(hx:r.2.1=aT)=>by rw[h1]at hx;cases hx⟩,λ_=>⟨h1,(dw n r.1).symm⟩⟩,λ_=>by show(r.1.take n).length=n;rw[cG];omega⟩
theorem Vg(f:Nat){d:Int}(h:d < 128):gG f d=([],d):=by
 cases f with
 |zero=>rfl
 |succ f=>rw[gG,if_neg au]
theorem afp:∀(l:List Int) (a:Nat) (n:Int) (v:Int×Nat),Bytes l->a<=9->zp l a n= .inl v->
  ∃w rest,v.1=n+w*128^a/\0<=w/\(a=0\/0 < w)/\w < 128^(9 - a)/\l=(gG (8 - a) w).1++(gG (8 - a) w).2::rest/\v.2=a+(gG (8 - a) w).1.length+1
 |[],a,n,v,_,_,h=>by cases h
 |d::l,a,n,v,hb,ha,h=>by
  obtain⟨x1,x2⟩:=hb d aL;rw[zp]at h;split at h
  ·cases h
  rename_i hc;have aJw:a<=8:=au;have e9:(128:Int)^(9 - a)=128^(8 - a)*128:=by rw[show 9 - a=(8 - a)+1 by omega];exact gh 128 (8 - a)
  have p8:(0:Int) < 128^(8 - a):=Int.pow_pos fb;split at h
  ·rename_i hd;cases h;refine⟨d,l,by rw[fo x1 hd],x1,au,au,?_,?_⟩
   ·rw[Vg _ hd];rfl
   ·rw[Vg _ hd];rfl
  ·rename_i hd;obtain⟨w,rest,e1,w0,w1,w2,e2,e3⟩:=afp l (a+1) _ v (λx hx=>hb x (aK _ hx)) au h;have w1:0 < w:=au;rw[show 9 - (a+1)=8 - a by omega]at w2;have aLn:a<=7:=by
    by_cases h8:a=8
    ·rw[h8]at w2;have:(128:Int)^(8 - 8)=1:=rfl;omega
    ·omega
   have er:gG (8 - a) (d%128+128*w)=((d%128+128)::(gG (8 - (a+1)) w).1,(gG (8 - (a+1)) w).2):=by rw[show 8 - a=(8 - (a+1))+1 by omega,gG,if_pos au,show(d%128+128*w)%128=d%128 by omega,show(d%128+128*w) / 128=w by omega]
   refine⟨d%128+128*w,rest,?_,au,au,au,?_,?_⟩
   ·rw[e1,gh,Int.add_mul,Int.add_assoc,Int.mul_comm 128 w,Int.mul_assoc w,Int.mul_comm 128]
   ·rw[er,e2,show d%128+128=d by omega];rfl
   ·rw[er,e3];simp only[aH];omega
theorem qG{r:gI}(h:sD r):Ov r (dJ r).2 (iF (dJ r).1)/\((dJ r).2.2.1=aR->Ec (dJ r).1):=by
 have hk:=qF h.1
 revert hk
 unfold dJ;cases hf:zp r.1 0 0 with
 |inr _=>exact λ_=>⟨aeh _ _,λh=>by cases h⟩
 |inl v=>
  intro hk;obtain⟨w,rest,e1,w0,_,w2,e2,e3⟩:=afp r.1 0 0 v h.1.2 fb hf;have h1:r.2.1=aR:=by
   cases hr:r.2.1 with
   |false=>rfl
   |true=>rw[h.2 hr]at hf;cases hf
  have ew:v.1=w:=by rw[e1,kE];omega
  have e9:(128:Int)^(9 - 0)=9223372036854775808:=rfl;have e8:(128:Int)^(8+1)=9223372036854775808:=rfl;have e10:(128:Int)^(10+1)=151115727451828646838272:=rfl;have er:gG 10 w=gG 8 w:=GQ 10 8 w (by rw[e10];omega) (by rw[e8];omega);have en:iF v.1=(gG 8 w).1++ [(gG 8 w).2]:=by rw[ew];unfold iF;rw[er]
  refine⟨⟨⟨hk.2.2,λ(hx:r.2.1=aT)=>by rw[h1]at hx;cases hx⟩,λ_=>⟨h1,?_⟩⟩,λ_=>⟨hk.1,hk.2.1⟩⟩;show r.1=iF v.1++r.1.drop v.2;rw[en,e3,aM]
  conv=>rhs;rw[e2]
  rw[List.append_cons,ba,kz (by rw[aj];rfl)];exact e2
theorem arW{l:List Int}(h:l.length=8)(hb:Bytes l):l6 (Ji l)=l:=by
 match l,h with
 |[a,b,c,d,e,f,g,i],_=>
  have h0:=hb a (by simp);have h1:=hb b (by simp);have h2:=hb c (by simp);have h3:=hb d (by simp);have h4:=hb e (by simp);have h5:=hb f (by simp);have h6:=hb g (by simp);have h7:=hb i (by simp);unfold Zt at h0 h1 h2 h3 h4 h5 h6 h7;unfold l6 Ji;simp only[aY,dd];congr 1
  ·omega
  congr 1
  ·omega
  congr 1
  ·omega
  congr 1
  ·omega
  congr 1
  ·omega
  congr 1
  ·omega
  congr 1
  ·omega
  congr 1;omega
theorem GW{r:gI}(h:sD r):Ov r (qC r).2 (l6 (qC r).1):=by have e:=VI h 8;exact e.1.of λhk=>(arW (e.2 hk) (yo h.1).2.1).symm
theorem aey{r:gI}(h:sD r):Ov r (ER r).2 (ER r).1:=by
 have e:=VI h 32;refine e.1.of λhk=> ?_
 unfold ER;simp only[e.2 hk];rw[show bT 32 (ai 32 (0:Int))=[] from rfl,bO]
theorem at4{r:gI}(h:qi r):Sm (ER r).1:=by
 have e:=yo (n:=32) h;refine⟨?_,gl e.2.1 λx hx=> ?_⟩
 ·show((lZ 32 r).1++bT (lZ 32 r).1.length (ai 32 (0:Int))).length=32;rw[aj,de,dF];have:=e.1;omega
 ·obtain rfl:=(qV.1 (nW hx)).2;exact⟨fb,fb⟩
theorem ZJ{r:gI}(h:sD r):Ov r (Ef r).2 (iF (Ef r).1.length++(Ef r).1)/\Bytes (Ef r).1/\(Ef r).1.length<=1000000000:=by
 have e:=qG h;unfold Ef;split
 ·rename_i hc;exact⟨⟨e.1.1,λhk=>by rw[hc]at hk;cases hk⟩,λx hx=>(by cases hx),aP _⟩
 ·rename_i hc;have hc:(dJ r).2.2.1=aR:=by simpa using hc
  have t:=VI e.1.1 (dJ r).1.toNat;have tb:=yo (n:=(dJ r).1.toNat) e.1.1.1;have n0:=(e.2 hc).1;refine⟨(e.1.trans t.1).of λhk=> ?_,tb.2.1,?_⟩
  ·rw[t.2 hk,Int.toNat_of_nonneg n0]
  ·have hl:(lZ (dJ r).1.toNat (dJ r).2).1.length<=(dJ r).2.1.length:=by
    unfold lZ;split
    ·exact aP _
    ·show((dJ r).2.1.take _).length<=_;rw[cG];omega
   have:=e.1.1.1.1;omega
theorem aEb{r:gI}(h:sD r){m:Int}(h0:0<=(JQ m r).1):Ov r (JQ m r).2 (iF (JQ m r).1)/\(JQ m r).1<=m:=by
 have e:=qG h;unfold JQ at h0 ⊢;by_cases hc:(dJ r).1 > m
 ·simp only[if_pos hc]at h0;omega
 ·simp only[if_neg hc];exact⟨e.1,au⟩
theorem amS{r:gI}(h:sD r)(m:Int):sD (JQ m r).2:=(qG h).1.1
theorem amR{r:gI}(h:qi r){m:Int}(hm:0<=m): -1<=(JQ m r).1/\(JQ m r).1<=m:=by
 have:=(qF h).1;unfold JQ;split
 ·exact⟨au,by show(-1:Int)<=m;omega⟩
 ·rename_i hc;have hc:¬(dJ r).1 > m:=hc;exact⟨by show -1<=(dJ r).1;omega,by show(dJ r).1<=m;omega⟩
theorem al9:∀(k:Nat) {r:gI},sD r->Ov r (G7 k r).2 ((G7 k r).1.flatMap ajh)/\(G7 k r).1.length=k/\∀o∈(G7 k r).1,Sm o.1
 | 0,r,h=>⟨Ov.refl h,rfl,λx hx=>by cases hx⟩
 |k+1,r,h=>by
  have e1:=aey h;have e2:=qG e1.1;have ih:=al9 k (r:=(aBQ r).2) e2.1.1;refine⟨?_,by rw[G7,aH,ih.2.1],λo ho=> ?_⟩
  ·have:=(e1.trans e2.1).trans ih.1;rw[G7,du];exact this
  ·rcases cg.1 ho with rfl | ho
   ·exact at4 h.1
   ·exact ih.2.2 o ho
theorem aDH{r:gI}(h:sD r):sD (Ug r).2:=(ZJ (qG h).1.1).1.1
theorem afz:∀(k:Nat) {r:gI} {x:List lM×gI},sD r->DR k r=al x->Ov r x.2 (x.1.flatMap B8)/\x.1.length=k/\∀o∈x.1,o.1<=9223372036854775807/\nI o.2.1=aT/\aB7 o.2.1
 | 0,r,x,h,hx=>by cases hx;exact⟨Ov.refl h,rfl,λx hx=>by cases hx⟩
 |k+1,r,x,h,hx=>by
  rw[DR]at hx;split at hx
  ·rename_i hr;split at hx
   ·rename_i y hy;cases hx;have e1:=qG h;have e2:=ZJ e1.1.1;have ih:=afz k (aDH h) hy;obtain⟨l,hl,aC4,he,hle⟩:=awv hr;have hu:=amB e2.2.1 e2.2.2;have el:(Ug r).1.2.1=l:=by show(DT (Ef (dJ r).2).1).1=l;rw[he]
    refine⟨?_,by rw[aH,ih.2.1],λo ho=> ?_⟩
    ·have:=(e1.1.trans e2.1).trans ih.1;rw[du];unfold B8;rw[el,aC4];exact this
    ·rcases cg.1 ho with rfl | ho
     ·refine⟨(qF h.1).2.1,by rw[el];exact hl,?_⟩;rw[el,hle];exact⟨hu.1,by show(rW _).length<=_;omega⟩
     ·exact ih.2.2 o ho
   ·cases hx
  ·cases hx
theorem abY:∀(k:Nat) {r:gI},sD r->Ov r (Du k r).2 ((Du k r).1.flatMap arC)/\(Du k r).1.length=k/\∀s∈(Du k r).1,aB8 s
 | 0,r,h=>⟨Ov.refl h,rfl,λx hx=>by cases hx⟩
 |k+1,r,h=>by
  have e1:=GW h;have e2:=GW e1.1;have ih:=abY k (r:=(aBW r).2) e2.1;refine⟨?_,by rw[Du,aH,ih.2.1],λo ho=> ?_⟩
  ·have:=(e1.trans e2).trans ih.1;rw[Du,du];exact this
  ·rcases cg.1 ho with rfl | ho
   ·exact⟨(OI h.1).1,(OI e1.1.1).1⟩
   ·exact ih.2.2 o ho
theorem amU{r:gI}(h:sD r):sD (uq r).2/\(uq r).1.length<=12/\∀s∈(uq r).1,aB8 s:=by have e1:=qG h;have ih:=abY (JQ 12 (dJ r).2).1.toNat (amS e1.1.1 12);have:=amR e1.1.1.1 (m:=12) fb;exact⟨ih.1.1,by show(Du _ _).1.length<=12;rw[ih.2.1];omega,ih.2.2⟩
theorem aA4{r:gI}{w:Re×gI}(h:sD r)(hw:akG r=al w):Ov r w.2 (BH w.1)/\RL w.1/\w.1.2.1.length<=12:=by
 unfold akG at hw;split at hw
 ·cases hw
 ·rename_i hc;cases hw;have e1:=qG h;have hc:0<=(JQ 12 (dJ r).2).1:=au;have e2:=aEb e1.1.1 hc;have e3:=abY (JQ 12 (dJ r).2).1.toNat e2.1.1;have g:=amU h;have e4:=GW g.1;have hl:((uq r).1.length:Int)=(JQ 12 (dJ r).2).1:=by show((Du _ _).1.length:Int)=_;rw[e3.2.1];omega
  have:=((e1.1.trans e2.1).trans e3.1).trans e4;refine⟨this.of λ_=> ?_,⟨g.2.2,(OI g.1.1).1⟩,g.2.1⟩;unfold BH;simp only[hl,aM];rfl
theorem ag7:∀(l:List cC) {r:gI} {x:List kj×gI},sD r->Eb l r=al x->Ov r x.2 (x.1.flatMap λy=>BH y.2.1)/\x.1.map (·.1)=l/\∀y∈x.1,RL y.2.1/\y.2.1.2.1.length<=12
 |[],r,x,h,hx=>by cases hx;exact⟨Ov.refl h,rfl,λx hx=>by cases hx⟩
 |o::l,r,x,h,hx=>by
  rw[Eb]at hx;split at hx
  ·cases hx
  ·rename_i w hw;have e:=aA4 h hw;split at hx
   ·cases hx
   ·rename_i y hy;cases hx;have ih:=ag7 l e.1.1 hy;refine⟨?_,by rw[cn,ih.2.1],λz hz=> ?_⟩
    ·have:=e.1.trans ih.1;rw[du];exact this
    ·rcases cg.1 hz with rfl | hz
     ·exact e.2
     ·exact ih.2.2 z hz
def axW(o:cC):AU:=(o,(0,aJ,0,()),())
def aHd(x:kj):AU:=(x.1,(x.2.1.1,al x.2.1.2.1,x.2.1.2.2),())
def aJa(x:AU):kj:=(x.1,(x.2.1.1,x.2.1.2.1.getD [],x.2.1.2.2),())
theorem aCw(l:List AU):aEq (.slice qB) (.slice gK) l=l.map aJa:=cT
theorem aD8(l:List kj):(l.map aHd).map aJa=l:=by rw[List.map_map];have:(aJa∘aHd)=id:=rfl;rw[this,List.map_id]
theorem azT{t:Ty}{l:List t.den}{k:Nat}{y:t.den}(h:k < l.length):nth t (l.set k y) k=y:=by simp[nth,h]
theorem azS{t:Ty}{a b:List t.den}{k:Nat}{y:t.den}(h:a.length=k):nth t (a++y::b) k=y:=by subst h;simp[nth]
theorem aAD{α:Type}{a b:List α}{k:Nat}{y z:α}(h:a.length=k):(a++y::b).set k z=a++z::b:=by subst h;simp
theorem aq2{α:Type}{l:List α}{k:Nat}{y:α}:(l.set k y).take k=l.take k:=by rw[List.take_set,List.set_eq_of_length_le (by rw[cG];omega)]
theorem aoh{α:Type}{l:List α}{k:Nat}{y:α}:(l.set k y).drop (k+1)=l.drop (k+1):=List.drop_set_of_lt au
def aqv:gI->Prop:=λr=>qi r
def amD:gI->(Bs×gI):=λr=>ER r
def Va:Fs Tryz.prog aqv bF amD:=gg 131 Tryz.f131 (λo0=>([.ptr (.bG 0) 0 [] 0],[.obj 0 aR (.d sr o0)])) (λx=>⟨.d tH x.1,[.obj 0 aR (.d sr x.2)],[]⟩) [aJ] [Vh]
theorem awD(o0)(k:K1 R):Va.A o0 k=aq (FH.call (32,o0)) λx1=>aS (decide ((ag x1.1)<=32)) (k (Va.out ((x1.1++(bT (ag x1.1) (ai 32 0))),x1.2))) aJ:=cT
theorem awE:Va.Ok:=by intro r h;have h:qi r:=h;have e:=(yo (n:=32) h).1;rw[awD,Oz (d:=(32,r)) ⟨fb,h.1⟩];simp only[ae,bF,RH];rw[show ab 32=32 from rfl,bf e];rfl
theorem aqw:Va.RS:=rE [.d sr] Va
def awF:=Va.gm awE
def ajR:gI->Prop:=λr=>qi r
def U3:gI->(Bs×gI):=λr=>Ef r
def FD:Fs Tryz.prog ajR bF U3:=gg 133 Tryz.f133 (λo0=>([.ptr (.bG 0) 0 [] 0],[.obj 0 aR (.d sr o0)])) (λx=>⟨.d tB x.1,[.obj 0 aR (.d sr x.2)],[]⟩) [aJ] [RG,Vh] {res:=[al tB],KM:=[⟨0,[.arr],sr⟩]}
theorem aqo(o0)(k:K1 R):FD.A o0 k=aq (Bw.call o0) λx1=>aS (x1.2.2.1) (k (FD.out (([]:List Int),x1.2))) (aq (FH.call (x1.1,x1.2)) λx2=>k (FD.out (x2.1,x2.2))):=cT
theorem aqp:FD.Ok:=by
 intro r h;have h:qi r:=h;have e:=qF h;rw[aqo,oS (d:=r) h];simp only[ae,bF,uj,bF,U3,Ef];cases hc:(dJ r).2.2.1
 ·rw[ao,Oz (d:=((dJ r).1,(dJ r).2)) ⟨e.1,e.2.2.1⟩];rfl
 ·rfl
theorem ajS:FD.RS:=rE [.d sr] FD
def aqq:=FD.gm aqp
def arn:(Int×gI)->Prop:=λ(m,r)=>qi r
def MX:(Int×gI)->(Int×gI):=λ(m,r)=>JQ m r
def Ig:Fs Tryz.prog arn bF MX:=gg 129 Tryz.f129 (λ(most,o1)=>([.d ti most,.ptr (.bG 0) 0 [] 0],[.obj 0 aR (.ptr (.bG 1) 0 [] 0),.obj 0 aR (.d sr o1)])) (λx=>⟨.d ti x.1,[.obj 0 aR (.ptr (.bG 1) 0 [] 0),.obj 0 aR (.d sr x.2)],[]⟩) [al ti,aJ] [RG]
theorem axu(most o1)(k:K1 R):Ig.A (most,o1) k=aq (Bw.call o1) λx1=>aS (Ap x1.1 most) (k (Ig.out ((-1),x1.2))) (k (Ig.out (x1.1,x1.2))):=cT
theorem axv:Ig.Ok:=by
 rintro⟨m,r⟩ h;have h:qi r:=h;rw[axu,oS (d:=r) h];simp only[ae,bF,uj,bF,MX,JQ];by_cases hc:(dJ r).1 > m
 ·rw[dX hc,if_pos hc];rfl
 ·rw[dx hc,if_neg hc];rfl
theorem OH:Ig.RS:=rE [.d ti,.d sr] Ig
def axw:=Ig.gm axv
abbrev JF:=Int×Int×Int×(Int×Unit)×Nat×(Int×Unit)×gI×(List AU)
abbrev VY:=Nat×gI×(List AU)
def yp:JF->VY->((Int×(Int×Unit)×(Int×Unit))×(Nat×gI×(List AU))):=λ(n,t20,t21,n2,azJ,n4,n16,n32) y=>((n,n2,n4),y)
abbrev zM:=Int×Int×Int×Int×(Int×Unit)×Nat×Nat×(Int×Unit)×gI×(List AU)×(List lM)
def oY:zM->AS:=λ(Cr,m,t37,t38,sm,PU,HG,zm,TT,rQ,aBM)=>⟨([cw,cw,fI 2,cw,fI 4,fI 5,.fn 129 (.cons (fI 5) (.nil)),.d ti Cr,.d ti m]++bg 28 ([.d ti t37,.d ti t38]++bg 93 [])),[],([[],[],dK (.pr (.dI) (.pr (.dI) (.d (.pair ti .unit) sm))),[],dK (.pr (nR 32 PU) (.pr (nR 58 HG) (.d (.pair ti .unit) zm))),dK (fI 16)]++bK 10 ([dK (.d sr TT)]++bK 15 ([dK (.vec 88 qB rQ)]++bK 25 ([dK (.vec 51 jv aBM)]++bK 73 []))))⟩
def pT:(Int×Unit)->Exit×AS:=λx=>(.ret,⟨([cw,cw,fI 2,.d .bool aR]++bg 128 []),[],([[],[],dK (.pr (.dI) (.pr (.dI) (.d (.pair ti .unit) x)))]++bK 129 [])⟩)
abbrev QB:=(Int×Int×(Int×Unit)×Nat×(Int×Unit)×(List AU))×(Nat×gI×(List lM))
def yr:QB->Exit×AS:=λ((a,b,c,e,f,g),h,i,j)=>(.exit 2,⟨([cw,cw,fI 2,cw,fI 4,fI 5,.fn 129 (.cons (fI 5) (.nil)),.d ti a,.d ti b]++bg 123 []),[],([[],[],dK (.pr (.dI) (.pr (.dI) (.d (.pair ti .unit) c))),[],dK (.pr (nR 32 e) (.pr (nR 58 h) (.d (.pair ti .unit) f))),dK (fI 16)]++bK 10 ([dK (.d sr i)]++bK 15 ([dK (.vec 88 qB g)]++bK 25 ([dK (.vec 51 jv j)]++bK 73 []))))⟩)
abbrev JH:=((Int×Unit))⊕(QB)
abbrev V1:=((Int×Unit))⊕((Nat×gI×(List lM)))
def DC:JH->Out (Exit×AS):=λx=> .br x.isLeft (.get x.getLeft? λa=> .ok (pT a)) (.get x.getRight? λb=> .ok (yr b))
def ln:zM->V1->JH:=λ(Cr,m,t37,t38,sm,PU,HG,zm,TT,rQ,aBM) y=>match y with | .inl y=> .inl y | .inr z=> .inr (((Cr,m,sm,PU,zm,rQ),z))
abbrev zN:=Int×Int×Int×Int×(Int×Unit)×Nat×Nat×(Int×Unit)×gI×(List AU)×(List lM)
def o7:zN->AS:=λ(aDw,alZ,t66,t67,zl,PV,T0,LB,TU,fu,T5)=>⟨([cw,cw,fI 2,cw,fI 4,fI 5,.fn 129 (.cons (fI 5) (.nil)),.d ti aDw,.d ti alZ]++bg 57 ([.d ti t66,.d ti t67]++bg 64 [])),[],([[],[],dK (.pr (.dI) (.pr (.dI) (.d (.pair ti .unit) zl))),[],dK (.pr (nR 32 PV) (.pr (nR 58 T0) (.d (.pair ti .unit) LB))),dK (fI 16)]++bK 10 ([dK (.d sr TU)]++bK 15 ([dK (.vec 88 qB fu)]++bK 25 ([dK (.vec 51 jv T5)]++bK 73 []))))⟩
def pU:(Int×Unit)->Exit×AS:=λx=>(.ret,⟨([cw,cw,fI 2,.d .bool aR]++bg 128 []),[],([[],[],dK (.pr (.dI) (.pr (.dI) (.d (.pair ti .unit) x)))]++bK 129 [])⟩)
abbrev QD:=Int×Int×(Int×Unit)×Nat×Nat×(Int×Unit)×gI×(List AU)×(List lM)
def yu:QD->Exit×AS:=λ(a,b,c,e,f,g,h,i,j)=>(.exit 4,⟨([cw,cw,fI 2,cw,fI 4,fI 5,cw,.d ti a,.d ti b]++bg 123 []),[],([[],[],dK (.pr (.dI) (.pr (.dI) (.d (.pair ti .unit) c))),[],dK (.pr (nR 32 e) (.pr (nR 58 f) (.d (.pair ti .unit) g))),dK (fI 16)]++bK 10 ([dK (.d sr h)]++bK 15 ([dK (.vec 88 qB i)]++bK 25 ([dK (.vec 51 jv j)]++bK 73 []))))⟩)
abbrev JJ:=((Int×Unit))⊕(QD)
abbrev V3:=((Int×Unit))⊕((Int×Int×(Int×Unit)×Nat×Nat×(Int×Unit)×gI×(List AU)×(List lM)))
def DD:JJ->Out (Exit×AS):=λx=> .br x.isLeft (.get x.getLeft? λa=> .ok (pU a)) (.get x.getRight? λb=> .ok (yu b))
def lp:zN->V3->JJ:=λ(aDw,alZ,t66,t67,zl,PV,T0,LB,TU,fu,T5) y=>match y with | .inl y=> .inl y | .inr z=> .inr (z)
abbrev JK:=Int×Int×Int×Int×Int×Int×(Int×Unit)×Nat×Nat×(Int×Unit)×gI×(List AU)×cC×Int×Nat×(Int×Unit)×(List AU)×(List lM)×(List Sg)
abbrev V4:=gI×(List AU)×(List Sg)
def yw:JK->V4->((Int×Int×Int×Int×(Int×Unit)×Nat×Nat×(Int×Unit)×(List lM))×(gI×(List AU)×(List Sg))):=λ(aDx,aDr,VF,Cp,t85,t86,Jg,T1,T3,ai8,Yw,Yz,YA,YB,QZ,YC,TZ,T6,n99) y=>((aDx,aDr,VF,Cp,Jg,T1,T3,ai8,T6),y)
def acd:JF->Prop:=λ(n,m,i,u,L,v,r,l)=>sD r/\m<=64/\∃k:Nat,i=k/\k<=64/\L=l.length/\l.length=k
def DB:JF->VY:=λ(n,m,i,u,L,v,r,l)=>(L+(m - i).toNat,(G7 (m - i).toNat r).2,l++(G7 (m - i).toNat r).1.map axW)
def yq:zM->Prop:=λ(n,m1,m,i,u,L,L2,v,r,l,os)=>sD r/\m<=64/\∃k:Nat,i=k/\k<=64/\L2=os.length/\os.length=k
def oX:zM->V1:=λ(n,m1,m,i,u,L,L2,v,r,l,os)=>match DR (m - i).toNat r with | none=> .inl (0,()) | some x=> .inr (L2+x.1.length,x.2,os++x.1)
def ach:JK->Prop:=λ(n,m1,mo,io,m,i,u,L,L2,v,r,la,op,br,Ls,sc,lb,os,sg)=>sD r/\m<=12/\∃k:Nat,i=k/\k<=12/\Ls=sg.length/\sg.length=k
def DE:JK->V4:=λ(n,m1,mo,io,m,i,u,L,L2,v,r,la,op,br,Ls,sc,lb,os,sg)=>((Du (m - i).toNat r).2,la++(op,(br,al (sg++(Du (m - i).toNat r).1),sc),())::lb,sg++(Du (m - i).toNat r).1)
def yt:zN->Prop:=λ(n,m1,m,i,u,L,L2,v,r,l,os)=>sD r/\l.length<=64/\∃k:Nat,i=k/\k<=l.length/\m=l.length/\L=l.length/\∀x∈l.drop k,x=axW x.1
def oZ:zN->V3:=λ(n,m1,m,i,u,L,L2,v,r,l,os)=>match Eb ((l.drop i.toNat).map (·.1)) r with | none=> .inl (0,()) | some x=> .inr (n,m1,u,L,L2,v,x.2,l.take i.toNat++x.1.map aHd,os)
def arc:Bs->Prop:=λb=>Bytes b/\b.length<=1000000000
def acb:Bs->(dS×Bool):=λb=>abQ b
def tA:Ls acd yp DB:=xM (λ(n,t20,t21,n2,azJ,n4,n16,n32)=>⟨([cw,cw,fI 2,cw,fI 4,fI 5,.fn 129 (.cons (fI 5) (.nil)),.d ti n]++bg 12 ([.d ti t20,.d ti t21]++bg 110 [])),[],([[],[],dK (.pr (.dI) (.pr (.dI) (.d (.pair ti .unit) n2))),[],dK (.pr (nR 32 azJ) (.pr (.dI) (.d (.pair ti .unit) n4))),dK (fI 16)]++bK 10 ([dK (.d sr n16)]++bK 15 ([dK (.vec 88 qB n32)]++bK 99 [])))⟩) (λx=>(.exit 0,⟨([cw,cw,fI 2,cw,fI 4,fI 5,.fn 129 (.cons (fI 5) (.nil)),.d ti x.1.1]++bg 124 []),[],([[],[],dK (.pr (.dI) (.pr (.dI) (.d (.pair ti .unit) x.1.2.1))),[],dK (.pr (nR 32 x.2.1) (.pr (.dI) (.d (.pair ti .unit) x.1.2.2))),dK (fI 16)]++bK 10 ([dK (.d sr x.2.2.1)]++bK 15 ([dK (.vec 88 qB x.2.2.2)]++bK 99 [])))⟩))
def VZ:=ee.gQ oY yq ln oX DC
def H7:zM->Option JH:=ji VZ oY
def V2:=ee.gQ o7 yt lp oZ DD
def H9:zN->Option JJ:=ji V2 o7
def tC:Ls ach yw DE:=xM (λ(aDx,aDr,VF,Cp,t85,t86,Jg,T1,T3,ai8,Yw,Yz,YA,YB,QZ,YC,TZ,T6,n99)=>⟨([cw,cw,fI 2,cw,fI 4,fI 5,.fn 129 (.cons (fI 5) (.nil)),.d ti aDx,.d ti aDr]++bg 4 ([.ptr (.new 32 0) 0 [.snd,.fst,.snd,.fst] ((0+((ab Cp)*36))+33)]++bg 52 ([.d ti VF,.d ti Cp]++bg 17 ([.d ti t85,.d ti t86]++bg 45 [])))),[],([[],[],dK (.pr (.dI) (.pr (.dI) (.d (.pair ti .unit) Jg))),[],dK (.pr (nR 32 T1) (.pr (nR 58 T3) (.d (.pair ti .unit) ai8))),dK (fI 16)]++bK 10 ([dK (.d sr Yw)]++bK 15 ([dK (.bx 88 36 (.pr (.d (.arr (0+(ab Cp)) qB) Yz) (.pr (.pr (.d bP YA) (.pr (.pr (.d ti YB) (.pr (nR 99 QZ) (.d (.pair tu .unit) YC))) kO)) (.d (.arr (ag TZ) qB) TZ))))]++bK 25 ([dK (.vec 51 jv T6)]++bK 40 ([dK (.vec 148 MM n99)]++bK 32 [])))))⟩) (λx=>(.exit 6,⟨([cw,cw,fI 2,cw,fI 4,fI 5,.fn 129 (.cons (fI 5) (.nil)),.d ti x.1.1,.d ti x.1.2.1]++bg 4 ([.ptr (.new 32 0) 0 [.idx (0+(ab x.1.2.2.2.1)),.snd,.fst] ((0+((ab x.1.2.2.2.1)*36))+33)]++bg 52 ([.d ti x.1.2.2.1,.d ti x.1.2.2.2.1]++bg 64 []))),[],([[],[],dK (.pr (.dI) (.pr (.dI) (.d (.pair ti .unit) x.1.2.2.2.2.1))),[],dK (.pr (nR 32 x.1.2.2.2.2.2.1) (.pr (nR 58 x.1.2.2.2.2.2.2.1) (.d (.pair ti .unit) x.1.2.2.2.2.2.2.2.1))),dK (fI 16)]++bK 10 ([dK (.d sr x.2.1)]++bK 15 ([dK (.vec 88 qB x.2.2.1)]++bK 25 ([dK (.vec 51 jv x.1.2.2.2.2.2.2.2.2)]++bK 40 ([[.obj 0 aT (.vec 148 MM x.2.2.2)]]++bK 32 [])))))⟩))
def lJ:Fs Tryz.prog arc bF acb:=gg 88 Tryz.f88 (λb=>([.d tB b],[])) (λx=>⟨.cons (.d fg x.1) (.cons (.d .bool x.2) (.nil)),[],[]⟩) [al tB] [agc,axw,awF,RG,aqq,auX,amG,aAy,awI,pV] {bM:=[100031,100032],loops:=sk [(6,{bu:=[2,4,5,6,7,20,21],sites:=[2,4,5,16,32],owns:=[⟨4,[.fst],32,100054⟩]}),(11,{bu:=[2,4,5,6,7,8,37,38],sites:=[2,4,5,16,32,58],owns:=[⟨4,[.snd,.fst],58,22⟩]}),(21,{bu:=[2,4,5,6,7,8,66,67],sites:=[2,4,5,16,32,58]}),(29,{bu:=[2,4,5,6,7,8,13,66,67,85,86],sites:=[2,4,5,16,32,58,99],owns:=[⟨13,[.snd,.fst],99,84⟩],aJr:=[13]})],outs:=sj [(6,{bu:=[2,4,5,6,7],sites:=[2,4,5,16,32]},{bu:=[2,3]}),(11,{bu:=[2,4,5,6,7,8],sites:=[2,4,5,16,32,58]},{bu:=[2,3],sites:=[2]}),(21,{bu:=[2,4,5,7,8],sites:=[2,4,5,16,32,58]},{bu:=[2,3],sites:=[2]}),(29,{bu:=[2,4,5,6,7,8,13,66,67],sites:=[2,4,5,16,32,58,99],aJ5:=[13]},{bu:=[2,3]})],gV:=tK [(6,tA.E),(11,VZ),(21,V2),(29,tC.E)],res:=[al fg,aJ]}
def JG:= @fK Tryz.prog (mN lJ.G) lJ.an 0 Tryz.f88 1 _ oY
abbrev QA:=nE Tryz.prog (mN lJ.G) lJ.an 0 Tryz.f88 1 oY yq ln oX DC
def JI:= @fK Tryz.prog (mN lJ.G) lJ.an 0 Tryz.f88 2 _ o7
abbrev QC:=nE Tryz.prog (mN lJ.G) lJ.an 0 Tryz.f88 2 o7 yt lp oZ DD
theorem ace:tA.RS:=rL [.d ti,.d ti,.d ti,.d (.pair ti .unit),.n,.d (.pair ti .unit),.d sr,.d (.slice qB)] tA
theorem H6(n t20 t21 n2 azJ n4 n16 n32)(kn:K2 R)(kx:K3 R):lJ.R 0 tA (n,t20,t21,n2,azJ,n4,n16,n32) kn kx=aS (iE t21 t20) (aq (Va.call n16) λx7=>aq (Bw.call x7.2) λx8=>aS (decide (azJ<=(ag n32))) (aS (ea (azJ+1) 80) (kn (tA.st (n,t20,(bV .i64 t21 1),n2,(azJ+1),n4,x8.2,((bj azJ n32)++ [((x7.1,(x8.1,())),((0,(aJ,(0,()))),()))])))) aJ) aJ) (tA.go kx ((n,n2,n4),(azJ,n16,n32))):=cT
theorem acf:lN H7 yq ln oX:=qe (oE [.d ti,.d ti,.d ti,.d ti,.d (.pair ti .unit),.n,.n,.d (.pair ti .unit),.d sr,.d (.slice qB),.d (.slice jv)] λ_=>cT)
theorem MS:sx @JG oY yq ln oX DC QA:=tI
theorem H8(Cr m t37 t38 sm PU HG zm TT rQ aBM)(kn:K2 R)(kx:K3 R):JG (Cr,m,t37,t38,sm,PU,HG,zm,TT,rQ,aBM) kn kx=aS (iE t38 t37) (aq (Bw.call TT) λtP=>aq (FD.call tP.2) λaJ8=>aq (zg.call aJ8.1) λRc=>aS (!Rc.2) (kx (pT ((0:Int),())).1 (pT ((0:Int),())).2) (aS (decide (HG<=(ag aBM))) (aS (ea (HG+1) 32) (kn (oY (Cr,m,t37,(bV .i64 t38 (1:Int)),sm,PU,(HG+1),zm,aJ8.2,rQ,((bj HG aBM)++ [(tP.1,(Rc.1,()))])))) aJ) aJ)) (kx (yr ((Cr,m,sm,PU,zm,rQ),(HG,TT,aBM))).1 (yr ((Cr,m,sm,PU,zm,rQ),(HG,TT,aBM))).2):=cT
theorem acg:lN H9 yt lp oZ:=qe (oE [.d ti,.d ti,.d ti,.d ti,.d (.pair ti .unit),.n,.n,.d (.pair ti .unit),.d sr,.d (.slice qB),.d (.slice jv)] λ_=>cT)
theorem MT:sx @JI o7 yt lp oZ DD QC:=tI
theorem Ia(aDw alZ t66 t67 zl PV T0 LB TU fu T5)(kn:K2 R)(kx:K3 R):JI (aDw,alZ,t66,t67,zl,PV,T0,LB,TU,fu,T5) kn kx=aS (iE t67 t66) (aS (gU t67 ((PV:Nat):Int)) (aq (Bw.call TU) λtP=>aS (decide ((0+(ab t67)) < (ag fu))) (aS (decide ((((0+(ab t67))*36)+33)=(((0+((ab t67)*36))+33)+0))) (aS (decide ((0+(ab t67)) < (ag fu))) (aq (Ig.call ((12:Int),tP.2)) λaEf=>aS (iE aEf.1 (0:Int)) (kx (pU ((0:Int),())).1 (pU ((0:Int),())).2) (aS (decide ((0+(ab t67)) < (ag (gB fu (0+(ab t67)) ((nth qB fu (0+(ab t67))).1,((tP.1,(nth qB fu (0+(ab t67))).2.1.2),(nth qB fu (0+(ab t67))).2.2)))))) (aS (Option.isNone (nth qB (gB fu (0+(ab t67)) ((nth qB fu (0+(ab t67))).1,((tP.1,(nth qB fu (0+(ab t67))).2.1.2),(nth qB fu (0+(ab t67))).2.2))) (0+(ab t67))).2.1.2.1) (aq (tC.call (aDw,alZ,t66,t67,aEf.1,(0:Int),zl,PV,T0,LB,aEf.2,(bj (0+(ab t67)) (gB fu (0+(ab t67)) ((nth qB fu (0+(ab t67))).1,((tP.1,(nth qB fu (0+(ab t67))).2.1.2),(nth qB fu (0+(ab t67))).2.2)))),((nth qB (gB fu (0+(ab t67)) ((nth qB fu (0+(ab t67))).1,((tP.1,(nth qB fu (0+(ab t67))).2.1.2),(nth qB fu (0+(ab t67))).2.2))) (0+(ab t67))).1.1,((nth qB (gB fu (0+(ab t67)) ((nth qB fu (0+(ab t67))).1,((tP.1,(nth qB fu (0+(ab t67))).2.1.2),(nth qB fu (0+(ab t67))).2.2))) (0+(ab t67))).1.2.1,(nth qB (gB fu (0+(ab t67)) ((nth qB fu (0+(ab t67))).1,((tP.1,(nth qB fu (0+(ab t67))).2.1.2),(nth qB fu (0+(ab t67))).2.2))) (0+(ab t67))).1.2.2)),(nth qB (gB fu (0+(ab t67)) ((nth qB fu (0+(ab t67))).1,((tP.1,(nth qB fu (0+(ab t67))).2.1.2),(nth qB fu (0+(ab t67))).2.2))) (0+(ab t67))).2.1.1,0,((nth qB (gB fu (0+(ab t67)) ((nth qB fu (0+(ab t67))).1,((tP.1,(nth qB fu (0+(ab t67))).2.1.2),(nth qB fu (0+(ab t67))).2.2))) (0+(ab t67))).2.1.2.2.1,(nth qB (gB fu (0+(ab t67)) ((nth qB fu (0+(ab t67))).1,((tP.1,(nth qB fu (0+(ab t67))).2.1.2),(nth qB fu (0+(ab t67))).2.2))) (0+(ab t67))).2.1.2.2.2),(bT ((0+(ab t67))+1) (gB fu (0+(ab t67)) ((nth qB fu (0+(ab t67))).1,((tP.1,(nth qB fu (0+(ab t67))).2.1.2),(nth qB fu (0+(ab t67))).2.2)))),T5,([]:List Sg))) λIh=>aq (Mu.call Ih.2.1) λRc=>aS (decide ((0+(ab Ih.1.2.2.2.1)) < (ag Ih.2.2.1))) (aS (decide ((((0+(ab Ih.1.2.2.2.1))*36)+35)=(((0+((ab Ih.1.2.2.2.1)*36))+33)+2))) (aS (decide ((0+(ab Ih.1.2.2.2.1)) < (ag Ih.2.2.1))) (kn (o7 (Ih.1.1,Ih.1.2.1,Ih.1.2.2.1,(bV .i64 Ih.1.2.2.2.1 (1:Int)),Ih.1.2.2.2.2.1,Ih.1.2.2.2.2.2.1,Ih.1.2.2.2.2.2.2.1,Ih.1.2.2.2.2.2.2.2.1,Rc.2,(gB Ih.2.2.1 (0+(ab Ih.1.2.2.2.1)) ((nth qB Ih.2.2.1 (0+(ab Ih.1.2.2.2.1))).1,(((nth qB Ih.2.2.1 (0+(ab Ih.1.2.2.2.1))).2.1.1,((nth qB Ih.2.2.1 (0+(ab Ih.1.2.2.2.1))).2.1.2.1,(Rc.1,(nth qB Ih.2.2.1 (0+(ab Ih.1.2.2.2.1))).2.1.2.2.2))),(nth qB Ih.2.2.1 (0+(ab Ih.1.2.2.2.1))).2.2))),Ih.1.2.2.2.2.2.2.2.2))) aJ) aJ) aJ) aJ) aJ)) aJ) aJ) aJ) aJ) (kx (yu (aDw,alZ,zl,PV,T0,LB,TU,fu,T5)).1 (yu (aDw,alZ,zl,PV,T0,LB,TU,fu,T5)).2):=cT
theorem aci:tC.RS:=rL [.d ti,.d ti,.d ti,.d ti,.d ti,.d ti,.d (.pair ti .unit),.n,.n,.d (.pair ti .unit),.d sr,.d (.slice qB),.d bP,.d ti,.n,.d (.pair tu .unit),.d (.slice qB),.d (.slice jv),.d (.slice MM)] tC
theorem Ib(aDx aDr VF Cp t85 t86 Jg T1 T3 ai8 Yw Yz YA YB QZ YC TZ T6 n99)(kn:K2 R)(kx:K3 R):lJ.R 3 tC (aDx,aDr,VF,Cp,t85,t86,Jg,T1,T3,ai8,Yw,Yz,YA,YB,QZ,YC,TZ,T6,n99) kn kx=aS (iE t86 t85) (aS (decide ((((0+(ab Cp))*36)+34)=(((0+((ab Cp)*36))+33)+1))) (aq (Mu.call Yw) λx7=>aq (Mu.call x7.2) λx8=>aS (decide (QZ<=(ag n99))) (aS (ea (QZ+1) 16) (aS (decide ((((0+(ab Cp))*36)+34)=(((0+((ab Cp)*36))+33)+1))) (kn (tC.st (aDx,aDr,VF,Cp,t85,(bV .i64 t86 1),Jg,T1,T3,ai8,x8.2,Yz,YA,YB,(QZ+1),YC,TZ,T6,((bj QZ n99)++ [(x7.1,(x8.1,()))])))) aJ) aJ) aJ) aJ) (aS (decide (0=0/\(0+QZ)<=(ag n99))) (tC.go kx ((aDx,aDr,VF,Cp,Jg,T1,T3,ai8,T6),(Yw,(Yz++(YA,((YB,((al (cut n99 0 QZ)),YC)),()))::TZ),n99))) aJ):=cT
theorem axl(b)(k:K1 R):lJ.A b k=aq (Qt.call b) λx4=>aq (Ig.call (64,x4)) λx8=>aq (tA.call (x8.1,x8.1,0,(0,()),0,(0,()),x8.2,([]:List AU))) λXu=>aq (Ig.call (64,Xu.2.2.1)) λZr=>aq (H7 (Xu.1.1,Zr.1,Zr.1,0,Xu.1.2.1,Xu.2.1,0,Xu.1.2.2,Zr.2,Xu.2.2.2,([]:List lM))) λaJk=>aS aJk.isLeft (aq aJk.getLeft? λa83=>k (lJ.out ((([]:List kj),(([]:List lM),a83)),aR))) (aq aJk.getRight? λb84=>aq (Bw.call b84.2.2.1) λzU=>aq (H9 (b84.1.1,b84.1.2.1,((b84.1.2.2.2.1:Nat):Int),0,b84.1.2.2.1,b84.1.2.2.2.1,b84.2.1,(zU.1,b84.1.2.2.2.2.1.2),zU.2,b84.1.2.2.2.2.2,b84.2.2.2)) λaEe=>aS aEe.isLeft (aq aEe.getLeft? λa125=>k (lJ.out ((([]:List kj),(([]:List lM),a125)),aR))) (aq aEe.getRight? λb126=>aS (iE b126.1 0) (k (lJ.out ((([]:List kj),(([]:List lM),(0,()))),aR))) (aS (iE b126.2.1 0) (k (lJ.out ((([]:List kj),(([]:List lM),(0,()))),aR))) (aq (ajY.call b126.2.2.2.2.2.2.1) λaGD=>aS (!aGD.2) (k (lJ.out ((([]:List kj),(([]:List lM),(0,()))),aR))) (aq (Vb.call aGD.1) λaJf=>aS (Ap aJf.2 0) (k (lJ.out ((([]:List kj),(([]:List lM),(0,()))),aR))) (aS (decide (0=0/\(0+b126.2.2.2.1)<=(ag b126.2.2.2.2.2.2.2.1))) (aS (decide (0=0/\(0+b126.2.2.2.2.1)<=(ag b126.2.2.2.2.2.2.2.2))) (aq (ik.call ((aEq (.slice qB) (.slice gK) (cut b126.2.2.2.2.2.2.2.1 0 b126.2.2.2.1)),((cut b126.2.2.2.2.2.2.2.2 0 b126.2.2.2.2.1),b126.2.2.2.2.2.1))) λaJg=>aS (!aJg) (k (lJ.out ((([]:List kj),(([]:List lM),(0,()))),aR))) (aS (decide (0=0/\(0+b126.2.2.2.1)<=(ag b126.2.2.2.2.2.2.2.1))) (aS (decide (0=0/\(0+b126.2.2.2.2.1)<=(ag b126.2.2.2.2.2.2.2.2))) (k (lJ.out (((aEq (.slice qB) (.slice gK) (cut b126.2.2.2.2.2.2.2.1 0 b126.2.2.2.1)),((cut b126.2.2.2.2.2.2.2.2 0 b126.2.2.2.2.1),b126.2.2.2.2.2.1)),aT))) aJ) aJ)) aJ) aJ)))))):=cT
theorem agQ:(lJ.mw 0 tA):=by
 refine(lJ.qz 0 tA) (λ(n,m,i,u,L,v,r,l)=>(m - i).toNat) ?_
 rintro⟨n,m,i,u,L,v,r,l⟩ ⟨hr,hm,k,rfl,hk,rfl,acH⟩;have hr:sD r:=hr;have hm:m<=64:=hm;have acH:l.length=k:=acH;by_cases h:(k:Int) < m
 ·left;have e1:(m - (k:Int)).toNat=(m - ((k+1:Nat):Int)).toNat+1:=au;have h1:=aey hr;refine⟨(n,m,((k+1:Nat):Int),u,l.length+1,v,(aBQ r).2,l++ [axW (aBQ r).1]),⟨(qG h1.1).1.1,hm,k+1,rfl,au,by rw[aj];rfl,by rw[aj];show l.length+1=_;omega⟩,by show(m - ((k+1:Nat):Int)).toNat < (m - (k:Int)).toNat;omega,?_,λkn kx=> ?_⟩
  ·simp only[yp,DB,e1,G7,cn,aM,dQ];rw[show ∀a c:Nat,a+1+c=a+(c+1) from λa c=>au]
  ·rw[H6,bm h,aqw (d:=r) hr.1];simp only[ak,ae,bF,amD];rw[oS (d:=(ER r).2) h1.1.1];simp only[ae,bF,uj];rw[bf (aF _),eW au au,N.pn au,cJ];rfl
 ·right;intro R kn kx;have e1:(m - (k:Int)).toNat=0:=au;rw[H6,bn h,ao];simp only[yp,DB,e1,G7,iT,bO,cW]
theorem agR:QA:=by
 refine MS (λ(n,m1,m,i,u,L,L2,v,r,l,os)=>(m - i).toNat) ?_
 rintro⟨n,m1,m,i,u,L,L2,v,r,l,os⟩ ⟨hr,hm,k,rfl,hk,rfl,acH⟩;have hr:sD r:=hr;have hm:m<=64:=hm;have acH:os.length=k:=acH;by_cases h:(k:Int) < m
 ·have e1:(m - (k:Int)).toNat=(m - ((k+1:Nat):Int)).toNat+1:=au;have h1:=qG hr;have h2:=ZJ h1.1.1;have step:∀ {R:Type} (kn:AS->Option R) (kx:Exit->AS->Option R),JG (n,m1,m,(k:Int),u,L,os.length,v,r,l,os) kn kx=aS (!(DT (Ef (dJ r).2).1).2) (kx (pT (0,())).1 (pT (0,())).2) (kn (oY (n,m1,m,((k+1:Nat):Int),u,L,os.length+1,v,(Ug r).2,l,os++ [(Ug r).1]))):=by intro R kn kx;rw[H8,bm h,oS (d:=r) hr.1];simp only[ak,ae,bF,uj];rw[ajS (d:=(dJ r).2) h1.1.1.1];simp only[ae,bF,U3];rw[apf (d:=(Ef (dJ r).2).1) ⟨h2.2.1,h2.2.2⟩];simp only[ae,bF,aaZ];rw[bf (aF _),eW au au,N.pn au,cJ];rfl
  cases hp:(DT (Ef (dJ r).2).1).2
  ·right;refine⟨pT (0,()),?_,λkn kx=> ?_⟩
   ·simp only[ln,oX,e1,DR,hp,bW,cK];rfl
   ·rw[step,hp];rfl
  ·left;refine⟨(n,m1,m,((k+1:Nat):Int),u,L,os.length+1,v,(Ug r).2,l,os++ [(Ug r).1]),⟨h2.1.1,hm,k+1,rfl,au,by rw[aj];rfl,by rw[aj];show os.length+1=_;omega⟩,by show(m - ((k+1:Nat):Int)).toNat < (m - (k:Int)).toNat;omega,?_,λkn kx=> ?_⟩
   ·simp only[ln,oX,e1,DR,hp,da];cases DR (m - ((k+1:Nat):Int)).toNat (Ug r).2 with
    |none=>rfl
    |some x=>
     simp only[aH,aM,dQ];rw[show ∀a c:Nat,a+1+c=a+(c+1) from λa c=>au]
   ·rw[step,hp];rfl
 ·right;have e1:(m - (k:Int)).toNat=0:=au;refine⟨yr ((n,m1,u,L,v,l),(os.length,r,os)),?_,λkn kx=> ?_⟩
  ·simp only[ln,oX,e1,DR,bB,cW,bO];rfl
  ·rw[H8,bn h,ao]
theorem agT:(lJ.mw 3 tC):=by
 refine(lJ.qz 3 tC) (λ(n,m1,mo,io,m,i,u,L,L2,v,r,la,op,br,Ls,sc,lb,os,sg)=>(m - i).toNat) ?_
 rintro⟨n,m1,mo,io,m,i,u,L,L2,v,r,la,op,br,Ls,sc,lb,os,sg⟩ ⟨hr,hm,k,rfl,hk,rfl,acH⟩;have hr:sD r:=hr;have hm:m<=12:=hm;have acH:sg.length=k:=acH;by_cases h:(k:Int) < m
 ·left;have e1:(m - (k:Int)).toNat=(m - ((k+1:Nat):Int)).toNat+1:=au;have h1:=GW hr;have h2:=GW h1.1;refine⟨(n,m1,mo,io,m,((k+1:Nat):Int),u,L,L2,v,(aBW r).2,la,op,br,sg.length+1,sc,lb,os,sg++ [(aBW r).1]),⟨h2.1,hm,k+1,rfl,au,by rw[aj];rfl,by rw[aj];show sg.length+1=_;omega⟩,by show(m - ((k+1:Nat):Int)).toNat < (m - (k:Int)).toNat;omega,?_,λkn kx=> ?_⟩
  ·simp only[yw,DE,e1,Du,aM,dQ]
  ·rw[Ib,bm h,bf au,FI (d:=r) hr.1];simp only[ak,ae,bF,OA];rw[FI (d:=(qC r).2) h1.1.1];simp only[ae,bF,OA];rw[bf (aF _),eW au au,N.pn au,cJ];rfl
 ·right;intro R kn kx;have e1:(m - (k:Int)).toNat=0:=au;rw[Ib,bn h,ao];simp only[yw,DE,e1,Du,bO,ba,aF,j4,cR,ak,fp]
theorem agS:QC:=by
 refine MT (λ(n,m1,m,i,u,L,L2,v,r,l,os)=>l.length - i.toNat) ?_
 rintro⟨n,m1,m,i,u,L,L2,v,r,l,os⟩ ⟨hr,hl,k,rfl,hk,rfl,rfl,hg⟩;have hr:sD r:=hr;have hl:l.length<=64:=hl;have hk:k<=l.length:=hk;by_cases h:k < l.length
 ·have n1:nth qB l k=l[k]:=dj (t:=qB) h;have hd:l.drop k=l[k]::l.drop (k+1):=aC h;have dq:l[k]=axW l[k].1:=hg _ (by rw[hd];exact aL);obtain⟨op,aFP⟩:∃op,l[k].1=op:=⟨_,rfl⟩;rw[aFP]at dq;have h1:=qG hr;have h2:=amS h1.1.1 12;have h3:=amR h1.1.1.1 (m:=12) fb;have hw:=amU hr;have hu:=GW hw.1;have M4:(l.take k).length=k:=by rw[cG];omega
  have step:∀ {R:Type} (kn:AS->Option R) (kx:Exit->AS->Option R),JI (n,m1,(l.length:Int),(k:Int),u,l.length,L2,v,r,l,os) kn kx=aS (iE (JQ 12 (dJ r).2).1 0) (kx (pU (0,())).1 (pU (0,())).2) (kn (o7 (n,m1,(l.length:Int),((k+1:Nat):Int),u,l.length,L2,v,(qC (uq r).2).2,l.take k++(op,((dJ r).1,al (uq r).1,(qC (uq r).2).1,()),())::l.drop (k+1),os))):=by
   intro R kn kx;rw[Ia,bm au,bz au au,oS (d:=r) hr.1];have ns:∀y:AU,nth qB (l.set k y) k=y:=λy=>azT (t:=qB) h
   have nm:∀(y:AU) (b:List AU),nth qB (l.take k++y::b) k=y:=λy b=>azS (t:=qB) M4
   simp only[ak,ae,bF,uj,aa,ba,cW,n1,dq,bf h,cR];rw[OH (d:=(12,(dJ r).2)) h1.1.1.1];simp only[ak,ae,bF,MX];refine bE (λz=>aS _ _ z) ?_
   simp only[List.length_set,bf h,ak,axW,ns,aq2,aoh,Option.isNone_none];rw[aci (d:=(n,m1,(l.length:Int),(k:Int),(JQ 12 (dJ r).2).1,0,u,l.length,L2,v,(JQ 12 (dJ r).2).2,l.take k,op,(dJ r).1,0,(0,()),l.drop (k+1),os,[])) ⟨h2,h3.2,0,rfl,fb,rfl,rfl⟩];simp only[ae,yw,DE,pa,aV];rw[show Du (JQ 12 (dJ r).2).1.toNat (JQ 12 (dJ r).2).2=uq r from rfl,FI (d:=(uq r).2) hw.1.1];simp only[ae,bF,OA,aa,nm,aAD M4,bf (show k < (l.take k++(op,((dJ r).1,al (uq r).1,0,()),())::l.drop (k+1)).length by rw[aj,aH];omega),fN,Nat.reduceAdd,cR,ak];rw[N.pn au]
  by_cases hp:(JQ 12 (dJ r).2).1 < 0
  ·right;refine⟨pU (0,()),?_,λkn kx=> ?_⟩
   ·simp only[lp,oZ,aa,hd,cn,Eb,akG,if_pos hp];rfl
   ·rw[step,bm hp,ak]
  ·left;have aiz:(l.take k++(op,((dJ r).1,al (uq r).1,(qC (uq r).2).1,()),())::l.drop (k+1)).length=l.length:=by rw[aj,aH,de];omega
   have aGV:(l.take k++(op,((dJ r).1,al (uq r).1,(qC (uq r).2).1,()),())::l.drop (k+1)).drop (k+1)=l.drop (k+1):=by rw[List.append_cons,kz (by rw[aj];show(l.take k).length+1=_;omega)]
   have aIw:(l.take k++(op,((dJ r).1,al (uq r).1,(qC (uq r).2).1,()),())::l.drop (k+1)).take (k+1)=l.take k++ [(op,((dJ r).1,al (uq r).1,(qC (uq r).2).1,()),())]:=by rw[List.append_cons,kA (by rw[aj];show(l.take k).length+1=_;omega)]
   refine⟨(n,m1,(l.length:Int),((k+1:Nat):Int),u,l.length,L2,v,(qC (uq r).2).2,l.take k++(op,((dJ r).1,al (uq r).1,(qC (uq r).2).1,()),())::l.drop (k+1),os),⟨hu.1,by rw[aiz];exact hl,k+1,rfl,by rw[aiz];omega,by rw[aiz],by rw[aiz],by rw[aGV];exact λx hx=>hg x (by rw[hd];exact aK _ hx)⟩,by simp only[aa,aiz];omega,?_,λkn kx=> ?_⟩
   ·simp only[lp,oZ,aa,aGV,aIw,hd,cn,Eb,akG,if_neg hp,aFP];cases Eb ((l.drop (k+1)).map (·.1)) (qC (uq r).2).2 with
    |none=>rfl
    |some x=>
     simp only[cn,aM,dQ];rfl
   ·rw[step,bn hp,ao]
 ·right;obtain rfl:k=l.length:=au;refine⟨yu (n,m1,u,l.length,L2,v,r,l,os),?_,λkn kx=> ?_⟩
  ·simp only[lp,oZ,aa,aU,iT,Eb,cJ,bO];rfl
  ·rw[Ia,bn au,ao]
theorem azG(l:List cC):(l.map axW).map (·.1)=l:=by rw[List.map_map];have:((λx:AU=>x.1)∘axW)=id:=rfl;rw[this,List.map_id]
theorem axm:lJ.Ok:=by
 rintro b ⟨hb,hl⟩;have hb:Bytes b:=hb;have hl:b.length<=1000000000:=hl;have k0:=aAs hb hl;have k1:=amS k0 64;have u1:=amR k0.1 (m:=64) fb;rw[axl,Y0 (d:=b) hl];simp only[ae,bF,abT,bF,acb,abQ];rw[OH (d:=(64,(b,aR,()))) k0.1];simp only[ae,bF,MX];generalize JQ 64 (b,aR,())=n at*;have o2:=al9 n.1.toNat k1;rw[ace (d:=(n.1,n.1,0,(0,()),0,(0,()),n.2,[])) ⟨k1,u1.2,0,rfl,fb,rfl,rfl⟩];simp only[ae,yp,DB,pa,aV,ba];generalize G7 n.1.toNat n.2=ops at*;have k3:=amS o2.1.1 64;have u3:=amR o2.1.1.1 (m:=64) fb;rw[OH (d:=(64,ops.2)) o2.1.1.1];simp only[ae,bF,MX];generalize JQ 64 ops.2=m at*;rw[acf (d:=(n.1,m.1,m.1,0,(0,()),n.1.toNat,0,(0,()),m.2,ops.1.map axW,[])) ⟨k3,u3.2,0,rfl,fb,rfl,rfl⟩];simp only[ae,ln,oX,pa,aV,ba];cases hx:DR m.1.toNat m.2 with
 |none=>rfl
 |some x=>
  have o4:=afz _ k3 hx;have o5:=qG o4.1.1;have ol:(ops.1.map axW).length=n.1.toNat:=by rw[cF];exact o2.2.1
  simp only[e7,dT,ao,ae];rw[oS (d:=x.2) o4.1.1.1];simp only[ae,bF,uj];rw[acg (d:=(n.1,m.1,(n.1.toNat:Int),0,(0,()),n.1.toNat,x.1.length,((dJ x.2).1,()),(dJ x.2).2,ops.1.map axW,x.1)) ⟨o5.1.1,by rw[ol];omega,0,rfl,aP _,by rw[ol],by rw[ol],λz hz=>by
   rw[aQ]at hz;obtain⟨o,_,rfl⟩:=dO.1 hz;rfl⟩]
  simp only[ae,lp,oZ,bt,aQ,fk,aV,azG,au4];cases hy:Eb ops.1 (dJ x.2).2 with
  |none=>rfl
  |some y=>
   have o6:=ag7 _ o5.1.1 hy;have yl:y.1.length=n.1.toNat:=by rw[<-o2.2.1,<-o6.2.1,cF]
   have yl2:(y.1.map aHd).length=n.1.toNat:=by rw[cF];exact yl
   simp only[e7,dT,ao,ae,atx];by_cases c1:n.1 < 0
   ·rw[bm c1,ak,if_pos (lr c1)];rfl
   rw[bn c1,ao];by_cases c2:m.1 < 0
   ·rw[bm c2,ak,if_pos (fv (lr c2))];rfl
   rw[bn c2,ao,awM (d:=y.2) trivial];simp only[ae,agb,awK,Bool.not_not];cases c3:y.2.2.1
   ·rw[ao,aqy (d:=y.2) trivial];simp only[ae,YX,amE];by_cases c4:0 < y.2.1.length
    ·rw[dX au,ak,if_pos (fv (fv (fv (lr c4))))];rfl
    ·rw[dx au,ao,bf ⟨by trivial,au⟩,bf ⟨by trivial,au⟩,fp yl2,fp rfl,aCw,aD8];simp only[ak];rw[mY (d:=(y.1,x.1,(dJ x.2).1,())) ⟨λo ho=>(o4.2.2 o ho).2.2,by show y.1.length<=_;omega,by show x.1.length<=_;have:=o4.2.1;omega⟩];simp only[ae,bF,o8];cases c5:iM (y.1,x.1,(dJ x.2).1,())
     ·rw[if_pos (fv (fv (fv (fv (by trivial)))))];rfl
     ·rw[if_neg (by
       rintro(z | z | z | z | z)
       ·exact c1 z
       ·exact c2 z
       ·cases z
       ·exact c4 z
       ·cases z)]
      rfl
   ·rw[ak,if_pos (fv (fv (lr (by trivial))))];rfl
theorem ard:lJ.RS:=rE [.d tB] lJ
def axn:=lJ.gm axm 4 ⟨.gQ agQ,⟨.gQ agR,⟨.gQ agS,⟨.gQ agT,trivial⟩⟩⟩⟩
theorem aw3{t:dS}(h:oV t=aT):t.1.length<=66/\t.2.1.length<=66/\(∀x∈t.1,x.2.1.2.1.length<=14)/\∀o∈t.2.1,o.2.1.1.length<=6/\∀b∈o.2.1.1,b.1.length<=14:=by
 unfold oV at h;simp only[av,aW,c7]at h;refine⟨h.1.1,h.1.2,λx hx=> ?_,λo ho=> ?_⟩
 ·have:=h.2.1 x hx;unfold u6 at this;simpa using this
 ·have:=h.2.2 o ho;unfold qA at this;simp only[av,aW,c7]at this;refine⟨this.1,λb hb=> ?_⟩;have:=this.2 b hb;unfold u5 at this;simpa using this
theorem CB{α:Type}{f:α->List Int}{l:List α}(h:∀x∈l,Bytes (f x)):Bytes (l.flatMap f):=λb hb=>by obtain⟨x,hx,hb⟩:=iN.1 hb;exact h x hx b hb
theorem EY{α:Type}{f:α->List Int}{n:Nat}:∀ {l:List α},(∀x∈l,(f x).length<=n)->(l.flatMap f).length<=n*l.length
 |[],_=>aP _
 |x::l,h=>by
  rw[du,aj,aH,Nat.mul_add,jE];have h1:=h x aL;have h2:=EY (l:=l) λy hy=>h y (aK _ hy)
  omega
theorem aro{t:dS}(hv:vW t):Bytes (aAT t)/\(aAT t).length<=1000000:=by
 cases jd:iM t
 ·unfold aAT;rw[jd];exact⟨λx hx=>(by cases hx),aP _⟩
 obtain⟨⟨a1,a2,a3,a4⟩,b1,b2⟩:=jo jd;have aeB:∀x∈t.1,_:=λx hx=>C0 (oF _ _ b1 x hx)
 rw[axy jd];have n0:∀ {n:Nat},n<=1000->Ec (n:Int):=λh=>sZ au
 have e1:∀x∈t.1,Bytes (ajh x.1)/\(ajh x.1).length<=43:=λx hx=>by have hi:=aeB x hx;have hr:=nj x.1.2.1;have hs:=(hv.2.1 x hx).1;exact⟨gl hs.2 (kD ⟨hi.1,au⟩),by unfold ajh;rw[aj,hs.1];omega⟩
 have e2:∀o∈t.2.1,Bytes (B8 o)/\(B8 o).length<=1022:=λo ho=>by have hi:=(mP _ _ b2 o ho).1;have hr:=nj o.1;have aeD:=nj (NV o.2.1).length;have hl:=Ln o.2.1;exact⟨gl (kD ⟨hi.1,au⟩) (gl (kD (n0 hl)) (ao7 _)),by unfold B8;rw[aj,aj];omega⟩
 have e3:∀x∈t.1,Bytes (BH x.2.1)/\(BH x.2.1).length<=300:=λx hx=>by
  have hi:=aeB x hx;have hr:=nj x.2.1.1;have aeD:=nj x.2.1.2.1.length;have hf:=EY (f:=arC) (n:=16) (l:=x.2.1.2.1) λs _=>by unfold arC;rw[aj,dC,dC];omega
  refine⟨gl (kD ⟨hi.2.2.1,au⟩) (gl (kD (n0 au)) (gl (CB λs _=>gl (BT _) (BT _)) (BT _))),?_⟩;unfold BH;simp only[aj,dC];omega
 have f1:=EY (f:=λx:kj=>ajh x.1) (n:=43) (l:=t.1) λx hx=>(e1 x hx).2
 have f2:=EY (f:=B8) (n:=1022) (l:=t.2.1) λx hx=>(e2 x hx).2
 have f3:=EY (f:=λx:kj=>BH x.2.1) (n:=300) (l:=t.1) λx hx=>(e3 x hx).2
 have r1:=nj t.1.length;have r2:=nj t.2.1.length;have r3:=nj t.2.2.1;refine⟨gl (kD (n0 au)) (gl (CB λx hx=>(e1 x hx).1) (gl (kD (n0 au)) (gl (CB λx hx=>(e2 x hx).1) (gl (kD ⟨a4,hv.2.2⟩) (CB λx hx=>(e3 x hx).1))))),?_⟩;unfold aHl;simp only[aj];omega
section
section
variable {β:Type} {kt:Ty}
theorem Rn(hc:kt.comp=aT)(o o':kt.den)(v:β):∀l:List (kt.den×β),cq kt o (ff kt o' v l)=if kt.beq o o'=aT then al v else cq kt o l
 |[]=>by rw[NZ,eT,ua]
 |p::l=>by
  rw[zj];by_cases h:kt.beq o' p.1=aT
  ·rw[if_pos h,eT,eT];have e:=beq_eq kt _ _ hc h;by_cases h2:kt.beq o o'=aT
   ·rw[if_pos h2,if_pos h2]
   ·rw[if_neg h2,if_neg h2,if_neg (by rw[<-e];exact h2)]
  ·rw[if_neg h,eT,eT,Rn hc o o' v l];by_cases h3:kt.beq o p.1=aT
   ·rw[if_pos h3,if_pos h3,if_neg];intro h4;apply h;rw[<-beq_eq kt _ _ hc h4];exact h3
   ·rw[if_neg h3,if_neg h3]
theorem alB(hc:kt.comp=aT)(o o':kt.den):∀ {l:List (kt.den×β)},(l.map (·.1)).Nodup->cq kt o (j6 kt o' l)=if kt.beq o o'=aT then aJ else cq kt o l
 |[],_=>by rw[apq,ua];split <;> rfl
 |p::l,hn=>by
  rw[cn,dr]at hn;rw[Je];by_cases h:kt.beq o' p.1=aT
  ·rw[if_pos h,eT];have e:=beq_eq kt _ _ hc h;by_cases h2:kt.beq o o'=aT
   ·rw[if_pos h2];have e2:=beq_eq kt _ _ hc h2;cases hg:cq kt o l with
    |none=>rfl
    |some v=>exact absurd (dO.2 ⟨_,(lX hc hn.2).1 hg,rfl⟩) (by rw[e2,e];exact hn.1)
   ·rw[if_neg h2,if_neg (by rw[<-e];exact h2)]
  ·rw[if_neg h,eT,eT,alB hc o o' hn.2];by_cases h3:kt.beq o p.1=aT
   ·rw[if_pos h3,if_pos h3,if_neg];intro h4;apply h;rw[<-beq_eq kt _ _ hc h4];exact h3
   ·rw[if_neg h3,if_neg h3]
theorem get_none(hc:kt.comp=aT){o:kt.den}{l:List (kt.den×β)}(hn:(l.map (·.1)).Nodup):cq kt o l=aJ↔o ∉ l.map (·.1):=by
 constructor
 ·intro h hm;obtain⟨p,hp,e⟩:=dO.1 hm;have e:p.1=o:=e;have:=(lX hc hn (x:=o) (v:=p.2)).2 (by rw[<-e];exact hp);rw[h]at this;cases this
 ·intro h;cases hg:cq kt o l with
  |none=>rfl
  |some v=>exact absurd (dO.2 ⟨_,(lX hc hn).1 hg,rfl⟩) h
theorem HH{l:List (kt.den×β)}(hn:(l.map (·.1)).Nodup):l.Nodup:=by
 induction l with
 |nil=>exact gZ
 |cons p l ih=>
  rw[cn,dr]at hn;exact dr.2 ⟨λh=>hn.1 (dO.2 ⟨p,h,rfl⟩),ih hn.2⟩
theorem afH(hc:kt.comp=aT){l l':List (kt.den×β)}(hn:(l.map (·.1)).Nodup)(hn':(l'.map (·.1)).Nodup)(h:∀o,cq kt o l=cq kt o l'):l.Perm l':=by rw[List.perm_ext_iff_of_nodup (HH hn) (HH hn')];rintro⟨o,v⟩;rw[<-lX hc hn,<-lX hc hn',h]
end
theorem Ni(a b:cC):(Ty.beq bP a b=aT)↔a=b:=⟨beq_eq bP a b rfl,λh=>by rw[h];exact beq_refl bP b rfl⟩
abbrev At:=List (cC×eU)
abbrev ez(a:At):List cC:=a.map (·.1)
theorem aoD(o o':cC)(v:eU)(a:At):cq bP o (ff bP o' v a)=if o=o' then al v else cq bP o a:=by
 rw[Rn ju];by_cases h:o=o'
 ·rw[if_pos ((Ni _ _).2 h),if_pos h]
 ·rw[if_neg (λe=>h ((Ni _ _).1 e)),if_neg h]
theorem aet(o o':cC){a:At}(hn:(ez a).Nodup):cq bP o (j6 bP o' a)=if o=o' then aJ else cq bP o a:=by
 rw[alB ju _ _ hn];by_cases h:o=o'
 ·rw[if_pos ((Ni _ _).2 h),if_pos h]
 ·rw[if_neg (λe=>h ((Ni _ _).1 e)),if_neg h]
theorem I1{o:cC}{v:eU}{a:At}(hn:(ez a).Nodup):(ez (ff bP o v a)).Nodup:=PS ju hn
theorem oA{o:cC}{a:At}(hn:(ez a).Nodup):(ez (j6 bP o a)).Nodup:=E6 ju hn
theorem aBl{a a':At}(hn:(ez a).Nodup)(hn':(ez a').Nodup)(h:∀o,cq bP o a=cq bP o a'):a.Perm a':=afH ju hn hn' h
theorem avR{a a':At}(hn:(ez a).Nodup)(h:a'.Perm a)(o:cC):cq bP o a'=cq bP o a:=TO ju hn h
theorem akw{o:cC}{c:eU}{a:At}(hn:(ez a).Nodup)(hg:cq bP o a=al c):a.Perm ((o,c)::j6 bP o a):=by
 refine aBl hn ?_ λx=> ?_
 ·show(o::ez (j6 bP o a)).Nodup;refine dr.2 ⟨?_,oA hn⟩;have:=(get_none ju (oA (o:=o) hn)).1 (by rw[aet o o hn,if_pos rfl]);exact this
 ·rw[eT,aet x o hn];by_cases h:x=o
  ·subst h;rw[if_pos ((Ni _ _).2 rfl),hg]
  ·rw[if_neg (λe=>h ((Ni _ _).1 e)),if_neg h]
theorem Nx(o:cC)(l:List cC)(a:At):A1 (o::l) a=A1 l (j6 bP o a):=rfl
theorem CQ:∀(l:List cC) {a:At},(ez a).Nodup->(ez (A1 l a)).Nodup
 |[],_,h=>h
 |o::l,a,h=>by rw[Nx];exact CQ l (oA h)
theorem SS(x:cC):∀(l:List cC) {a:At},(ez a).Nodup->cq bP x (A1 l a)=if x∈l then aJ else cq bP x a
 |[],a,_=>by rw[if_neg (by simp)];rfl
 |o::l,a,h=>by
  rw[Nx,SS x l (oA h),aet x o h];by_cases h1:x∈l
  ·rw[if_pos h1,if_pos (aK _ h1)]
  ·rw[if_neg h1];by_cases h2:x=o
   ·rw[if_pos h2,if_pos (by rw[h2];exact aL ..)]
   ·rw[if_neg h2,if_neg (by simp[h1,h2])]
theorem yA(h:Int)(o:cC)(l:List cC)(x:lM)(xs:List lM)(a:At):Ij h (o::l) (x::xs) a=Ij h l xs (ff bP o (x,(h,())) a):=rfl
theorem RM(h:Int):∀(l:List cC) (xs:List lM) {a:At},(ez a).Nodup->(ez (Ij h l xs a)).Nodup
 |[],[],_,hn=>hn
 |[],_::_,_,hn=>hn
 |_::_,[],_,hn=>hn
 |o::l,x::xs,a,hn=>by rw[yA];exact RM h l xs (I1 hn)
theorem alA(h:Int)(x:cC):∀(l:List cC) (xs:List lM) (a:At),x ∉ l->cq bP x (Ij h l xs a)=cq bP x a
 |[],[],_,_=>rfl
 |[],_::_,_,_=>rfl
 |_::_,[],_,_=>rfl
 |o::l,y::xs,a,hx=>by rw[yA,alA h x l xs _ (λe=>hx (aK _ e)),aoD,if_neg (λe=>hx (by rw[e];exact aL ..))]
theorem aer(h:Int):∀(l:List cC) (xs:List lM) (a:At),l.Nodup->∀(k:Nat) (hk:k < l.length) (alG:k < xs.length),cq bP l[k] (Ij h l xs a)=al (xs[k],(h,()))
 |[],_,_,_,k,hk,_=>by simp at hk
 |_::_,[],_,_,k,_,hk=>by simp at hk
 |o::l,y::xs,a,hn,k,hk,alG=>by
  rw[dr]at hn;rw[yA];cases k with
  |zero=>
   show cq bP o _=al (y,(h,()));rw[alA h o l xs _ hn.1,aoD,if_pos rfl]
  |succ k=>
   simp only[List.getElem_cons_succ];exact aer h l xs _ hn.2 k (by simpa using hk) (by simpa using alG)
def wu(a:At)(l:List cC):Int:=(l.map λo=>((cq bP o a).getD axK).1.1).sum
theorem aea:∀(l:List cC) {a:At},(ez a).Nodup->l.Nodup->(∀o∈l,(cq bP o a).isSome=aT)->iI (A1 l a)=iI a - wu a l/\(A1 l a).length+l.length=a.length
 |[],a,_,_,_=>by simp[A1,wu]
 |o::l,a,hn,hl,ht=>by
  rw[dr]at hl;obtain⟨c,hc⟩:=bA.1 (ht o (aL ..));have hg:∀x∈l,cq bP x (j6 bP o a)=cq bP x a:=λx hx=>by rw[aet x o hn,if_neg (λe=>hl.1 (by rw[<-e];exact hx))]
  obtain⟨h1,h2⟩:=aea l (oA (o:=o) hn) hl.2 λx hx=>by rw[hg x hx];exact ht x (aK _ hx)
  have hp:=akw hn hc;have h3:=yC hp;have h4:=hp.length_eq;have h5:wu (j6 bP o a) l=wu a l:=by unfold wu;congr 1;exact il λx hx=>by rw[hg x hx]
  rw[lV]at h3;rw[aH]at h4;rw[Nx,h1,h5,aH];have h6:wu a (o::l)=c.1.1+wu a l:=by simp[wu,hc]
  rw[h6];exact⟨by have h3:iI a=c.1.1+iI (j6 bP o a):=h3;omega,au⟩
theorem Fa(x:lM)(xs:List lM):lB (x::xs)=x.1+lB xs:=by simp[lB]
theorem acP(h:Int):∀(l:List cC) (xs:List lM) {a:At},(ez a).Nodup->l.Nodup->l.length=xs.length->(∀o∈l,cq bP o a=aJ)->iI (Ij h l xs a)=iI a+lB xs/\(Ij h l xs a).length=a.length+l.length
 |[],[],a,_,_,_,_=>by simp[Ij,lB]
 |[],_::_,_,_,_,he,_=>by simp at he
 |_::_,[],_,_,_,he,_=>by simp at he
 |o::l,x::xs,a,hn,hl,he,ht=>by
  rw[dr]at hl;have h0:=(get_none ju hn).1 (ht o (aL ..));have e:ff bP o (x,(h,())) a=a++ [(o,(x,(h,())))]:=Av ju h0;obtain⟨h1,h2⟩:=acP h l xs (I1 (o:=o) (v:=(x,(h,()))) hn) hl.2 (by simpa using he) λy hy=>by rw[aoD,if_neg (λe=>hl.1 (by rw[<-e];exact hy))];exact ht y (aK _ hy)
  rw[yA,h1,h2,e,acS,Fa,aj];simp only[iI,cn,iT,List.sum_cons,List.sum_nil,aH,bB];omega
theorem Ti:∀(l:List kj) (m:List (cC×Bool)),Eh m l=aT->(l.map (·.1)).Nodup/\∀x∈l,cq bP x.1 m≠al aT
 |[],_,_=>⟨gZ,λ_ h=>by cases h⟩
 |x::l,m,h=>by
  rw[Eh,av,av]at h;obtain⟨⟨h1,_⟩,h2⟩:=h;obtain⟨h3,h4⟩:=Ti l _ h2;have hs:∀y∈l,cq bP y.1 (ff bP x.1 aT m)≠al aT:=h4;have gJ:∀y∈l,y.1≠x.1:=λy hy e=>hs y hy (by rw[Rn ju,if_pos ((Ni _ _).2 e)])
  refine⟨?_,λy hy=> ?_⟩
  ·rw[cn,dr];refine⟨λhm=> ?_,h3⟩;obtain⟨y,hy,e⟩:=dO.1 hm;exact gJ y hy e
  ·rcases cg.1 hy with rfl | hy
   ·intro e;unfold Pt at h1;rw[e]at h1;cases h1
   ·have:=hs y hy;rw[Rn ju,if_neg (λe=>gJ y hy ((Ni _ _).1 e))]at this;exact this
theorem MH(t:dS):(dV t).Nodup:=by
 unfold dV;split
 ·rename_i h;exact(Ti _ _ (jo h).2.1).1
 ·exact gZ
theorem TF(t:dS):(gq t).Nodup:=by
 unfold gq;split
 ·unfold DP;refine List.Pairwise.map _ (λa b gJ e=> ?_) (List.nodup_range' (s:=0) (n:=t.2.1.length) (step:=1));have:(a:Int)=b:=bE (λo:cC=>o.2.1) e;exact gJ au
 ·exact gZ
theorem Tg{h:Int}{id:List Int}{a:At}:∀(l:List kj) (f0 f:Int),tT h id a l f0= .inr f->(∀o∈l.map (·.1),(cq bP o a).isSome=aT)/\f=f0+wu a (l.map (·.1))
 |[],f0,f,e=>by simp only[tT,Sum.inr.injEq]at e;subst e;simp[wu]
 |x::l,f0,f,e=>by
  simp only[tT]at e;cases hg:cq bP x.1 a with
  |none=>rw[hg]at e;cases e
  |some c=>
   rw[hg]at e;simp only at e;split at e
   ·cases e
   ·obtain⟨h1,h2⟩:=Tg l _ _ e;refine⟨λo ho=> ?_,?_⟩
    ·rw[cn]at ho;rcases cg.1 ho with rfl | ho
     ·rw[hg];rfl
     ·exact h1 o ho
    ·rw[h2];simp only[wu,cn,List.sum_cons,hg,dB];omega
structure qT(t:dS)(h:Int)(a:At)(jG:Int):Prop where
 ok:iM t=aT
 h1:1<=h
 h2:h<=1048576
 ins:∃f,tT h (wI t) a t.1 0= .inr f/\jG=f - lB t.2.1
 there:∀o∈dV t,(cq bP o a).isSome=aT
 made:∀o∈gq t,cq bP o a=aJ
 aE4:jG=wu a (dV t) - lB t.2.1
 pos:0<=jG
theorem Ad{t:dS}{h:Int}{a:At}(e:(dL t h a).2=0):qT t h a (dL t h a).1:=by
 obtain⟨jd,h1,h2,f,hi,hm,hp,hc⟩:=Gr e;obtain⟨i1,i2⟩:=Tg _ _ _ hi;have hs:dV t=t.1.map (·.1):=by unfold dV;rw[if_pos jd]
 rw[hc];refine⟨jd,h1,h2,⟨f,hi,rfl⟩,by rw[hs];exact i1,λo ho=> ?_,by rw[hs,i2];show 0+_ - _=_;omega,hp⟩;have:=jg.1 hm o ho;unfold pC at this;cases hg:cq bP o a with
 |none=>rfl
 |some c=>rw[hg]at this;simp at this
section
variable {t:dS} {h jG:Int} {a:At}
theorem qT.aBX(hc:qT t h a jG)(ha:(ez a).Nodup){o:cC}(ho:o∈dV t):cq bP o (cm t h a)=aJ:=by
 have hm:o ∉ gq t:=λe=>by have:=hc.there o ho;rw[hc.made o e]at this;cases this
 unfold cm;rw[alA h o _ _ _ hm,SS o _ ha,if_pos ho]
theorem qT.new(hc:qT t h a jG){k:Nat}(hk:k < (gq t).length)(alG:k < t.2.1.length):cq bP (gq t)[k] (cm t h a)=al (t.2.1[k],(h,())):=by unfold cm;exact aer h _ _ _ (TF t) k hk alG
theorem wN(ha:(ez a).Nodup){o:cC}(h1:o ∉ dV t)(h2:o ∉ gq t):cq bP o (cm t h a)=cq bP o a:=by unfold cm;rw[alA h o _ _ _ h2,SS o _ ha,if_neg h1]
theorem fE(ha:(ez a).Nodup):(ez (cm t h a)).Nodup:=RM h _ _ (CQ _ ha)
theorem qT.sum(hc:qT t h a jG)(ha:(ez a).Nodup):iI (cm t h a)=iI a - jG/\(cm t h a).length+t.1.length=a.length+t.2.1.length:=by
 obtain⟨d1,d2⟩:=aea (dV t) ha (MH t) hc.there;obtain⟨e1,e2⟩:=acP h (gq t) t.2.1 (CQ (dV t) ha) (TF t) (tY hc.ok) λo ho=>by
  rw[SS o _ ha];split
  ·rfl
  ·exact hc.made o ho
 have hf:=hc.aE4;have hl:=Th hc.ok;have hm:=tY hc.ok;unfold cm;rw[e1,e2,d1];exact⟨au,au⟩
theorem qT.vu(hc:qT t h a jG)(ha:Na a)(hv:vW t):Na (cm t h a):=by
 refine⟨fE ha.1,λp hp=> ?_⟩;have hg:=(lX ju (fE (t:=t) (h:=h) ha.1) (x:=p.1) (v:=p.2)).2 hp;by_cases h2:p.1∈gq t
 ·obtain⟨k,hk,e⟩:=List.getElem_of_mem h2;have alG:k < t.2.1.length:=by rw[<-tY hc.ok];exact hk
  rw[<-e,hc.new hk alG]at hg;have hg:=(aO hg).symm;have ho:=mP _ _ (jo hc.ok).2.2 _ (aX alG);have hu:=hv.1.1 _ (aX alG);have h1:=hc.h1;have h3:=hc.h2;refine⟨?_,?_⟩
  ·rw[<-e];have hm:gq t=DP (wI t) 0 t.2.1.length:=by unfold gq;rw[if_pos hc.ok]
   simp only[hm,DP,List.getElem_map];have:=(BF (t:=t));exact⟨this.1,λx hx=>this.2 x hx⟩
  ·rw[hg];exact⟨ho.2,hu.1,ho.1.1,ho.1.2,by show 0<=h;omega,h3⟩
 ·by_cases h1:p.1∈dV t
  ·rw[hc.aBX ha.1 h1]at hg;cases hg
  ·rw[wN ha.1 h1 h2]at hg;exact ha.2 p ((lX ju ha.1).1 hg)
end
end
theorem akX(k:Int):nY (gD k):=(af3 _ _).u
def mT:List Int:=[152,45,158,62,185,150,245,89,230,51,244,209,148,222,243,118,29,144,159,90,59,100,125,26,133,31,234,214,124,50,201,209]
theorem s3:mn 3 mT=(2066670005889522986,1913675330412042729,()):=by decide+kernel
theorem s5:mn 5 mT=(1601457595092860225,1871270319440231866,()):=by decide+kernel
theorem u0:nY 0:=⟨fx 0,fb⟩
theorem aiO{x:Int}{l:List Int}(h:nY x)(hl:DH l):DH (x::l):=λp hp=>by
 rcases cg.1 hp with rfl | hp
 ·exact h
 ·exact hl p hp
theorem ao0:DH []:=λp hp=>by cases hp
theorem aIv:NM 0=aT:=rfl
theorem ayn(ks:List Int)(a d:Int)(h:ks.length<=12):Ed (ks,a,d,0,())=(ks.all BJ && (NM a && NM d)):=by have e:Ed (ks,a,d,0,())=(decide (ks.length<=12) && (ks.all BJ && (NM a && (NM d && aT)))):=rfl;rw[e,bf h,cH,Bool.and_true]
def avs(b:tG)(sg:List Sg)(s:Int)(m:List Int)(height age:Int):Int:=if height < b.2.1\/age < b.2.2.1 then 11 else if b.2.2.2.1≠0/\gD s≠b.2.2.2.1 then 23 else if sg.length≠b.1.length then 7 else if wx m b.1 sg then 0 else 7
theorem azX{l:Lk}{i:Nat}{b:tG}(jd:nI l=aT)(hi:i < l.1.length)(hb:l.1[i]=b)(sg:List Sg)(s:Int)(m:List Int)(h a:Int):B7 l ((i:Int),sg,s,()) m h a=avs b sg s m h a:=by
 have n1:nth (.pair (.slice (.int .u64)) (.pair (.int .i64) (.pair (.int .i64) (.pair (.int .u64) .unit)))) l.1 i=l.1[i]:=dj (t:=(.pair (.slice (.int .u64)) (.pair (.int .i64) (.pair (.int .i64) (.pair (.int .u64) .unit))))) hi;unfold B7;rw[if_neg (by
  intro hh;rcases hh with hh | hh | hh
  ·rw[jd]at hh;cases hh
  ·have hh:(i:Int) < 0:=hh;omega
  ·have hh:(i:Int)>=l.1.length:=hh;omega)]
 show(if h < (nth (.pair (.slice (.int .u64)) (.pair (.int .i64) (.pair (.int .i64) (.pair (.int .u64) .unit)))) l.1 i).2.1\/a < (nth (.pair (.slice (.int .u64)) (.pair (.int .i64) (.pair (.int .i64) (.pair (.int .u64) .unit)))) l.1 i).2.2.1 then 11 else if(nth (.pair (.slice (.int .u64)) (.pair (.int .i64) (.pair (.int .i64) (.pair (.int .u64) .unit)))) l.1 i).2.2.2.1≠0/\gD s≠(nth (.pair (.slice (.int .u64)) (.pair (.int .i64) (.pair (.int .i64) (.pair (.int .u64) .unit)))) l.1 i).2.2.2.1 then 23 else if sg.length≠(nth (.pair (.slice (.int .u64)) (.pair (.int .i64) (.pair (.int .i64) (.pair (.int .u64) .unit)))) l.1 i).1.length then 7 else if wx m (nth (.pair (.slice (.int .u64)) (.pair (.int .i64) (.pair (.int .i64) (.pair (.int .u64) .unit)))) l.1 i).1 sg then 0 else 7)=_;rw[n1,hb];rfl
theorem Wf(m:List Int):∀ks:List Int,(∀k∈ks,0 < k/\k < 2305843009213688669)->wx m (ks.map gD) (ks.map λk=>mn k m)=aT
 |[],_=>rfl
 |k::ks,h=>by have hk:=h k aL;show(yS (gD k) m 1 (mn k m) && wx m (ks.map gD) (ks.map λk=>mn k m))=aT;rw[aAF k m hk.1 hk.2,Wf m ks λx hx=>h x (aK _ hx)];rfl
theorem abg(ks:List Int)(hk:∀k∈ks,0 < k/\k < 2305843009213688669)(af dl sc s:Int)(m:List Int)(h a:Int)(hs:sc=0\/gD s=sc):
  avs (ks.map gD,af,dl,sc,()) (ks.map λk=>mn k m) s m h a=if h < af\/a < dl then 11 else 0:=by
 have e:avs (ks.map gD,af,dl,sc,()) (ks.map λk=>mn k m) s m h a=if h < af\/a < dl then 11 else if sc≠0/\gD s≠sc then 23 else if(ks.map λk=>mn k m).length≠(ks.map gD).length then 7 else if wx m (ks.map gD) (ks.map λk=>mn k m) then 0 else 7:=rfl
 rw[e,Wf m ks hk,if_neg (c:=sc≠0/\gD s≠sc) (by rintro⟨h1,h2⟩;exact hs.elim h1 h2),if_neg (c:=(ks.map λk=>mn k m).length≠(ks.map gD).length) (by rw[cF,cF];exact λx=>x rfl)];rfl
theorem aGf{k:Int}(h:0 < k/\k < 2305843009213688669):∀x∈ [k],0 < x/\x < 2305843009213688669:=λx hx=>by rw[bq]at hx;subst hx;exact h
def z32:List Int:=ai 32 0
def aKb:Lk:=aHC [gD 7]
def aJl:At:=[Ac 0 ((100:Int),(aKb,()))]
theorem b7:nY (gD 7):=akX 7
theorem axB:nY 0:=⟨fb,fb⟩
theorem n14(m:List Int)(hm:¬m=z32):cq bP (m,((0:Int),())) aJl=aJ:=by unfold aJl Ac;rw[eT,if_neg,ua];intro e;have:=(Ni _ _).1 e;exact hm (bE (λo:cC=>o.1) this)
section
structure sq(m n:Nat)(a:At)(s:List cZ):Prop where
 vu:Na a
 le:n<=s.length
 len:s.length<=m
 aEP:∀st∈s,am4 st
 sum:iI a<=1125899906842624
 aEp:a.length<=256+64*m
theorem sq.mono{m m' n:Nat}{a:At}{s:List cZ}(h:sq m n a s)(hm:m<=m'):sq m' n a s:=⟨h.vu,h.le,jx h.len hm,h.aEP,h.sum,by have:=h.aEp;omega⟩
theorem JY{a:At}(h:∀p∈a,0<=p.2.1.1):0<=iI a:=by
 induction a with
 |nil=>exact fx 0
 |cons p a ih=>
  rw[lV];have:=h p aL;have:=ih λq hq=>h q (aK _ hq)
  omega
theorem Na.pos{a:At}(h:Na a):0<=iI a:=JY λp hp=>(h.2 p hp).2.2.2.1
theorem YD:∀(l:List lM) (sum:Int) (k:Nat) {a:At},0<=sum->sum<=1125899906842624->(∀o∈l,acL o)->LD sum k l=al a->
  a.length=l.length/\iI a=lB l/\sum+lB l<=1125899906842624/\(∀o∈l,0<=o.1)/\(∀p∈a,acC p.1/\aEl p.2/\(k:Int)<=p.1.2.1)/\(ez a).Nodup
 |[],sum,k,a,h0,h1,_,e=>by obtain rfl:=aO e;exact⟨rfl,rfl,by show sum+0<=_;omega,λo ho=>(by cases ho),λp hp=>(by cases hp),gZ⟩
 |o::l,sum,k,a,h0,h1,hg,e=>by
  rw[LD]at e;cases ho:zs sum o with
  |false=>rw[ho]at e;cases e
  |true=>
   rw[ho]at e;simp only at e;cases hr:LD (sum+o.1) (k+1) l with
   |none=>rw[hr]at e;cases e
   |some r=>
    rw[hr]at e;obtain rfl:=aO e;have ho':=ho;unfold zs at ho';simp only[av,aW]at ho';obtain⟨k1,k2,k3⟩:=ho';obtain⟨i1,i2,i3,i4,i5,i6⟩:=YD l (sum+o.1) (k+1) au au (λx hx=>hg x (aK _ hx)) hr;have hu:=hg o aL;refine⟨by rw[aH,aH,i1],?_,by rw[Fa];omega,λx hx=> ?_,λp hp=> ?_,?_⟩
    ·rw[lV,Fa,i2];rfl
    ·rcases cg.1 hx with rfl | hx
     ·exact k2
     ·exact i4 x hx
    ·rcases cg.1 hp with rfl | hp
     ·refine⟨⟨by show(ai 32 (0:Int)).length=32;rw[dF],λx hx=> ?_⟩,⟨k1,hu.1,k2,by show o.1<=_;omega,fx 0,by show(0:Int)<=_;decide⟩,by show(k:Int)<=k;omega⟩;have hx:x∈ai 32 (0:Int):=hx;obtain rfl:=(qV.1 hx).2;exact⟨fb,fb⟩
     ·have:=i5 p hp;exact⟨this.1,this.2.1,au⟩
    ·show((Ac k o).1::ez r).Nodup;refine dr.2 ⟨λhm=> ?_,i6⟩;obtain⟨p,hp,he⟩:=dO.1 hm;have:=(i5 p hp).2.2;have he:p.1=(Ac k o).1:=he;rw[he]at this;have this:((k+1:Nat):Int)<=(k:Int):=this;omega
theorem apw{outs:List lM}{a:At}(hg:∀o∈outs,acL o)(e:aba outs=al a):sq 0 0 a []/\iI a=lB outs/\a.length=outs.length/\outs.length<=256/\(∀o∈outs,0<=o.1)/\lB outs<=1125899906842624:=by
 unfold aba at e;by_cases hl:outs.length<=256
 ·rw[if_pos hl]at e;obtain⟨i1,i2,i3,i4,i5,i6⟩:=YD outs 0 0 fb fb hg e;exact⟨⟨⟨i6,λp hp=>⟨(i5 p hp).1,(i5 p hp).2.1⟩⟩,aF _,aF _,λst nG=>(by cases nG),au,au⟩,i2,i1,hl,i4,au⟩
 ·rw[if_neg hl]at e;cases e
theorem azR{outs:List lM}(hg:∀o∈outs,acL o):rh outs=al (match aba outs with | none=> .inl () | some r=> .inr (r,[])):=by rw[XZ (d:=outs) hg];simp only[BW,Gy];cases aba outs <;> rfl
theorem Yd:∀(l:List cC) (a:At),(wF a l).length=l.length
 |[],_=>rfl
 |o::l,a=>by rw[wF,aH,aH,Yd l]
theorem aw9{t:dS}{h jG:Int}{a:At}(hc:qT t h a jG):am4 (stepOf t a):=by have h1:=(jo hc.ok).1;have h2:=tY hc.ok;have h3:=Th hc.ok;unfold am4 stepOf;rw[Yd];exact⟨au,by show(gq t).length<=1000;omega⟩
section
variable {m n:Nat} {t:dS} {h:Int} {a:At} {s:List cZ}
theorem sq.app(hg:sq m n a s)(hc:qT t h a (dL t h a).1)(hv:vW t):sq (m+1) (n+1) (cm t h a) (s.take n++ [stepOf t a]):=by
 have hl:=hg.le;have hm:=hg.len;have hs:=hc.sum hg.vu.1;have hp:=hc.pos;have h1:=(jo hc.ok).1;have e:(s.take n).length=n:=by rw[cG];omega
 refine⟨hc.vu hg.vu hv,by rw[aj,e];exact aF _,by rw[aj,e];show n+1<=_;omega,λst nG=> ?_,?_,?_⟩
 ·rcases bD.1 nG with nG | nG
  ·exact hg.aEP st (kJ nG)
  ·rw[bq.1 nG];exact aw9 hc
 ·have:=hg.sum;omega
 ·have:=hg.aEp;omega
theorem sq.apply(hg:sq m n a s)(hm:m<=1000)(hv:vW t):((dL t h a).2≠0/\re (t,h,n,a,s)=al (.inl ((dL t h a).2,n,a,s)))\/
  (qT t h a (dL t h a).1/\(dL t h a).2=0/\re (t,h,n,a,s)=al (.inr (0,n+1,cm t h a,s.take n++ [stepOf t a]))/\sq (m+1) (n+1) (cm t h a) (s.take n++ [stepOf t a])):=by
 have hr:=aoa (d:=(t,h,n,a,s)) ⟨hv,hg.vu,hg.le,by have:=hg.len;show s.length<=_;omega⟩;by_cases he:(dL t h a).2=0
 ·right;refine⟨Ad he,he,?_,hg.app (Ad he) hv⟩;rw[hr];simp only[yE,Gv,he,ne_eq,not_true_eq_false,cK]
 ·left;refine⟨he,?_⟩;rw[hr];simp only[yE,Gv,ne_eq,he,not_false_eq_true,da]
theorem sq.check(hg:sq m n a s)(hv:vW t):lH.call (t,h,n,a,s)=al ((dL t h a).1,(dL t h a).2,n,a,s):=XY (d:=(t,h,n,a,s)) ⟨hv,hg.vu⟩
def JX(a:At):List cC:=Ha (t:=bP) G0 (ez a)
theorem sq.all(hg:sq m n a s)(hm:m<=1000):vp.call (n,a,s)=al (a.length,n,a,s,JX a):=XX (d:=(n,a,s)) ⟨by have:=hg.aEp;show a.length<=_;omega,λp hp=>(hg.vu.2 p hp).1⟩
theorem sq.total(hg:sq m n a s):y4.call (n,a,s)=al (iI a,n,a,s):=X0 (d:=(n,a,s)) ⟨λp hp=>(hg.vu.2 p hp).2.2.2.1,by have:=hg.sum;show iI a<=_;omega⟩
theorem sq.copy(hg:sq m n a s)(hm:m<=1000):sK.call (n,a,s)=al (n,a,s,(s.take n).length,eH a,s.take n):=aib (d:=(n,a,s)) ⟨hg.le,by have:=hg.len;show s.length<=_;omega,hg.vu.1⟩
theorem sq.aGz(hg:sq m n a s)(hm:m<=1000):y5.call (n,a,s)=al (if n=0 then(aR,n,a,s) else(aT,n - 1,Cq a (nth cD s (n - 1)),s)):=X1 (d:=(n,a,s)) ⟨hg.le,by have:=hg.len;show s.length<=_;omega,hg.aEP⟩
theorem Na.perm{a':At}(h:Na a)(hp:a.Perm a'):Na a':=⟨(hp.map _).nodup_iff.1 h.1,λp hm=>h.2 p (hp.mem_iff.2 hm)⟩
theorem sq.canon(hg:sq m n a s):sq m n (eH a) (s.take n)/\(s.take n).length=n:=by
 have hp:=me a;have e:(s.take n).length=n:=by rw[cG];have:=hg.le;omega
 exact⟨⟨hg.vu.perm hp.symm,au,by have:=hg.le;have:=hg.len;omega,λst nG=>hg.aEP st (kJ nG),by rw[yC hp];exact hg.sum,by rw[hp.length_eq];exact hg.aEp⟩,e⟩
end
theorem am5{a a':At}(h:Na a')(hp:a.Perm a'):JX a=JX a':=Zd (hp.map _) λx hx=>by obtain⟨p,hp,rfl⟩:=dO.1 hx;exact(h.2 p hp).1
theorem arQ{a:At}(h:Na a):(JX a).Perm (ez a):=(ab2 Kq λx hx=>by
 obtain⟨p,hp,rfl⟩:=dO.1 hx;exact(h.2 p hp).1).1
end
def aao(v o:cC):Bool:=Ty.beq bP v o
def J1(b:pX)(x:kj):Bool:=b.2.2.2.2.1.any (aao x.1)
def BM(b:pX)(t:dS):Bool:=t.1.any (J1 b)
abbrev zr:=(List cC)×cC×Int×Int
def oO:zr->AS:=λ(jt,aEQ,t7,t8)=>⟨([.d (.slice bP) jt,cw,cw,.eN bP aEQ,cw,cw,cw,.d ti t7,.d ti t8]++bg 10 []),[],(ai 19 [])⟩
def pI:Int->Exit×AS:=λx=>(.ret,⟨(bg 4 ([.d ti x]++bg 14 [])),[],(ai 19 [])⟩)
def xQ:Unit->Exit×AS:=λx=>(.exit 0,⟨(bg 19 []),[],(ai 19 [])⟩)
abbrev Jk:=(Int)⊕(Unit)
abbrev Uf:=(Int)⊕(Unit)
def Dc:Jk->Out (Exit×AS):=λx=> .br x.isLeft (.get x.getLeft? λa=> .ok (pI a)) (.get x.getRight? λb=> .ok (xQ b))
def lf:zr->Uf->Jk:=λ(jt,aEQ,t7,t8) y=>match y with | .inl y=> .inl y | .inr z=> .inr (z)
abbrev al8:=(List cC)×cC
def xP:zr->Prop:=λ(l,v,n,i)=>l.length<=1000000000/\(True)/\n=l.length/\∃k:Nat,k<=l.length/\i=k
def oN:zr->Uf:=λ(l,v,n,i)=>A6 (aao v) (l.drop i.toNat) i
def apF:al8->Prop:=λ(l,v)=>l.length<=1000000000/\(True)
def abh:al8->Int:=λ(l,v)=>Wx (aao v) l
def Ue:=ee.gQ oO xP lf oN Dc
def HI:zr->Option Jk:=ji Ue oO
def DQ:Fs Tryz.prog apF bF abh:=gg 111 Tryz.f111 (λ(sv,v)=>([.d (.slice bP) sv,.d bP v],[])) (λx=>⟨.d ti x,[],[]⟩) [al (.slice bP),al bP] [] {loops:=sk [(2,{bu:=[0,3,7,8]})],outs:=sj [(2,{},{bu:=[4]})],gV:=tK [(2,Ue)]}
def Jj:= @fK Tryz.prog (mN DQ.G) DQ.an 0 Tryz.f111 0 _ oO
abbrev P0:=nE Tryz.prog (mN DQ.G) DQ.an 0 Tryz.f111 0 oO xP lf oN Dc
theorem abi:lN HI xP lf oN:=qe (oE [.d (.slice bP),.d bP,.d ti,.d ti] λ_=>cT)
theorem LG:sx @Jj oO xP lf oN Dc P0:=tI
theorem HJ(jt aEQ t7 t8)(kn:K2 R)(kx:K3 R):Jj (jt,aEQ,t7,t8) kn kx=aS (iE t8 t7) (aS (gU t8 (((ag jt):Nat):Int)) (aS (Ty.beq bP aEQ (nth bP jt (ab t8))) (kx (pI t8).1 (pI t8).2) (kn (oO (jt,aEQ,t7,(bV .i64 t8 (1:Int)))))) aJ) (kx (xQ ()).1 (xQ ()).2):=cT
theorem avt(sv v)(k:K1 R):DQ.A (sv,v) k=aq (HI (sv,v,(sv.length:Int),0)) λx1=>aS x1.isLeft (aq x1.getLeft? λa2=>k (DQ.out a2)) (aq x1.getRight? λb3=>k (DQ.out (-1))):=cT
theorem afw:P0:=by
 refine LG (λ(l,v,n,i)=>l.length - i.toNat) ?_
 rintro⟨l,v,n,i⟩ ⟨hb,hv,rfl,k,hk,rfl⟩;have hb:l.length<=1000000000:=hb;have hk:k<=l.length:=hk;by_cases h:k < l.length
 ·have n1:nth bP l k=l[k]:=dj (t:=bP) h;have hd:A6 (aao v) (l.drop k) k=if aao v l[k] then .inl (k:Int) else A6 (aao v) (l.drop (k+1)) ((k+1:Nat):Int):=by rw[aC h];rfl
  have step:∀ {R:Type} (kn:AS->Option R) (kx:Exit->AS->Option R),Jj (l,v,(l.length:Int),(k:Int)) kn kx=aS (aao v l[k]) (kx (pI (k:Int)).1 (pI (k:Int)).2) (kn (oO (l,v,(l.length:Int),((k+1:Nat):Int)))):=by intro R kn kx;rw[HJ,bm au,bz au au,aa,n1,N.pn au];rfl
  cases hp:aao v l[k]
  ·left;refine⟨(l,v,l.length,((k+1:Nat):Int)),⟨hb,hv,rfl,k+1,au,rfl⟩,by simp only[aa];omega,?_,λkn kx=> ?_⟩
   ·simp only[lf,oN,aa,hd,hp,bW,cK]
   ·rw[step,hp,ao]
  ·right;refine⟨pI (k:Int),?_,λkn kx=> ?_⟩
   ·simp only[lf,oN,aa,hd,hp,da];rfl
   ·rw[step,hp,ak]
 ·right;obtain rfl:k=l.length:=au;refine⟨xQ (),?_,λkn kx=> ?_⟩
  ·simp only[lf,oN,aa,aU];rfl
  ·rw[HJ,bn au,ao]
theorem avu:DQ.Ok:=by rintro⟨l,v⟩ ⟨hb,hv⟩;rw[avt,abi (d:=(l,v,l.length,0)) ⟨hb,hv,rfl,0,au,rfl⟩];simp only[ae,lf,oN,bt,aQ,bF,abh,Wx];cases A6 (aao v) l 0 <;> rfl
theorem apG:DQ.RS:=rE [.d (.slice bP),.d bP] DQ
def avv:=DQ.gm avu 1 ⟨.gQ afw,trivial⟩
abbrev al7:=(List cC)×cC
def apE:al7->Prop:=λ(l,_)=>l.length<=1000000000
def azV:al7->Bool:=λ(l,v)=>l.any (aao v)
def PZ:Fs Tryz.prog apE bF azV:=gg 72 Tryz.f72 (λ(sv,v)=>([.d (.slice bP) sv,.d bP v],[])) (λx=>⟨.d .bool x,[],[]⟩) [al (.slice bP),al bP] [avv]
theorem avq(sv v)(k:K1 R):PZ.A (sv,v) k=aq (DQ.call (sv,v)) λx1=>k (PZ.out (BI x1 0)):=cT
theorem avr:PZ.Ok:=by rintro⟨l,v⟩ hb;rw[avq,apG (d:=(l,v)) ⟨hb,trivial⟩];simp only[ae,bF,abh,Lb];rfl
theorem YG:PZ.RS:=rE [.d (.slice bP),.d bP] PZ
def afv:=PZ.gm avr
def am9:(kj×pX)->Prop:=λ(_,b)=>b.2.2.2.2.1.length<=1000
def ax4:(kj×pX)->Bool:=λ(x,b)=>J1 b x
def RP:Fs Tryz.prog am9 bF ax4:=gg 71 Tryz.f71 (λ(x,t1)=>([.d gK x,.eN qf t1],[])) (λx=>⟨.d .bool x,[],[]⟩) [al gK,aJ] [afv]
theorem arS(x t1)(k:K1 R):RP.A (x,t1) k=aq (PZ.call (t1.2.2.2.2.1,x.1)) λx1=>k (RP.out x1):=cT
theorem arT:RP.Ok:=by rintro⟨x,b⟩ hb;have hb:b.2.2.2.2.1.length<=1000:=hb;rw[arS,YG (d:=(b.2.2.2.2.1,x.1)) (by show b.2.2.2.2.1.length<=_;omega)];rfl
theorem ana:RP.RS:=rE [.d gK,.d qf] RP
def arU:=RP.gm arT
abbrev ze:=(List kj)×pX×Int×Int
def oD:ze->AS:=λ(jt,f,t7,t8)=>⟨([.d (.slice gK) jt,.fn 71 (.cons (.eN qf f) (.nil))]++bg 5 ([.d ti t7,.d ti t8]++bg 10 [])),[],(ai 19 [])⟩
def pB:Int->Exit×AS:=λx=>(.ret,⟨(bg 4 ([.d ti x]++bg 14 [])),[],(ai 19 [])⟩)
def xF:Unit->Exit×AS:=λx=>(.exit 0,⟨(bg 19 []),[],(ai 19 [])⟩)
abbrev I5:=(Int)⊕(Unit)
abbrev Te:=(Int)⊕(Unit)
def C1:I5->Out (Exit×AS):=λx=> .br x.isLeft (.get x.getLeft? λa=> .ok (pB a)) (.get x.getRight? λb=> .ok (xF b))
def kT:ze->Te->I5:=λ(jt,f,t7,t8) y=>match y with | .inl y=> .inl y | .inr z=> .inr (z)
abbrev alO:=(List kj)×pX
def xE:ze->Prop:=λ(l,v,n,i)=>l.length<=1000000000/\(v.2.2.2.2.1.length<=1000)/\n=l.length/\∃k:Nat,k<=l.length/\i=k
def oC:ze->Te:=λ(l,v,n,i)=>A6 (J1 v) (l.drop i.toNat) i
def aoU:alO->Prop:=λ(l,v)=>l.length<=1000000000/\(v.2.2.2.2.1.length<=1000)
def aaO:alO->Int:=λ(l,v)=>Wx (J1 v) l
def Td:=ee.gQ oD xE kT oC C1
def HB:ze->Option I5:=ji Td oD
def DO:Fs Tryz.prog aoU bF aaO:=gg 110 Tryz.f110 (λ(sv,fc)=>([.d (.slice gK) sv,.fn 71 (.cons (.eN qf fc) (.nil))],[])) (λx=>⟨.d ti x,[],[]⟩) [al (.slice gK),aJ] [arU] {loops:=sk [(2,{bu:=[0,1,7,8]})],outs:=sj [(2,{},{bu:=[4]})],gV:=tK [(2,Td)]}
def I4:= @fK Tryz.prog (mN DO.G) DO.an 0 Tryz.f110 0 _ oD
abbrev PB:=nE Tryz.prog (mN DO.G) DO.an 0 Tryz.f110 0 oD xE kT oC C1
theorem aaP:lN HB xE kT oC:=qe (oE [.d (.slice gK),.d qf,.d ti,.d ti] λ_=>cT)
theorem Ld:sx @I4 oD xE kT oC C1 PB:=tI
theorem HC(jt f t7 t8)(kn:K2 R)(kx:K3 R):I4 (jt,f,t7,t8) kn kx=aS (iE t8 t7) (aS (gU t8 (((ag jt):Nat):Int)) (aq (RP.call ((nth gK jt (ab t8)),f)) λx1=>aS (x1) (kx (pB t8).1 (pB t8).2) (kn (oD (jt,f,t7,(bV .i64 t8 (1:Int)))))) aJ) (kx (xF ()).1 (xF ()).2):=cT
theorem aus(sv fc)(k:K1 R):DO.A (sv,fc) k=aq (HB (sv,fc,(sv.length:Int),0)) λx2=>aS x2.isLeft (aq x2.getLeft? λa3=>k (DO.out a3)) (aq x2.getRight? λb4=>k (DO.out (-1))):=cT
theorem aeP:PB:=by
 refine Ld (λ(l,v,n,i)=>l.length - i.toNat) ?_
 rintro⟨l,v,n,i⟩ ⟨hb,hv,rfl,k,hk,rfl⟩;have hb:l.length<=1000000000:=hb;have hk:k<=l.length:=hk;by_cases h:k < l.length
 ·have n1:nth gK l k=l[k]:=dj (t:=gK) h;have hd:A6 (J1 v) (l.drop k) k=if J1 v l[k] then .inl (k:Int) else A6 (J1 v) (l.drop (k+1)) ((k+1:Nat):Int):=by rw[aC h];rfl
  have step:∀ {R:Type} (kn:AS->Option R) (kx:Exit->AS->Option R),I4 (l,v,(l.length:Int),(k:Int)) kn kx=aS (J1 v l[k]) (kx (pB (k:Int)).1 (pB (k:Int)).2) (kn (oD (l,v,(l.length:Int),((k+1:Nat):Int)))):=by intro R kn kx;rw[HC,bm au,bz au au,aa,n1,ana (d:=(l[k],v)) hv,N.pn au];rfl
  cases hp:J1 v l[k]
  ·left;refine⟨(l,v,l.length,((k+1:Nat):Int)),⟨hb,hv,rfl,k+1,au,rfl⟩,by simp only[aa];omega,?_,λkn kx=> ?_⟩
   ·simp only[kT,oC,aa,hd,hp,bW,cK]
   ·rw[step,hp,ao]
  ·right;refine⟨pB (k:Int),?_,λkn kx=> ?_⟩
   ·simp only[kT,oC,aa,hd,hp,da];rfl
   ·rw[step,hp,ak]
 ·right;obtain rfl:k=l.length:=au;refine⟨xF (),?_,λkn kx=> ?_⟩
  ·simp only[kT,oC,aa,aU];rfl
  ·rw[HC,bn au,ao]
theorem aut:DO.Ok:=by rintro⟨l,v⟩ ⟨hb,hv⟩;rw[aus,aaP (d:=(l,v,l.length,0)) ⟨hb,hv,rfl,0,au,rfl⟩];simp only[ae,kT,oC,bt,aQ,bF,aaO,Wx];cases A6 (J1 v) l 0 <;> rfl
theorem aoV:DO.RS:=rE [.d (.slice gK),.d qf] DO
def auu:=DO.gm aut 1 ⟨.gQ aeP,trivial⟩
abbrev alM:=(List kj)×pX
def aoS:alM->Prop:=λ(l,b)=>l.length<=1000000000/\b.2.2.2.2.1.length<=1000
def azv:alM->Bool:=λ(l,b)=>l.any (J1 b)
def S9:Fs Tryz.prog aoS bF azv:=gg 70 Tryz.f70 (λ(sv,fc)=>([.d (.slice gK) sv,.fn 71 (.cons (.eN qf fc) (.nil))],[])) (λx=>⟨.d .bool x,[],[]⟩) [al (.slice gK),aJ] [auu]
theorem aup(sv fc)(k:K1 R):S9.A (sv,fc) k=aq (DO.call (sv,fc)) λx1=>k (S9.out (BI x1 0)):=cT
theorem auq:S9.Ok:=by rintro⟨l,v⟩ ⟨hb,hv⟩;rw[aup,aoV (d:=(l,v)) ⟨hb,hv⟩];simp only[ae,bF,aaO,Lb];rfl
theorem aoT:S9.RS:=rE [.d (.slice gK),.d qf] S9
def aur:=S9.gm auq
def ahs:(dS×pX)->Prop:=λ(t,b)=>vW t/\t.1.length<=1000000000/\b.2.2.2.2.1.length<=1000
def J2:(dS×pX)->Bool:=λ(t,b)=>BM b t
def Il:Fs Tryz.prog ahs bF J2:=gg 69 Tryz.f69 (λ(t,t1)=>([.d fg t,.eN qf t1],[])) (λx=>⟨.d .bool x,[],[]⟩) [al fg,aJ] [aur]
theorem anb(t t1)(k:K1 R):Il.A (t,t1) k=aq (S9.call (t.1,t1)) λx1=>k (Il.out x1):=cT
theorem ane:Il.Ok:=by rintro⟨t,b⟩ ⟨_,hl,hb⟩;rw[anb,aoT (d:=(t.1,b)) ⟨hl,hb⟩];rfl
theorem aht:Il.RS:=rE [.d fg,.d qf] Il
def anf:=Il.gm ane
abbrev vk:=(List dS)×Int×pX×Int×(List dS)×Int×Int×Nat×(List (cC×eU))×(List cZ)×Nat×(List (cC×eU))×(List cZ)
def mG:vk->AS:=λ(Lj,ei,endv,fees,t18,t19,t20,o0L,ed,dm,TV,n17,E8)=>⟨([cw,.d (.slice fg) Lj,.d ti ei,.fn 69 (.cons (.eN qf endv) (.nil))]++bg 5 ([.d ti fees,cw,fI 17]++bg 6 ([.d (.slice fg) t18,.d ti t19,.d ti t20]++bg 32 []))),[dH (.pr (.cP (.bG 1) 0) (.pr (.b8 (.bG 2) 0 [] 0 0 o0L) kO)),dH (.mp bP eR ed),dH (.vec 139 cD dm)],(bK 17 ([[dH (.pr (.cP (.new 17 1) 0) (.pr (.b8 (.new 17 2) 0 [] 0 0 TV) kO)),dH (.mp bP eR n17),dH (.vec 139 cD E8)]]++bK 35 []))⟩
abbrev Ke:=(Nat×(List (cC×eU))×(List cZ))×(Int×Int×Int)
def lz:Ke->Exit×AS:=λ((a,b,c),e,f,g)=>(.ret,⟨(bg 8 ([.d ti e,.d ti f,.d ti g]++bg 42 [])),[dH (.pr (.cP (.bG 1) 0) (.pr (.b8 (.bG 2) 0 [] 0 0 a) kO)),dH (.mp bP eR b),dH (.vec 139 cD c)],(ai 53 [])⟩)
abbrev Kf:=((List dS)×Nat×(List (cC×eU))×(List cZ))×(Int)
def uA:Kf->Exit×AS:=λ((a,b,c,e),f)=>(.exit 0,⟨([cw,.d (.slice fg) a]++bg 7 ([.d ti f]++bg 43 [])),[dH (.pr (.cP (.bG 1) 0) (.pr (.b8 (.bG 2) 0 [] 0 0 b) kO)),dH (.mp bP eR c),dH (.vec 139 cD e)],(ai 53 [])⟩)
abbrev Et:=(Ke)⊕(Kf)
abbrev OX:=((Int×Int×Int))⊕(Int)
def AW:Et->Out (Exit×AS):=λx=> .br x.isLeft (.get x.getLeft? λa=> .ok (lz a)) (.get x.getRight? λb=> .ok (uA b))
def iU:vk->OX->Et:=λ(Lj,ei,endv,fees,t18,t19,t20,o0L,ed,dm,TV,n17,E8) y=>match y with | .inl y=> .inl ((o0L,ed,dm),y) | .inr z=> .inr (((Lj,o0L,ed,dm),z))
abbrev adn:=(List dS)×Int×pX×Nat×(List (cC×eU))×(List cZ)
def fM(b:pX)(h:Int):List dS->Int->Int->At->(Int×Int×Int)⊕Int
 |[],_,fees,_=> .inr fees
 |t::l,k,fees,a=>if BM b t then .inl (k,fees,14) else if(dL t h a).2≠0 then .inl (k,fees,(dL t h a).2) else fM b h l (k+1) (fees+(dL t h a).1) (cm t h a)
def arO(l:List dS)(b:pX):Prop:=l.length<=100/\(∀t∈l,vW t/\t.1.length<=1000000)/\b.2.2.2.2.1.length<=1000
def uz:vk->Prop:=λ(_,_,b,fees,l,n',i,_,_,_,n,a,s)=>arO l b/\n'=(l.length:Int)/\∃k:Nat,k<=l.length/\i=k/\sq (500+k) n a s/\0<=fees/\fees+iI a<=1125899906842624
def kL:vk->OX:=λ(_,h,b,fees,l,_,i,_,_,_,_,a,_)=>fM b h (l.drop i.toNat) i fees a
def lK(b:pX)(h:Int)(l:List dS)(a:At):Int×Int×Int:=match fM b h l 0 0 (eH a) with
 | .inl x=>x
 | .inr f=>((l.length:Int),f,0)
def ahJ:adn->Prop:=λ(l,_,b,n,a,s)=>arO l b/\sq 500 n a s
def ado:adn->(Int×Int×Int×Nat×(List (cC×eU))×(List cZ)):=λ(l,h,b,n,a,s)=>((lK b h l a).1,(lK b h l a).2.1,(lK b h l a).2.2,n,a,s)
def OV:=ee.gQ mG uz iU kL AW
def Eu:vk->Option Et:=ji OV mG
def vY:Fs Tryz.prog ahJ bF ado:=gg 54 Tryz.f54 (λ(l,height,endc,o0baL,o1,o2)=>([.ptr (.bG 0) 0 [] 0,.d (.slice fg) l,.d ti height,.fn 69 (.cons (.eN qf endc) (.nil))],[.obj 0 aR (.pr (.cP (.bG 1) 0) (.pr (.b8 (.bG 2) 0 [] 0 0 o0baL) (.d .unit ()))),.obj 0 aR (.mp bP eR o1),.obj 0 aR (.vec 139 cD o2)])) (λx=>⟨.cons (.d ti x.1) (.cons (.d ti x.2.1) (.cons (.d ti x.2.2.1) (.nil))),[.obj 0 aR (.pr (.cP (.bG 1) 0) (.pr (.b8 (.bG 2) 0 [] 0 0 x.2.2.2.1) (.d .unit ()))),.obj 0 aR (.mp bP eR x.2.2.2.2.1),.obj 0 aR (.vec 139 cD x.2.2.2.2.2)],[]⟩) [aJ,al (.slice fg),al ti,aJ] [Gx,anf,KJ,KF] {loops:=sk [(3,{bu:=[1,2,3,9,11,18,19,20],sites:=[17],owns:=[⟨11,[.snd,.fst],17,32⟩]})],outs:=sj [(3,{bu:=[1,9]},{bu:=[8,9,10]})],gV:=tK [(3,OV)]}
def OW:= @fK Tryz.prog (mN vY.G) vY.an 0 Tryz.f54 0 _ mG
abbrev Kd:=nE Tryz.prog (mN vY.G) vY.an 0 Tryz.f54 0 mG uz iU kL AW
theorem Wo:lN Eu uz iU kL:=qe (oE [.d (.slice fg),.d ti,.d qf,.d ti,.d (.slice fg),.d ti,.d ti,.n,.d (.slice (.pair bP eR)),.d (.slice cD),.n,.d (.slice (.pair bP eR)),.d (.slice cD)] λ_=>cT)
theorem Iq:sx @OW mG uz iU kL AW Kd:=tI
theorem sG(Lj ei endv fees t18 t19 t20 o0L ed dm TV n17 E8)(kn:K2 R)(kx:K3 R):OW (Lj,ei,endv,fees,t18,t19,t20,o0L,ed,dm,TV,n17,E8) kn kx=aS (iE t20 t19) (aS (gU t20 (((ag t18):Nat):Int)) (aq (Il.call ((nth fg t18 (ab t20)),endv)) λx1=>aS (x1) (kx (lz ((o0L,ed,dm),(t20,fees,(14:Int)))).1 (lz ((o0L,ed,dm),(t20,fees,(14:Int)))).2) (aq (lH.call ((nth fg t18 (ab t20)),ei,TV,n17,E8)) λx2=>aS (G5 x2.2.1 (0:Int)) (kx (lz ((o0L,ed,dm),(t20,fees,x2.2.1))).1 (lz ((o0L,ed,dm),(t20,fees,x2.2.1))).2) (aq (re ((nth fg t18 (ab t20)),ei,x2.2.2.1,x2.2.2.2.1,x2.2.2.2.2)) λx3=>aS x3.isLeft (aq x3.getLeft? λaEg=>kn (mG (Lj,ei,endv,(bV .i64 fees x2.1),t18,t19,(bV .i64 t20 (1:Int)),o0L,ed,dm,aEg.2.1,aEg.2.2.1,aEg.2.2.2))) (aq x3.getRight? λaEh=>kn (mG (Lj,ei,endv,(bV .i64 fees x2.1),t18,t19,(bV .i64 t20 (1:Int)),o0L,ed,dm,aEh.2.1,aEh.2.2.1,aEh.2.2.2)))))) aJ) (kx (uA ((Lj,o0L,ed,dm),fees)).1 (uA ((Lj,o0L,ed,dm),fees)).2):=cT
theorem anw(l height endc o0baL o1 o2)(k:K1 R):vY.A (l,height,endc,o0baL,o1,o2) k=aq (sK.call (o0baL,o1,o2)) λx1=>aq (Eu (l,height,endc,0,l,(l.length:Int),0,x1.1,x1.2.1,x1.2.2.1,x1.2.2.2.1,x1.2.2.2.2.1,x1.2.2.2.2.2)) λx8=>aS x8.isLeft (aq x8.getLeft? λa9=>k (vY.out (a9.2.1,a9.2.2.1,a9.2.2.2,a9.1.1,a9.1.2.1,a9.1.2.2))) (aq x8.getRight? λb10=>k (vY.out ((b10.1.1.length:Int),b10.2,0,b10.1.2.1,b10.1.2.2.1,b10.1.2.2.2))):=cT
theorem ZE:Kd:=by
 refine Iq (λ(_,_,_,_,l,_,i,_)=>l.length - i.toNat) ?_
 rintro⟨l0,h,b,fees,l,n',i,nS,a0,s0,n,a,s⟩ ⟨⟨h1,h2,h3⟩,rfl,k,hk,rfl,hg,f0,f1⟩;have h1:l.length<=100:=h1;have hk:k<=l.length:=hk;have f0:0<=fees:=f0;have f1:fees+iI a<=1125899906842624:=f1;have hg:sq (500+k) n a s:=hg;by_cases jb:k < l.length
 ·have n1:nth fg l k=l[k]:=dj (t:=fg) jb;have hd:l.drop k=l[k]::l.drop (k+1):=aC jb;obtain⟨hv,hi⟩:=h2 _ (aX jb);have G2:=aht (d:=(l[k],b)) ⟨hv,jx hi fb,h3⟩;by_cases hb:BM b l[k]=aT
  ·right;refine⟨lz ((nS,a0,s0),((k:Int),fees,14)),?_,λkn kx=> ?_⟩;rotate_left
   ·rw[sG,bm au,ak,bz au au,ak,aa,n1,G2];simp only[ae,bF,J2,hb,ak]
   ·simp only[iU,kL,aa,hd,fM,if_pos hb];rfl
  ·have hb':BM b l[k]=aR:=by simpa using hb
   have hc:=hg.check (t:=l[k]) (h:=h) hv;rcases hg.apply (t:=l[k]) (h:=h) au hv with⟨he,_⟩ | ⟨aHU,he,ha,hg'⟩
   ·right;refine⟨lz ((nS,a0,s0),((k:Int),fees,(dL l[k] h a).2)),?_,λkn kx=> ?_⟩;rotate_left
    ·rw[sG,bm au,ak,bz au au,ak,aa,n1,G2];simp only[ae,bF,J2,hb',ao];rw[hc];simp only[ae];rw[iJ he,ak]
    ·simp only[iU,kL,aa,hd,fM,if_neg hb,if_pos he];rfl
   ·left;have zW:=(aHU.sum hg.vu.1).1;have aCV:0<=(dL l[k] h a).1:=by obtain⟨_,_,_,f,_,_,hp,aFn⟩:=Gr he;rw[aFn];exact hp
    have sh:=JY λp hp=>(hg'.vu.2 p hp).2.2.2.1
    refine⟨(l0,h,b,fees+(dL l[k] h a).1,l,(l.length:Int),((k+1:Nat):Int),nS,a0,s0,n+1,cm l[k] h a,s.take n++ [stepOf l[k] a]),⟨⟨h1,h2,h3⟩,rfl,k+1,au,rfl,hg',by show(0:Int)<=fees+(dL l[k] h a).1;omega,by show fees+(dL l[k] h a).1+iI (cm l[k] h a)<=_;omega⟩,by simp only[aa];omega,?_,λkn kx=> ?_⟩
    ·simp only[iU,kL,aa,hd,fM,if_neg hb,if_neg (λe=>e he:¬(dL l[k] h a).2≠0)];rfl
    ·rw[sG,bm au,ak,bz au au,ak,aa,n1,G2];simp only[ae,bF,J2,hb',ao];rw[hc];simp only[ae];rw[eJ he,ao,ha];simp only[ae,e7,ao,dT];rw[hZ (x:=fees) au au,N.pn au]
 ·right;obtain rfl:k=l.length:=au;refine⟨uA ((l0,nS,a0,s0),fees),?_,λkn kx=> ?_⟩;rotate_left
  ·rw[sG,bn au,ao]
  ·simp only[iU,kL,aa,aU,fM];rfl
theorem anx:vY.Ok:=by
 rintro⟨l,h,b,n,a,s⟩ ⟨hw,hg⟩;have hg:sq 500 n a s:=hg;obtain⟨hc,hl⟩:=hg.canon;have z1:((0:Int)).toNat=0:=rfl;rw[anw,hg.copy au];simp only[ae];rw[hl,Wo (d:=(l,h,b,0,l,(l.length:Int),0,n,a,s,n,eH a,s.take n)) ⟨hw,rfl,0,aP _,rfl,hc,fx 0,by show(0:Int)+iI (eH a)<=_;have:=hc.sum;omega⟩];simp only[ae,iU,kL,z1,aQ,bF,ado,lK];cases fM b h l 0 0 (eH a) with
 |inl x=>rfl
 |inr f=>rfl
theorem ahK:vY.RS:=rE [.d (.slice fg),.d ti,.d qf,.n,.d (.slice (.pair bP eR)),.d (.slice cD)] vY
def anz:=vY.gm anx 1 ⟨.gQ ZE,trivial⟩
abbrev adj:=pX×Nat×(List (cC×eU))×(List cZ)
def km(b:pX)(a:At):Int×Int:=if wE b.1 b.2.2.2.1 then(if 4000 < aye b then(0,3) else(lK b b.1 b.2.2.1 a).2) else(0,1)
def akM(b:pX):Prop:=aHv b/\b.2.2.1.length<=100/\∀t∈b.2.2.1,t.1.length<=1000000
theorem akM.walk{b:pX}(h:akM b):arO b.2.2.1 b:=⟨h.2.1,λt ht=>⟨h.1.1.2 t ht,h.2.2 t ht⟩,h.1.2.2.1⟩
def ahG:adj->Prop:=λ(b,n,a,s)=>akM b/\sq 500 n a s
def R1:adj->(Int×Int×Nat×(List (cC×eU))×(List cZ)):=λ(b,n,a,s)=>((km b a).1,(km b a).2,n,a,s)
def yO:Fs Tryz.prog ahG bF R1:=gg 33 Tryz.f33 (λ(b,o0baL,o1,o2)=>([.ptr (.bG 0) 0 [] 0,.d qf b],[.obj 0 aR (.pr (.cP (.bG 1) 0) (.pr (.b8 (.bG 2) 0 [] 0 0 o0baL) (.d .unit ()))),.obj 0 aR (.mp bP eR o1),.obj 0 aR (.vec 139 cD o2)])) (λx=>⟨.cons (.d ti x.1) (.cons (.d ti x.2.1) (.nil)),[.obj 0 aR (.pr (.cP (.bG 1) 0) (.pr (.b8 (.bG 2) 0 [] 0 0 x.2.2.1) (.d .unit ()))),.obj 0 aR (.mp bP eR x.2.2.2.1),.obj 0 aR (.vec 139 cD x.2.2.2.2)],[]⟩) [aJ,al qf] [XJ,ase,anz]
theorem ans(b o0baL o1 o2)(k:K1 R):yO.A (b,o0baL,o1,o2) k=aq (yN.call (b.1,b.2.2.2.1)) λx1=>aS (!x1) (k (yO.out (0,1,o0baL,o1,o2))) (aS (Ap (b.2.2.1.length:Int) 200) (k (yO.out (0,3,o0baL,o1,o2))) (aq (acE.call b) λx2=>aS (Ap x2 4000) (k (yO.out (0,3,o0baL,o1,o2))) (aq (vY.call (b.2.2.1,b.1,b,o0baL,o1,o2)) λx3=>k (yO.out (x3.2.1,x3.2.2.1,x3.2.2.2.1,x3.2.2.2.2.1,x3.2.2.2.2.2))))):=cT
theorem ant:yO.Ok:=by
 rintro⟨b,n,a,s⟩ ⟨hb,hg⟩;have hb:akM b:=hb;have hl:b.2.2.1.length<=100:=hb.2.1;rw[ans,R0 (d:=(b.1,b.2.2.2.1)) trivial];simp only[ae,bF,J8,bF,R1,km];cases hf:wE b.1 b.2.2.2.1 with
 |false=>rfl
 |true=>
  have aBr:=hf;simp only[wE,aW]at aBr;rw[cv,ao,dx au,ao,ak7 (d:=b) ⟨hb.1,aBr.2.2.1,by show b.2.2.2.1<=_;omega⟩];simp only[ae,bF,ak6,da];by_cases hw:4000 < aye b
  ·rw[dX au,ak,if_pos hw]
  ·rw[dx au,ao,if_neg hw,ahK (d:=(b.2.2.1,b.1,b,n,a,s)) ⟨hb.walk,hg⟩];rfl
theorem R2:yO.RS:=rE [.d qf,.n,.d (.slice (.pair bP eR)),.d (.slice cD)] yO
def XK:=yO.gm ant
abbrev ak4:=pX×Nat×(List (cC×eU))×(List cZ)
def ann:ak4->Prop:=λ(b,n,a,s)=>akM b/\sq 500 n a s
def J7:ak4->(Int×Nat×(List (cC×eU))×(List cZ)):=λ(b,n,a,s)=>((km b a).2,n,a,s)
def BO:Fs Tryz.prog ann bF J7:=gg 10 Tryz.f10 (λ(b,o0baL,o1,o2)=>([.ptr (.bG 0) 0 [] 0,.d qf b],[.obj 0 aR (.pr (.cP (.bG 1) 0) (.pr (.b8 (.bG 2) 0 [] 0 0 o0baL) (.d .unit ()))),.obj 0 aR (.mp bP eR o1),.obj 0 aR (.vec 139 cD o2)])) (λx=>⟨.d ti x.1,[.obj 0 aR (.pr (.cP (.bG 1) 0) (.pr (.b8 (.bG 2) 0 [] 0 0 x.2.1) (.d .unit ()))),.obj 0 aR (.mp bP eR x.2.2.1),.obj 0 aR (.vec 139 cD x.2.2.2)],[]⟩) [aJ,al qf] [XK]
theorem ar7(b o0baL o1 o2)(k:K1 R):BO.A (b,o0baL,o1,o2) k=aq (yO.call (b,o0baL,o1,o2)) λx1=>k (BO.out (x1.2.1,x1.2.2.1,x1.2.2.2.1,x1.2.2.2.2)):=cT
theorem ar8:BO.Ok:=by rintro⟨b,n,a,s⟩ h;rw[ar7,R2 (d:=(b,n,a,s)) h];rfl
theorem Gl:BO.RS:=rE [.d qf,.n,.d (.slice (.pair bP eR)),.d (.slice cD)] BO
def adb:=BO.gm ar8
abbrev yM:=pX×Int×(List dS)×Int×Int×Nat×(List (cC×eU))×(List cZ)
def oa:yM->AS:=λ(nZ,err,t12,t13,t14,o0L,ed,dm)=>⟨([.ptr (.bG 0) 0 [] 0,cw,cw,.eN qf nZ,cw,.d ti err]++bg 6 ([.d (.slice fg) t12,.d ti t13,.d ti t14]++bg 13 [])),[dH (.pr (.cP (.bG 1) 0) (.pr (.b8 (.bG 2) 1 [] 0 0 o0L) kO)),dH (.mp bP eR ed),.obj 1 aR (.vec 139 cD dm)],(ai 28 [])⟩
abbrev OP:=(Int)×(Nat×(List (cC×eU))×(List cZ))
def wS:OP->Exit×AS:=λ(a,b,c,e)=>(.ret,⟨(bg 4 ([.d ti a]++bg 23 [])),[dH (.pr (.cP (.bG 1) 0) (.pr (.b8 (.bG 2) 1 [] 0 0 b) kO)),dH (.mp bP eR c),.obj 1 aR (.vec 139 cD e)],(ai 28 [])⟩)
abbrev OQ:=(Int)×(Nat×(List (cC×eU))×(List cZ))
def wT:OQ->Exit×AS:=λ(a,b,c,e)=>(.exit 0,⟨(bg 5 ([.d ti a]++bg 22 [])),[dH (.pr (.cP (.bG 1) 0) (.pr (.b8 (.bG 2) 1 [] 0 0 b) kO)),dH (.mp bP eR c),.obj 1 aR (.vec 139 cD e)],(ai 28 [])⟩)
abbrev Im:=(OP)⊕(OQ)
abbrev RZ:=((Nat×(List (cC×eU))×(List cZ)))⊕((Nat×(List (cC×eU))×(List cZ)))
def Cw:Im->Out (Exit×AS):=λx=> .br x.isLeft (.get x.getLeft? λa=> .ok (wS a)) (.get x.getRight? λb=> .ok (wT b))
def jy:yM->RZ->Im:=λ(nZ,err,t12,t13,t14,o0L,ed,dm) y=>match y with | .inl y=> .inl (err,y) | .inr z=> .inr ((err,z))
abbrev ak3:=pX×Nat×(List (cC×eU))×(List cZ)
abbrev arL:=Nat×At×List cZ
def En(h:Int)(S:arL)(t:dS):arL:=if(dL t h S.2.1).2≠0 then S else(S.1+1,cm t h S.2.1,S.2.2.take S.1++ [stepOf t S.2.1])
def asf(b:pX)(S:arL):arL:=b.2.2.1.foldl (En b.1) S
def wR:yM->Prop:=λ(_,_,l,m,i,n,a,s)=>(l.length<=100/\∀t∈l,vW t)/\m=(l.length:Int)/\∃k:Nat,k<=l.length/\i=k/\sq (400+k) n a s
def mE:yM->RZ:=λ(b,e,l,_,i,n,a,s)=>if e≠0/\i < (l.length:Int) then .inl (n,a,s) else .inr ((l.drop i.toNat).foldl (En b.1) (n,a,s))
def anm:ak3->Prop:=λ(b,n,a,s)=>akM b/\sq 400 n a s
def Gj:ak3->(Int×Nat×(List (cC×eU))×(List cZ)):=λ(b,n,a,s)=>((km b a).2,if(km b a).2≠0 then(n,a,s) else asf b (n,a,s))
def RX:=ee.gQ oa wR jy mE Cw
def Hc:yM->Option Im:=ji RX oa
def wC:Fs Tryz.prog anm bF Gj:=gg 11 Tryz.f11 (λ(b,o0baL,o1,o2)=>([.ptr (.bG 0) 0 [] 0,.d qf b],[.obj 0 aR (.pr (.cP (.bG 1) 0) (.pr (.b8 (.bG 2) 0 [] 0 0 o0baL) (.d .unit ()))),.obj 0 aR (.mp bP eR o1),.obj 0 aR (.vec 139 cD o2)])) (λx=>⟨.d ti x.1,[.obj 0 aR (.pr (.cP (.bG 1) 0) (.pr (.b8 (.bG 2) 1 [] 0 0 x.2.1) (.d .unit ()))),.obj 0 aR (.mp bP eR x.2.2.1),.obj 1 aR (.vec 139 cD x.2.2.2)],[]⟩) [aJ,al qf] [adb,KF] {loops:=sk [(3,{bu:=[0,3,5,12,13,14],aBe:=[(2,1)]})],outs:=sj [(3,{bu:=[5],aBe:=[(2,1)]},{bu:=[4],aBe:=[(2,1)]})],gV:=tK [(3,RX)],aBe:=[(2,1)]}
def RY:= @fK Tryz.prog (mN wC.G) wC.an 0 Tryz.f11 0 _ oa
abbrev OO:=nE Tryz.prog (mN wC.G) wC.an 0 Tryz.f11 0 oa wR jy mE Cw
theorem ZC:lN Hc wR jy mE:=qe (oE [.d qf,.d ti,.d (.slice fg),.d ti,.d ti,.n,.d (.slice (.pair bP eR)),.d (.slice cD)] λ_=>cT)
theorem J6:sx @RY oa wR jy mE Cw OO:=tI
theorem uw(nZ err t12 t13 t14 o0L ed dm)(kn:K2 R)(kx:K3 R):RY (nZ,err,t12,t13,t14,o0L,ed,dm) kn kx=aS (iE t14 t13) (aS (gU t14 (((ag t12):Nat):Int)) (aS (G5 err (0:Int)) (kx (wS (err,(o0L,ed,dm))).1 (wS (err,(o0L,ed,dm))).2) (aq (re ((nth fg t12 (ab t14)),nZ.1,o0L,ed,dm)) λx1=>aS x1.isLeft (aq x1.getLeft? λaA7=>kn (oa (nZ,err,t12,t13,(bV .i64 t14 (1:Int)),aA7.2.1,aA7.2.2.1,aA7.2.2.2))) (aq x1.getRight? λaBZ=>kn (oa (nZ,err,t12,t13,(bV .i64 t14 (1:Int)),aBZ.2.1,aBZ.2.2.1,aBZ.2.2.2))))) aJ) (kx (wT (err,(o0L,ed,dm))).1 (wT (err,(o0L,ed,dm))).2):=cT
theorem ar5(b o0baL o1 o2)(k:K1 R):wC.A (b,o0baL,o1,o2) k=aq (BO.call (b,o0baL,o1,o2)) λx1=>aq (Hc (b,x1.1,b.2.2.1,(b.2.2.1.length:Int),0,x1.2.1,x1.2.2.1,x1.2.2.2)) λx3=>aS x3.isLeft (aq x3.getLeft? λa4=>k (wC.out (a4.1,a4.2.1,a4.2.2.1,a4.2.2.2))) (aq x3.getRight? λb5=>k (wC.out (b5.1,b5.2.1,b5.2.2.1,b5.2.2.2))):=cT
theorem ac9:OO:=by
 refine J6 (λ(_,_,l,_,i,_,_,_)=>l.length - i.toNat) ?_
 rintro⟨b,e,l,m,i,n,a,s⟩ ⟨⟨hl,hv⟩,rfl,k,hk,rfl,hg⟩;have hl:l.length<=100:=hl;have hk:k<=l.length:=hk;by_cases h:k < l.length
 ·have n1:nth fg l k=l[k]:=dj (t:=fg) h;have hd:l.drop k=l[k]::l.drop (k+1):=aC h;have aJS:=hv _ (aX h);generalize l[k]=t at n1 hd aJS;by_cases h0:e=0
  ·left;have ne:¬(e≠0/\(k:Int) < (l.length:Int)):=λx=>x.1 h0
   have ne2:¬(e≠0/\((k+1:Nat):Int) < (l.length:Int)):=λx=>x.1 h0
   rcases hg.apply (t:=t) (h:=b.1) au aJS with⟨hc,ha⟩ | ⟨_,hc,ha,aBt⟩
   ·refine⟨(b,e,l,(l.length:Int),((k+1:Nat):Int),n,a,s),⟨⟨hl,hv⟩,rfl,k+1,h,rfl,hg.mono au⟩,by simp only[aa];omega,?_,λkn kx=> ?_⟩
    ·simp only[jy,mE,if_neg ne,if_neg ne2,aa,hd,aY];rw[show En b.1 (n,a,s) t=(n,a,s) from if_pos hc]
    ·rw[uw,bm au,ak,bz au au,ak,eJ h0,ao,aa,n1,ha];simp only[ae,Sum.isLeft_inl,ak,Sum.getLeft?_inl];rw[N.pn au]
   ·refine⟨(b,e,l,(l.length:Int),((k+1:Nat):Int),n+1,cm t b.1 a,s.take n++ [stepOf t a]),⟨⟨hl,hv⟩,rfl,k+1,h,rfl,aBt⟩,by simp only[aa];omega,?_,λkn kx=> ?_⟩
    ·simp only[jy,mE,if_neg ne,if_neg ne2,aa,hd,aY];rw[show En b.1 (n,a,s) t=(n+1,cm t b.1 a,s.take n++ [stepOf t a]) from if_neg (λx=>x hc)]
    ·rw[uw,bm au,ak,bz au au,ak,eJ h0,ao,aa,n1,ha];simp only[ae,e7,ao,dT];rw[N.pn au]
  ·right;refine⟨wS (e,(n,a,s)),?_,λkn kx=> ?_⟩
   ·have pe:e≠0/\(k:Int) < (l.length:Int):=⟨h0,au⟩;simp only[jy,mE,if_pos pe];rfl
   ·rw[uw,bm au,ak,bz au au,ak,iJ h0,ak]
 ·right;obtain rfl:k=l.length:=au;refine⟨wT (e,(n,a,s)),?_,λkn kx=> ?_⟩
  ·have ne:¬(e≠0/\(l.length:Int) < (l.length:Int)):=λx=>au
   simp only[jy,mE,if_neg ne,aa,aU,dd];rfl
  ·rw[uw,bn au,ao]
theorem ar6:wC.Ok:=by
 rintro⟨b,n,a,s⟩ ⟨hb,hg⟩;have hg:sq 400 n a s:=hg;rw[ar5,Gl (d:=(b,n,a,s)) ⟨hb,hg.mono fb⟩];simp only[ae,bF,J7,bF,Gj];rw[ZC (d:=(b,(km b a).2,b.2.2.1,(b.2.2.1.length:Int),0,n,a,s)) ⟨⟨hb.2.1,hb.1.1.2⟩,rfl,0,aP _,rfl,hg⟩];simp only[ae,jy,mE,bt,aQ];by_cases h0:(km b a).2=0
 ·rw[if_neg (λx=>x.1 h0),if_neg (λx=>x h0)];rfl
 ·rw[if_pos h0];by_cases hl:(0:Int) < (b.2.2.1.length:Int)
  ·rw[if_pos ⟨h0,hl⟩];rfl
  ·rw[if_neg (λx=>hl x.2),bw (by omega:b.2.2.1.length=0)];rfl
theorem Gk:wC.RS:=rE [.d qf,.n,.d (.slice (.pair bP eR)),.d (.slice cD)] wC
def ada:=wC.gm ar6 1 ⟨.gQ ac9,trivial⟩
abbrev yP:=Int×Int×Nat×(List (cC×eU))×(List cZ)
def rF:yP->AS:=λ(t7,t8,o0L,ed,dm)=>⟨([.ptr (.bG 0) 0 [] 0]++bg 6 ([.d ti t7,.d ti t8]++bg 5 [])),[dH (.pr (.cP (.bG 1) 0) (.pr (.b8 (.bG 2) 0 [] 0 0 o0L) kO)),dH (.mp bP eR ed),dH (.vec 139 cD dm)],(ai 14 [])⟩
abbrev OS:=Nat×(List (cC×eU))×(List cZ)
def wX:OS->Exit×AS:=λ(a,b,c)=>(.ret,⟨(bg 4 ([.d .bool aR]++bg 9 [])),[dH (.pr (.cP (.bG 1) 0) (.pr (.b8 (.bG 2) 0 [] 0 0 a) kO)),dH (.mp bP eR b),dH (.vec 139 cD c)],(ai 14 [])⟩)
abbrev OT:=Nat×(List (cC×eU))×(List cZ)
def wY:OT->Exit×AS:=λ(a,b,c)=>(.exit 0,⟨(bg 14 []),[dH (.pr (.cP (.bG 1) 0) (.pr (.b8 (.bG 2) 0 [] 0 0 a) kO)),dH (.mp bP eR b),dH (.vec 139 cD c)],(ai 14 [])⟩)
abbrev Ip:=(OS)⊕(OT)
abbrev R5:=((Nat×(List (cC×eU))×(List cZ)))⊕((Nat×(List (cC×eU))×(List cZ)))
def Cy:Ip->Out (Exit×AS):=λx=> .br x.isLeft (.get x.getLeft? λa=> .ok (wX a)) (.get x.getRight? λb=> .ok (wY b))
def mF:yP->R5->Ip:=λ(t7,t8,o0L,ed,dm) y=>match y with | .inl y=> .inl y | .inr z=> .inr (z)
abbrev ak5:=pX×Nat×(List (cC×eU))×(List cZ)
def OK:Nat->arL->Bool×arL
 | 0,S=>(aT,S)
 |k+1,S=>if S.1=0 then(aR,S) else OK k (S.1 - 1,Cq S.2.1 (nth cD S.2.2 (S.1 - 1)),S.2.2)
def ax1(n:Nat)(s:List cZ):Prop:=n<=s.length/\s.length<=1000000/\∀st∈s,am4 st
def wW:yP->Prop:=λ(d,i,n,_,s)=>ax1 n s/\∃m k:Nat,d=m/\i=k/\k<=m/\m<=1000
def oc:yP->R5:=λ(d,i,n,a,s)=>if(OK (d - i).toNat (n,a,s)).1=aT then .inr (OK (d - i).toNat (n,a,s)).2 else .inl (OK (d - i).toNat (n,a,s)).2
def anu:ak5->Prop:=λ(b,n,_,s)=>b.2.2.1.length<=1000/\ax1 n s
def Gp:ak5->(Bool×Nat×(List (cC×eU))×(List cZ)):=λ(b,n,a,s)=>OK b.2.2.1.length (n,a,s)
def R3:=ee.gQ rF wW mF oc Cy
def Hd:yP->Option Ip:=ji R3 rF
def wD:Fs Tryz.prog anu bF Gp:=gg 16 Tryz.f16 (λ(b,o0baL,o1,o2)=>([.ptr (.bG 0) 0 [] 0,.d qf b],[.obj 0 aR (.pr (.cP (.bG 1) 0) (.pr (.b8 (.bG 2) 0 [] 0 0 o0baL) (.d .unit ()))),.obj 0 aR (.mp bP eR o1),.obj 0 aR (.vec 139 cD o2)])) (λx=>⟨.d .bool x.1,[.obj 0 aR (.pr (.cP (.bG 1) 0) (.pr (.b8 (.bG 2) 0 [] 0 0 x.2.1) (.d .unit ()))),.obj 0 aR (.mp bP eR x.2.2.1),.obj 0 aR (.vec 139 cD x.2.2.2)],[]⟩) [aJ,al qf] [atn] {loops:=sk [(2,{bu:=[0,7,8]})],outs:=sj [(2,{},{bu:=[4]})],gV:=tK [(2,R3)]}
def R4:= @fK Tryz.prog (mN wD.G) wD.an 0 Tryz.f16 0 _ rF
abbrev OR:=nE Tryz.prog (mN wD.G) wD.an 0 Tryz.f16 0 rF wW mF oc Cy
theorem ZD:lN Hd wW mF oc:=qe (oE [.d ti,.d ti,.n,.d (.slice (.pair bP eR)),.d (.slice cD)] λ_=>cT)
theorem Kb:sx @R4 rF wW mF oc Cy OR:=tI
theorem AV(t7 t8 o0L ed dm)(kn:K2 R)(kx:K3 R):R4 (t7,t8,o0L,ed,dm) kn kx=aS (iE t8 t7) (aq (y5.call (o0L,ed,dm)) λx1=>aS (!x1.1) (kx (wX (x1.2.1,x1.2.2.1,x1.2.2.2)).1 (wX (x1.2.1,x1.2.2.1,x1.2.2.2)).2) (kn (rF (t7,(bV .i64 t8 (1:Int)),x1.2.1,x1.2.2.1,x1.2.2.2)))) (kx (wY (o0L,ed,dm)).1 (wY (o0L,ed,dm)).2):=cT
theorem asc(b o0baL o1 o2)(k:K1 R):wD.A (b,o0baL,o1,o2) k=aq (Hd ((b.2.2.1.length:Int),0,o0baL,o1,o2)) λx2=>aS x2.isLeft (aq x2.getLeft? λa3=>k (wD.out (aR,a3.1,a3.2.1,a3.2.2))) (aq x2.getRight? λb4=>k (wD.out (aT,b4.1,b4.2.1,b4.2.2))):=cT
theorem adk:OR:=by
 refine Kb (λ(d,i,_)=>(d - i).toNat) ?_
 rintro⟨d,i,n,a,s⟩ ⟨hg,m,k,rfl,rfl,hk,hm⟩;have hg:ax1 n s:=hg;have hk:k<=m:=hk;have hm:m<=1000:=hm;by_cases jb:k < m
 ·obtain⟨j,hj⟩:∃j,m=k+1+j:=⟨m - (k+1),au⟩;have e1:((m:Int) - (k:Int)).toNat=j+1:=au;have e2:((m:Int) - ((k+1:Nat):Int)).toNat=j:=au;have hc:=X1 (d:=(n,a,s)) hg;by_cases h0:n=0
  ·right;refine⟨wX (n,a,s),?_,λkn kx=> ?_⟩;rotate_left
   ·rw[AV,bm au,ak,hc];simp only[ae,bF,Rk,if_pos h0,fj,ak]
   ·simp only[mF,oc,e1,OK,if_pos h0,bW,cK];rfl
  ·left;refine⟨((m:Int),((k+1:Nat):Int),n - 1,Cq a (nth cD s (n - 1)),s),⟨⟨by have:=hg.1;omega,hg.2⟩,m,k+1,rfl,rfl,au,hm⟩,by simp only[e1,e2];omega,?_,λkn kx=> ?_⟩
   ·simp only[mF,oc,e1,e2];rw[OK,if_neg h0]
   ·rw[AV,bm au,ak,hc];simp only[ae,bF,Rk,if_neg h0,cv,ao];rw[N.pn au]
 ·right;obtain rfl:k=m:=au;refine⟨wY (n,a,s),?_,λkn kx=> ?_⟩;rotate_left
  ·rw[AV,bn au,ao]
  ·have e1:((k:Int) - (k:Int)).toNat=0:=au;simp only[mF,oc,e1,OK,da];rfl
theorem asd:wD.Ok:=by
 rintro⟨b,n,a,s⟩ ⟨hl,hg⟩;have hl:b.2.2.1.length<=1000:=hl;have e:((b.2.2.1.length:Int) - 0).toNat=b.2.2.1.length:=au;rw[asc,ZD (d:=((b.2.2.1.length:Int),0,n,a,s)) ⟨hg,b.2.2.1.length,0,rfl,rfl,aP _,hl⟩];simp only[ae,oc,e,Gp];cases hu:OK b.2.2.1.length (n,a,s) with
 |mk r S=>
  cases r with
  |true=>rfl
  |false=>rfl
theorem Gq:wD.RS:=rE [.d qf,.n,.d (.slice (.pair bP eR)),.d (.slice cD)] wD
def adl:=wD.gm asd 1 ⟨.gQ adk,trivial⟩
def qg(a a':At):Prop:=∀o,cq bP o a=cq bP o a'
theorem qg.refl(a:At):qg a a:=λ_=>rfl
theorem qg.symm{a b:At}(h:qg a b):qg b a:=λo=>(h o).symm
theorem qg.trans{a b c:At}(h:qg a b)(h':qg b c):qg a c:=λo=>(h o).trans (h' o)
theorem qg.perm{a b:At}(h:qg a b)(ha:(ez a).Nodup)(hb:(ez b).Nodup):a.Perm b:=aBl ha hb h
theorem atD{a b:At}(hb:(ez b).Nodup)(h:a.Perm b):qg a b:=λo=>avR hb h o
theorem qg.del{a b:At}(h:qg a b)(ha:(ez a).Nodup)(hb:(ez b).Nodup)(l:List cC):qg (A1 l a) (A1 l b):=λo=>by
 rw[SS o l ha,SS o l hb,h o]
theorem GP(e:acK)(l:List acK)(a:At):UU (e::l) a=UU l (ff bP e.1 e.2.1 a):=rfl
theorem qg.set{a b:At}(h:qg a b)(o:cC)(c:eU):qg (ff bP o c a) (ff bP o c b):=λx=>by rw[aoD,aoD,h x]
theorem qg.put:∀(l:List acK) {a b:At},qg a b->qg (UU l a) (UU l b)
 |[],_,_,h=>h
 |e::l,a,b,h=>by rw[GP,GP];exact qg.put l (h.set _ _)
theorem UW:∀(l:List acK) {a:At},(ez a).Nodup->(ez (UU l a)).Nodup
 |[],_,h=>h
 |e::l,a,h=>by rw[GP];exact UW l (I1 h)
theorem ag2{a:At}(h:(ez a).Nodup)(st:cZ):(ez (Cq a st)).Nodup:=UW _ (CQ _ h)
theorem qg.aGz{a b:At}(h:qg a b)(ha:(ez a).Nodup)(hb:(ez b).Nodup)(st:cZ):qg (Cq a st) (Cq b st):=qg.put _ (h.del ha hb _)
theorem qg.add(h:Int):∀(l:List cC) (xs:List lM) {a b:At},qg a b->qg (Ij h l xs a) (Ij h l xs b)
 |[],[],_,_,e=>e
 |[],_::_,_,_,e=>e
 |_::_,[],_,_,e=>e
 |o::l,x::xs,a,b,e=>by rw[yA,yA];exact qg.add h l xs (e.set _ _)
theorem qg.apply{a b:At}(e:qg a b)(ha:(ez a).Nodup)(hb:(ez b).Nodup)(t:dS)(h:Int):qg (cm t h a) (cm t h b):=qg.add h _ _ (e.del ha hb _)
theorem qg.ins{a b:At}(e:qg a b)(h:Int)(id:List Int):∀(l:List kj) (f:Int),tT h id a l f=tT h id b l f
 |[],_=>rfl
 |x::l,f=>by
  simp only[tT,e x.1];cases cq bP x.1 b with
  |none=>rfl
  |some c=>simp only[qg.ins e h id l]
theorem qg.check{a b:At}(e:qg a b)(t:dS)(h:Int):dL t h a=dL t h b:=by
 have e2:pC a=pC b:=funext λo=>by unfold pC;rw[e o]
 unfold dL;rw[e.ins,e2]
theorem aBm(x:cC):∀(l:List cC) {a:At} (b:At),(ez a).Nodup->l.Nodup->(∀o∈l,(cq bP o a).isSome=aT)->cq bP x (UU (wF a l) b)=if x∈l then cq bP x a else cq bP x b
 |[],a,b,_,_,_=>by rw[if_neg (by simp)];rfl
 |o::l,a,b,hn,hl,ht=>by
  rw[dr]at hl;obtain⟨c,hc⟩:=bA.1 (ht o aL);have ht':∀y∈l,(cq bP y (j6 bP o a)).isSome=aT:=λy hy=>by rw[aet y o hn,if_neg (λe=>hl.1 (by rw[<-e];exact hy))];exact ht y (aK _ hy)
  rw[wF,GP,aBm x l _ (oA hn) hl.2 ht',aet x o hn,hc];by_cases h1:x∈l
  ·have h2:¬x=o:=λe=>hl.1 (by rw[<-e];exact h1)
   rw[if_pos h1,if_neg h2,if_pos (aK _ h1)]
  ·rw[if_neg h1];show cq bP x (ff bP o c b)=_;rw[aoD];by_cases h2:x=o
   ·subst h2;rw[if_pos rfl,if_pos aL,hc]
   ·rw[if_neg h2,if_neg (by simp[h1,h2])]
theorem akE{t:dS}{h jG:Int}{a:At}(hc:qT t h a jG)(ha:(ez a).Nodup):qg (Cq (cm t h a) (stepOf t a)) a:=λo=>by
 unfold Cq stepOf;rw[aBm o (dV t) _ ha (MH t) hc.there];by_cases h1:o∈dV t
 ·rw[if_pos h1]
 ·rw[if_neg h1];show cq bP o (A1 (gq t) (cm t h a))=_;rw[SS o _ (fE ha)];by_cases h2:o∈gq t
  ·rw[if_pos h2,hc.made o h2]
  ·rw[if_neg h2,wN ha h1 h2]
abbrev ahm:=List (dS×Int)
def eA:At->ahm->At
 |a,[]=>a
 |a,x::l=>eA (cm x.1 x.2 a) l
def fm:At->ahm->List cZ
 |_,[]=> []
 |a,x::l=>stepOf x.1 a::fm (cm x.1 x.2 a) l
def sy:At->ahm->Prop
 |_,[]=>True
 |a,x::l=>(dL x.1 x.2 a).2=0/\vW x.1/\sy (cm x.1 x.2 a) l
theorem Cu:∀(l l':ahm) (a:At),eA a (l++l')=eA (eA a l) l'
 |[],_,_=>rfl
 |x::l,l',a=>Cu l l' (cm x.1 x.2 a)
theorem Dw:∀(l l':ahm) (a:At),fm a (l++l')=fm a l++fm (eA a l) l'
 |[],_,_=>rfl
 |x::l,l',a=>by show stepOf x.1 a::fm (cm x.1 x.2 a) (l++l')=_;rw[Dw l l'];rfl
theorem JC:∀(l:ahm) (a:At),(fm a l).length=l.length
 |[],_=>rfl
 |x::l,a=>bE (· +1) (JC l (cm x.1 x.2 a))
theorem Iw:∀(l l':ahm) (a:At),sy a (l++l')↔sy a l/\sy (eA a l) l'
 |[],_,_=>⟨λh=>⟨trivial,h⟩,λh=>h.2⟩
 |x::l,l',a=>by have ih:=Iw l l' (cm x.1 x.2 a);exact⟨λh=>⟨⟨h.1,h.2.1,(ih.1 h.2.2).1⟩,(ih.1 h.2.2).2⟩,λh=>⟨h.1.1,h.1.2.1,ih.2 ⟨h.1.2.2,h.2⟩⟩⟩
theorem CD:∀(l:ahm) {n:Nat} {a:At} {s:List cZ},s.length=n->sq n n a s->sy a l->sq (n+l.length) (n+l.length) (eA a l) (s++fm a l)
 |[],n,a,s,_,hg,_=>by show sq n n a (s++ []);rw[bO];exact hg
 |x::l,n,a,s,hs,hg,hc=>by have h1:=hg.app (Ad hc.1) hc.2.1;rw[bC au]at h1;have:=CD l (s:=s++ [stepOf x.1 a]) (by rw[aj,hs];rfl) h1 hc.2.2;rw[aM,show n+1+l.length=n+(l.length+1) by omega]at this;exact this
theorem qg.gone:∀(l:List cC) {a b:At},qg a b->(ez a).Nodup->(ez b).Nodup->wF a l=wF b l
 |[],_,_,_,_,_=>rfl
 |o::l,a,b,e,ha,hb=>by rw[wF,wF,e o,qg.gone l (a:=j6 bP o a) (b:=j6 bP o b) (λx=>by rw[aet x o ha,aet x o hb,e x]) (oA ha) (oA hb)]
theorem qg.step{a b:At}(e:qg a b)(ha:(ez a).Nodup)(hb:(ez b).Nodup)(t:dS):stepOf t a=stepOf t b:=by unfold stepOf;rw[e.gone _ ha hb]
theorem mz:∀(l:ahm) {a:At},(ez a).Nodup->(ez (eA a l)).Nodup
 |[],_,h=>h
 |_::l,_,h=>mz l (fE h)
theorem qg.eA:∀(l:ahm) {a b:At},qg a b->(ez a).Nodup->(ez b).Nodup->qg (eA a l) (Ab.eA b l)
 |[],_,_,e,_,_=>e
 |_::l,_,_,e,ha,hb=>qg.eA l (e.apply ha hb _ _) (fE ha) (fE hb)
theorem qg.fm:∀(l:ahm) {a b:At},qg a b->(ez a).Nodup->(ez b).Nodup->fm a l=Ab.fm b l
 |[],_,_,_,_,_=>rfl
 |x::l,a,b,e,ha,hb=>by show stepOf x.1 a::Ab.fm (cm x.1 x.2 a) l=stepOf x.1 b::Ab.fm (cm x.1 x.2 b) l;rw[e.step ha hb,qg.fm l (e.apply ha hb _ _) (fE ha) (fE hb)]
theorem qg.ah0:∀(l:ahm) {a b:At},qg a b->(ez a).Nodup->(ez b).Nodup->sy a l->sy b l
 |[],_,_,_,_,_,_=>trivial
 |x::l,a,b,e,ha,hb,h=>⟨by rw[<-e.check];exact h.1,h.2.1,qg.ah0 l (e.apply ha hb _ _) (fE ha) (fE hb) h.2.2⟩
theorem aq3{s q:List cZ}{st:cZ}{n:Nat}(hn:n<=s.length)(h:s.take n=q++ [st]):n=q.length+1/\nth cD s (n - 1)=st/\s.take (n - 1)=q:=by
 have hl:n=q.length+1:=by have:=bE ag h;rw[cG,aj]at this;simp only[aH,bB]at this;omega
 subst hl;have h1:q.length < s.length:=au;have e:s.take (q.length+1)=s.take q.length++ [s[q.length]]:=by rw[List.take_add_one,bQ h1];rfl
 rw[e]at h;obtain⟨h2,h3⟩:=List.append_inj' h rfl;refine⟨rfl,?_,h2⟩;rw[qW,dj (t:=cD) h1];exact(List.cons.inj h3).1
theorem zQ:∀(k:Nat) (l:ahm) {a0 a:At} {n:Nat} {s p:List cZ},l.length=k->sy a0 l->(ez a0).Nodup->(ez a).Nodup->qg a (eA a0 l)->n<=s.length->s.take n=p++fm a0 l->
  ∃a',OK k (n,a,s)=(aT,n - k,a',s)/\qg a' a0/\(ez a').Nodup/\s.take (n - k)=p/\k<=n
 | 0,l,a0,a,n,s,p,hl,_,_,ha,he,_,hs=>by obtain rfl:=bw hl;exact⟨a,rfl,he,ha,by rw[show fm a0 []=[] from rfl,bO]at hs;exact hs,aP _⟩
 |k+1,l,a0,a,n,s,p,hl,hc,h0,ha,he,hn,hs=>by
  have gJ:l≠ []:=λe=>by rw[e]at hl;cases hl
  have el:=List.dropLast_concat_getLast gJ;generalize l.getLast gJ=x at el;generalize hl':l.dropLast=l' at el;have hk:l'.length=k:=by rw[<-hl',List.length_dropLast];omega
  subst el;obtain⟨c1,c2⟩:=(Iw l' [x] a0).1 hc;rw[Dw,<-aM]at hs;obtain⟨e1,e2,e3⟩:=aq3 hn hs;rw[Cu]at he;have hn':=mz l' h0;have e4:qg (Cq a (stepOf x.1 (eA a0 l'))) (eA a0 l'):=(he.aGz ha (fE hn') _).trans (akE (Ad c2.1) hn');obtain⟨a',f1,f2,f3,f4,f5⟩:=zQ k l' (a:=Cq a (stepOf x.1 (eA a0 l'))) (n:=n - 1) (s:=s) (p:=p) hk c1 h0 (ag2 ha _) e4 au e3;refine⟨a',?_,f2,f3,by rw[show n - (k+1)=n - 1 - k by omega];exact f4,au⟩;have aza:¬n=0:=au;rw[OK,if_neg (show ¬(n,a,s).1=0 from aza)];show OK k (n - 1,Cq a (nth cD s (n - 1)),s)=_;rw[e2,f1,show n - 1 - k=n - (k+1) by omega]
def axA(b:pX):ahm:=b.2.2.1.map λt=>(t,b.1)
theorem Wh(b:pX)(h:Int):∀(l:List dS) (k fees:Int) (a:At) (x:Int×Int×Int),fM b h l k fees a= .inl x->x.2.2≠0
 |[],_,_,_,_,e=>by rw[fM]at e;cases e
 |t::l,k,fees,a,x,e=>by
  rw[fM]at e;split at e
  ·obtain rfl:=Sum.inl.inj e;show(14:Int)≠0;decide
  ·split at e
   ·rename_i h2;obtain rfl:=Sum.inl.inj e;exact h2
   ·exact Wh b h l _ _ _ x e
theorem JR(b:pX)(h:Int):∀(l:List dS) (k fees:Int) (a:At) (f:Int),(∀t∈l,vW t)->fM b h l k fees a= .inr f->sy a (l.map λt=>(t,h))
 |[],_,_,_,_,_,_=>trivial
 |t::l,k,fees,a,f,hv,e=>by
  rw[fM]at e;split at e
  ·cases e
  ·split at e
   ·cases e
   ·rename_i h2;exact⟨Decidable.not_not.1 h2,hv t aL,JR b h l _ _ _ f (λy hy=>hv y (aK _ hy)) e⟩
theorem tR{a:At}(ha:(ez a).Nodup):qg (eH a) a/\(ez (eH a)).Nodup:=by have hp:=me a;exact⟨atD ha hp,(hp.map _).nodup_iff.2 ha⟩
theorem ajo{b:pX}{a:At}(hb:akM b)(ha:(ez a).Nodup)(e:(km b a).2=0):sy a (axA b):=by
 obtain⟨c1,c2⟩:=tR ha;unfold km at e;split at e
 ·split at e
  ·cases e
  ·have e:(lK b b.1 b.2.2.1 a).2.2=0:=e;unfold lK at e;split at e
   ·rename_i x hx;exact absurd e (Wh _ _ _ _ _ _ _ hx)
   ·rename_i f hf;exact c1.ah0 _ c2 ha (JR _ _ _ _ _ _ _ hb.1.1.2 hf)
 ·cases e
abbrev VG:Ty:=(.pair fg (.pair tH (.pair ti (.pair ti .unit))))
abbrev yJ:=(dS×(Bs×(Int×(Int×Unit))))
abbrev di:Ty:=(.gO VG)
abbrev eC:=(Option (Nat×yJ))
abbrev Mk:=List (eC×Bool)
abbrev axL:=List (Bs×eC)
def iQ(m:Mk)(x:eC):Bool:=(cq di x m).getD aR
def Rb(q:axL)(i:kj):eC:=(cq tH i.1.1 q).getD aJ
def jj(q:axL):Nat->dS->Mk->Option Mk
 | 0,_,_=>aJ
 |n+1,t,m=>match t.1 with
  |[]=>al m
  |[i]=>match Rb q i with
   |none=>al m
   |some x=>if iQ m (al x)=aT then al m else if i.1.2.1 < 0 then al m else if(x.2.1.2.1.length:Int)<=i.1.2.1 then al m else jj q n x.2.1 (ff di (al x) aT m)
  |_=>aJ
theorem afe{q:axL}:∀ {n:Nat} {t:dS} {m r:Mk},jj q n t m=al r->jj q (n+1) t m=al r
 | 0,_,_,_,h=>by cases h
 |n+1,t,m,r,h=>by
  obtain⟨ins,o⟩:=t
  match ins,h with
  |[],h=>exact h
  |[i],h=>
   have h:(match Rb q i with | none=>al m | some x=>if iQ m (al x)=aT then al m else if i.1.2.1 < 0 then al m else if(x.2.1.2.1.length:Int)<=i.1.2.1 then al m else jj q n x.2.1 (ff di (al x) aT m))=al r:=h;show(match Rb q i with | none=>al m | some x=>if iQ m (al x)=aT then al m else if i.1.2.1 < 0 then al m else if(x.2.1.2.1.length:Int)<=i.1.2.1 then al m else jj q (n+1) x.2.1 (ff di (al x) aT m))=al r;cases hu:Rb q i with
   |none=>rw[hu]at h;exact h
   |some x=>
    rw[hu]at h;simp only at h ⊢;by_cases h1:iQ m (al x)=aT
    ·rw[if_pos h1]at h ⊢;exact h
    rw[if_neg h1]at h ⊢;by_cases h2:i.1.2.1 < 0
    ·rw[if_pos h2]at h ⊢;exact h
    rw[if_neg h2]at h ⊢;by_cases h3:(x.2.1.2.1.length:Int)<=i.1.2.1
    ·rw[if_pos h3]at h ⊢;exact h
    rw[if_neg h3]at h ⊢;exact afe h
  |_::_::_,h=>cases h
theorem afd{q:axL}{t:dS}{m r:Mk}{n k:Nat}(hk:n<=k)(h:jj q n t m=al r):jj q k t m=al r:=by
 induction hk with
 |refl=>exact h
 |step _ ih=>exact afe ih
abbrev yf:=dS×(List (Bs×eC))×(List (eC×Bool))
def tf:yf->SA:=λ(t,o1,o3)=>([.d fg t,.ptr (.bG 0) 0 [] 0,.ptr (.bG 2) 0 [] 0,.ptr (.bG 4) 0 [] 0],[dH (.cP (.bG 1) 0),dH (.mp tH di o1),dH (.cP (.bG 3) 0),dH (.mp di .bool o3),dH (.fn 92 (.cons (.ptr (.bG 0) 0 [] 0) (.cons (.ptr (.bG 2) 0 [] 0) (.cons (.ptr (.bG 4) 0 [] 0) (.nil)))))])
abbrev amu:=(List (Bs×eC))×(List (eC×Bool))
abbrev RE:=(List (Bs×eC))×(List (eC×Bool))
def rU:RE->im:=λx=>⟨.nil,[dH (.cP (.bG 1) 0),dH (.mp tH di x.1),dH (.cP (.bG 3) 0),dH (.mp di .bool x.2),dH (.fn 92 (.cons (.ptr (.bG 0) 0 [] 0) (.cons (.ptr (.bG 2) 0 [] 0) (.cons (.ptr (.bG 4) 0 [] 0) (.nil)))))],[]⟩
def Ce:yf->amu->RE:=λ(t,o1,o3) y=>y
def GO:Nat->yf->Prop
 | 0=>λ_=>False
 |dep+1=>λ(t,q,m)=>dep < 9/\(jj q (dep+1) t m).isSome=aT
def Dj:yf->amu:=λ(t,q,m)=>(q,(jj q 10 t m).getD m)
theorem YP:∀d d',tf d=tf d'->d=d':=aeQ [.d fg,.d (.slice (.pair tH di)),.d (.slice (.pair di .bool))] λ_=>cT
def L9(dep:Nat):Entry:=Entry.of [al fg,aJ,aJ,aJ] tf (GO dep) (λd=>Ce d (Dj d)) rU
def Qk(dep:Nat):yf->Option RE:=λd=>(L9 dep).run (tf d).1 (tf d).2
theorem ajD{dep:Nat}{d:yf}(h:GO dep d):Qk dep d=al (Ce d (Dj d)):=Entry.ru YP h
def ams(dep:Nat):pZ:=aes 92 qD (L9 dep) (mN (P:=Tryz.prog) [])
def UI:wK:= {loops:=sk [(2,{bu:=[1,2,3,9,10,11],sites:=[6,52]})],outs:=sj [(2,{sites:=[6,52]},{sites:=[6,52]})]}
def amq(dep:Nat):= @M9 Tryz.prog (ams dep) UI 3 Tryz.f92 _ tf
theorem av7(dep t o1 o3)(k:K1 R):amq dep (t,o1,o3) k=aS (iE (0:Int) (((ag t.1):Nat):Int)) (aS (gU (0:Int) (((ag t.1):Nat):Int)) (aS (Option.isNone ((cq tH (nth gK t.1 0).1.1 o1).getD aJ)) (aS (iE (1:Int) (((ag t.1):Nat):Int)) (aS (gU (1:Int) (((ag t.1):Nat):Int)) (aJ) aJ) (k (rU (o1,o3)))) (aS ((cq di ((cq tH (nth gK t.1 0).1.1 o1).getD aJ) o3).getD aR) (aS (iE (1:Int) (((ag t.1):Nat):Int)) (aS (gU (1:Int) (((ag t.1):Nat):Int)) (aJ) aJ) (k (rU (o1,o3)))) (aS (iE (nth gK t.1 0).1.2.1 (0:Int)) (aS (iE (1:Int) (((ag t.1):Nat):Int)) (aS (gU (1:Int) (((ag t.1):Nat):Int)) (aJ) aJ) (k (rU (o1,o3)))) (aq (((cq tH (nth gK t.1 0).1.1 o1).getD aJ)) λx1=>aS (BI (nth gK t.1 0).1.2.1 (((ag x1.2.1.2.1):Nat):Int)) (aS (iE (1:Int) (((ag t.1):Nat):Int)) (aS (gU (1:Int) (((ag t.1):Nat):Int)) (aJ) aJ) (k (rU (o1,o3)))) (aq (((cq tH (nth gK t.1 0).1.1 o1).getD aJ)) λx2=>aq (Qk dep (x2.2.1,o1,(ff di ((cq tH (nth gK t.1 0).1.1 o1).getD aJ) aT o3))) λx3=>aS (iE (1:Int) (((ag t.1):Nat):Int)) (aS (gU (1:Int) (((ag t.1):Nat):Int)) (aJ) aJ) (k (rU (x3.1,x3.2)))))))) aJ) (k (rU (o1,o3))):=cT
theorem av8:∀(dep:Nat) (d:yf),GO (dep+1) d->amq dep d al=al (rU (Ce d (Dj d))):=by
 rintro dep ⟨⟨ins,o⟩,q,m⟩ ⟨hd,hs⟩;have hd:dep < 9:=hd;obtain⟨r,hr⟩:∃r,jj q (dep+1) (ins,o) m=al r:=bA.1 hs;have hF:Dj ((ins,o),q,m)=(q,r):=by simp only[Dj];rw[afd au hr];rfl
 rw[av7,hF]
 match ins,hr with
 |[],hr=>
  have hr:al m=al r:=hr;obtain rfl:=aO hr;rfl
 |[i],hr=>
  have a0:iE (0:Int) (((ag [i]):Nat):Int)=aT:=rfl;have a1:gU (0:Int) (((ag [i]):Nat):Int)=aT:=rfl;have a2:iE (1:Int) (((ag [i]):Nat):Int)=aR:=rfl;have a3:nth gK [i] 0=i:=rfl;have a4:(cq tH i.1.1 q).getD aJ=Rb q i:=rfl;simp only[a0,a1,a2,a3,a4,ak,ao];have hr:(match Rb q i with | none=>al m | some x=>if iQ m (al x)=aT then al m else if i.1.2.1 < 0 then al m else if(x.2.1.2.1.length:Int)<=i.1.2.1 then al m else jj q dep x.2.1 (ff di (al x) aT m))=al r:=hr;cases hu:Rb q i with
  |none=>
   rw[hu]at hr;obtain rfl:=aO hr;rfl
  |some x=>
   rw[hu]at hr;simp only at hr;have a5:(cq di (al x) m).getD aR=iQ m (al x):=rfl;simp only[Option.isNone_some,ao,a5,ae];cases h1:iQ m (al x) with
   |true=>
    rw[if_pos h1]at hr;obtain rfl:=aO hr;rfl
   |false=>
    rw[if_neg (by rw[h1];decide)]at hr;rw[ao];by_cases h2:i.1.2.1 < 0
    ·rw[if_pos h2]at hr;obtain rfl:=aO hr;rw[bm h2];rfl
    ·rw[if_neg h2]at hr;rw[bn h2,ao];by_cases h3:(x.2.1.2.1.length:Int)<=i.1.2.1
     ·rw[if_pos h3]at hr;obtain rfl:=aO hr;rw[ig h3];rfl
     ·rw[if_neg h3]at hr;rw[fa h3,ao];cases dep with
      |zero=>cases hr
      |succ dep=>
       rw[ajD (dep:=dep+1) (d:=(x.2.1,q,ff di (al x) aT m)) ⟨au,by rw[hr];rfl⟩];simp only[ae,Ce,Dj];rw[afd au hr];rfl
 |_::_::_,hr=>cases hr
def amr:Entry:=L9 3
def UJ:yf->Option RE:=O3 amr tf
theorem ap9{d:yf}(h:GO 3 d):UJ d=al (Ce d (Dj d)):=show(L9 3).run (tf d).1 (tf d).2=_ from Entry.ru YP h
theorem Ql:∀dep,qU Tryz.prog 92 (L9 dep)
 | 0=>qU.of (an:=UI) (N:=0) (fn:=Tryz.f92) cT (show Sound _ ay0 from Sound.nil _) cT cT cT (mw.fn 1 cT (And.intro (.none cT) trivial)) (λ_ h=>False.elim h)
 |dep+1=>qU.of (an:=UI) (N:=3) (fn:=Tryz.f92) cT (show Sound _ (ams dep) from Sound.cons (BK.of (Ql dep) (by rfl)) (Sound.mN (P:=Tryz.prog) [])) cT cT cT (mw.fn 1 cT (And.intro (.none cT) trivial)) (av8 dep)
def av9:SG Tryz.prog:=⟨92,qD,amr,.of (Ql 3) (by rfl)⟩
abbrev Fe:=dS×(List eC)×Int×Int×(List (Bs×eC))
abbrev P1:=(List (Bs×eC))
def uM:Fe->P1->((dS)×((List (Bs×eC)))):=λ(nO,t11,t12,t13,n10) y=>(nO,y)
abbrev afA:=(List eC)×dS
def am3(row:List eC):Prop:=∀x∈row,x.isSome=aT
def arP(m:axL)(x:eC):axL:=match x with | none=>m | some w=>ff tH w.2.2.1 (al w) m
def yi(row:List eC):axL:=row.foldl arP []
def lU(row:List eC)(t:dS):Mk:=(jj (yi row) 10 t []).getD []
def aB3(row:List eC)(t:dS):Prop:=am3 row/\row.length<=1000/\(jj (yi row) 3 t []).isSome=aT
def ajl:afA->Prop:=λ(row,t)=>aB3 row t
def Fc:afA->((List (eC×Bool))):=λ(row,t)=>lU row t
def WN:Fe->Prop:=λ(t,l,n,i,m)=>(l).length<=1000000000/\∃k:Nat,k<=(l).length/\i=k/\n=(l).length/\(∀x∈l,x.isSome=aT)
def Az:Fe->P1:=λ(t,l,n,i,m)=>(bT (ab i) l).foldl arP m
def pJ:Ls WN uM Az:=xM (λ(nO,t11,t12,t13,n10)=>⟨([cw,cw,cw,.eN fg nO,cw,fI 5]++bg 5 ([.d (.slice di) t11,.d ti t12,.d ti t13]++bg 16 [])),[],(bK 5 ([dK (.cP (.new 10 0) 0)]++bK 4 ([dK (.mp tH di n10)]++bK 19 [])))⟩) (λx=>(.exit 0,⟨([cw,cw,cw,.eN fg x.1,cw,fI 5]++bg 24 []),[],(bK 5 ([dK (.cP (.new 10 0) 0)]++bK 4 ([dK (.mp tH di x.2)]++bK 19 [])))⟩))
def s9:Fs Tryz.prog ajl bF Fc:=gg 48 Tryz.f48 (λ(row,t)=>([.d (.slice di) row,.d fg t],[])) (λx=>⟨.cP (.new 0 0) 0,[],[.obj 0 aR (.mp di .bool x)]⟩) [al (.slice di),al fg] [av9] {loops:=sk [(3,{bu:=[3,5,11,12,13],sites:=[5,10]})],outs:=sj [(3,{bu:=[3,5],sites:=[5,10]},{bu:=[4]})],gV:=tK [(3,pJ.E)]}
theorem WO:pJ.RS:=rL [.d fg,.d (.slice di),.d ti,.d ti,.d (.slice (.pair tH di))] pJ
theorem Ff(nO t11 t12 t13 n10)(kn:K2 R)(kx:K3 R):s9.R 0 pJ (nO,t11,t12,t13,n10) kn kx=aS (iE t13 t12) (aS (gU t13 (t11.length:Int)) (aq ((nth di t11 (ab t13))) λx1=>kn (pJ.st (nO,t11,t12,(bV .i64 t13 1),(ff tH x1.2.2.1 (nth di t11 (ab t13)) n10)))) aJ) (pJ.go kx (nO,n10)):=cT
theorem apK(row t)(k:K1 R):s9.A (row,t) k=aq (pJ.call (t,row,(row.length:Int),0,([]:List (Bs×eC)))) λx2=>aq (UJ (x2.1,x2.2,([]:List (eC×Bool)))) λx3=>k (s9.out x3.2):=cT
theorem abj:(s9.mw 0 pJ):=by
 refine(s9.qz 0 pJ) (λ(t,l,n,i,m)=>(l).length - ab i) ?_
 rintro⟨t,l,n,i,m⟩ ⟨hlen,k,hk,rfl,rfl,hs⟩;have hlen:(l).length<=1000000000:=hlen;have hk:k<=(l).length:=hk;have hs:∀x∈l,x.isSome=aT:=hs;by_cases h:k < (l).length
 ·left;have n1:nth di l k=l[k]:=dj (t:=di) h;have hd:bT k l=l[k]::bT (k+1) l:=aC h;refine⟨(t,l,((l).length:Int),((k+1:Nat):Int),(arP m l[k])),⟨hlen,k+1,au,rfl,rfl,hs⟩,by simp only[aa];omega,?_,λkn kx=> ?_⟩
  ·simp only[uM,Az,aa,hd,aY]
  ·rw[Ff,bm au,bz au au,aa,n1];simp only[ak];obtain⟨w,hw⟩:=bA.1 (hs _ (aX h));simp only[hw,ae,arP];rw[N.pn au]
 ·right;obtain rfl:k=(l).length:=au;intro R kn kx;rw[Ff,bn au,ao];simp only[uM,Az,aa,aU,dd]
theorem apL:s9.Ok:=by rintro⟨row,t⟩ ⟨hs,hl,hm⟩;have hl:row.length<=1000:=hl;rw[apK,WO (d:=(t,row,(row.length:Int),0,[])) ⟨by show row.length<=_;omega,0,aP _,rfl,rfl,hs⟩];simp only[ae,uM,Az,bt,aQ];rw[show List.foldl arP [] row=yi row from rfl,ap9 (d:=(t,yi row,[])) ⟨fb,hm⟩];rfl
theorem De:s9.RS:=rE [.d (.slice di),.d fg] s9
def B9:=s9.gm apL 1 ⟨.gQ abj,trivial⟩
abbrev xT:=(List eC)×dS
def td:xT->SA:=λ(row,t)=>([.d (.slice di) row,.d fg t],[])
def Cb:Int->im:=λx=>⟨.d ti x,[],[]⟩
def yG:xT->Int->Int:=λ(row,t) y=>y
def sP(row:List eC):Nat->dS->Option Int
 | 0,_=>aJ
 |n+1,t=>if(jj (yi row) 3 t []).isSome=aT then(match lU row t with
  |[]=>al 1
  |[p]=>match p.1 with
   |none=>aJ
   |some x=>match sP row n x.2.1 with
    |none=>aJ
    |some d=>al (bV .i64 (imax 0 d) 1)
  |_=>aJ) else aJ
theorem ad8{row:List eC}:∀ {n:Nat} {t:dS} {d:Int},sP row n t=al d->sP row (n+1) t=al d
 | 0,_,_,h=>by cases h
 |n+1,t,d,h=>by
  unfold sP at h ⊢;by_cases hm:(jj (yi row) 3 t []).isSome=aT
  case neg=>rw[if_neg hm]at h;cases h
  rw[if_pos hm]at h ⊢
  match lU row t,h with
  |[],h=>exact h
  |[(aJ,b)],h=>cases h
  |[(al x,b)],h=>
   simp only at h ⊢;cases hd:sP row n x.2.1 with
   |none=>rw[hd]at h;cases h
   |some e=>rw[hd]at h;rw[ad8 hd];exact h
  |_::_::_,h=>cases h
theorem SD{row:List eC}{t:dS}{d:Int}{n k:Nat}(hk:n<=k)(h:sP row n t=al d):sP row k t=al d:=by
 induction hk with
 |refl=>exact h
 |step _ ih=>exact ad8 ih
def GM:Nat->xT->Prop
 | 0=>λ_=>False
 |dep+1=>λ(row,t)=>(am3 row/\row.length<=1000/\dep < 9)/\(sP row (dep+1) t).isSome=aT
def AA:xT->Int:=λ(row,t)=>(sP row 10 t).getD 0
theorem YL:∀d d',td d=td d'->d=d':=aeQ [.d (.slice di),.d fg] λ_=>cT
def LP(dep:Nat):Entry:=Entry.of [al (.slice di),al fg] td (GM dep) (λd=>yG d (AA d)) Cb
def AB(dep:Nat):xT->Option Int:=λd=>(LP dep).run (td d).1 (td d).2
theorem ajs{dep:Nat}{d:xT}(h:GM dep d):AB dep d=al (yG d (AA d)):=Entry.ru YL h
def amh(dep:Nat):pZ:=aes 49 qD (LP dep) (mN (P:=Tryz.prog) [B9])
def Uo:wK:= {loops:=sk [(3,{bu:=[0,5,10],sites:=[9,10,21]})],outs:=sj [(3,{bu:=[5],sites:=[9,10,21]},{bu:=[4],sites:=[9,10,21]})]}
def amf(dep:Nat):= @M9 Tryz.prog (amh dep) Uo 3 Tryz.f49 _ td
theorem avN(dep row t)(k:K1 R):amf dep (row,t) k=aq (s9.call (row,t)) λx1=>aS (decide (0 < (ag x1))) (acF (ag x1) λj2=>aq ((pH di .bool x1 j2).1) λx3=>aq (AB dep (row,x3.2.1)) λx4=>aS (decide (0 < (ag (List.eraseIdx x1 j2)))) (acF (ag (List.eraseIdx x1 j2)) λj5=>aq ((pH di .bool (List.eraseIdx x1 j2) j5).1) λx6=>aq (AB dep (row,x6.2.1)) λx7=>aS (decide (0 < (ag (List.eraseIdx (List.eraseIdx x1 j2) j5)))) (acF (ag (List.eraseIdx (List.eraseIdx x1 j2) j5)) λj8=>aq ((pH di .bool (List.eraseIdx (List.eraseIdx x1 j2) j5) j8).1) λx9=>aq (AB dep (row,x9.2.1)) λart=>aJ) (k (Cb (bV .i64 (imax (imax (0:Int) x4) x7) (1:Int))))) (k (Cb (bV .i64 (imax (0:Int) x4) (1:Int))))) (k (Cb (1:Int))):=cT
theorem avO:∀(dep:Nat) (d:xT),GM (dep+1) d->amf dep d al=al (Cb (yG d (AA d))):=by
 rintro dep ⟨row,t⟩ ⟨⟨h1,h2,hd⟩,hs⟩;have hd:dep < 9:=hd;obtain⟨r,hr⟩:∃r,sP row (dep+1) t=al r:=bA.1 hs;have hF:AA (row,t)=r:=by simp only[AA];rw[SD au hr];rfl
 unfold sP at hr;by_cases hm:(jj (yi row) 3 t []).isSome=aT
 case neg=>rw[if_neg hm]at hr;cases hr
 rw[if_pos hm]at hr;rw[avN,hF,De (d:=(row,t)) ⟨h1,h2,hm⟩];simp only[ae,bF,Fc]
 match lU row t,hr with
 |[],hr=>
  obtain rfl:=aO hr;rfl
 |[(aJ,b)],hr=>cases hr
 |[(al x,b)],hr=>
  simp only at hr;cases axR:sP row dep x.2.1 with
  |none=>rw[axR]at hr;cases hr
  |some e=>
   rw[axR]at hr;obtain rfl:=aO hr;cases dep with
   |zero=>cases axR
   |succ dep=>
    have hc:=ajs (dep:=dep+1) (d:=(row,x.2.1)) ⟨⟨h1,h2,au⟩,by rw[axR];rfl⟩;simp only[yG,AA,SD (show dep+1<=10 by omega) axR,dB]at hc;rw[bf (show 0 < [((al x:eC),b)].length from Nat.one_pos),ak];refine aic Nat.one_pos λj hj=> ?_
    obtain rfl:j=0:=by have hj:j < 1:=hj;omega
    show aq (al x) _=_;rw[ae,hc,ae];rfl
 |_::_::_,hr=>cases hr
def amg:Entry:=LP 3
def Up:xT->Option Int:=O3 amg td
theorem apV{d:xT}(h:GM 3 d):Up d=al (yG d (AA d)):=show(LP 3).run (td d).1 (td d).2=_ from Entry.ru YL h
theorem P4:∀dep,qU Tryz.prog 49 (LP dep)
 | 0=>qU.of (an:=Uo) (N:=0) (fn:=Tryz.f49) cT (show Sound _ ay0 from Sound.nil _) cT cT cT (mw.fn 1 cT (And.intro (.none cT) trivial)) (λ_ h=>False.elim h)
 |dep+1=>qU.of (an:=Uo) (N:=3) (fn:=Tryz.f49) cT (show Sound _ (amh dep) from Sound.cons (BK.of (P4 dep) (by rfl)) (Sound.mN (P:=Tryz.prog) [B9])) cT cT cT (mw.fn 1 cT (And.intro (.none cT) trivial)) (avO dep)
def avP:SG Tryz.prog:=⟨49,qD,amg,.of (P4 3) (by rfl)⟩
def aqR(l:List cC)(x:kj):Bool:=l.any (aao x.1)
def jl(t:dS)(l:List cC):Bool:=t.1.any (aqR l)
abbrev amz:=kj×(List cC)
def aqi:amz->Prop:=λ(_,l)=>l.length<=1000000
def aAp:amz->Bool:=λ(x,l)=>aqR l x
def UT:Fs Tryz.prog aqi bF aAp:=gg 91 Tryz.f91 (λ(i,t1)=>([.d gK i,.eN (.slice bP) t1],[])) (λx=>⟨.d .bool x,[],[]⟩) [al gK,aJ] [afv]
theorem awm(i t1)(k:K1 R):UT.A (i,t1) k=aq (PZ.call (t1,i.1)) λx1=>k (UT.out x1):=cT
theorem awn:UT.Ok:=by rintro⟨x,l⟩ hl;have hl:l.length<=1000000:=hl;rw[awm,YG (d:=(l,x.1)) (by show l.length<=_;omega)];rfl
theorem aqj:UT.RS:=rE [.d gK,.d (.slice bP)] UT
def awo:=UT.gm awn
abbrev vJ:=(List kj)×(List cC)×Int×Int
def mQ:vJ->AS:=λ(jt,f,t7,t8)=>⟨([.d (.slice gK) jt,.fn 91 (.cons (.eN (.slice bP) f) (.nil))]++bg 5 ([.d ti t7,.d ti t8]++bg 10 [])),[],(ai 19 [])⟩
def nA:Int->Exit×AS:=λx=>(.ret,⟨(bg 4 ([.d ti x]++bg 14 [])),[],(ai 19 [])⟩)
def uR:Unit->Exit×AS:=λx=>(.exit 0,⟨(bg 19 []),[],(ai 19 [])⟩)
abbrev Fm:=(Int)⊕(Unit)
abbrev Qd:=(Int)⊕(Unit)
def Bj:Fm->Out (Exit×AS):=λx=> .br x.isLeft (.get x.getLeft? λa=> .ok (nA a)) (.get x.getRight? λb=> .ok (uR b))
def jK:vJ->Qd->Fm:=λ(jt,f,t7,t8) y=>match y with | .inl y=> .inl y | .inr z=> .inr (z)
abbrev afM:=(List kj)×(List cC)
def uQ:vJ->Prop:=λ(l,v,n,i)=>l.length<=1000000000/\(v.length<=1000000)/\n=l.length/\∃k:Nat,k<=l.length/\i=k
def ml:vJ->Qd:=λ(l,v,n,i)=>A6 (aqR v) (l.drop i.toNat) i
def ajB:afM->Prop:=λ(l,v)=>l.length<=1000000000/\(v.length<=1000000)
def Ux:afM->Int:=λ(l,v)=>Wx (aqR v) l
def Qc:=ee.gQ mQ uQ jK ml Bj
def Fo:vJ->Option Fm:=ji Qc mQ
def we:Fs Tryz.prog ajB bF Ux:=gg 110 Tryz.f110 (λ(sv,fc)=>([.d (.slice gK) sv,.fn 91 (.cons (.eN (.slice bP) fc) (.nil))],[])) (λx=>⟨.d ti x,[],[]⟩) [al (.slice gK),aJ] [awo] {loops:=sk [(2,{bu:=[0,1,7,8]})],outs:=sj [(2,{},{bu:=[4]})],gV:=tK [(2,Qc)]}
def Fl:= @fK Tryz.prog (mN we.G) we.an 0 Tryz.f110 0 _ mQ
abbrev LW:=nE Tryz.prog (mN we.G) we.an 0 Tryz.f110 0 mQ uQ jK ml Bj
theorem WV:lN Fo uQ jK ml:=qe (oE [.d (.slice gK),.d (.slice bP),.d ti,.d ti] λ_=>cT)
theorem Jo:sx @Fl mQ uQ jK ml Bj LW:=tI
theorem Fp(jt f t7 t8)(kn:K2 R)(kx:K3 R):Fl (jt,f,t7,t8) kn kx=aS (iE t8 t7) (aS (gU t8 (((ag jt):Nat):Int)) (aq (UT.call ((nth gK jt (ab t8)),f)) λx1=>aS (x1) (kx (nA t8).1 (nA t8).2) (kn (mQ (jt,f,t7,(bV .i64 t8 (1:Int)))))) aJ) (kx (uR ()).1 (uR ()).2):=cT
theorem ap4(sv fc)(k:K1 R):we.A (sv,fc) k=aq (Fo (sv,fc,(sv.length:Int),0)) λx2=>aS x2.isLeft (aq x2.getLeft? λa3=>k (we.out a3)) (aq x2.getRight? λb4=>k (we.out (-1))):=cT
theorem abv:LW:=by
 refine Jo (λ(l,v,n,i)=>l.length - i.toNat) ?_
 rintro⟨l,v,n,i⟩ ⟨hb,hv,rfl,k,hk,rfl⟩;have hb:l.length<=1000000000:=hb;have hk:k<=l.length:=hk;by_cases h:k < l.length
 ·have n1:nth gK l k=l[k]:=dj (t:=gK) h;have hd:A6 (aqR v) (l.drop k) k=if aqR v l[k] then .inl (k:Int) else A6 (aqR v) (l.drop (k+1)) ((k+1:Nat):Int):=by rw[aC h];rfl
  have step:∀ {R:Type} (kn:AS->Option R) (kx:Exit->AS->Option R),Fl (l,v,(l.length:Int),(k:Int)) kn kx=aS (aqR v l[k]) (kx (nA (k:Int)).1 (nA (k:Int)).2) (kn (mQ (l,v,(l.length:Int),((k+1:Nat):Int)))):=by intro R kn kx;rw[Fp,bm au,bz au au,aa,n1,aqj (d:=(l[k],v)) hv,N.pn au];rfl
  cases hp:aqR v l[k]
  ·left;refine⟨(l,v,l.length,((k+1:Nat):Int)),⟨hb,hv,rfl,k+1,au,rfl⟩,by simp only[aa];omega,?_,λkn kx=> ?_⟩
   ·simp only[jK,ml,aa,hd,hp,bW,cK]
   ·rw[step,hp,ao]
  ·right;refine⟨nA (k:Int),?_,λkn kx=> ?_⟩
   ·simp only[jK,ml,aa,hd,hp,da];rfl
   ·rw[step,hp,ak]
 ·right;obtain rfl:k=l.length:=au;refine⟨uR (),?_,λkn kx=> ?_⟩
  ·simp only[jK,ml,aa,aU];rfl
  ·rw[Fp,bn au,ao]
theorem ap5:we.Ok:=by rintro⟨l,v⟩ ⟨hb,hv⟩;rw[ap4,WV (d:=(l,v,l.length,0)) ⟨hb,hv,rfl,0,au,rfl⟩];simp only[ae,jK,ml,bt,aQ,bF,Ux,Wx];cases A6 (aqR v) l 0 <;> rfl
theorem ajC:we.RS:=rE [.d (.slice gK),.d (.slice bP)] we
def ap6:=we.gm ap5 1 ⟨.gQ abv,trivial⟩
abbrev afL:=(List kj)×(List cC)
def ajx:afL->Prop:=λ(l,v)=>l.length<=1000000000/\v.length<=1000000
def avZ:afL->Bool:=λ(l,v)=>l.any (aqR v)
def Jm:Fs Tryz.prog ajx bF avZ:=gg 70 Tryz.f70 (λ(sv,fc)=>([.d (.slice gK) sv,.fn 91 (.cons (.eN (.slice bP) fc) (.nil))],[])) (λx=>⟨.d .bool x,[],[]⟩) [al (.slice gK),aJ] [ap6]
theorem apY(sv fc)(k:K1 R):Jm.A (sv,fc) k=aq (we.call (sv,fc)) λx1=>k (Jm.out (BI x1 0)):=cT
theorem apZ:Jm.Ok:=by rintro⟨l,v⟩ ⟨hb,hv⟩;rw[apY,ajC (d:=(l,v)) ⟨hb,hv⟩];simp only[ae,bF,Ux,Lb];rfl
theorem ajy:Jm.RS:=rE [.d (.slice gK),.d (.slice bP)] Jm
def ap0:=Jm.gm apZ
abbrev YS:=dS×(List cC)
def afZ:YS->Prop:=λ(t,l)=>t.1.length<=1000000000/\l.length<=1000000
def YT:YS->Bool:=λ(t,l)=>jl t l
def uU:Fs Tryz.prog afZ bF YT:=gg 46 Tryz.f46 (λ(t,l)=>([.d fg t,.d (.slice bP) l],[])) (λx=>⟨.d .bool x,[],[]⟩) [al fg,al (.slice bP)] [ap0]
theorem ajM(t l)(k:K1 R):uU.A (t,l) k=aq (Jm.call (t.1,l)) λx1=>k (uU.out x1):=cT
theorem ajN:uU.Ok:=by rintro⟨t,l⟩ ⟨hb,hv⟩;rw[ajM,ajy (d:=(t.1,l)) ⟨hb,hv⟩];rfl
theorem Qm:uU.RS:=rE [.d fg,.d (.slice bP)] uU
def US:=uU.gm ajN
def axD:Int->Prop:=λ_=>True
def acu:Int->Bool:=λ_=>aR
def ag0:Fs Tryz.prog axD bF acu:=gg 137 Tryz.f137 (λx=>([.d tu x],[])) (λx=>⟨.d .bool x,[],[]⟩) [al tu]
theorem aAX(x)(k:K1 R):ag0.A x k=k (ag0.out (G5 x x)):=cT
theorem aAY:ag0.Ok:=by intro x _;rw[aAX];simp only[bF,acu,eJ rfl]
theorem ag1:ag0.RS:=rE [.d tu] ag0
def aAZ:=ag0.gm aAY
def axC:(Int×Int)->Prop:=λ_=>True
def acs:(Int×Int)->Int:=λ(x,y)=>Nt x y
def OJ:Fs Tryz.prog axC bF acs:=gg 94 Tryz.f94 (λ(x,yv)=>([.d tu x,.d tu yv],[])) (λx=>⟨.d ti x,[],[]⟩) [al tu,al tu] [aAZ]
theorem aAU(x yv)(k:K1 R):OJ.A (x,yv) k=aq (ag0.call x) λx1=>aq (ag0.call yv) λx2=>aS (x1) (aS (x2) (k (OJ.out 0)) (k (OJ.out (-1)))) (aS (x2) (k (OJ.out 1)) (aS (iE x yv) (k (OJ.out (-1))) (aS (Ap x yv) (k (OJ.out 1)) (k (OJ.out 0))))):=cT
theorem aAV:OJ.Ok:=by
 rintro⟨x,y⟩ _;rw[aAU,ag1 (d:=x) trivial];simp only[ae,bF,acu];rw[ag1 (d:=y) trivial];simp only[ae,bF,acu,ao,bF,acs,Nt];by_cases h:x < y
 ·rw[bm h,ak,if_pos h]
 ·rw[bn h,ao,if_neg h];by_cases h2:x > y
  ·rw[dX h2,ak,if_pos h2]
  ·rw[dx h2,ao,if_neg h2]
theorem agZ:OJ.RS:=rE [.d tu,.d tu] OJ
def aAW:=OJ.gm aAV
theorem acr(x:Int):0<=eD .u64 x/\eD .u64 x < 18446744073709551616:=by rw[alI,l5];omega
def ayC(a b c d:Int):Int:=aDG [Nt (eD .u64 a*eD .u64 b / 18446744073709551616) (eD .u64 c*eD .u64 d / 18446744073709551616),Nt (eD .u64 a*eD .u64 b%18446744073709551616) (eD .u64 c*eD .u64 d%18446744073709551616)]
abbrev avG:=Int×Int×Int×Int
def avI:avG->Prop:=λ_=>True
def avH:avG->Int:=λ(a,b,c,d)=>ayC a b c d
def afG:Fs Tryz.prog avI bF avH:=gg 51 Tryz.f51 (λ(a,b,c,d)=>([.d ti a,.d ti b,.d ti c,.d ti d],[])) (λx=>⟨.d ti x,[],[]⟩) [al ti,al ti,al ti,al ti] [TP,aAW,asX]
theorem az9(a b c d)(k:K1 R):afG.A (a,b,c,d) k=aq (E7.call ((eD .u64 a),(eD .u64 b))) λx1=>aq (E7.call ((eD .u64 c),(eD .u64 d))) λx2=>aq (OJ.call (x1.1,x2.1)) λx3=>aq (OJ.call (x1.2,x2.2)) λx4=>aq (an2.call [x3,x4]) λx5=>k (afG.out x5):=cT
theorem aAa:afG.Ok:=by rintro⟨a,b,c,d⟩ _;rw[az9,GL (d:=(eD .u64 a,eD .u64 b)) ⟨acr a,acr b⟩,GL (d:=(eD .u64 c,eD .u64 d)) ⟨acr c,acr d⟩];simp only[ae,bF,Ly];rw[agZ (d:=(eD .u64 a*eD .u64 b / 18446744073709551616,eD .u64 c*eD .u64 d / 18446744073709551616)) trivial];simp only[ae,bF,acs];rw[agZ (d:=(eD .u64 a*eD .u64 b%18446744073709551616,eD .u64 c*eD .u64 d%18446744073709551616)) trivial];simp only[ae,bF,acs];rw[alg (d:=[Nt (eD .u64 a*eD .u64 b / 18446744073709551616) (eD .u64 c*eD .u64 d / 18446744073709551616),Nt (eD .u64 a*eD .u64 b%18446744073709551616) (eD .u64 c*eD .u64 d%18446744073709551616)]) (by show 2<=_;decide)];rfl
theorem avJ:afG.RS:=rE [.d ti,.d ti,.d ti,.d ti] afG
def amd:=afG.gm aAa
abbrev axZ:=eC×((List eC)×(Int×(Int×Unit)))
def aIF(x:eC):Bs:=match x with | none=> [] | some w=>w.2.2.1
def X2(b o:axZ):Bool:=if ayC b.2.2.1 o.2.2.2.1 o.2.2.1 b.2.2.2.1 > 0 then aT else if ayC b.2.2.1 o.2.2.2.1 o.2.2.1 b.2.2.2.1=0 then decide (Sb (aIF b.1) (aIF o.1) < 0) else aR
abbrev ame:=(eC×((List eC)×(Int×(Int×Unit))))×(eC×((List eC)×(Int×(Int×Unit))))
def apT:ame->Prop:=λ(b,o)=>(∃w,b.1=al w/\w.2.2.1.length=32)/\(∃w,o.1=al w/\w.2.2.1.length=32)
def abp:ame->Bool:=λ(b,o)=>X2 b o
def LO:Fs Tryz.prog apT bF abp:=gg 95 Tryz.f95 (λ(b,o)=>([.d (.pair di (.pair (.slice di) (.pair ti (.pair ti .unit)))) b,.d (.pair di (.pair (.slice di) (.pair ti (.pair ti .unit)))) o],[])) (λx=>⟨.d .bool x,[],[]⟩) [al (.pair di (.pair (.slice di) (.pair ti (.pair ti .unit)))),al (.pair di (.pair (.slice di) (.pair ti (.pair ti .unit))))] [amd,ak0]
theorem avK(b o)(k:K1 R):LO.A (b,o) k=aq (afG.call (b.2.2.1,o.2.2.2.1,o.2.2.1,b.2.2.2.1)) λx1=>aS (Ap x1 0) (k (LO.out aT)) (aS (HA x1 0) (aq (b.1) λx2=>aq (o.1) λx3=>aq (ac2.call ((cut x2.2.2.1 0 32),(cut x3.2.2.1 0 32))) λx4=>k (LO.out (iE x4 0))) (k (LO.out aR))):=cT
theorem avL:LO.Ok:=by
 rintro⟨⟨b0,b⟩,⟨o0,o⟩⟩ ⟨⟨w,hw,lw⟩,⟨v,hv,lv⟩⟩;have hw:b0=al w:=hw;have hv:o0=al v:=hv;subst hw;subst hv;rw[avK,avJ (d:=(b.2.1,o.2.2.1,o.2.1,b.2.2.1)) trivial];simp only[ae,bF,avH,bF,abp,X2,aIF];generalize ayC b.2.1 o.2.2.1 o.2.1 b.2.2.1=n;by_cases h1:n > 0
 ·rw[dX h1,ak,if_pos h1]
 ·rw[dx h1,ao,if_neg h1];by_cases h2:n=0
  ·rw[qo h2,ak,if_pos h2,fp lw,fp lv,ac3 (d:=(w.2.2.1,v.2.2.1)) trivial];simp only[ae,bF,ahu,iE];rfl
  ·rw[nu h2,ao,if_neg h2]
theorem apU:LO.RS:=rE [.d (.pair di (.pair (.slice di) (.pair ti (.pair ti .unit)))),.d (.pair di (.pair (.slice di) (.pair ti (.pair ti .unit))))] LO
def avM:=LO.gm avL
def ap7:dS->Prop:=λt=>vW t/\iM t=aT
def RD:dS->dS:=λt=>t
def Qe:Fs Tryz.prog ap7 bF RD:=gg 43 Tryz.f43 (λt=>([.d fg t],[])) (λx=>⟨.d fg x,[],[]⟩) [al fg] [aq6,axn]
theorem av0(t)(k:K1 R):Qe.A t k=aq (tt.call t) λx1=>aq (lJ.call x1) λx2=>k (Qe.out x2.1):=cT
theorem av1:Qe.Ok:=by rintro t ⟨hv,jd⟩;have bl:=aro hv;rw[av0,aks (d:=t) hv];simp only[ae,bF,VJ];rw[ard (d:=aAT t) ⟨bl.1,by have:=bl.2;omega⟩];simp only[ae,bF,acb,bF,RD];rw[ajU hv jd]
theorem YN:Qe.RS:=rE [.d fg] Qe
def afN:=Qe.gm av1
abbrev ajE:=Int×Nat×(List (cC×eU))×(List cZ)
def UK:ajE->Bool->((Nat×(List (cC×eU))×(List cZ))×(Bool)):=λ(height,o0baL,o1,o2) y=>((o0baL,o1,o2),y)
def awa:ajE->Prop:=λ_=>True
def ajF:ajE->Bool:=λ(h,_)=>decide (1<=h/\h<=1048576)
def afR:Fs Tryz.prog awa UK ajF:=gg 37 Tryz.f37 (λ(height,o0baL,o1,o2)=>([.ptr (.bG 0) 0 [] 0,.d ti height],[.obj 0 aR (.pr (.cP (.bG 1) 0) (.pr (.b8 (.bG 2) 0 [] 0 0 o0baL) (.d .unit ()))),.obj 0 aR (.mp bP eR o1),.obj 0 aR (.vec 139 cD o2)])) (λx=>⟨.d .bool x.2,[.obj 0 aR (.pr (.cP (.bG 1) 0) (.pr (.b8 (.bG 2) 0 [] 0 0 x.1.1) (.d .unit ()))),.obj 0 aR (.mp bP eR x.1.2.1),.obj 0 aR (.vec 139 cD x.1.2.2)],[]⟩) [aJ,al ti]
theorem aAe(height o0baL o1 o2)(k:K1 R):afR.A (height,o0baL,o1,o2) k=aS (BI height 1) (k (afR.out ((o0baL,o1,o2),(ahg height 1048576)))) (k (afR.out ((o0baL,o1,o2),aR))):=cT
theorem aAf:afR.Ok:=by
 rintro⟨h,n,a,s⟩ _;rw[aAe];simp only[UK,ajF];by_cases h1:1<=h
 ·rw[ig h1,ak];by_cases h2:h<=1048576
  ·rw[vA h2,bf ⟨h1,h2⟩]
  ·rw[pA h2,bI λe=>h2 e.2]
 ·rw[fa h1,ao,bI λe=>h1 e.1]
theorem awb:afR.RS:=rE [.d ti,.n,.d (.slice (.pair bP eR)),.d (.slice cD)] afR
def aAg:=afR.gm aAf
abbrev UL:=Int×Nat×(List (cC×eU))×(List cZ)
def abB:UL->SA:=λ(height,o0baL,o1,o2)=>([.ptr (.bG 0) 0 [] 0,.d ti height],[dH (.pr (.cP (.bG 1) 0) (.pr (.b8 (.bG 2) 0 [] 0 0 o0baL) kO)),dH (.mp bP eR o1),dH (.vec 139 cD o2)])
abbrev awh:=(Nat×(List (cC×eU))×(List cZ))⊕(Nat×(List (cC×eU))×(List cZ)×(Int×((List eC)×Unit))×Nat×(List (cC×eU))×(List cZ))
abbrev ajH:=(Nat×(List (cC×eU))×(List cZ))⊕(Nat×(List (cC×eU))×(List cZ)×(Int×((List eC)×Unit))×Nat×(List (cC×eU))×(List cZ))
def Mb:ajH->im:=λx=>match x with | .inl x=>⟨.j7,[dH (.pr (.cP (.bG 1) 0) (.pr (.b8 (.bG 2) 0 [] 0 0 x.1) kO)),dH (.mp bP eR x.2.1),dH (.vec 139 cD x.2.2)],[]⟩ | .inr x=>⟨fI 0,[dH (.pr (.cP (.bG 1) 0) (.pr (.b8 (.bG 2) 0 [] 0 0 x.1) kO)),dH (.mp bP eR x.2.1),dH (.vec 139 cD x.2.2.1)],[dH (.pr (.ptr (.new 0 1) 0 [] 0) (.d (.pair ti (.pair (.slice di) .unit)) x.2.2.2.1)),dH (.pr (.cP (.new 0 2) 0) (.pr (.b8 (.new 0 3) 0 [] 0 0 x.2.2.2.2.1) kO)),dH (.mp bP eR x.2.2.2.2.2.1),dH (.vec 139 cD x.2.2.2.2.2.2)]⟩
def Ma:UL->awh->ajH:=λ(height,o0baL,o1,o2) y=>match y with | .inl y=> .inl y | .inr y=> .inr y
abbrev aGN:=Int×((List eC)×Unit)
def UM:UL->Prop:=λ(_,n,a,s)=>sq 500 n a s
def abA:UL->awh:=λ(h,n,a,s)=>if 1<=h/\h<=1048576 then .inr (n,a,s,(h,([],())),n,eH a,s.take n) else .inl (n,a,s)
def aDN:pZ:=mN (P:=Tryz.prog) [aAg,Gx]
def aAl:wK:= {bM:=[13],KM:=[⟨4,[.snd,.snd,.fst],(.slice di)⟩]}
def awf:= @M9 Tryz.prog aDN aAl 0 Tryz.f18 _ abB
abbrev aAk:=am0 @awf UM Ma abA Mb
theorem aAm(height o0baL o1 o2)(k:K1 R):awf (height,o0baL,o1,o2) k=aq (afR.call (height,o0baL,o1,o2)) λx1=>aS (!x1.2) (k (Mb (.inl (x1.1.1,x1.1.2.1,x1.1.2.2)))) (aq (sK.call (x1.1.1,x1.1.2.1,x1.1.2.2)) λx2=>k (Mb (.inr (x2.1,x2.2.1,x2.2.2.1,(height,(([]:List eC),())),x2.2.2.2.1,x2.2.2.2.2.1,x2.2.2.2.2.2)))):=cT
theorem aAn:aAk:=by
 rintro⟨h,n,a,s⟩ hg;have hg:sq 500 n a s:=hg;obtain⟨hc,hl⟩:=hg.canon;rw[aAm,awb (d:=(h,n,a,s)) trivial];simp only[ae,UK,ajF,Ma,abA];by_cases hh:1<=h/\h<=1048576
 ·rw[bf hh,if_pos hh,cv,ao,hg.copy au];simp only[ae,hl]
 ·rw[bI hh,if_neg hh,fj,ak]
def awg:=Entry.ai4 [aJ,al ti] abB UM Ma abA Mb
def Oc:UL->Option ajH:=O3 awg abB
theorem awi:lN Oc UM Ma abA:=amH (aeQ [.d ti,.n,.d (.slice (.pair bP eR)),.d (.slice cD)] λ_=>cT)
def aAo:SG Tryz.prog:=⟨18,qD,awg,.of (.aGx (.fn 0 cT aAn trivial)) (by rfl)⟩
abbrev zt:=Bs×(List eC)×Int×Int×(Int×((List eC)×Unit))×Nat×(List (cC×eU))×(List cZ)
def rS:zt->AS:=λ(aoR,t10,t11,t12,o0,o1L,dm,oM)=>⟨([cw,cw,cw,.eN tH aoR]++bg 6 ([.d (.slice di) t10,.d ti t11,.d ti t12]++bg 11 [])),[dH (.pr (.ptr (.bG 1) 0 [] 0) (.d (.pair ti (.pair (.slice di) .unit)) o0)),dH (.pr (.cP (.bG 2) 0) (.pr (.b8 (.bG 3) 0 [] 0 0 o1L) kO)),dH (.mp bP eR dm),dH (.vec 139 cD oM)],(ai 24 [])⟩
abbrev P6:=((Int×((List eC)×Unit))×Nat×(List (cC×eU))×(List cZ))×(eC)
def xV:P6->Exit×AS:=λ((a,b,c,e),f)=>(.ret,⟨(bg 4 ([.d di f]++bg 19 [])),[dH (.pr (.ptr (.bG 1) 0 [] 0) (.d (.pair ti (.pair (.slice di) .unit)) a)),dH (.pr (.cP (.bG 2) 0) (.pr (.b8 (.bG 3) 0 [] 0 0 b) kO)),dH (.mp bP eR c),dH (.vec 139 cD e)],(ai 24 [])⟩)
abbrev P7:=(Int×((List eC)×Unit))×Nat×(List (cC×eU))×(List cZ)
def xW:P7->Exit×AS:=λ(a,b,c,e)=>(.exit 0,⟨(bg 24 []),[dH (.pr (.ptr (.bG 1) 0 [] 0) (.d (.pair ti (.pair (.slice di) .unit)) a)),dH (.pr (.cP (.bG 2) 0) (.pr (.b8 (.bG 3) 0 [] 0 0 b) kO)),dH (.mp bP eR c),dH (.vec 139 cD e)],(ai 24 [])⟩)
abbrev Jl:=(P6)⊕(P7)
abbrev Us:=(eC)⊕(Unit)
def Df:Jl->Out (Exit×AS):=λx=> .br x.isLeft (.get x.getLeft? λa=> .ok (xV a)) (.get x.getRight? λb=> .ok (xW b))
def lg:zt->Us->Jl:=λ(aoR,t10,t11,t12,o0,o1L,dm,oM) y=>match y with | .inl y=> .inl ((o0,o1L,dm,oM),y) | .inr z=> .inr ((o0,o1L,dm,oM))
abbrev LQ:=Bs×(Int×((List eC)×Unit))×Nat×(List (cC×eU))×(List cZ)
def Uv:LQ->SA:=λ(id,o0b,o1baL,o2,o3)=>([.ptr (.bG 0) 0 [] 0,.d tH id],[dH (.pr (.ptr (.bG 1) 0 [] 0) (.d (.pair ti (.pair (.slice di) .unit)) o0b)),dH (.pr (.cP (.bG 2) 0) (.pr (.b8 (.bG 3) 0 [] 0 0 o1baL) kO)),dH (.mp bP eR o2),dH (.vec 139 cD o3)])
abbrev amk:=(eC×(Int×((List eC)×Unit))×Nat×(List (cC×eU))×(List cZ))⊕((Int×((List eC)×Unit))×Nat×(List (cC×eU))×(List cZ))
abbrev abt:=(eC×(Int×((List eC)×Unit))×Nat×(List (cC×eU))×(List cZ))⊕((Int×((List eC)×Unit))×Nat×(List (cC×eU))×(List cZ))
def GN:abt->im:=λx=>match x with | .inl x=>⟨.d di x.1,[dH (.pr (.ptr (.bG 1) 0 [] 0) (.d (.pair ti (.pair (.slice di) .unit)) x.2.1)),dH (.pr (.cP (.bG 2) 0) (.pr (.b8 (.bG 3) 0 [] 0 0 x.2.2.1) kO)),dH (.mp bP eR x.2.2.2.1),dH (.vec 139 cD x.2.2.2.2)],[]⟩ | .inr x=>⟨.j7,[dH (.pr (.ptr (.bG 1) 0 [] 0) (.d (.pair ti (.pair (.slice di) .unit)) x.1)),dH (.pr (.cP (.bG 2) 0) (.pr (.b8 (.bG 3) 0 [] 0 0 x.2.1) kO)),dH (.mp bP eR x.2.2.1),dH (.vec 139 cD x.2.2.2)],[]⟩
def Cc:LQ->amk->abt:=λ(id,o0b,o1baL,o2,o3) y=>match y with | .inl y=> .inl y | .inr y=> .inr y
def aF2(id:Bs)(x:eC):Bool:=match x with | none=>aR | some w=>decide (w.2.2.1=id)
def EM(id:Bs)(row:List eC):Option eC:=row.find? (aF2 id)
def xU:zt->Prop:=λ(_,l,n,i,_)=>(am3 l/\l.length<=1000)/\n=(l.length:Int)/\∃k:Nat,k<=l.length/\i=k
def oP:zt->Us:=λ(id,l,_,i,_)=>match EM id (l.drop i.toNat) with | some x=> .inl x | none=> .inr ()
def N8:LQ->Prop:=λ(_,p,_)=>am3 p.2.1/\p.2.1.length<=1000
def LR:LQ->amk:=λ(id,p,n,a,s)=>match EM id p.2.1 with | some x=> .inl (x,p,n,a,s) | none=> .inr (p,n,a,s)
def abq:pZ:=mN (P:=Tryz.prog) []
def Uq:=ee.gQ rS xU lg oP Df
def HL:zt->Option Jl:=ji Uq rS
def Ut:wK:= {loops:=sk [(2,{bu:=[3,10,11,12]})],outs:=sj [(2,{},{bu:=[4]})],gV:=tK [(2,Uq)]}
def ami:= @M9 Tryz.prog abq Ut 0 Tryz.f90 _ Uv
abbrev avS:=am0 @ami N8 Cc LR GN
def Ur:= @fK Tryz.prog abq Ut 0 Tryz.f90 0 _ rS
abbrev P5:=nE Tryz.prog abq Ut 0 Tryz.f90 0 rS xU lg oP Df
theorem abr:lN HL xU lg oP:=qe (oE [.d tH,.d (.slice di),.d ti,.d ti,.d (.pair ti (.pair (.slice di) .unit)),.n,.d (.slice (.pair bP eR)),.d (.slice cD)] λ_=>cT)
theorem LS:sx @Ur rS xU lg oP Df P5:=tI
theorem Bh(aoR t10 t11 t12 o0 o1L dm oM)(kn:K2 R)(kx:K3 R):Ur (aoR,t10,t11,t12,o0,o1L,dm,oM) kn kx=aS (iE t12 t11) (aS (gU t12 (((ag t10):Nat):Int)) (aq ((nth di t10 (ab t12))) λx1=>aS (Ty.beq tH x1.2.2.1 aoR) (kx (xV ((o0,o1L,dm,oM),(nth di t10 (ab t12)))).1 (xV ((o0,o1L,dm,oM),(nth di t10 (ab t12)))).2) (kn (rS (aoR,t10,t11,(bV .i64 t12 (1:Int)),o0,o1L,dm,oM)))) aJ) (kx (xW (o0,o1L,dm,oM)).1 (xW (o0,o1L,dm,oM)).2):=cT
theorem avT(id o0b o1baL o2 o3)(k:K1 R):ami (id,o0b,o1baL,o2,o3) k=aq (HL (id,o0b.2.1,(((ag o0b.2.1):Nat):Int),(0:Int),o0b,o1baL,o2,o3)) λx2=>aS x2.isLeft (aq x2.getLeft? λa3=>k (GN (.inl (a3.2,a3.1.1,a3.1.2.1,a3.1.2.2.1,a3.1.2.2.2)))) (aq x2.getRight? λb4=>k (GN (.inr (b4.1,b4.2.1,b4.2.2.1,b4.2.2.2)))):=cT
theorem afI:P5:=by
 refine LS (λ(_,l,_,i,_)=>l.length - i.toNat) ?_
 rintro⟨id,l,n,i,p,c,a,s⟩ ⟨⟨hs,hl⟩,rfl,k,hk,rfl⟩;have hl:l.length<=1000:=hl;have hk:k<=l.length:=hk;by_cases h:k < l.length
 ·have n1:nth di l k=l[k]:=dj (t:=di) h;have hd:l.drop k=l[k]::l.drop (k+1):=aC h;obtain⟨w,hw⟩:=bA.1 (hs _ (aX h));rw[hw]at n1 hd;by_cases hi:w.2.2.1=id
  ·right;refine⟨xV ((p,c,a,s),al w),?_,λkn kx=> ?_⟩;rotate_left
   ·rw[Bh,bm au,ak,bz au au,ak,aa,n1,ae,aan,bf hi,ak]
   ·have e:EM id (l.drop k)=al (al w):=by rw[hd,EM,List.find?_cons_of_pos (by show decide _=aT;exact bf hi)]
    simp only[lg,oP,aa,e];rfl
  ·left;refine⟨(id,l,(l.length:Int),((k+1:Nat):Int),p,c,a,s),⟨⟨hs,hl⟩,rfl,k+1,h,rfl⟩,by simp only[aa];omega,?_,λkn kx=> ?_⟩
   ·have e:EM id (l.drop k)=EM id (l.drop (k+1)):=by rw[hd,EM,List.find?_cons_of_neg (by show ¬decide _=aT;rw[bI hi];decide)];rfl
    simp only[lg,oP,aa,e]
   ·rw[Bh,bm au,ak,bz au au,ak,aa,n1,ae,aan,bI hi,ao,N.pn au]
 ·right;obtain rfl:k=l.length:=au;refine⟨xW (p,c,a,s),?_,λkn kx=> ?_⟩;rotate_left
  ·rw[Bh,bn au,ao]
  ·simp only[lg,oP,aa,aU];rfl
theorem avU:avS:=by
 rintro⟨id,p,n,a,s⟩ ⟨hs,hl⟩;rw[avT,abr (d:=(id,p.2.1,(p.2.1.length:Int),0,p,n,a,s)) ⟨⟨hs,hl⟩,rfl,0,aP _,rfl⟩];simp only[ae,lg,oP,bt,aQ,Cc,LR];cases EM id p.2.1 with
 |none=>rfl
 |some x=>rfl
def amj:=Entry.ai4 [aJ,al tH] Uv N8 Cc LR GN
def Uu:LQ->Option abt:=O3 amj Uv
theorem apW:lN Uu N8 Cc LR:=amH (aeQ [.d tB,.d (.pair ti (.pair (.slice di) .unit)),.n,.d (.slice (.pair bP eR)),.d (.slice cD)] λ_=>cT)
def avV:SG Tryz.prog:=⟨90,qD,amj,.of (.aGx (.fn 1 cT avU (And.intro (.gQ afI cT) trivial))) (by rfl)⟩
abbrev avW:=Bs×(Int×((List eC)×Unit))×Nat×(List (cC×eU))×(List cZ)
def avX:avW->Prop:=λ(_,p,_)=>am3 p.2.1/\p.2.1.length<=1000
def ajw:avW->(Bool×(Int×((List eC)×Unit))×Nat×(List (cC×eU))×(List cZ)):=λ(id,p,n,a,s)=>((EM id p.2.1).isSome,p,n,a,s)
def afJ:Fs Tryz.prog avX bF ajw:=gg 45 Tryz.f45 (λ(id,o0b,o1baL,o2,o3)=>([.ptr (.bG 0) 0 [] 0,.d tH id],[.obj 0 aR (.pr (.ptr (.bG 1) 0 [] 0) (.d (.pair ti (.pair (.slice di) .unit)) o0b)),.obj 0 aR (.pr (.cP (.bG 2) 0) (.pr (.b8 (.bG 3) 0 [] 0 0 o1baL) (.d .unit ()))),.obj 0 aR (.mp bP eR o2),.obj 0 aR (.vec 139 cD o3)])) (λx=>⟨.d .bool x.1,[.obj 0 aR (.pr (.ptr (.bG 1) 0 [] 0) (.d (.pair ti (.pair (.slice di) .unit)) x.2.1)),.obj 0 aR (.pr (.cP (.bG 2) 0) (.pr (.b8 (.bG 3) 0 [] 0 0 x.2.2.1) (.d .unit ()))),.obj 0 aR (.mp bP eR x.2.2.2.1),.obj 0 aR (.vec 139 cD x.2.2.2.2)],[]⟩) [aJ,al tH] [avV]
theorem aAb(id o0b o1baL o2 o3)(k:K1 R):afJ.A (id,o0b,o1baL,o2,o3) k=aq (Uu (id,o0b,o1baL,o2,o3)) λx1=>aS x1.isLeft (aq x1.getLeft? λaA7=>k (afJ.out ((!(Option.isNone aA7.1)),aA7.2.1,aA7.2.2.1,aA7.2.2.2.1,aA7.2.2.2.2))) (aq x1.getRight? λaBZ=>k (afJ.out (aR,aBZ.1,aBZ.2.1,aBZ.2.2.1,aBZ.2.2.2))):=cT
theorem aAc:afJ.Ok:=by
 rintro⟨id,p,n,a,s⟩ ⟨hs,hl⟩;rw[aAb,apW (d:=(id,p,n,a,s)) ⟨hs,hl⟩];simp only[ae,Cc,LR,bF,ajw];cases h:EM id p.2.1 with
 |none=>rfl
 |some x=>
  have hx:x.isSome=aT:=hs _ (List.mem_of_find?_eq_some h);obtain⟨w,rfl⟩:=bA.1 hx;rfl
theorem avY:afJ.RS:=rE [.d tB,.d (.pair ti (.pair (.slice di) .unit)),.n,.d (.slice (.pair bP eR)),.d (.slice cD)] afJ
def aAd:=afJ.gm aAc
def arH(w:Nat×yJ):Prop:=vW w.2.1/\iM w.2.1=aT/\w.2.2.1.length=32
def El(row:List eC):Prop:=row.length<=90/\∀x∈row,∃w,x=al w/\arH w
theorem El.some{row:List eC}(h:El row):am3 row:=λx hx=>by obtain⟨w,rfl,_⟩:=h.2 x hx;rfl
def I7(h:Int)(m:Mk)(S:arL)(x:eC):arL:=match x with | none=>S | some w=>if iQ m (al w)=aT then En h S w.2.1 else S
def aDp(h:Int)(row:List eC)(t:dS)(S:arL):arL:=row.foldl (I7 h (lU row t)) S
abbrev Fh:=dS×(List eC)×Int×Int×(Int×((List eC)×Unit))×Nat×(List (cC×eU))×(List cZ)×(List (eC×Bool))×Nat×(List (cC×eU))×(List cZ)
abbrev P2:=Nat×(List (cC×eU))×(List cZ)
def nw:Fh->P2->((dS×(Int×((List eC)×Unit))×Nat×(List (cC×eU))×(List cZ))×(Nat×(List (cC×eU))×(List cZ))):=λ(nO,t20,t21,t22,o0,o1L,dm,oM,n14,ai6,n19,zk) y=>((nO,o0,o1L,dm,oM),y)
abbrev afF:=(List eC)×dS×(Int×((List eC)×Unit))×Nat×(List (cC×eU))×(List cZ)
def WQ:Fh->Prop:=λ(_,l,m,i,_,_,_,_,_,n,a,s)=>El l/\m=(l.length:Int)/\∃k:Nat,k<=l.length/\i=k/\sq (300+k) n a s
def rR:Fh->P2:=λ(_,l,_,i,p,_,_,_,m,n,a,s)=>(l.drop i.toNat).foldl (I7 p.1 m) (n,a,s)
def ajp:afF->Prop:=λ(row,t,_,n,a,s)=>El row/\(jj (yi row) 3 t []).isSome=aT/\vW t/\sq 300 n a s
def Eg(h:Int)(row:List eC)(t:dS)(n:Nat)(a:At)(s:List cZ):Int×Int:=dL t h (aDp h row t (n,eH a,s.take n)).2.1
def Um:afF->(Int×Int×(Int×((List eC)×Unit))×Nat×(List (cC×eU))×(List cZ)):=λ(row,t,p,n,a,s)=>((Eg p.1 row t n a s).1,(Eg p.1 row t n a s).2,p,n,a,s)
theorem aBH{h:Int}{mk:Mk}:∀(l:List eC) {m:Nat} {S:arL},(∀x∈l,∃w,x=al w/\arH w)->m+l.length<=1000->sq m S.1 S.2.1 S.2.2->sq (m+l.length) (l.foldl (I7 h mk) S).1 (l.foldl (I7 h mk) S).2.1 (l.foldl (I7 h mk) S).2.2
 |[],_,_,_,_,hg=>hg
 |x::l,m,S,hr,hm,hg=>by
  have hm:m+(l.length+1)<=1000:=hm;have key:sq (m+1) (I7 h mk S x).1 (I7 h mk S x).2.1 (I7 h mk S x).2.2:=by
   obtain⟨w,rfl,hw⟩:=hr x aL;simp only[I7];split
   ·rcases hg.apply (t:=w.2.1) (h:=h) au hw.1 with⟨hc,_⟩ | ⟨_,hc,_,aBt⟩
    ·rw[show En h S w.2.1=S from if_pos hc];exact hg.mono au
    ·rw[show En h S w.2.1=(S.1+1,cm w.2.1 h S.2.1,S.2.2.take S.1++ [stepOf w.2.1 S.2.1]) from if_neg (λx=>x hc)];exact aBt
   ·exact hg.mono au
  have:=aBH (h:=h) (mk:=mk) l (m:=m+1) (λy hy=>hr y (aK _ hy)) au key;rw[aY,aH,show m+(l.length+1)=m+1+l.length from au];exact this
def lY:Ls WQ nw rR:=xM (λ(nO,t20,t21,t22,o0,o1L,dm,oM,n14,ai6,n19,zk)=>⟨([.ptr (.bG 0) 0 [] 0]++bg 4 ([.eN fg nO,cw,cw,.cP (.new 14 0) 0,fI 19]++bg 10 ([.d (.slice di) t20,.d ti t21,.d ti t22]++bg 26 []))),[dH (.pr (.ptr (.bG 1) 0 [] 0) (.d (.pair ti (.pair (.slice di) .unit)) o0)),dH (.pr (.cP (.bG 2) 0) (.pr (.b8 (.bG 3) 0 [] 0 0 o1L) kO)),dH (.mp bP eR dm),dH (.vec 139 cD oM)],(bK 14 ([dK (.mp di .bool n14)]++bK 4 ([[dH (.pr (.cP (.new 19 1) 0) (.pr (.b8 (.new 19 2) 0 [] 0 0 ai6) kO)),dH (.mp bP eR n19),dH (.vec 139 cD zk)]]++bK 29 [])))⟩) (λx=>(.exit 0,⟨([.ptr (.bG 0) 0 [] 0]++bg 4 ([.eN fg x.1.1,cw,cw,cw,fI 19]++bg 39 [])),[dH (.pr (.ptr (.bG 1) 0 [] 0) (.d (.pair ti (.pair (.slice di) .unit)) x.1.2.1)),dH (.pr (.cP (.bG 2) 0) (.pr (.b8 (.bG 3) 0 [] 0 0 x.1.2.2.1) kO)),dH (.mp bP eR x.1.2.2.2.1),dH (.vec 139 cD x.1.2.2.2.2)],(bK 19 ([[dH (.pr (.cP (.new 19 1) 0) (.pr (.b8 (.new 19 2) 0 [] 0 0 x.2.1) kO)),dH (.mp bP eR x.2.2.1),dH (.vec 139 cD x.2.2.2)]]++bK 29 []))⟩))
def Bf:Fs Tryz.prog ajp bF Um:=gg 50 Tryz.f50 (λ(row,t,o0b,o1baL,o2,o3)=>([.ptr (.bG 0) 0 [] 0,.d (.slice di) row,.d fg t],[.obj 0 aR (.pr (.ptr (.bG 1) 0 [] 0) (.d (.pair ti (.pair (.slice di) .unit)) o0b)),.obj 0 aR (.pr (.cP (.bG 2) 0) (.pr (.b8 (.bG 3) 0 [] 0 0 o1baL) (.d .unit ()))),.obj 0 aR (.mp bP eR o2),.obj 0 aR (.vec 139 cD o3)])) (λx=>⟨.cons (.d ti x.1) (.cons (.d ti x.2.1) (.nil)),[.obj 0 aR (.pr (.ptr (.bG 1) 0 [] 0) (.d (.pair ti (.pair (.slice di) .unit)) x.2.2.1)),.obj 0 aR (.pr (.cP (.bG 2) 0) (.pr (.b8 (.bG 3) 0 [] 0 0 x.2.2.2.1) (.d .unit ()))),.obj 0 aR (.mp bP eR x.2.2.2.2.1),.obj 0 aR (.vec 139 cD x.2.2.2.2.2)],[]⟩) [aJ,al (.slice di),al fg] [B9,Gx,KF,KJ] {loops:=sk [(4,{bu:=[0,5,8,9,20,21,22],sites:=[14,19],owns:=[⟨9,[.snd,.fst],19,32⟩]})],outs:=sj [(4,{bu:=[0,5,9],sites:=[19]},{bu:=[6,7]})],gV:=tK [(4,lY.E)]}
theorem WR:lY.RS:=rL [.d fg,.d (.slice di),.d ti,.d ti,.d (.pair ti (.pair (.slice di) .unit)),.n,.d (.slice (.pair bP eR)),.d (.slice cD),.d (.slice (.pair di .bool)),.n,.d (.slice (.pair bP eR)),.d (.slice cD)] lY
theorem tc(nO t20 t21 t22 o0 o1L dm oM n14 ai6 n19 zk)(kn:K2 R)(kx:K3 R):Bf.R 0 lY (nO,t20,t21,t22,o0,o1L,dm,oM,n14,ai6,n19,zk) kn kx=aS (iE t22 t21) (aS (gU t22 (t20.length:Int)) (aS ((cq di (nth di t20 (ab t22)) n14).getD aR) (aq ((nth di t20 (ab t22))) λx1=>aq (re (x1.2.1,o0.1,ai6,n19,zk)) λx2=>aS x2.isLeft (aq x2.getLeft? λaJi=>kn (lY.st (nO,t20,t21,(bV .i64 t22 1),o0,o1L,dm,oM,n14,aJi.2.1,aJi.2.2.1,aJi.2.2.2))) (aq x2.getRight? λaJj=>kn (lY.st (nO,t20,t21,(bV .i64 t22 1),o0,o1L,dm,oM,n14,aJj.2.1,aJj.2.2.1,aJj.2.2.2)))) (kn (lY.st (nO,t20,t21,(bV .i64 t22 1),o0,o1L,dm,oM,n14,ai6,n19,zk)))) aJ) (lY.go kx ((nO,o0,o1L,dm,oM),(ai6,n19,zk))):=cT
theorem apO(row t o0b o1baL o2 o3)(k:K1 R):Bf.A (row,t,o0b,o1baL,o2,o3) k=aq (s9.call (row,t)) λx1=>aq (sK.call (o1baL,o2,o3)) λx2=>aq (lY.call (t,row,(row.length:Int),0,o0b,x2.1,x2.2.1,x2.2.2.1,x1,x2.2.2.2.1,x2.2.2.2.2.1,x2.2.2.2.2.2)) λx7=>aq (lH.call (x7.1.1,x7.1.2.1.1,x7.2.1,x7.2.2.1,x7.2.2.2)) λx8=>k (Bf.out (x8.1,x8.2.1,x7.1.2.1,x7.1.2.2.1,x7.1.2.2.2.1,x7.1.2.2.2.2)):=cT
theorem abl:(Bf.mw 0 lY):=by
 refine(Bf.qz 0 lY) (λ(_,l,_,i,_)=>l.length - i.toNat) ?_
 rintro⟨t,l,m,i,p,c,a0,s0,mk,n,a,s⟩ ⟨hr,rfl,k,hk,rfl,hg⟩;have hl:l.length<=90:=hr.1;have hk:k<=l.length:=hk;have hg:sq (300+k) n a s:=hg;by_cases h:k < l.length
 ·left;have n1:nth di l k=l[k]:=dj (t:=di) h;have hd:l.drop k=l[k]::l.drop (k+1):=aC h;obtain⟨w,hw,hv,jd,hlen⟩:=hr.2 _ (aX h);rw[hw]at n1 hd;cases hm:iQ mk (al w) with
  |false=>
   refine⟨(t,l,(l.length:Int),((k+1:Nat):Int),p,c,a0,s0,mk,n,a,s),⟨hr,rfl,k+1,h,rfl,hg.mono au⟩,by simp only[aa];omega,?_,λkn kx=> ?_⟩
   ·simp only[nw,rR,aa,hd,aY,I7,hm,bW,cK]
   ·rw[tc,bm au,ak,bz au au,ak,aa,n1,show(cq di (al w) mk).getD aR=aR from hm,ao,N.pn au]
  |true=>
   rcases hg.apply (t:=w.2.1) (h:=p.1) au hv with⟨hc,ha⟩ | ⟨_,hc,ha,aBt⟩
   ·refine⟨(t,l,(l.length:Int),((k+1:Nat):Int),p,c,a0,s0,mk,n,a,s),⟨hr,rfl,k+1,h,rfl,hg.mono au⟩,by simp only[aa];omega,?_,λkn kx=> ?_⟩
    ·simp only[nw,rR,aa,hd,aY,I7,hm,da];rw[show En p.1 (n,a,s) w.2.1=(n,a,s) from if_pos hc]
    ·rw[tc,bm au,ak,bz au au,ak,aa,n1,show(cq di (al w) mk).getD aR=aT from hm,ak,ae,ha];simp only[ae,Sum.isLeft_inl,ak,Sum.getLeft?_inl];rw[N.pn au]
   ·refine⟨(t,l,(l.length:Int),((k+1:Nat):Int),p,c,a0,s0,mk,n+1,cm w.2.1 p.1 a,s.take n++ [stepOf w.2.1 a]),⟨hr,rfl,k+1,h,rfl,aBt⟩,by simp only[aa];omega,?_,λkn kx=> ?_⟩
    ·simp only[nw,rR,aa,hd,aY,I7,hm,da];rw[show En p.1 (n,a,s) w.2.1=(n+1,cm w.2.1 p.1 a,s.take n++ [stepOf w.2.1 a]) from if_neg (λx=>x hc)]
    ·rw[tc,bm au,ak,bz au au,ak,aa,n1,show(cq di (al w) mk).getD aR=aT from hm,ak,ae,ha];simp only[ae,e7,ao,dT];rw[N.pn au]
 ·right;obtain rfl:k=l.length:=au;intro R kn kx;rw[tc,bn au,ao];simp only[nw,rR,aa,aU,dd]
theorem apP:Bf.Ok:=by rintro⟨row,t,p,n,a,s⟩ ⟨hr,hm,hv,hg⟩;have hl:row.length<=90:=hr.1;have hg:sq 300 n a s:=hg;obtain⟨hc,hn⟩:=hg.canon;have z1:((0:Int)).toNat=0:=rfl;rw[apO,De (d:=(row,t)) ⟨hr.some,by show row.length<=_;omega,hm⟩,hg.copy au];simp only[ae,bF,Fc,hn];rw[WR (d:=(t,row,(row.length:Int),0,p,n,a,s,lU row t,n,eH a,s.take n)) ⟨hr,rfl,0,aP _,rfl,hc⟩];simp only[ae,nw,rR,z1,aQ];have aBt:=aBH (h:=p.1) (mk:=lU row t) row (m:=300) (S:=(n,eH a,s.take n)) hr.2 au hc;obtain⟨S,hS⟩:∃S,row.foldl (I7 p.1 (lU row t)) (n,eH a,s.take n)=S:=⟨_,rfl⟩;rw[hS]at aBt ⊢;rw[aBt.check hv];simp only[ae,bF,Um,Eg,aDp,hS]
theorem ajq:Bf.RS:=rE [.d (.slice di),.d fg,.d (.pair ti (.pair (.slice di) .unit)),.n,.d (.slice (.pair bP eR)),.d (.slice cD)] Bf
def apQ:=Bf.gm apP 1 ⟨.gQ abl,trivial⟩
abbrev zw:=dS×Nat×(List eC)×Int×Int×(Int×((List eC)×Unit))×Nat×(List (cC×eU))×(List cZ)×yJ×(List (eC×Bool))×(List eC)
def lh:zw->AS:=λ(nO,restL,t36,t37,t38,o0,o1L,dm,oM,n25,n32,aBN)=>⟨([.ptr (.bG 0) 0 [] 0,cw,cw,.eN fg nO,cw,fI 25,.cP (.new 32 0) 0,nR 77 restL]++bg 28 ([.d (.slice di) t36,.d ti t37,.d ti t38]++bg 104 [])),[dH (.pr (.ptr (.bG 1) 0 [] 0) (.d (.pair ti (.pair (.slice di) .unit)) o0)),dH (.pr (.cP (.bG 2) 0) (.pr (.b8 (.bG 3) 0 [] 0 0 o1L) kO)),dH (.mp bP eR dm),dH (.vec 139 cD oM)],(bK 25 ([dK (.d VG n25)]++bK 6 ([dK (.mp di .bool n32)]++bK 44 ([dK (.vec 104 di aBN)]++bK 65 []))))⟩
abbrev AE:=dS×Nat×(Int×((List eC)×Unit))×Nat×(List (cC×eU))×(List cZ)×yJ×(List (eC×Bool))×(List eC)
def xY:AE->Exit×AS:=λ(a,b,c,e,f,g,h,i,j)=>(.exit 0,⟨([.ptr (.bG 0) 0 [] 0,cw,cw,.eN fg a,cw,fI 25,.cP (.new 32 0) 0,nR 77 b]++bg 135 []),[dH (.pr (.ptr (.bG 1) 0 [] 0) (.d (.pair ti (.pair (.slice di) .unit)) c)),dH (.pr (.cP (.bG 2) 0) (.pr (.b8 (.bG 3) 0 [] 0 0 e) kO)),dH (.mp bP eR f),dH (.vec 139 cD g)],(bK 25 ([dK (.d VG h)]++bK 6 ([dK (.mp di .bool i)]++bK 44 ([dK (.vec 104 di j)]++bK 65 []))))⟩)
def L1:AE->Out (Exit×AS):=λx=> .ok (xY x)
def mR:zw->(dS×Nat×(Int×((List eC)×Unit))×Nat×(List (cC×eU))×(List cZ)×yJ×(List (eC×Bool))×(List eC))->AE:=λ(nO,restL,t36,t37,t38,o0,o1L,dm,oM,n25,n32,aBN) y=>y
abbrev zx:=dS×Nat×eC×(List eC)×Int×Int×(Int×((List eC)×Unit))×Nat×(List (cC×eU))×(List cZ)×yJ×(List (eC×Bool))×(List (eC×Bool))×(List (eC×Bool))×(List eC)
def oQ:zx->AS:=λ(BC,yh,yv,MK,ML,vS,qc,wH,ko,G6,Lz,rQ,n59,n60,LC)=>⟨([.ptr (.bG 0) 0 [] 0,cw,cw,.eN fg BC,cw,fI 25,.cP (.new 32 0) 0,nR 77 yh,cw,.d di yv]++bg 26 ([.d (.slice di) MK,.d ti ML,.d ti vS]++bg 21 ([fI 60]++bg 82 []))),[dH (.pr (.ptr (.bG 1) 0 [] 0) (.d (.pair ti (.pair (.slice di) .unit)) qc)),dH (.pr (.cP (.bG 2) 0) (.pr (.b8 (.bG 3) 0 [] 0 0 wH) kO)),dH (.mp bP eR ko),dH (.vec 139 cD G6)],(bK 25 ([dK (.d VG Lz)]++bK 6 ([dK (.mp di .bool rQ)]++bK 26 ([[.obj 0 aT (.mp di .bool n59)],dK (.qh (.new 59 0) 1 di .bool n60 aJ)]++bK 16 ([dK (.vec 104 di LC)]++bK 65 [])))))⟩
abbrev AF:=(dS×Nat×eC×(List eC)×Int×Int×(Int×((List eC)×Unit))×Nat×(List (cC×eU))×(List cZ)×yJ×(List eC))×((List (eC×Bool)))
def yc:AF->Exit×AS:=λ((a,b,c,e,f,g,h,i,j,k,l,m),n)=>(.exit 2,⟨([.ptr (.bG 0) 0 [] 0,cw,cw,.eN fg a,cw,fI 25,.cP (.new 32 0) 0,nR 77 b,cw,.d di c]++bg 26 ([.d (.slice di) e,.d ti f,.d ti g]++bg 104 [])),[dH (.pr (.ptr (.bG 1) 0 [] 0) (.d (.pair ti (.pair (.slice di) .unit)) h)),dH (.pr (.cP (.bG 2) 0) (.pr (.b8 (.bG 3) 0 [] 0 0 i) kO)),dH (.mp bP eR j),dH (.vec 139 cD k)],(bK 25 ([dK (.d VG l)]++bK 6 ([dK (.mp di .bool n)]++bK 44 ([dK (.vec 104 di m)]++bK 65 []))))⟩)
def L7:AF->Out (Exit×AS):=λx=> .ok (yc x)
def mS:zx->((List (eC×Bool)))->AF:=λ(BC,yh,yv,MK,ML,vS,qc,wH,ko,G6,Lz,rQ,n59,n60,LC) y=>((BC,yh,yv,MK,ML,vS,qc,wH,ko,G6,Lz,LC),y)
abbrev zy:=Nat×Int×Int×(Int×((List eC)×Unit))×Nat×(List (cC×eU))×(List cZ)×yJ×(List (eC×Bool))×(List eC)×(List (eC×Bool))
def rT:zy->AS:=λ(AK,jG,least,xN,nN,qs,xO,LA,fu,PW,n107)=>⟨([.ptr (.bG 0) 0 [] 0]++bg 4 ([fI 25,cw,nR 77 AK,cw,cw,cw,.d ti jG,cw,.d ti least]++bg 93 ([fI 107]++bg 35 []))),[dH (.pr (.ptr (.bG 1) 0 [] 0) (.d (.pair ti (.pair (.slice di) .unit)) xN)),dH (.pr (.cP (.bG 2) 0) (.pr (.b8 (.bG 3) 0 [] 0 0 nN) kO)),dH (.mp bP eR qs),dH (.vec 139 cD xO)],(bK 25 ([dK (.d VG LA)]++bK 6 ([[.obj 0 aT (.mp di .bool fu)]]++bK 44 ([[.obj 0 aT (.vec 104 di PW)]]++bK 29 ([dK (.qh (.new 32 0) 1 di .bool n107 aJ)]++bK 35 [])))))⟩
abbrev Qi:=(Int×((List eC)×Unit))×Nat×(List (cC×eU))×(List cZ)
def Dh:Qi->Exit×AS:=λ(a,b,c,e)=>(.ret,⟨([.ptr (.bG 0) 0 [] 0,cw,cw,cw,.d ti (13:Int)]++bg 138 []),[dH (.pr (.ptr (.bG 1) 0 [] 0) (.d (.pair ti (.pair (.slice di) .unit)) a)),dH (.pr (.cP (.bG 2) 0) (.pr (.b8 (.bG 3) 0 [] 0 0 b) kO)),dH (.mp bP eR c),dH (.vec 139 cD e)],(ai 143 [])⟩)
abbrev Qj:=(Nat×Int×(Int×((List eC)×Unit))×Nat×(List (cC×eU))×(List cZ)×yJ×(List eC))×(Int)
def ye:Qj->Exit×AS:=λ((a,b,c,e,f,g,h,i),j)=>(.exit 5,⟨([.ptr (.bG 0) 0 [] 0]++bg 4 ([fI 25,cw,nR 77 a,cw,cw,cw,.d ti b,cw,.d ti j]++bg 129 [])),[dH (.pr (.ptr (.bG 1) 0 [] 0) (.d (.pair ti (.pair (.slice di) .unit)) c)),dH (.pr (.cP (.bG 2) 0) (.pr (.b8 (.bG 3) 0 [] 0 0 e) kO)),dH (.mp bP eR f),dH (.vec 139 cD g)],(bK 25 ([dK (.d VG h)]++bK 51 ([[.obj 0 aT (.vec 104 di i)]]++bK 65 [])))⟩)
abbrev Jp:=(Qi)⊕(Qj)
abbrev UF:=(Unit)⊕(Int)
def Di:Jp->Out (Exit×AS):=λx=> .br x.isLeft (.get x.getLeft? λa=> .ok (Dh a)) (.get x.getRight? λb=> .ok (ye b))
def te:zy->UF->Jp:=λ(AK,jG,least,xN,nN,qs,xO,LA,fu,PW,n107) y=>match y with | .inl y=> .inl (xN,nN,qs,xO) | .inr z=> .inr (((AK,jG,xN,nN,qs,xO,LA,PW),z))
abbrev LZ:=dS×(Int×((List eC)×Unit))×Nat×(List (cC×eU))×(List cZ)
def UG:LZ->SA:=λ(t,o0b,o1baL,o2,o3)=>([.ptr (.bG 0) 0 [] 0,.d fg t],[dH (.pr (.ptr (.bG 1) 0 [] 0) (.d (.pair ti (.pair (.slice di) .unit)) o0b)),dH (.pr (.cP (.bG 2) 0) (.pr (.b8 (.bG 3) 0 [] 0 0 o1baL) kO)),dH (.mp bP eR o2),dH (.vec 139 cD o3)])
abbrev amp:=Int×(Int×((List eC)×Unit))×Nat×(List (cC×eU))×(List cZ)
abbrev abz:=Int×(Int×((List eC)×Unit))×Nat×(List (cC×eU))×(List cZ)
def nB:abz->im:=λx=>⟨.d ti x.1,[dH (.pr (.ptr (.bG 1) 0 [] 0) (.d (.pair ti (.pair (.slice di) .unit)) x.2.1)),dH (.pr (.cP (.bG 2) 0) (.pr (.b8 (.bG 3) 0 [] 0 0 x.2.2.1) kO)),dH (.mp bP eR x.2.2.2.1),dH (.vec 139 cD x.2.2.2.2)],[]⟩
def Cd:LZ->amp->abz:=λ(t,o0b,o1baL,o2,o3) y=>y
structure aB2(t:dS)(p:aGN)(n:Nat)(a:At)(s:List cZ):Prop where
 tv:vW t
 tok:iM t=aT
 row:El p.2.1
 new:EM (wI t) p.2.1=aJ
 aGe:∀w,al w∈p.2.1->jl w.2.1 (dV t)=aR
 ah:∀w,al w∈p.2.1->(jj (yi p.2.1) 3 w.2.1 []).isSome=aT
 dp:∃d,sP p.2.1 3 t=al d/\d<=4
 st:sq 300 n a s
 ck:(Eg p.1 p.2.1 t n a s).2=0
 fe:kq t<=(Eg p.1 p.2.1 t n a s).1
theorem NF:∀l:List Nat,∃b,∀x∈l,x < b
 |[]=>⟨0,λx hx=>by cases hx⟩
 |y::l=>by
  obtain⟨b,hb⟩:=NF l;refine⟨b+y+1,λx hx=> ?_⟩;rcases cg.1 hx with rfl | hx
  ·omega
  ·have:=hb x hx;omega
def avn(p:aGN)(t:dS)(n:Nat)(a:At)(s:List cZ):yJ:=(t,(wI t,((Eg p.1 p.2.1 t n a s).1,(kq t,()))))
def xX:zw->Prop:=λ(t,rL,l,m,i,p,_,_,_,_,gone,rest)=>(aEW t/\El p.2.1/\(∀w,al w∈p.2.1->jl w.2.1 (dV t)=aR)/\∀w,al w∈p.2.1->(jj (yi p.2.1) 3 w.2.1 []).isSome=aT)/\l=p.2.1/\gone=[]/\rL=rest.length/\m=(l.length:Int)/\∃k:Nat,k<=l.length/\i=k/\rest.length<=k
def rv:zw->(dS×Nat×(Int×((List eC)×Unit))×Nat×(List (cC×eU))×(List cZ)×yJ×(List (eC×Bool))×(List eC)):=λ(t,rL,l,_,i,p,n,a,s,x,_,rest)=>(t,rL+(l.drop i.toNat).length,p,n,a,s,x,[],rest++l.drop i.toNat)
def xZ:zx->Prop:=λ(_,_,_,_,_,_,_,_,_,_,_,gone,_,_,_)=>gone=[]
def rz:zx->((List (eC×Bool))):=λ_=> []
def yd:zy->Prop:=λ(_,_,_,_,_,_,_,_,_,_,gone)=>gone=[]
def zz:zy->UF:=λ(_,_,least,_)=> .inr least
def Oa:LZ->Prop:=λ(t,p,n,a,s)=>aB2 t p n a s
def Jq:LZ->amp->Prop:=λ(t,p,n,a,s) y=>∃k,k ∉ p.2.1.flatMap (ij di)/\y=(0,(p.1,(p.2.1++ [al (k,avn p t n a s)],())),n,a,s)
def Dg:pZ:=mN (P:=Tryz.prog) [pV,afN,OG,Wa,aAd,V7,US,B9,avP,apQ,amd]
def Uy:=ee.gQ lh xX mR rv L1
def HM:zw->Option AE:=ji Uy lh
def UB:=ee.gQ oQ xZ mS rz L7
def Bk:zx->Option AF:=ji UB oQ
def UD:=ee.gQ rT yd te zz Di
def HP:zy->Option Jp:=ji UD rT
def zA:wK:= {bM:=[25],loops:=sk [(9,{bu:=[0,3,5,6,7,36,37,38],sites:=[25,32,77],owns:=[⟨7,[],77,96⟩]}),(14,{bu:=[0,3,5,6,7,9,36,37,38,60],sites:=[25,32,59,60,77],aDo:=[60]}),(31,{bu:=[0,5,7,11,13,107],sites:=[25,32,77,107],aDo:=[107]})],outs:=sj [(9,{bu:=[0,3,5,6,7],sites:=[25,32,77]},{bu:=[0,4]}),(14,{bu:=[0,3,5,6,7,9,36,37,38],sites:=[25,32,77]},{bu:=[0,4]}),(31,{bu:=[0,5,7,11,13],sites:=[25,77]},{bu:=[0,4]})],gV:=tK [(9,Uy),(14,UB),(31,UD)],KM:=[⟨0,[.snd,.snd,.fst],(.slice di)⟩],Q0:=λq=>(tK [(38,[⟨5,VG,7⟩])] q).getD []}
def amn:= @M9 Tryz.prog Dg zA 0 Tryz.f21 _ UG
abbrev av3:=aBb @amn Oa Cd Jq nB
def Uz:= @fK Tryz.prog Dg zA 0 Tryz.f21 0 _ lh
abbrev Qf:=nE Tryz.prog Dg zA 0 Tryz.f21 0 lh xX mR rv L1
def UC:= @fK Tryz.prog Dg zA 0 Tryz.f21 1 _ oQ
abbrev Qg:=nE Tryz.prog Dg zA 0 Tryz.f21 1 oQ xZ mS rz L7
def UE:= @fK Tryz.prog Dg zA 0 Tryz.f21 2 _ rT
abbrev Qh:=nE Tryz.prog Dg zA 0 Tryz.f21 2 rT yd te zz Di
theorem abw:lN HM xX mR rv:=qe (oE [.d fg,.n,.d (.slice di),.d ti,.d ti,.d (.pair ti (.pair (.slice di) .unit)),.n,.d (.slice (.pair bP eR)),.d (.slice cD),.d VG,.d (.slice (.pair di .bool)),.d (.slice di)] λ_=>cT)
theorem L0:arF @Uz lh xX mR rv xY Qf:=aCp
theorem HN(nO restL t36 t37 t38 o0 o1L dm oM n25 n32 aBN)(kn:K2 R)(kx:K3 R):Uz (nO,restL,t36,t37,t38,o0,o1L,dm,oM,n25,n32,aBN) kn kx=aS (iE t38 t37) (aS (gU t38 (((ag t36):Nat):Int)) (aq ((nth di t36 (ab t38))) λx1=>aq (qP.call nO) λx2=>aq (uU.call (x1.2.1,x2)) λx3=>aS (x3) (aq ((nth di t36 (ab t38))) λx4=>aq (s9.call (o0.2.1,x4.2.1)) λx5=>aq (Bk (nO,restL,(nth di t36 (ab t38)),t36,t37,t38,o0,o1L,dm,oM,n25,(ff di (nth di t36 (ab t38)) aT n32),x5,x5,aBN)) λx6=>aS (!((cq di x6.1.2.2.1 x6.2).getD aR)) (aS (decide (x6.1.2.1<=(ag x6.1.2.2.2.2.2.2.2.2.2.2.2))) (aS (ea (x6.1.2.1+1) 8) (kn (lh (x6.1.1,(x6.1.2.1+1),x6.1.2.2.2.1,x6.1.2.2.2.2.1,(bV .i64 x6.1.2.2.2.2.2.1 (1:Int)),x6.1.2.2.2.2.2.2.1,x6.1.2.2.2.2.2.2.2.1,x6.1.2.2.2.2.2.2.2.2.1,x6.1.2.2.2.2.2.2.2.2.2.1,x6.1.2.2.2.2.2.2.2.2.2.2.1,x6.2,((bj x6.1.2.1 x6.1.2.2.2.2.2.2.2.2.2.2.2)++ [x6.1.2.2.1])))) aJ) aJ) (kn (lh (x6.1.1,x6.1.2.1,x6.1.2.2.2.1,x6.1.2.2.2.2.1,(bV .i64 x6.1.2.2.2.2.2.1 (1:Int)),x6.1.2.2.2.2.2.2.1,x6.1.2.2.2.2.2.2.2.1,x6.1.2.2.2.2.2.2.2.2.1,x6.1.2.2.2.2.2.2.2.2.2.1,x6.1.2.2.2.2.2.2.2.2.2.2.1,x6.2,x6.1.2.2.2.2.2.2.2.2.2.2.2)))) (aq ((nth di t36 (ab t38))) λx7=>aq (s9.call (o0.2.1,x7.2.1)) λx8=>aq (Bk (nO,restL,(nth di t36 (ab t38)),t36,t37,t38,o0,o1L,dm,oM,n25,n32,x8,x8,aBN)) λx9=>aS (!((cq di x9.1.2.2.1 x9.2).getD aR)) (aS (decide (x9.1.2.1<=(ag x9.1.2.2.2.2.2.2.2.2.2.2.2))) (aS (ea (x9.1.2.1+1) 8) (kn (lh (x9.1.1,(x9.1.2.1+1),x9.1.2.2.2.1,x9.1.2.2.2.2.1,(bV .i64 x9.1.2.2.2.2.2.1 (1:Int)),x9.1.2.2.2.2.2.2.1,x9.1.2.2.2.2.2.2.2.1,x9.1.2.2.2.2.2.2.2.2.1,x9.1.2.2.2.2.2.2.2.2.2.1,x9.1.2.2.2.2.2.2.2.2.2.2.1,x9.2,((bj x9.1.2.1 x9.1.2.2.2.2.2.2.2.2.2.2.2)++ [x9.1.2.2.1])))) aJ) aJ) (kn (lh (x9.1.1,x9.1.2.1,x9.1.2.2.2.1,x9.1.2.2.2.2.1,(bV .i64 x9.1.2.2.2.2.2.1 (1:Int)),x9.1.2.2.2.2.2.2.1,x9.1.2.2.2.2.2.2.2.1,x9.1.2.2.2.2.2.2.2.2.1,x9.1.2.2.2.2.2.2.2.2.2.1,x9.1.2.2.2.2.2.2.2.2.2.2.1,x9.2,x9.1.2.2.2.2.2.2.2.2.2.2.2))))) aJ) (kx (xY (nO,restL,o0,o1L,dm,oM,n25,n32,aBN)).1 (xY (nO,restL,o0,o1L,dm,oM,n25,n32,aBN)).2):=cT
theorem abx:lN Bk xZ mS rz:=qe (oE [.d fg,.n,.d di,.d (.slice di),.d ti,.d ti,.d (.pair ti (.pair (.slice di) .unit)),.n,.d (.slice (.pair bP eR)),.d (.slice cD),.d VG,.d (.slice (.pair di .bool)),.d (.slice (.pair di .bool)),.d (.slice (.pair di .bool)),.d (.slice di)] λ_=>cT)
theorem L4:aB5 @UC oQ xZ mS rz yc Qg:=aE0
theorem HO(BC yh yv MK ML vS qc wH ko G6 Lz rQ n59 n60 LC)(kn:K2 R)(kx:K3 R):UC (BC,yh,yv,MK,ML,vS,qc,wH,ko,G6,Lz,rQ,n59,n60,LC) kn kx=aS (decide (0 < (ag n60))) (acF (ag n60) λj1=>aS ((cq di (pH di .bool n60 j1).1 rQ).getD aR) (kn (oQ (BC,yh,yv,MK,ML,vS,qc,wH,ko,G6,Lz,(ff di yv aT rQ),n59,(List.eraseIdx n60 j1),LC))) (kn (oQ (BC,yh,yv,MK,ML,vS,qc,wH,ko,G6,Lz,rQ,n59,(List.eraseIdx n60 j1),LC)))) (kx (yc ((BC,yh,yv,MK,ML,vS,qc,wH,ko,G6,Lz,LC),rQ)).1 (yc ((BC,yh,yv,MK,ML,vS,qc,wH,ko,G6,Lz,LC),rQ)).2):=cT
theorem aby:lN HP yd te zz:=qe (oE [.n,.d ti,.d ti,.d (.pair ti (.pair (.slice di) .unit)),.n,.d (.slice (.pair bP eR)),.d (.slice cD),.d VG,.d (.slice (.pair di .bool)),.d (.slice di),.d (.slice (.pair di .bool))] λ_=>cT)
theorem L8:sx @UE rT yd te zz Di Qh:=tI
theorem WW(AK jG least xN nN qs xO LA fu PW n107)(kn:K2 R)(kx:K3 R):UE (AK,jG,least,xN,nN,qs,xO,LA,fu,PW,n107) kn kx=aS (decide (0 < (ag n107))) (acF (ag n107) λj1=>aq ((pH di .bool n107 j1).1) λx2=>aq ((pH di .bool n107 j1).1) λx3=>aq (afG.call (jG,x2.2.2.2.2.1,x3.2.2.2.1,LA.2.2.2.1)) λx4=>aS (ahg x4 (0:Int)) (kx (Dh (xN,nN,qs,xO)).1 (Dh (xN,nN,qs,xO)).2) (aq ((pH di .bool n107 j1).1) λx5=>kn (rT (AK,jG,(bV .i64 least x5.2.2.2.1),xN,nN,qs,xO,LA,fu,PW,(List.eraseIdx n107 j1))))) (kx (ye ((AK,jG,xN,nN,qs,xO,LA,PW),least)).1 (ye ((AK,jG,xN,nN,qs,xO,LA,PW),least)).2):=cT
theorem av4(t o0b o1baL o2 o3)(k:K1 R):amn (t,o0b,o1baL,o2,o3) k=aq (ik.call t) λx1=>aS (!x1) (k (nB ((1:Int),(o0b.1,(o0b.2.1,o0b.2.2)),o1baL,o2,o3))) (aq (Qe.call t) λx2=>aq (tid.call t) λx3=>aq (qQ.call t) λx4=>aq (afJ.call (x3,o0b,o1baL,o2,o3)) λx5=>aS (x5.1) (k (nB ((4:Int),(x5.2.1.1,(x5.2.1.2.1,x5.2.1.2.2)),x5.2.2.1,x5.2.2.2.1,x5.2.2.2.2))) (aq (HM (t,0,x5.2.1.2.1,(((ag x5.2.1.2.1):Nat):Int),(0:Int),x5.2.1,x5.2.2.1,x5.2.2.2.1,x5.2.2.2.2,(x2,(x3,((0:Int),(x4,())))),([]:List (eC×Bool)),([]:List eC))) λtP=>aS (BI ((tP.2.1:Nat):Int) (100:Int)) (k (nB ((3:Int),(tP.2.2.1.1,(tP.2.2.1.2.1,tP.2.2.1.2.2)),tP.2.2.2.1,tP.2.2.2.2.1,tP.2.2.2.2.2.1))) (aS (decide (0=0/\(0+tP.2.1)<=(ag tP.2.2.2.2.2.2.2.2))) (aq (Up ((cut tP.2.2.2.2.2.2.2.2 0 tP.2.1),tP.1)) λarD=>aS (Ap arD (4:Int)) (k (nB ((25:Int),(tP.2.2.1.1,(tP.2.2.1.2.1,tP.2.2.1.2.2)),tP.2.2.2.1,tP.2.2.2.2.1,tP.2.2.2.2.2.1))) (aS (decide (0=0/\(0+tP.2.1)<=(ag tP.2.2.2.2.2.2.2.2))) (aq (Bf.call ((cut tP.2.2.2.2.2.2.2.2 0 tP.2.1),tP.1,tP.2.2.1,tP.2.2.2.1,tP.2.2.2.2.1,tP.2.2.2.2.2.1)) λamW=>aS (G5 amW.2.1 (0:Int)) (k (nB (amW.2.1,(amW.2.2.1.1,(amW.2.2.1.2.1,amW.2.2.1.2.2)),amW.2.2.2.1,amW.2.2.2.2.1,amW.2.2.2.2.2))) (aq (HP (tP.2.1,amW.1,tP.2.2.2.2.2.2.1.2.2.2.1,amW.2.2.1,amW.2.2.2.1,amW.2.2.2.2.1,amW.2.2.2.2.2,(tP.2.2.2.2.2.2.1.1,(tP.2.2.2.2.2.2.1.2.1,(amW.1,tP.2.2.2.2.2.2.1.2.2.2))),tP.2.2.2.2.2.2.2.1,tP.2.2.2.2.2.2.2.2,tP.2.2.2.2.2.2.2.1)) λRc=>aS Rc.isLeft (aq Rc.getLeft? λa25=>k (nB ((13:Int),(a25.1.1,(a25.1.2.1,a25.1.2.2)),a25.2.1,a25.2.2.1,a25.2.2.2))) (aq Rc.getRight? λb26=>aS (iE b26.1.2.1 b26.2) (k (nB ((13:Int),(b26.1.2.2.1.1,(b26.1.2.2.1.2.1,b26.1.2.2.1.2.2)),b26.1.2.2.2.1,b26.1.2.2.2.2.1,b26.1.2.2.2.2.2.1))) (QP (λn=>n ∉ (List.flatMap (ij di) b26.1.2.2.2.2.2.2.2)) λaHn=>aS (decide (b26.1.1<=(ag b26.1.2.2.2.2.2.2.2))) (aS (decide (b26.1.1=(ag b26.1.2.2.2.2.2.2.2))) (aS (ea (b26.1.1+1) 8) (aS (decide (0=0/\(0+(b26.1.1+1))<=(ag ((bj b26.1.1 b26.1.2.2.2.2.2.2.2)++ [(al (aHn,b26.1.2.2.2.2.2.2.1))])))) (k (nB ((0:Int),(b26.1.2.2.1.1,((cut ((bj b26.1.1 b26.1.2.2.2.2.2.2.2)++ [(al (aHn,b26.1.2.2.2.2.2.2.1))]) 0 (b26.1.1+1)),b26.1.2.2.1.2.2)),b26.1.2.2.2.1,b26.1.2.2.2.2.1,b26.1.2.2.2.2.2.1))) aJ) aJ) aJ) aJ)))) aJ)) aJ))):=cT
theorem aAJ(t:dS):(dV t).length<=64:=by
 unfold dV;split
 ·rename_i h;rw[cF];exact(jo h).1.2.1
 ·simp
theorem apj(x:eC):iQ [] x=aR:=rfl
theorem afP:Qg:=by
 refine L4 (λ(_,_,_,_,_,_,_,_,_,_,_,_,_,rest,_)=>rest.length) ?_
 rintro⟨t,rL,y,l,m,i,p,n,a,s,x,gone,all,rest,row⟩ hg;have hg:gone=[]:=hg;by_cases h:0 < rest.length
 ·left;refine⟨rest.length,λj=>(t,rL,y,l,m,i,p,n,a,s,x,gone,all,rest.eraseIdx j,row),h,λj hj=>⟨hg,?_,?_⟩,λkn kx=> ?_⟩
  ·show(rest.eraseIdx j).length < rest.length;rw[kI,if_pos hj];omega
  ·simp only[mS,rz]
  ·rw[HO,bf h,ak];refine bE (acF rest.length) (funext λj=> ?_);rw[hg,show(cq di (pH di .bool rest j).1 ([]:Mk)).getD aR=aR from rfl,ao]
 ·right;intro T kn kx;rw[HO,bI h,ao];simp only[mS,rz,hg]
theorem afO:Qf:=by
 refine L0 (λ(_,_,l,_,i,_)=>l.length - i.toNat) ?_
 rintro⟨t,rL,l,m,i,p,n,a,s,x,gone,rest⟩ ⟨⟨hu,hr,hn,ha⟩,rfl,rfl,rfl,rfl,k,hk,rfl,aEC⟩;have hl:p.2.1.length<=90:=hr.1;have hk:k<=p.2.1.length:=hk;have aEC:rest.length<=k:=aEC;by_cases h:k < p.2.1.length
 ·left;have n1:nth di p.2.1 k=p.2.1[k]:=dj (t:=di) h;have hd:p.2.1.drop k=p.2.1[k]::p.2.1.drop (k+1):=aC h;have sS:=aX h;obtain⟨w,hw,hv,jd,hlen⟩:=hr.2 _ sS;rw[hw]at n1 hd sS;have hf:=(jo jd).1;refine⟨(t,rest.length+1,p.2.1,(p.2.1.length:Int),((k+1:Nat):Int),p,n,a,s,x,[],rest++ [al w]),⟨⟨hu,hr,hn,ha⟩,rfl,rfl,by simp,rfl,k+1,h,rfl,by rw[aj];show rest.length+1<=_;omega⟩,by simp only[aa];omega,?_,λkn kx=> ?_⟩
  ·simp only[mR,rv,aa,hd,aH,aM,dQ];rw[show rest.length+1+(bT (k+1) p.2.1).length=rest.length+((bT (k+1) p.2.1).length+1) from au]
  ·rw[HN,bm au,ak,bz au au,ak,aa,n1,QJ (d:=t) hu];simp only[ae,bF,GU];rw[Qm (d:=(w.2.1,dV t)) ⟨by show w.2.1.1.length<=_;omega,by have:=aAJ t;show(dV t).length<=_;omega⟩];simp only[ae,bF,YT,hn w sS,ao];rw[De (d:=(p.2.1,w.2.1)) ⟨hr.some,by show p.2.1.length<=_;omega,ha w sS⟩];simp only[ae,bF,Fc];rw[abx (d:=(t,rest.length,al w,p.2.1,(p.2.1.length:Int),(k:Int),p,n,a,s,x,[],lU p.2.1 w.2.1,lU p.2.1 w.2.1,rest)) rfl];simp only[ae,mS,rz];rw[show(cq di (al w) ([]:Mk)).getD aR=aR from rfl,fj,ak,bf (aF _),ak,eW au au,ak,N.pn au,cJ]
 ·right;obtain rfl:k=p.2.1.length:=au;intro T kn kx;rw[HN,bn au,ao];simp only[mR,rv,aa,aU,bO,bB,cW]
theorem afQ:Qh:=by
 refine L8 (λ_=>0) ?_
 rintro⟨rL,jG,least,p,n,a,s,x,g,row,gone⟩ rfl;right;refine⟨ye ((rL,jG,p,n,a,s,x,row),least),rfl,λkn kx=> ?_⟩;rw[WW,show decide (0 < ([]:Mk).length)=aR from rfl,ao]
theorem av5:av3:=by
 rintro⟨t,p,n,a,s⟩ hA k hk;obtain⟨hv,jd,hr,B1,aFL,aGS,⟨d,hd,aLo⟩,hg,axQ,aLq⟩:=hA;have hl:p.2.1.length<=90:=hr.1;have hm:(jj (yi p.2.1) 3 t []).isSome=aT:=by
  by_cases hm:(jj (yi p.2.1) 3 t []).isSome=aT
  ·exact hm
  ·unfold sP at hd;rw[if_neg hm]at hd;cases hd
 rw[av4,mY (d:=t) hv.1];simp only[ae,bF,o8,jd,cv,ao];rw[YN (d:=t) ⟨hv,jd⟩,GR (d:=t) hv,QK (d:=t) hv];simp only[ae,bF,RD,bF,VR,bF,GV];rw[avY (d:=(wI t,p,n,a,s)) ⟨hr.some,by show p.2.1.length<=_;omega⟩];simp only[ae,bF,ajw,B1,qX,ao];rw[abw (d:=(t,0,p.2.1,(p.2.1.length:Int),0,p,n,a,s,(t,(wI t,(0,(kq t,())))),[],[])) ⟨⟨hv.1,hr,aFL,aGS⟩,rfl,rfl,rfl,rfl,0,aP _,rfl,aP _⟩];simp only[ae,mR,rv,bt,aQ,ba,aV];rw[fa au,ao,bf ⟨trivial,aF _⟩,ak,fp rfl];rw[apV (d:=(p.2.1,t)) ⟨⟨hr.some,by show p.2.1.length<=_;omega,fb⟩,by rw[hd];rfl⟩];simp only[ae,yG,AA,SD (show 3<=10 by decide) hd,dB];rw[dx au,ao,ajq (d:=(p.2.1,t,p,n,a,s)) ⟨hr,hm,hv,hg⟩];simp only[ae,bF,Um,axQ];rw[eJ rfl,ao,aby (d:=(p.2.1.length,(Eg p.1 p.2.1 t n a s).1,kq t,p,n,a,s,(t,(wI t,((Eg p.1 p.2.1 t n a s).1,(kq t,())))),[],p.2.1,[])) rfl];simp only[ae,te,zz,e7,ao,dT];rw[bn au,ao];obtain⟨b,hb⟩:=NF (p.2.1.flatMap (ij di));refine aag ⟨b,λhm=>absurd (hb b hm) (gC b)⟩ λy hy=> ?_
 rw[bf (aF _),ak,bf trivial,ak,eW au au,ak,cJ];have e1:(p.2.1++ [(al (y,(t,(wI t,((Eg p.1 p.2.1 t n a s).1,(kq t,()))))):eC)]).length=p.2.1.length+1:=by rw[aj];rfl
 rw[fp e1,e1,bf ⟨trivial,au⟩,ak];exact hk _ ⟨y,hy,rfl⟩
def amo:=Entry.WJ [aJ,al fg] UG Oa Cd Jq nB
def Ob:LZ->abz->Prop:=aGr amo UG
theorem YO:ax0 Ob Oa Cd Jq:=aGp (aeQ [.d fg,.d (.pair ti (.pair (.slice di) .unit)),.n,.d (.slice (.pair bP eR)),.d (.slice cD)] λ_=>cT)
def av6:SG Tryz.prog:=⟨21,qD,amo,.aK0 (.fn 3 cT av5 (And.intro (.gQ afO cT) (And.intro (.gQ afP cT) (And.intro (.gQ afQ cT) trivial)))) (by rfl)⟩
abbrev UN:=Int×(List cC)×Nat×(Int×((List eC)×Unit))×Nat×(List (cC×eU))×(List cZ)×(List (eC×Bool))×(List dS)
abbrev UO:=Int×(List cC)×Nat×(List eC)×Int×Int×(Int×((List eC)×Unit))×Nat×(List (cC×eU))×(List cZ)×(eC×((List eC)×(Int×(Int×Unit))))×(List (eC×Bool))×(List dS)
abbrev Js:=Int×(List cC)×Nat×eC×Bool×(List eC)×Int×Int×(List eC)×Int×Int×(Int×((List eC)×Unit))×Nat×(List (cC×eU))×(List cZ)×(eC×((List eC)×(Int×(Int×Unit))))×eC×Nat×(Int×(Int×Unit))×(List (eC×Bool))×(List (eC×Bool))×(List eC)×(List dS)
abbrev UP:=Bool×Nat×(Int×(Int×Unit))×(List eC)
def pL:Js->UP->((Int×(List cC)×Nat×(List eC)×Int×Int×(Int×((List eC)×Unit))×Nat×(List (cC×eU))×(List cZ)×(eC×((List eC)×(Int×(Int×Unit))))×eC×(List (eC×Bool))×(List dS))×(Bool×Nat×(Int×(Int×Unit))×(List eC))):=λ(wm,zX,v8,x,fits,D0,D1,D3,t46,t47,t48,xN,nN,qs,xO,uc,n13,ni,mi,B5,n40,aps,v7) y=>((wm,zX,v8,D0,D1,D3,xN,nN,qs,xO,uc,n13,B5,v7),y)
abbrev Jt:=Int×(List cC)×Nat×(List eC)×Int×Int×(Int×((List eC)×Unit))×Nat×(List (cC×eU))×(List cZ)×(eC×((List eC)×(Int×(Int×Unit))))×(List (eC×Bool))×(List dS)
abbrev UQ:=Nat×(List (eC×Bool))×(List dS)
def yg:Jt->UQ->((Int×(List cC)×(Int×((List eC)×Unit))×Nat×(List (cC×eU))×(List cZ)×(eC×((List eC)×(Int×(Int×Unit)))))×(Nat×(List (eC×Bool))×(List dS))):=λ(Jz,RQ,Dd,t123,t124,t125,ajd,Ud,ajf,ajg,Jh,Yx,Jf) y=>((Jz,RQ,ajd,Ud,ajf,ajg,Jh),y)
abbrev amw:=Int×(List cC)×(Int×((List eC)×Unit))×Nat×(List (cC×eU))×(List cZ)
abbrev Bt:=Bool×Nat×(Int×(Int×Unit))×(List eC)
def am2(l:List eC):Prop:=∀y∈l,∃w,y=al w/\arH w
def Ee(bar:List cC)(pk mk:Mk)(x:eC)(S:Bt)(y:eC):Bt:=
 if iQ pk y=aT then S else if Ty.beq di y x=aR/\iQ mk y=aR then S else match y with
 |none=>S
 |some w=>(S.1 && !jl w.2.1 bar,S.2.1+1,(bV .i64 S.2.2.1.1 w.2.2.2.1,(bV .i64 S.2.2.1.2.1 w.2.2.2.2.1,S.2.2.1.2.2)),S.2.2.2++ [y])
def mH(bar:List cC)(row:List eC)(pk:Mk)(w:Nat×yJ):Bt:=row.foldl (Ee bar pk (lU row w.2.1) (al w)) (aT,0,(0,(0,())),[])
def z6(room:Int)(bar:List cC)(row:List eC)(pk:Mk)(B:axZ)(x:eC):axZ:=
 if iQ pk x=aT then B else match x with
 |none=>B
 |some w=>if(mH bar row pk w).1=aT then(if(mH bar row pk w).2.2.1.2.1<=room then(if B.1.isNone=aT then(al w,((mH bar row pk w).2.2.2,(mH bar row pk w).2.2.1)) else
   if X2 (al w,((mH bar row pk w).2.2.2,(mH bar row pk w).2.2.1)) B=aT then(al w,((mH bar row pk w).2.2.2,(mH bar row pk w).2.2.1)) else B) else B) else B
def iX(room:Int)(bar:List cC)(row:List eC)(pk:Mk):axZ:=row.foldl (z6 room bar row pk) (aJ,([],(0,(0,()))))
def VH(S:Nat×Mk×List dS)(x:eC):Nat×Mk×List dS:=match x with | none=>S | some w=>(S.1+1,ff di (al w) aT S.2.1,S.2.2++ [w.2.1])
def zJ(l:List eC)(pk:Mk)(out:List dS):Nat×Mk×List dS:=l.foldl VH (out.length,pk,out)
def jI(bar:List cC)(row:List eC):Nat->Int->Mk->List dS->Option (List dS)
 | 0,_,_,_=>aJ
 |f+1,room,pk,out=>match(iX room bar row pk).1 with
  |none=>al out
  |some _=>jI bar row f (dM .i64 room (iX room bar row pk).2.2.2.1) (zJ (iX room bar row pk).2.1 pk out).2.1 (zJ (iX room bar row pk).2.1 pk out).2.2
def Fi(bar:List cC)(row:List eC):Nat->Int->Mk->List dS->Nat
 | 0,_,_,_=>0
 |f+1,room,pk,out=>match(iX room bar row pk).1 with
  |none=>0
  |some _=>Fi bar row f (dM .i64 room (iX room bar row pk).2.2.2.1) (zJ (iX room bar row pk).2.1 pk out).2.1 (zJ (iX room bar row pk).2.1 pk out).2.2+1
theorem LU{bar:List cC}{row:List eC}:∀ {f:Nat} {room:Int} {pk:Mk} {out r:List dS},jI bar row f room pk out=al r->jI bar row (f+1) room pk out=al r/\Fi bar row (f+1) room pk out=Fi bar row f room pk out
 | 0,_,_,_,_,h=>by cases h
 |f+1,room,pk,out,r,h=>by
  rw[jI]at h;rw[jI,Fi]
  conv=>rhs;rhs;rw[Fi]
  cases hb:(iX room bar row pk).1 with
  |none=>rw[hb]at h;exact⟨h,rfl⟩
  |some w=>
   rw[hb]at h;have:=LU h;exact⟨this.1,by simp only[this.2]⟩
theorem afK{bar:List cC}{row:List eC}{f g:Nat}{room:Int}{pk:Mk}{out r:List dS}(hk:f<=g)(h:jI bar row f room pk out=al r):jI bar row g room pk out=al r/\Fi bar row g room pk out=Fi bar row f room pk out:=by
 induction hk with
 |refl=>exact⟨h,rfl⟩
 |step _ ih=>exact⟨(LU ih.1).1,(LU ih.1).2.trans ih.2⟩
theorem aBf{bar:List cC}{pk mk:Mk}{x:eC}:∀(l:List eC) (S:Bt),am2 S.2.2.2->am2 l->S.2.1=S.2.2.2.length->
  (l.foldl (Ee bar pk mk x) S).2.1=(l.foldl (Ee bar pk mk x) S).2.2.2.length/\(l.foldl (Ee bar pk mk x) S).2.2.2.length<=S.2.2.2.length+l.length/\am2 (l.foldl (Ee bar pk mk x) S).2.2.2
 |[],S,h1,_,h3=>⟨h3,aF _,h1⟩
 |y::l,S,h1,h2,h3=>by
  have hl:am2 l:=λz hz=>h2 z (aK _ hz)
  obtain⟨w,rfl,hw⟩:=h2 y aL;have key:(Ee bar pk mk x S (al w)).2.1=(Ee bar pk mk x S (al w)).2.2.2.length/\(Ee bar pk mk x S (al w)).2.2.2.length<=S.2.2.2.length+1/\am2 (Ee bar pk mk x S (al w)).2.2.2:=by
   unfold Ee;split
   ·exact⟨h3,au,h1⟩
   split
   ·exact⟨h3,au,h1⟩
   refine⟨by show S.2.1+1=_;rw[aj,h3];rfl,by show(S.2.2.2++ [al w]).length<=_;rw[aj];exact aF _,λz hz=> ?_⟩;rcases bD.1 hz with hz | hz
   ·exact h1 z hz
   ·rw[bq.1 hz];exact⟨w,rfl,hw⟩
  have:=aBf (bar:=bar) (pk:=pk) (mk:=mk) (x:=x) l _ key.2.2 hl key.1;rw[aY,aH];exact⟨this.1,au,this.2.2⟩
theorem ast{bar:List cC}{row:List eC}{pk:Mk}{w:Nat×yJ}(h:El row):(mH bar row pk w).2.1=(mH bar row pk w).2.2.2.length/\El (mH bar row pk w).2.2.2:=by have:=aBf (bar:=bar) (pk:=pk) (mk:=lU row w.2.1) (x:=al w) row (aT,0,(0,(0,())),[]) (λy hy=>by cases hy) h.2 rfl;have h0:=h.1;exact⟨this.1,by have:=this.2.1;show(mH bar row pk w).2.2.2.length<=90;unfold mH;simp only[bB]at this;omega,this.2.2⟩
def ahk(B:axZ):Prop:=(B.1=aJ\/∃w,B.1=al w/\w.2.2.1.length=32)/\El B.2.1
theorem ak1{room:Int}{bar:List cC}{row:List eC}{pk:Mk}{B:axZ}{x:eC}(h:El row)(hx:x∈row)(hB:ahk B):ahk (z6 room bar row pk B x):=by
 obtain⟨w,rfl,hw⟩:=h.2 x hx;have hn:ahk (al w,((mH bar row pk w).2.2.2,(mH bar row pk w).2.2.1)):=⟨.inr ⟨w,rfl,hw.2.2⟩,(ast h).2⟩;unfold z6;split
 ·exact hB
 ·simp only;split
  ·split
   ·split
    ·exact hn
    ·split
     ·exact hn
     ·exact hB
   ·exact hB
  ·exact hB
theorem ar0{room:Int}{bar:List cC}{row:List eC}{pk:Mk}(h:El row):∀(l:List eC) (B:axZ),(∀x∈l,x∈row)->ahk B->ahk (l.foldl (z6 room bar row pk) B)
 |[],B,_,hB=>hB
 |x::l,B,hl,hB=>ar0 h l _ (λy hy=>hl y (aK _ hy)) (ak1 h (hl x aL) hB)
theorem ayd{room:Int}{bar:List cC}{row:List eC}{pk:Mk}(h:El row):ahk (iX room bar row pk):=ar0 h row _ (λx hx=>hx) ⟨.inl rfl,aP _,λx hx=>by cases hx⟩
theorem axh:∀(l:List eC) (S:Nat×Mk×List dS),am2 l->S.1=S.2.2.length->(l.foldl VH S).1=(l.foldl VH S).2.2.length/\(l.foldl VH S).2.2.length=S.2.2.length+l.length
 |[],S,_,h=>⟨h,rfl⟩
 |y::l,S,h2,h=>by obtain⟨w,rfl,hw⟩:=h2 y aL;have:=axh l (VH S (al w)) (λz hz=>h2 z (aK _ hz)) (by show S.1+1=(S.2.2++ [w.2.1]).length;rw[aj,h];rfl);rw[aY,aH];refine⟨this.1,?_⟩;rw[this.2];show(S.2.2++ [w.2.1]).length+l.length=_;rw[aj];show S.2.2.length+1+l.length=_;omega
def Xx(bar:List cC)(row:List eC):Prop:=El row/\bar.length<=1000/\∀w,al w∈row->(jj (yi row) 3 w.2.1 []).isSome=aT
def abH:Js->Prop:=λ(_,bar,_,_,_,_,_,_,l,n,i,_,_,_,_,_,_,bL,_,_,_,all,_)=>(El l/\bar.length<=1000)/\n=(l.length:Int)/\∃k:Nat,k<=l.length/\i=k/\bL=all.length/\all.length<=k
def uf:Js->UP:=λ(_,bar,_,x,fits,_,_,_,l,_,i,_,_,_,_,_,_,bL,fw,pk,mk,all,_)=>(l.drop i.toNat).foldl (Ee bar pk mk x) (fits,bL,fw,all)
def abJ:Jt->Prop:=λ(_,_,oL,l,n,i,_,_,_,_,_,_,out)=>El l/\n=(l.length:Int)/\∃k:Nat,k<=l.length/\i=k/\oL=out.length/\out.length<=100000+k
def Dl:Jt->UQ:=λ(_,_,oL,l,_,i,_,_,_,_,_,pk,out)=>(l.drop i.toNat).foldl VH (oL,pk,out)
def abF:UO->Prop:=λ(_,bar,_,l,n,i,p,_,_,_,B,_,_)=>Xx bar p.2.1/\l=p.2.1/\n=(l.length:Int)/\(∃k:Nat,k<=l.length/\i=k)/\ahk B
def Dk:UO->(Int×(List cC)×Nat×(Int×((List eC)×Unit))×Nat×(List (cC×eU))×(List cZ)×(eC×((List eC)×(Int×(Int×Unit))))×(List (eC×Bool))×(List dS)):=λ(room,bar,oL,l,_,i,p,c,a,s,B,pk,out)=>(room,bar,oL,p,c,a,s,(l.drop i.toNat).foldl (z6 room bar p.2.1 pk) B,pk,out)
def abD:UN->Prop:=λ(room,bar,oL,p,_,_,_,pk,out)=>Xx bar p.2.1/\oL=out.length/\∃f:Nat,f<=100/\(jI bar p.2.1 f room pk out).isSome=aT/\out.length+90*f<=100000
def Jr:UN->(Nat×(Int×((List eC)×Unit))×Nat×(List (cC×eU))×(List cZ)×(List dS)):=λ(room,bar,_,p,c,a,s,pk,out)=>(((jI bar p.2.1 100 room pk out).getD []).length,p,c,a,s,(jI bar p.2.1 100 room pk out).getD [])
def aqa:amw->Prop:=λ(room,bar,p,_)=>Xx bar p.2.1/\(jI bar p.2.1 100 room [] []).isSome=aT
def amx:amw->(Nat×(Int×((List eC)×Unit))×Nat×(List (cC×eU))×(List cZ)×(List dS)):=λ(room,bar,p,n,a,s)=>(((jI bar p.2.1 100 room [] []).getD []).length,p,n,a,s,(jI bar p.2.1 100 room [] []).getD [])
def th:Ls abD bF Jr:=xM (λ(abS,akW,outL,o0,o1L,dm,oM,n19,n138)=>⟨([.ptr (.bG 0) 0 [] 0,.d ti abS,.d (.slice bP) akW]++bg 4 ([.cP (.new 19 0) 0,nR 138 outL]++bg 135 [])),[dH (.pr (.ptr (.bG 1) 0 [] 0) (.d (.pair ti (.pair (.slice di) .unit)) o0)),dH (.pr (.cP (.bG 2) 0) (.pr (.b8 (.bG 3) 0 [] 0 0 o1L) kO)),dH (.mp bP eR dm),dH (.vec 139 cD oM)],(bK 19 ([dK (.mp di .bool n19)]++bK 118 ([dK (.vec 56 fg n138)]++bK 5 [])))⟩) (λx=>(.ret,⟨(bg 6 ([nR 138 x.1]++bg 137 [])),[dH (.pr (.ptr (.bG 1) 0 [] 0) (.d (.pair ti (.pair (.slice di) .unit)) x.2.1)),dH (.pr (.cP (.bG 2) 0) (.pr (.b8 (.bG 3) 0 [] 0 0 x.2.2.1) kO)),dH (.mp bP eR x.2.2.2.1),dH (.vec 139 cD x.2.2.2.2.1)],(bK 138 ([dK (.vec 56 fg x.2.2.2.2.2)]++bK 5 []))⟩))
def lj:Ls abF bF Dk:=xM (λ(Ow,XE,N5,t23,t24,t25,qc,wH,ko,G6,n9,zk,N3)=>⟨([.ptr (.bG 0) 0 [] 0,.d ti Ow,.d (.slice bP) XE]++bg 4 ([.cP (.new 19 0) 0,nR 138 N5,fI 9]++bg 13 ([.d (.slice di) t23,.d ti t24,.d ti t25]++bg 118 []))),[dH (.pr (.ptr (.bG 1) 0 [] 0) (.d (.pair ti (.pair (.slice di) .unit)) qc)),dH (.pr (.cP (.bG 2) 0) (.pr (.b8 (.bG 3) 0 [] 0 0 wH) kO)),dH (.mp bP eR ko),dH (.vec 139 cD G6)],(bK 9 ([dK (.d (.pair di (.pair (.slice di) (.pair ti (.pair ti .unit)))) n9)]++bK 9 ([dK (.mp di .bool zk)]++bK 118 ([dK (.vec 56 fg N3)]++bK 5 []))))⟩) (λx=>(.exit 2,⟨([.ptr (.bG 0) 0 [] 0,.d ti x.1,.d (.slice bP) x.2.1]++bg 4 ([.cP (.new 19 0) 0,nR 138 x.2.2.1,fI 9]++bg 134 [])),[dH (.pr (.ptr (.bG 1) 0 [] 0) (.d (.pair ti (.pair (.slice di) .unit)) x.2.2.2.1)),dH (.pr (.cP (.bG 2) 0) (.pr (.b8 (.bG 3) 0 [] 0 0 x.2.2.2.2.1) kO)),dH (.mp bP eR x.2.2.2.2.2.1),dH (.vec 139 cD x.2.2.2.2.2.2.1)],(bK 9 ([dK (.d (.pair di (.pair (.slice di) (.pair ti (.pair ti .unit)))) x.2.2.2.2.2.2.2.1)]++bK 9 ([dK (.mp di .bool x.2.2.2.2.2.2.2.2.1)]++bK 118 ([dK (.vec 56 fg x.2.2.2.2.2.2.2.2.2)]++bK 5 []))))⟩))
def lk:Ls abH pL uf:=xM (λ(wm,zX,v8,x,fits,D0,D1,D3,t46,t47,t48,xN,nN,qs,xO,uc,n13,ni,mi,B5,n40,aps,v7)=>⟨([.ptr (.bG 0) 0 [] 0,.d ti wm,.d (.slice bP) zX]++bg 4 ([.cP (.new 19 0) 0,nR 138 v8,fI 9,cw,.d di x,.cP (.new 40 0) 0,fI 13,.d .bool fits]++bg 8 ([.d (.slice di) D0,.d ti D1,.d ti D3]++bg 20 ([.d (.slice di) t46,.d ti t47,.d ti t48]++bg 95 [])))),[dH (.pr (.ptr (.bG 1) 0 [] 0) (.d (.pair ti (.pair (.slice di) .unit)) xN)),dH (.pr (.cP (.bG 2) 0) (.pr (.b8 (.bG 3) 0 [] 0 0 nN) kO)),dH (.mp bP eR qs),dH (.vec 139 cD xO)],(bK 9 ([dK (.d (.pair di (.pair (.slice di) (.pair ti (.pair ti .unit)))) uc),[],[],[],dK (.pr (.d di n13) (.pr (nR 70 ni) (.d (.pair ti (.pair ti .unit)) mi)))]++bK 5 ([dK (.mp di .bool B5)]++bK 20 ([dK (.mp di .bool n40)]++bK 29 ([dK (.vec 104 di aps)]++bK 67 ([dK (.vec 56 fg v7)]++bK 5 []))))))⟩) (λx=>(.exit 4,⟨([.ptr (.bG 0) 0 [] 0,.d ti x.1.1,.d (.slice bP) x.1.2.1]++bg 4 ([.cP (.new 19 0) 0,nR 138 x.1.2.2.1,fI 9,cw,cw,cw,fI 13,.d .bool x.2.1]++bg 8 ([.d (.slice di) x.1.2.2.2.1,.d ti x.1.2.2.2.2.1,.d ti x.1.2.2.2.2.2.1]++bg 118 []))),[dH (.pr (.ptr (.bG 1) 0 [] 0) (.d (.pair ti (.pair (.slice di) .unit)) x.1.2.2.2.2.2.2.1)),dH (.pr (.cP (.bG 2) 0) (.pr (.b8 (.bG 3) 0 [] 0 0 x.1.2.2.2.2.2.2.2.1) kO)),dH (.mp bP eR x.1.2.2.2.2.2.2.2.2.1),dH (.vec 139 cD x.1.2.2.2.2.2.2.2.2.2.1)],(bK 9 ([dK (.d (.pair di (.pair (.slice di) (.pair ti (.pair ti .unit)))) x.1.2.2.2.2.2.2.2.2.2.2.1),[],[],[],dK (.pr (.d di x.1.2.2.2.2.2.2.2.2.2.2.2.1) (.pr (nR 70 x.2.2.1) (.d (.pair ti (.pair ti .unit)) x.2.2.2.1)))]++bK 5 ([dK (.mp di .bool x.1.2.2.2.2.2.2.2.2.2.2.2.2.1)]++bK 50 ([dK (.vec 104 di x.2.2.2.2)]++bK 67 ([dK (.vec 56 fg x.1.2.2.2.2.2.2.2.2.2.2.2.2.2)]++bK 5 [])))))⟩))
def tj:Ls abJ yg Dl:=xM (λ(Jz,RQ,Dd,t123,t124,t125,ajd,Ud,ajf,ajg,Jh,Yx,Jf)=>⟨([.ptr (.bG 0) 0 [] 0,.d ti Jz,.d (.slice bP) RQ]++bg 4 ([.cP (.new 19 0) 0,nR 138 Dd,fI 9]++bg 113 ([.d (.slice di) t123,.d ti t124,.d ti t125]++bg 18 []))),[dH (.pr (.ptr (.bG 1) 0 [] 0) (.d (.pair ti (.pair (.slice di) .unit)) ajd)),dH (.pr (.cP (.bG 2) 0) (.pr (.b8 (.bG 3) 0 [] 0 0 Ud) kO)),dH (.mp bP eR ajf),dH (.vec 139 cD ajg)],(bK 9 ([dK (.d (.pair di (.pair (.slice di) (.pair ti (.pair ti .unit)))) Jh)]++bK 9 ([dK (.mp di .bool Yx)]++bK 118 ([dK (.vec 56 fg Jf)]++bK 5 []))))⟩) (λx=>(.exit 6,⟨([.ptr (.bG 0) 0 [] 0,.d ti x.1.1,.d (.slice bP) x.1.2.1]++bg 4 ([.cP (.new 19 0) 0,nR 138 x.2.1,fI 9]++bg 134 [])),[dH (.pr (.ptr (.bG 1) 0 [] 0) (.d (.pair ti (.pair (.slice di) .unit)) x.1.2.2.1)),dH (.pr (.cP (.bG 2) 0) (.pr (.b8 (.bG 3) 0 [] 0 0 x.1.2.2.2.1) kO)),dH (.mp bP eR x.1.2.2.2.2.1),dH (.vec 139 cD x.1.2.2.2.2.2.1)],(bK 9 ([dK (.d (.pair di (.pair (.slice di) (.pair ti (.pair ti .unit)))) x.1.2.2.2.2.2.2)]++bK 9 ([dK (.mp di .bool x.2.2.1)]++bK 118 ([dK (.vec 56 fg x.2.2.2)]++bK 5 []))))⟩))
def tg:Fs Tryz.prog aqa bF amx:=gg 53 Tryz.f53 (λ(room,bar,o0b,o1baL,o2,o3)=>([.ptr (.bG 0) 0 [] 0,.d ti room,.d (.slice bP) bar],[.obj 0 aR (.pr (.ptr (.bG 1) 0 [] 0) (.d (.pair ti (.pair (.slice di) .unit)) o0b)),.obj 0 aR (.pr (.cP (.bG 2) 0) (.pr (.b8 (.bG 3) 0 [] 0 0 o1baL) (.d .unit ()))),.obj 0 aR (.mp bP eR o2),.obj 0 aR (.vec 139 cD o3)])) (λx=>⟨.b8 (.new 0 0) 0 [] 0 0 x.1,[.obj 0 aR (.pr (.ptr (.bG 1) 0 [] 0) (.d (.pair ti (.pair (.slice di) .unit)) x.2.1)),.obj 0 aR (.pr (.cP (.bG 2) 0) (.pr (.b8 (.bG 3) 0 [] 0 0 x.2.2.1) (.d .unit ()))),.obj 0 aR (.mp bP eR x.2.2.2.1),.obj 0 aR (.vec 139 cD x.2.2.2.2.1)],[.obj 0 aR (.vec 56 fg x.2.2.2.2.2)]⟩) [aJ,al ti,al (.slice bP)] [B9,US,avM,afN] {loops:=sk [(3,{bu:=[0,1,2,7,8],sites:=[19,138],owns:=[⟨8,[],138,25⟩]}),(5,{bu:=[0,1,2,7,8,9,23,24,25],sites:=[9,19,138],KM:=[⟨9,[.arr],(.pair di (.pair (.slice di) (.pair ti (.pair ti .unit))))⟩]}),(11,{bu:=[0,1,2,7,8,9,11,12,13,14,23,24,25,46,47,48],sites:=[9,13,19,40,70,138],owns:=[⟨13,[.snd,.fst],70,96⟩]}),(25,{bu:=[0,1,2,7,8,9,123,124,125],sites:=[9,19,138],owns:=[⟨8,[],138,25⟩]})],outs:=sj [(3,{bu:=[6]},{bu:=[6],sites:=[138]}),(5,{bu:=[0,1,2,6,7,8,9],sites:=[9,19,138]},{bu:=[6]}),(11,{bu:=[0,1,2,6,7,8,9,13,14,23,24,25],sites:=[9,13,19,70,138]},{bu:=[6]}),(25,{bu:=[0,1,2,6,7,8,9],sites:=[9,19,138]},{bu:=[6]})],gV:=tK [(3,th.E),(5,lj.E),(11,lk.E),(25,tj.E)]}
theorem abE:th.RS:=rL [.d ti,.d (.slice bP),.n,.d (.pair ti (.pair (.slice di) .unit)),.n,.d (.slice (.pair bP eR)),.d (.slice cD),.d (.slice (.pair di .bool)),.d (.slice fg)] th
theorem HQ(abS akW outL o0 o1L dm oM n19 n138)(kn:K2 R)(kx:K3 R):tg.R 0 th (abS,akW,outL,o0,o1L,dm,oM,n19,n138) kn kx=aq (lj.call (abS,akW,outL,o0.2.1,(o0.2.1.length:Int),0,o0,o1L,dm,oM,(aJ,(([]:List eC),(0,(0,())))),n19,n138)) λx1=>aS (Option.isNone x1.2.2.2.2.2.2.2.1.1) (th.go kx (x1.2.2.1,x1.2.2.2.1,x1.2.2.2.2.1,x1.2.2.2.2.2.1,x1.2.2.2.2.2.2.1,x1.2.2.2.2.2.2.2.2.2)) (aq (tj.call (x1.1,x1.2.1,x1.2.2.1,x1.2.2.2.2.2.2.2.1.2.1,(x1.2.2.2.2.2.2.2.1.2.1.length:Int),0,x1.2.2.2.1,x1.2.2.2.2.1,x1.2.2.2.2.2.1,x1.2.2.2.2.2.2.1,x1.2.2.2.2.2.2.2.1,x1.2.2.2.2.2.2.2.2.1,x1.2.2.2.2.2.2.2.2.2)) λx2=>kn (th.st ((dM .i64 x2.1.1 x2.1.2.2.2.2.2.2.2.2.2.1),x2.1.2.1,x2.2.1,x2.1.2.2.1,x2.1.2.2.2.1,x2.1.2.2.2.2.1,x2.1.2.2.2.2.2.1,x2.2.2.1,x2.2.2.2))):=cT
theorem abG:lj.RS:=rL [.d ti,.d (.slice bP),.n,.d (.slice di),.d ti,.d ti,.d (.pair ti (.pair (.slice di) .unit)),.n,.d (.slice (.pair bP eR)),.d (.slice cD),.d (.pair di (.pair (.slice di) (.pair ti (.pair ti .unit)))),.d (.slice (.pair di .bool)),.d (.slice fg)] lj
theorem HR(Ow XE N5 t23 t24 t25 qc wH ko G6 n9 zk N3)(kn:K2 R)(kx:K3 R):tg.R 1 lj (Ow,XE,N5,t23,t24,t25,qc,wH,ko,G6,n9,zk,N3) kn kx=aS (iE t25 t24) (aS (gU t25 (t23.length:Int)) (aS ((cq di (nth di t23 (ab t25)) zk).getD aR) (kn (lj.st (Ow,XE,N5,t23,t24,(bV .i64 t25 1),qc,wH,ko,G6,n9,zk,N3))) (aq ((nth di t23 (ab t25))) λx1=>aq (s9.call (qc.2.1,x1.2.1)) λx2=>aq (lk.call (Ow,XE,N5,(nth di t23 (ab t25)),aT,t23,t24,t25,qc.2.1,(qc.2.1.length:Int),0,qc,wH,ko,G6,n9,(nth di t23 (ab t25)),0,(0,(0,())),zk,x2,([]:List eC),N3)) λx3=>aS (x3.2.1) (aS (ahg x3.2.2.2.1.2.1 x3.1.1) (aS (Option.isNone x3.1.2.2.2.2.2.2.2.2.2.2.1.1) (aS (decide (0=0/\(0+x3.2.2.1)<=(ag x3.2.2.2.2))) (kn (lj.st (x3.1.1,x3.1.2.1,x3.1.2.2.1,x3.1.2.2.2.1,x3.1.2.2.2.2.1,(bV .i64 x3.1.2.2.2.2.2.1 1),x3.1.2.2.2.2.2.2.1,x3.1.2.2.2.2.2.2.2.1,x3.1.2.2.2.2.2.2.2.2.1,x3.1.2.2.2.2.2.2.2.2.2.1,(x3.1.2.2.2.2.2.2.2.2.2.2.2.1,((cut x3.2.2.2.2 0 x3.2.2.1),x3.2.2.2.1)),x3.1.2.2.2.2.2.2.2.2.2.2.2.2.1,x3.1.2.2.2.2.2.2.2.2.2.2.2.2.2))) aJ) (aS (decide (0=0/\(0+x3.2.2.1)<=(ag x3.2.2.2.2))) (aq (LO.call ((x3.1.2.2.2.2.2.2.2.2.2.2.2.1,((cut x3.2.2.2.2 0 x3.2.2.1),x3.2.2.2.1)),x3.1.2.2.2.2.2.2.2.2.2.2.1)) λx4=>aS (x4) (aS (decide (0=0/\(0+x3.2.2.1)<=(ag x3.2.2.2.2))) (kn (lj.st (x3.1.1,x3.1.2.1,x3.1.2.2.1,x3.1.2.2.2.1,x3.1.2.2.2.2.1,(bV .i64 x3.1.2.2.2.2.2.1 1),x3.1.2.2.2.2.2.2.1,x3.1.2.2.2.2.2.2.2.1,x3.1.2.2.2.2.2.2.2.2.1,x3.1.2.2.2.2.2.2.2.2.2.1,(x3.1.2.2.2.2.2.2.2.2.2.2.2.1,((cut x3.2.2.2.2 0 x3.2.2.1),x3.2.2.2.1)),x3.1.2.2.2.2.2.2.2.2.2.2.2.2.1,x3.1.2.2.2.2.2.2.2.2.2.2.2.2.2))) aJ) (kn (lj.st (x3.1.1,x3.1.2.1,x3.1.2.2.1,x3.1.2.2.2.1,x3.1.2.2.2.2.1,(bV .i64 x3.1.2.2.2.2.2.1 1),x3.1.2.2.2.2.2.2.1,x3.1.2.2.2.2.2.2.2.1,x3.1.2.2.2.2.2.2.2.2.1,x3.1.2.2.2.2.2.2.2.2.2.1,x3.1.2.2.2.2.2.2.2.2.2.2.1,x3.1.2.2.2.2.2.2.2.2.2.2.2.2.1,x3.1.2.2.2.2.2.2.2.2.2.2.2.2.2)))) aJ)) (kn (lj.st (x3.1.1,x3.1.2.1,x3.1.2.2.1,x3.1.2.2.2.1,x3.1.2.2.2.2.1,(bV .i64 x3.1.2.2.2.2.2.1 1),x3.1.2.2.2.2.2.2.1,x3.1.2.2.2.2.2.2.2.1,x3.1.2.2.2.2.2.2.2.2.1,x3.1.2.2.2.2.2.2.2.2.2.1,x3.1.2.2.2.2.2.2.2.2.2.2.1,x3.1.2.2.2.2.2.2.2.2.2.2.2.2.1,x3.1.2.2.2.2.2.2.2.2.2.2.2.2.2)))) (kn (lj.st (x3.1.1,x3.1.2.1,x3.1.2.2.1,x3.1.2.2.2.1,x3.1.2.2.2.2.1,(bV .i64 x3.1.2.2.2.2.2.1 1),x3.1.2.2.2.2.2.2.1,x3.1.2.2.2.2.2.2.2.1,x3.1.2.2.2.2.2.2.2.2.1,x3.1.2.2.2.2.2.2.2.2.2.1,x3.1.2.2.2.2.2.2.2.2.2.2.1,x3.1.2.2.2.2.2.2.2.2.2.2.2.2.1,x3.1.2.2.2.2.2.2.2.2.2.2.2.2.2))))) aJ) (lj.go kx (Ow,XE,N5,qc,wH,ko,G6,n9,zk,N3)):=cT
theorem abI:lk.RS:=rL [.d ti,.d (.slice bP),.n,.d di,.d .bool,.d (.slice di),.d ti,.d ti,.d (.slice di),.d ti,.d ti,.d (.pair ti (.pair (.slice di) .unit)),.n,.d (.slice (.pair bP eR)),.d (.slice cD),.d (.pair di (.pair (.slice di) (.pair ti (.pair ti .unit)))),.d di,.n,.d (.pair ti (.pair ti .unit)),.d (.slice (.pair di .bool)),.d (.slice (.pair di .bool)),.d (.slice di),.d (.slice fg)] lk
theorem uS(wm zX v8 x fits D0 D1 D3 t46 t47 t48 xN nN qs xO uc n13 ni mi B5 n40 aps v7)(kn:K2 R)(kx:K3 R):tg.R 2 lk (wm,zX,v8,x,fits,D0,D1,D3,t46,t47,t48,xN,nN,qs,xO,uc,n13,ni,mi,B5,n40,aps,v7) kn kx=aS (iE t48 t47) (aS (gU t48 (t46.length:Int)) (aS ((cq di (nth di t46 (ab t48)) B5).getD aR) (kn (lk.st (wm,zX,v8,x,fits,D0,D1,D3,t46,t47,(bV .i64 t48 1),xN,nN,qs,xO,uc,n13,ni,mi,B5,n40,aps,v7))) (aS (!(Ty.beq di (nth di t46 (ab t48)) x)) (aS (!((cq di (nth di t46 (ab t48)) n40).getD aR)) (kn (lk.st (wm,zX,v8,x,fits,D0,D1,D3,t46,t47,(bV .i64 t48 1),xN,nN,qs,xO,uc,n13,ni,mi,B5,n40,aps,v7))) (aS (decide (ni<=(ag aps))) (aS (ea (ni+1) 8) (aq ((nth di t46 (ab t48))) λx1=>aq ((nth di t46 (ab t48))) λx2=>aS (fits) (aq ((nth di t46 (ab t48))) λx3=>aq (uU.call (x3.2.1,zX)) λx4=>kn (lk.st (wm,zX,v8,x,(!x4),D0,D1,D3,t46,t47,(bV .i64 t48 1),xN,nN,qs,xO,uc,n13,(ni+1),((bV .i64 mi.1 x1.2.2.2.1),((bV .i64 mi.2.1 x2.2.2.2.2.1),mi.2.2)),B5,n40,((bj ni aps)++ [(nth di t46 (ab t48))]),v7))) (kn (lk.st (wm,zX,v8,x,aR,D0,D1,D3,t46,t47,(bV .i64 t48 1),xN,nN,qs,xO,uc,n13,(ni+1),((bV .i64 mi.1 x1.2.2.2.1),((bV .i64 mi.2.1 x2.2.2.2.2.1),mi.2.2)),B5,n40,((bj ni aps)++ [(nth di t46 (ab t48))]),v7)))) aJ) aJ)) (aS (decide (ni<=(ag aps))) (aS (ea (ni+1) 8) (aq ((nth di t46 (ab t48))) λx5=>aq ((nth di t46 (ab t48))) λx6=>aS (fits) (aq ((nth di t46 (ab t48))) λx7=>aq (uU.call (x7.2.1,zX)) λx8=>kn (lk.st (wm,zX,v8,x,(!x8),D0,D1,D3,t46,t47,(bV .i64 t48 1),xN,nN,qs,xO,uc,n13,(ni+1),((bV .i64 mi.1 x5.2.2.2.1),((bV .i64 mi.2.1 x6.2.2.2.2.1),mi.2.2)),B5,n40,((bj ni aps)++ [(nth di t46 (ab t48))]),v7))) (kn (lk.st (wm,zX,v8,x,aR,D0,D1,D3,t46,t47,(bV .i64 t48 1),xN,nN,qs,xO,uc,n13,(ni+1),((bV .i64 mi.1 x5.2.2.2.1),((bV .i64 mi.2.1 x6.2.2.2.2.1),mi.2.2)),B5,n40,((bj ni aps)++ [(nth di t46 (ab t48))]),v7)))) aJ) aJ))) aJ) (lk.go kx ((wm,zX,v8,D0,D1,D3,xN,nN,qs,xO,uc,n13,B5,v7),(fits,ni,mi,aps))):=cT
theorem abK:tj.RS:=rL [.d ti,.d (.slice bP),.n,.d (.slice di),.d ti,.d ti,.d (.pair ti (.pair (.slice di) .unit)),.n,.d (.slice (.pair bP eR)),.d (.slice cD),.d (.pair di (.pair (.slice di) (.pair ti (.pair ti .unit)))),.d (.slice (.pair di .bool)),.d (.slice fg)] tj
theorem HS(Jz RQ Dd t123 t124 t125 ajd Ud ajf ajg Jh Yx Jf)(kn:K2 R)(kx:K3 R):tg.R 3 tj (Jz,RQ,Dd,t123,t124,t125,ajd,Ud,ajf,ajg,Jh,Yx,Jf) kn kx=aS (iE t125 t124) (aS (gU t125 (t123.length:Int)) (aq ((nth di t123 (ab t125))) λx1=>aq (Qe.call x1.2.1) λx2=>aS (decide (Dd<=(ag Jf))) (aS (ea (Dd+1) 56) (kn (tj.st (Jz,RQ,(Dd+1),t123,t124,(bV .i64 t125 1),ajd,Ud,ajf,ajg,Jh,(ff di (nth di t123 (ab t125)) aT Yx),((bj Dd Jf)++ [x2])))) aJ) aJ) aJ) (tj.go kx ((Jz,RQ,ajd,Ud,ajf,ajg,Jh),(Dd,Yx,Jf))):=cT
theorem awj(room bar o0b o1baL o2 o3)(k:K1 R):tg.A (room,bar,o0b,o1baL,o2,o3) k=aq (th.call (room,bar,0,o0b,o1baL,o2,o3,([]:List (eC×Bool)),([]:List dS))) λarD=>k (tg.out (arD.1,arD.2.1,arD.2.2.1,arD.2.2.2.1,arD.2.2.2.2.1,arD.2.2.2.2.2)):=cT
theorem afV:(tg.mw 2 lk):=by
 refine(tg.qz 2 lk) (λ(_,_,_,_,_,_,_,_,l,_,i,_)=>l.length - i.toNat) ?_
 rintro⟨room,bar,oL,x,fits,t23,t24,t25,l,n,i,p,c,a,s,B,x0,bL,fw,pk,mk,all,out⟩ ⟨⟨hr,G2⟩,rfl,k,hk,rfl,rfl,vy⟩;have hl:l.length<=90:=hr.1;have hk:k<=l.length:=hk;have vy:all.length<=k:=vy;have G2:bar.length<=1000:=G2;by_cases h:k < l.length
 ·left;have n1:nth di l k=l[k]:=dj (t:=di) h;have hd:l.drop k=l[k]::l.drop (k+1):=aC h;obtain⟨w,hw,hv,jd,hlen⟩:=hr.2 _ (aX h);rw[hw]at n1 hd;have hf:=(jo jd).1;cases hm:iQ pk (al w) with
  |true=>
   refine⟨(room,bar,oL,x,fits,t23,t24,t25,l,(l.length:Int),((k+1:Nat):Int),p,c,a,s,B,x0,all.length,fw,pk,mk,all,out),⟨⟨hr,G2⟩,rfl,k+1,h,rfl,rfl,by show all.length<=k+1;omega⟩,by simp only[aa];omega,?_,λkn kx=> ?_⟩
   ·simp only[pL,uf,aa,hd,aY];rw[show Ee bar pk mk x (fits,all.length,fw,all) (al w)=(fits,all.length,fw,all) from if_pos hm]
   ·rw[uS,bm au,ak,bz au au,ak,aa,n1,show(cq di (al w) pk).getD aR=aT from hm,ak,N.pn au]
  |false=>
   have hm':¬iQ pk (al w)=aT:=by rw[hm];decide
   by_cases hb:Ty.beq di (al w) x=aR/\iQ mk (al w)=aR
   ·refine⟨(room,bar,oL,x,fits,t23,t24,t25,l,(l.length:Int),((k+1:Nat):Int),p,c,a,s,B,x0,all.length,fw,pk,mk,all,out),⟨⟨hr,G2⟩,rfl,k+1,h,rfl,rfl,by show all.length<=k+1;omega⟩,by simp only[aa];omega,?_,λkn kx=> ?_⟩
    ·simp only[pL,uf,aa,hd,aY];rw[show Ee bar pk mk x (fits,all.length,fw,all) (al w)=(fits,all.length,fw,all) from(if_neg hm').trans (if_pos hb)]
    ·rw[uS,bm au,ak,bz au au,ak,aa,n1,show(cq di (al w) pk).getD aR=aR from hm,ao,hb.1,fj,ak,show(cq di (al w) mk).getD aR=aR from hb.2,fj,ak,N.pn au]
   ·refine⟨(room,bar,oL,x,fits && !jl w.2.1 bar,t23,t24,t25,l,(l.length:Int),((k+1:Nat):Int),p,c,a,s,B,x0,all.length+1,(bV .i64 fw.1 w.2.2.2.1,(bV .i64 fw.2.1 w.2.2.2.2.1,fw.2.2)),pk,mk,all++ [al w],out),⟨⟨hr,G2⟩,rfl,k+1,h,rfl,by rw[aj];rfl,by rw[aj];show all.length+1<=k+1;omega⟩,by simp only[aa];omega,?_,λkn kx=> ?_⟩
    ·simp only[pL,uf,aa,hd,aY];rw[show Ee bar pk mk x (fits,all.length,fw,all) (al w)=(fits && !jl w.2.1 bar,all.length+1,(bV .i64 fw.1 w.2.2.2.1,(bV .i64 fw.2.1 w.2.2.2.2.1,fw.2.2)),all++ [al w]) from(if_neg hm').trans (if_neg hb)]
    ·have aoM:uU.call (w.2.1,bar)=al (jl w.2.1 bar):=Qm (d:=(w.2.1,bar)) ⟨by show w.2.1.1.length<=_;omega,by show bar.length<=_;omega⟩;rw[uS,bm au,ak,bz au au,ak,aa,n1,show(cq di (al w) pk).getD aR=aR from hm,ao,bf (aF _),eW au au];simp only[ae,ak,aoM,cJ];cases hq:Ty.beq di (al w) x with
     |true=>
      rw[cv,ao];cases fits with
      |true=>rw[ak,cH,N.pn au]
      |false=>rw[ao,fJ,N.pn au]
     |false=>
      have at8:iQ mk (al w)=aT:=by
       cases hx:iQ mk (al w) with
       |true=>rfl
       |false=>exact absurd ⟨hq,hx⟩ hb
      rw[fj,ak,show(cq di (al w) mk).getD aR=aT from at8,cv,ao];cases fits with
      |true=>rw[ak,cH,N.pn au]
      |false=>rw[ao,fJ,N.pn au]
 ·right;obtain rfl:k=l.length:=au;intro T kn kx;rw[uS,bn au,ao];simp only[pL,uf,aa,aU,dd]
theorem afW:(tg.mw 3 tj):=by
 refine(tg.qz 3 tj) (λ(_,_,_,l,_,i,_)=>l.length - i.toNat) ?_
 rintro⟨room,bar,oL,l,n,i,p,c,a,s,B,pk,out⟩ ⟨hr,rfl,k,hk,rfl,rfl,QS⟩;have hl:l.length<=90:=hr.1;have hk:k<=l.length:=hk;have QS:out.length<=100000+k:=QS;by_cases h:k < l.length
 ·left;have n1:nth di l k=l[k]:=dj (t:=di) h;have hd:l.drop k=l[k]::l.drop (k+1):=aC h;obtain⟨w,hw,hv,jd,hlen⟩:=hr.2 _ (aX h);rw[hw]at n1 hd;refine⟨(room,bar,out.length+1,l,(l.length:Int),((k+1:Nat):Int),p,c,a,s,B,ff di (al w) aT pk,out++ [w.2.1]),⟨hr,rfl,k+1,h,rfl,by rw[aj];rfl,by rw[aj];show out.length+1<=_;omega⟩,by simp only[aa];omega,?_,λkn kx=> ?_⟩
  ·simp only[yg,Dl,aa,hd,aY,VH]
  ·rw[HS,bm au,ak,bz au au,ak,aa,n1,ae,YN (d:=w.2.1) ⟨hv,jd⟩];simp only[ae,bF,RD];rw[bf (aF _),ak,eW au au,ak,N.pn au,cJ]
 ·right;obtain rfl:k=l.length:=au;intro T kn kx;rw[HS,bn au,ao];simp only[yg,Dl,aa,aU,dd]
theorem afU:(tg.mw 1 lj):=by
 refine(tg.qz 1 lj) (λ(_,_,_,l,_,i,_)=>l.length - i.toNat) ?_
 rintro⟨room,bar,oL,l,n,i,p,c,a,s,B,pk,out⟩ ⟨⟨hr,G2,aGS⟩,rfl,rfl,⟨k,hk,rfl⟩,hB⟩;have hl:p.2.1.length<=90:=hr.1;have hk:k<=p.2.1.length:=hk;by_cases h:k < p.2.1.length
 ·left;have n1:nth di p.2.1 k=p.2.1[k]:=dj (t:=di) h;have hd:p.2.1.drop k=p.2.1[k]::p.2.1.drop (k+1):=aC h;have sS:=aX h;obtain⟨w,hw,hv,jd,hlen⟩:=hr.2 _ sS;rw[hw]at n1 hd sS;refine⟨(room,bar,oL,p.2.1,(p.2.1.length:Int),((k+1:Nat):Int),p,c,a,s,z6 room bar p.2.1 pk B (al w),pk,out),⟨⟨hr,G2,aGS⟩,rfl,rfl,⟨k+1,h,rfl⟩,ak1 hr sS hB⟩,by simp only[aa];omega,?_,λkn kx=> ?_⟩
  ·simp only[bF,Dk,aa,hd,aY]
  ·rw[HR,bm au,ak,bz au au,ak,aa,n1];cases hm:iQ pk (al w) with
   |true=>rw[show(cq di (al w) pk).getD aR=aT from hm,ak,show z6 room bar p.2.1 pk B (al w)=B from if_pos hm,N.pn au]
   |false=>
    have hm':¬iQ pk (al w)=aT:=by rw[hm];decide
    rw[show(cq di (al w) pk).getD aR=aR from hm,ao,ae,De (d:=(p.2.1,w.2.1)) ⟨hr.some,by show p.2.1.length<=_;omega,aGS w sS⟩];simp only[ae,bF,Fc];rw[abI (d:=(room,bar,oL,al w,aT,p.2.1,(p.2.1.length:Int),(k:Int),p.2.1,(p.2.1.length:Int),0,p,c,a,s,B,al w,0,(0,(0,())),pk,lU p.2.1 w.2.1,[],out)) ⟨⟨hr,G2⟩,rfl,0,aP _,rfl,rfl,aF _⟩];simp only[ae,pL,uf,bt,aQ];rw[show List.foldl (Ee bar pk (lU p.2.1 w.2.1) (al w)) (aT,0,(0,(0,())),[]) p.2.1=mH bar p.2.1 pk w from rfl];have hg:=ast (bar:=bar) (pk:=pk) (w:=w) hr
    have aFh:z6 room bar p.2.1 pk B (al w)=if(mH bar p.2.1 pk w).1=aT then(if(mH bar p.2.1 pk w).2.2.1.2.1<=room then(if B.1.isNone=aT then(al w,((mH bar p.2.1 pk w).2.2.2,(mH bar p.2.1 pk w).2.2.1)) else
      if X2 (al w,((mH bar p.2.1 pk w).2.2.2,(mH bar p.2.1 pk w).2.2.1)) B=aT then(al w,((mH bar p.2.1 pk w).2.2.2,(mH bar p.2.1 pk w).2.2.1)) else B) else B) else B:=if_neg hm'
    rw[aFh];generalize mH bar p.2.1 pk w=S at hg;obtain⟨f,bL,fw,all⟩:=S;have e1:bL=all.length:=hg.1;subst e1;simp only[ba,aF,j4,cR,ak,fp];rw[N.pn au];cases f with
    |false=>rw[ao,if_neg fb]
    |true=>
     rw[ak,if_pos rfl];by_cases aED:fw.2.1<=room
     ·rw[vA aED,ak,if_pos aED];rcases hB.1 with hn | ⟨v,axS,M7⟩
      ·rw[hn,Option.isNone_none,ak,if_pos rfl]
      ·rw[axS,Option.isNone_some,ao,if_neg fb,apU (d:=((al w,(all,fw)),B)) ⟨⟨w,rfl,hlen⟩,v,axS,M7⟩];simp only[ae,bF,abp];cases aLp:X2 (al w,(all,fw)) B with
       |true=>rw[ak,if_pos rfl]
       |false=>rw[ao,if_neg fb]
     ·rw[pA aED,ao,if_neg aED]
 ·right;obtain rfl:k=p.2.1.length:=au;intro T kn kx;rw[HR,bn au,ao];simp only[bF,Dk,aa,aU,dd]
theorem afT:(tg.mw 0 th):=by
 refine(tg.qz 0 th) (λ(room,bar,_,p,_,_,_,pk,out)=>Fi bar p.2.1 100 room pk out) ?_
 rintro⟨room,bar,oL,p,c,a,s,pk,out⟩ ⟨hp,rfl,f,hf,hs,hlen⟩;have hf:f<=100:=hf;have hlen:out.length+90*f<=100000:=hlen;obtain⟨r,hr⟩:=bA.1 hs;have hF:=afK hf hr;have hB:=ayd (room:=room) (bar:=bar) (pk:=pk) hp.1;have h1:=abG (d:=(room,bar,out.length,p.2.1,(p.2.1.length:Int),0,p,c,a,s,(aJ,([],(0,(0,())))),pk,out)) ⟨hp,rfl,rfl,⟨0,aP _,rfl⟩,.inl rfl,aP _,λx hx=>by cases hx⟩;simp only[bF,Dk,bt,aQ]at h1;rw[show List.foldl (z6 room bar p.2.1 pk) (aJ,([],(0,(0,())))) p.2.1=iX room bar p.2.1 pk from rfl]at h1
 match f,hr,hlen with
 |f+1,hr,hlen=>
  rw[jI]at hr;cases hb:(iX room bar p.2.1 pk).1 with
  |none=>
   right;rw[hb]at hr;obtain rfl:=aO hr;intro T kn kx;rw[HQ,h1];simp only[ae,hb,Option.isNone_none,ak,bF,Jr,hF.1,dB]
  |some w=>
   left;rw[hb]at hr;have hr:jI bar p.2.1 f (dM .i64 room (iX room bar p.2.1 pk).2.2.2.1) (zJ (iX room bar p.2.1 pk).2.1 pk out).2.1 (zJ (iX room bar p.2.1 pk).2.1 pk out).2.2=al r:=hr;have ht:=axh (iX room bar p.2.1 pk).2.1 (out.length,pk,out) hB.2.2 rfl;have aCP:(iX room bar p.2.1 pk).2.1.length<=90:=hB.2.1;have aKP:(zJ (iX room bar p.2.1 pk).2.1 pk out).2.2.length=out.length+(iX room bar p.2.1 pk).2.1.length:=ht.2;have hF2:=afK (show f<=99 by omega) hr;have hF3:=LU hF2.1;refine⟨(dM .i64 room (iX room bar p.2.1 pk).2.2.2.1,bar,(zJ (iX room bar p.2.1 pk).2.1 pk out).1,p,c,a,s,(zJ (iX room bar p.2.1 pk).2.1 pk out).2.1,(zJ (iX room bar p.2.1 pk).2.1 pk out).2.2),⟨hp,ht.1,f,au,by rw[hr];rfl,by rw[aKP];omega⟩,?_,?_,λkn kx=> ?_⟩
   ·show Fi bar p.2.1 (99+1) _ _ _ < Fi bar p.2.1 (99+1) room pk out
    conv=>rhs;rw[Fi,hb]
    rw[hF3.2];exact Nat.lt_succ_self _
   ·simp only[bF,Jr,hF.1,hF3.1,show jI bar p.2.1 100 (dM .i64 room (iX room bar p.2.1 pk).2.2.2.1) (zJ (iX room bar p.2.1 pk).2.1 pk out).2.1 (zJ (iX room bar p.2.1 pk).2.1 pk out).2.2=al r from hF3.1]
   ·rw[HQ,h1];simp only[ae,hb,Option.isNone_some,ao];rw[abK (d:=(room,bar,out.length,(iX room bar p.2.1 pk).2.1,((iX room bar p.2.1 pk).2.1.length:Int),0,p,c,a,s,iX room bar p.2.1 pk,pk,out)) ⟨hB.2,rfl,0,aP _,rfl,rfl,by show out.length<=_;omega⟩];simp only[ae,yg,Dl,bt,aQ];rfl
theorem awk:tg.Ok:=by rintro⟨room,bar,p,n,a,s⟩ ⟨hp,hs⟩;rw[awj,abE (d:=(room,bar,0,p,n,a,s,[],[])) ⟨hp,rfl,100,aF _,hs,fb⟩];rfl
theorem aqb:tg.RS:=rE [.d ti,.d (.slice bP),.d (.pair ti (.pair (.slice di) .unit)),.n,.d (.slice (.pair bP eR)),.d (.slice cD)] tg
def awl:=tg.gm awk 4 ⟨.gQ afT,⟨.gQ afU,⟨.gQ afV,⟨.gQ afW,trivial⟩⟩⟩⟩
end Go.Ab
end
