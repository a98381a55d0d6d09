/-
  Made short by a program of mine (wip/tools/mini.py).
-/
import Derived.Test.YtlfkbbankpbinaaGreatS31x4
set_option linter.unusedVariables false
set_option linter.unusedSimpArgs false
set_option maxRecDepth 100000
set_option synthInstance.maxSize 5000
open List renaming replicate->ai,set->gr,length->ag,take->bn,drop->bV
open BitVec renaming ofInt->bj
open Int renaming toNat->ab
open Or renaming inr->fm,inl->lG
open Option renaming some->ao,none->aJ
open Bool renaming true->aT,false->aR
noncomputable section
variable {R:Type}
namespace Go.Ab
open Go.Proofs
def aFi(c:eS):Prop:=nT c.1.2.1=aT/\alF c.1.2.1/\0<=c.1.1/\c.1.1<=1125899906842624/\0<=c.2.1/\c.2.1<=1048576
def aah(a:List (cw×eS)):Prop:=(a.map (·.1)).Nodup/\∀p∈a,adu p.1/\aFi p.2
theorem aah.get{a:List (cw×eS)}(h:aah a){o:cw}{c:eS}(hg:cd bM o a=ao c):aFi c:=(h.2 _ ((mh jx h.1).1 hg)).2
def ayG:eS:=((0,(([],()),())),(0,()))
theorem aFi.own{c:eS}(h:aFi c):aIk c.1.2.1:=by have:=Uf h.1;exact⟨au,λb hb=>by have:=this.2 b hb;omega⟩
abbrev zk:=Int×dM×Int×(List j9)×Int×Int×Nat×(List (cw×eS))×(List cZ)×Bs
def oD:zk->AS:=λ(ei,oc,jI,t35,t36,t37,o0L,ed,di,n8)=>⟨([.ptr (.bF 0) 0 [] 0,cq,.d ti ei,cq,.eI ee oc,cq,cq,cq,fu 8,.d ti jI]++bf 25 ([.d (.slice gB) t35,.d ti t36,.d ti t37]++bf 69 [])),[dC (.pr (.cO (.bF 1) 0) (.pr (.b8 (.bF 2) 0 [] 0 0 o0L) kK)),dC (.mp bM eO ed),dC (.vec 139 cC di)],(bI 8 ([dG (.d tH n8)]++bI 98 []))⟩
abbrev PO:=(Nat×(List (cw×eS))×(List cZ))×(Int)
def jD:PO->Exit×AS:=λ((a,b,c),e)=>(.ret,⟨(bf 6 ([.d ti (0:Int),.d ti e]++bf 99 [])),[dC (.pr (.cO (.bF 1) 0) (.pr (.b8 (.bF 2) 0 [] 0 0 a) kK)),dC (.mp bM eO b),dC (.vec 139 cC c)],(ai 107 [])⟩)
abbrev PQ:=(dM×Nat×(List (cw×eS))×(List cZ))×(Int)
def xz:PQ->Exit×AS:=λ((a,b,c,e),f)=>(.exit 0,⟨([.ptr (.bF 0) 0 [] 0,cq,cq,cq,.eI ee a]++bf 4 ([.d ti f]++bf 97 [])),[dC (.pr (.cO (.bF 1) 0) (.pr (.b8 (.bF 2) 0 [] 0 0 b) kK)),dC (.mp bM eO c),dC (.vec 139 cC e)],(ai 107 [])⟩)
abbrev Je:=(PO)⊕(PQ)
abbrev Tj:=(Int)⊕(Int)
def Db:Je->Out (Exit×AS):=λx=> .br x.isLeft (.get x.getLeft? λa=> .ok (jD a)) (.get x.getRight? λb=> .ok (xz b))
def jC:zk->Tj->Je:=λ(ei,oc,jI,t35,t36,t37,o0L,ed,di,n8) y=>match y with | .inl y=> .inl ((o0L,ed,di),y) | .inr z=> .inr (((oc,o0L,ed,di),z))
abbrev zl:=dM×Int×(List cw)×Int×Int×Nat×(List (cw×eS))×(List cZ)
def sa:zl->AS:=λ(BV,PY,t75,t76,t77,lR,uB,kD)=>⟨([.ptr (.bF 0) 0 [] 0,cq,cq,cq,.eI ee BV]++bf 4 ([.d ti PY]++bf 65 ([.d (.slice bM) t75,.d ti t76,.d ti t77]++bf 29 []))),[dC (.pr (.cO (.bF 1) 0) (.pr (.b8 (.bF 2) 0 [] 0 0 lR) kK)),dC (.mp bM eO uB),dC (.vec 139 cC kD)],(ai 107 [])⟩
abbrev PS:=Nat×(List (cw×eS))×(List cZ)
def xB:PS->Exit×AS:=λ(a,b,c)=>(.ret,⟨(bf 6 ([.d ti (0:Int),.d ti (4:Int)]++bf 99 [])),[dC (.pr (.cO (.bF 1) 0) (.pr (.b8 (.bF 2) 0 [] 0 0 a) kK)),dC (.mp bM eO b),dC (.vec 139 cC c)],(ai 107 [])⟩)
abbrev PT:=dM×Int×Nat×(List (cw×eS))×(List cZ)
def xC:PT->Exit×AS:=λ(a,b,c,e,f)=>(.exit 2,⟨(bf 4 ([.eI ee a]++bf 4 ([.d ti b]++bf 97 []))),[dC (.pr (.cO (.bF 1) 0) (.pr (.b8 (.bF 2) 0 [] 0 0 c) kK)),dC (.mp bM eO e),dC (.vec 139 cC f)],(ai 107 [])⟩)
abbrev Jf:=(PS)⊕(PT)
abbrev Tm:=(Unit)⊕(Unit)
def Dc:Jf->Out (Exit×AS):=λx=> .br x.isLeft (.get x.getLeft? λa=> .ok (xB a)) (.get x.getRight? λb=> .ok (xC b))
def kY:zl->Tm->Jf:=λ(BV,PY,t75,t76,t77,lR,uB,kD) y=>match y with | .inl y=> .inl (lR,uB,kD) | .inr z=> .inr ((BV,PY,lR,uB,kD))
abbrev Jg:=Int×(List lT)×Int×Int×Nat×(List (cw×eS))×(List cZ)
def xD:Jg->Int->((Nat×(List (cw×eS))×(List cZ))×(Int)):=λ(YW,t93,t94,t95,UX,aj5,qB) y=>((UX,aj5,qB),y)
abbrev ame:=dM×Int×Nat×(List (cw×eS))×(List cZ)
def uf(h:Int)(id:List Int)(a:List (cw×eS)):List j9->Int->Int⊕Int
 |[],jI=> .inr jI
 |x::l,jI=>match cd bM x.1 a with
  |none=> .inl 5
  |some c=>if Cv c.1.2.1 x.2.1 id h (h - c.2.1)≠0 then .inl (Cv c.1.2.1 x.2.1 id h (h - c.2.1)) else uf h id a l (jI+c.1.1)
def pM(a:List (cw×eS))(o:cw):Bool:=(cd bM o a).isSome
def lJ(l:List lT):Int:=(l.map (·.1)).sum
def dJ(t:dM)(h:Int)(a:List (cw×eS)):Int×Int:=
 if iF t=aT/\1<=h/\h<=1048576 then
  match uf h (sP t) a t.1 0 with
  | .inl e=>(0,e)
  | .inr jI=>if(fT t).any (pM a)=aT then(0,4) else if jI - lJ t.2.1 < 0 then(0,8) else(jI - lJ t.2.1,0)
 else(0,1)
def xy:zk->Prop:=λ(h,_,jI,l,n,i,_,a,_,id)=>(0<=h/\h<=1048576)/\Sm id/\l.length<=64/\(∀x∈l,aKc x)/\aah a/\∃k:Nat,k<=l.length/\i=k/\n=l.length/\0<=jI/\jI<=(k:Int)*1125899906842624
def mZ:zk->Tj:=λ(h,_,jI,l,_,i,_,a,_,id)=>uf h id a (l.drop i.toNat) jI
def xA:zl->Prop:=λ(_,_,l,n,i,_,_,_)=>l.length<=1000/\∃k:Nat,k<=l.length/\i=k/\n=l.length
def oE:zl->Tm:=λ(_,_,l,_,i,_,a,_)=>if(l.drop i.toNat).any (pM a)=aT then .inl () else .inr ()
def aaR:Jg->Prop:=λ(jI,l,n,i,_,_,_)=>l.length<=64/\(∀o∈l,0<=o.1/\o.1<=1125899906842624)/\∃k:Nat,k<=l.length/\i=k/\n=l.length/\ -((k:Int)*1125899906842624)<=jI/\jI<=1000000000000000000
def Dd:Jg->Int:=λ(jI,l,_,i,_,_,_)=>jI - lJ (l.drop i.toNat)
def ao2:ame->Prop:=λ(t,_,_,a,_)=>wX t/\aah a
def aaO:ame->(Int×Int×Nat×(List (cw×eS))×(List cZ)):=λ(t,h,n,a,s)=>((dJ t h a).1,(dJ t h a).2,n,a,s)
def Ti:=dW.gA oD xy jC mZ Db
def HQ:zk->Option Je:=iI Ti oD
def Tk:=dW.gA sa xA kY oE Dc
def HR:zl->Option Jf:=iI Tk sa
def td:Ls aaR xD Dd:=yg (λ(YW,t93,t94,t95,UX,aj5,qB)=>⟨(bf 9 ([.d ti YW]++bf 83 ([.d (.slice jy) t93,.d ti t94,.d ti t95]++bf 11 []))),[dC (.pr (.cO (.bF 1) 0) (.pr (.b8 (.bF 2) 0 [] 0 0 UX) kK)),dC (.mp bM eO aj5),dC (.vec 139 cC qB)],(ai 107 [])⟩) (λx=>(.exit 4,⟨(bf 9 ([.d ti x.2]++bf 97 [])),[dC (.pr (.cO (.bF 1) 0) (.pr (.b8 (.bF 2) 0 [] 0 0 x.1.1) kK)),dC (.mp bM eO x.1.2.1),dC (.vec 139 cC x.1.2.2)],(ai 107 [])⟩))
def lQ:Fs Tryz.prog ao2 bG aaO:=fV 73 Tryz.f73 (λ(t,height,o0baL,o1,o2)=>([.ptr (.bF 0) 0 [] 0,.d ee t,.d ti height],[.obj 0 aR (.pr (.cO (.bF 1) 0) (.pr (.b8 (.bF 2) 0 [] 0 0 o0baL) (.d .unit ()))),.obj 0 aR (.mp bM eO o1),.obj 0 aR (.vec 139 cC o2)])) (λx=>⟨.cons (.d ti x.1) (.cons (.d ti x.2.1) (.nil)),[.obj 0 aR (.pr (.cO (.bF 1) 0) (.pr (.b8 (.bF 2) 0 [] 0 0 x.2.2.1) (.d .unit ()))),.obj 0 aR (.mp bM eO x.2.2.2.1),.obj 0 aR (.vec 139 cC x.2.2.2.2)],[]⟩) [aJ,ao ee,ao ti] [qf,Kf,avN,ahE] {loops:=so [(5,{bp:=[0,2,4,8,9,35,36,37],sites:=[8]}),(16,{bp:=[0,4,9,75,76,77]}),(23,{bp:=[9,93,94,95]})],outs:=sm [(5,{bp:=[0,4,9]},{bp:=[6,7]}),(16,{bp:=[4,9]},{bp:=[6,7]}),(23,{bp:=[9]},{bp:=[6,7]})],gS:=tt [(5,Ti),(16,Tk),(23,td.E)]}
def Jd:= @fh Tryz.prog (lU lQ.G) lQ.an 0 Tryz.f73 0 _ oD
abbrev PN:=mn Tryz.prog (lU lQ.G) lQ.an 0 Tryz.f73 0 oD xy jC mZ Db
def Tl:= @fh Tryz.prog (lU lQ.G) lQ.an 0 Tryz.f73 1 _ sa
abbrev PR:=mn Tryz.prog (lU lQ.G) lQ.an 0 Tryz.f73 1 sa xA kY oE Dc
theorem aaP:kC HQ xy jC mZ:=og (na [.d ti,.d ee,.d ti,.d (.slice gB),.d ti,.d ti,.n,.d (.slice (.pair bM eO)),.d (.slice cC),.d tB] λ_=>cM)
theorem Lo:qp @Jd oD xy jC mZ Db PN:=rA
theorem Bh(ei oc jI t35 t36 t37 o0L ed di n8)(kn:K2 R)(kx:K3 R):Jd (ei,oc,jI,t35,t36,t37,o0L,ed,di,n8) kn kx=aS (gY t37 t36) (aS (gI t37 (((ag t35):Nat):Int)) (aS (!(cd bM (nth gB t35 (ab t37)).1 ed).isSome) (kx (jD ((o0L,ed,di),(5:Int))).1 (jD ((o0L,ed,di),(5:Int))).2) (aq (mC.call (((cd bM (nth gB t35 (ab t37)).1 ed).getD (((0:Int),((([]:List ud),()),())),((0:Int),()))).1.2.1,(nth gB t35 (ab t37)).2.1,n8,ei,(dL .i64 ei ((cd bM (nth gB t35 (ab t37)).1 ed).getD (((0:Int),((([]:List ud),()),())),((0:Int),()))).2.1))) λx1=>aS (JE x1 (0:Int)) (kx (jD ((o0L,ed,di),x1)).1 (jD ((o0L,ed,di),x1)).2) (kn (oD (ei,oc,(bT .i64 jI ((cd bM (nth gB t35 (ab t37)).1 ed).getD (((0:Int),((([]:List ud),()),())),((0:Int),()))).1.1),t35,t36,(bT .i64 t37 (1:Int)),o0L,ed,di,n8))))) aJ) (kx (xz ((oc,o0L,ed,di),jI)).1 (xz ((oc,o0L,ed,di),jI)).2):=cM
theorem aaQ:kC HR xA kY oE:=og (na [.d ee,.d ti,.d (.slice bM),.d ti,.d ti,.n,.d (.slice (.pair bM eO)),.d (.slice cC)] λ_=>cM)
theorem Lp:qp @Tl sa xA kY oE Dc PR:=rA
theorem Bi(BV PY t75 t76 t77 lR uB kD)(kn:K2 R)(kx:K3 R):Tl (BV,PY,t75,t76,t77,lR,uB,kD) kn kx=aS (gY t77 t76) (aS (gI t77 (((ag t75):Nat):Int)) (aS ((cd bM (nth bM t75 (ab t77)) uB).isSome) (kx (xB (lR,uB,kD)).1 (xB (lR,uB,kD)).2) (kn (sa (BV,PY,t75,t76,(bT .i64 t77 (1:Int)),lR,uB,kD)))) aJ) (kx (xC (BV,PY,lR,uB,kD)).1 (xC (BV,PY,lR,uB,kD)).2):=cM
theorem aaS:td.RS:=rL [.d ti,.d (.slice jy),.d ti,.d ti,.n,.d (.slice (.pair bM eO)),.d (.slice cC)] td
theorem HS(YW t93 t94 t95 UX aj5 qB)(kn:K2 R)(kx:K3 R):lQ.R 2 td (YW,t93,t94,t95,UX,aj5,qB) kn kx=aS (gY t95 t94) (aS (gI t95 (t93.length:Int)) (kn (td.st ((dL .i64 YW (nth jy t93 (ab t95)).1),t93,t94,(bT .i64 t95 1),UX,aj5,qB))) aJ) (td.go kx ((UX,aj5,qB),YW)):=cM
theorem at8(t height o0baL o1 o2)(k:K1 R):lQ.A (t,height,o0baL,o1,o2) k=aq (hP.call t) λx1=>aS (!x1) (k (lQ.out (0,1,o0baL,o1,o2))) (aS (gY height 1) (k (lQ.out (0,1,o0baL,o1,o2))) (aS (Ak height 1048576) (k (lQ.out (0,1,o0baL,o1,o2))) (aq (tid.call t) λx2=>aq (HQ (height,t,0,t.1,(t.1.length:Int),0,o0baL,o1,o2,x2)) λx4=>aS x4.isLeft (aq x4.getLeft? λa5=>k (lQ.out (0,a5.2,a5.1.1,a5.1.2.1,a5.1.2.2))) (aq x4.getRight? λb6=>aq (EC.call b6.1.1) λx7=>aq (HR (b6.1.1,b6.2,x7,(x7.length:Int),0,b6.1.2.1,b6.1.2.2.1,b6.1.2.2.2)) λx8=>aS x8.isLeft (aq x8.getLeft? λa9=>k (lQ.out (0,4,a9.1,a9.2.1,a9.2.2))) (aq x8.getRight? λb10=>aq (td.call (b10.2.1,b10.1.2.1,(b10.1.2.1.length:Int),0,b10.2.2.1,b10.2.2.2.1,b10.2.2.2.2)) λanL=>aS (gY anL.2 0) (k (lQ.out (0,8,anL.1.1,anL.1.2.1,anL.1.2.2))) (k (lQ.out (anL.2,0,anL.1.1,anL.1.2.1,anL.1.2.2)))))))):=cM
theorem aeM:PN:=by
 refine Lo (λ(_,_,_,l,_,i,_,_,_,_)=>l.length - i.toNat) ?_
 rintro⟨h,t,jI,l,n,i,o,a,s,id⟩ ⟨⟨aIP,aHU⟩,de,hl,hu,ha,k,hk,rfl,rfl,aGs,aCo⟩;have aIP:0<=h:=aIP;have aHU:h<=1048576:=aHU;have hl:l.length<=64:=hl;have aGs:0<=jI:=aGs;have aCo:jI<=(k:Int)*1125899906842624:=aCo;have hk:k<=l.length:=hk;by_cases je:k < l.length
 ·have hx:=hu _ (aV je);have n1:nth gB l k=l[k]:=da (t:=gB) je;have hd:l.drop k=l[k]::l.drop (k+1):=aC je;cases hg:cd bM l[k].1 a with
  |none=>
   right;refine⟨jD ((o,a,s),5),?_,λkn kx=> ?_⟩;rotate_left
   ·rw[Bh,bm au,aj,bz au au,aj,aa,n1,hg];simp only[ru,eY,aj]
   ·simp only[jC,mZ,aa,hd,uf,hg];rfl
  |some c=>
   have hc:=ha.get hg;obtain⟨c1,c2,c3,c4,c5,c6⟩:=hc
   have nQ:∀ {R:Type} (kn:AS->Option R) (kx:Exit->AS->Option R),Jd (h,t,jI,l,(l.length:Int),(k:Int),o,a,s,id) kn kx=
     aS (JE (Cv c.1.2.1 l[k].2.1 id h (h - c.2.1)) 0) (kx (jD ((o,a,s),Cv c.1.2.1 l[k].2.1 id h (h - c.2.1))).1 (jD ((o,a,s),Cv c.1.2.1 l[k].2.1 id h (h - c.2.1))).2)
      (kn (oD (h,t,jI+c.1.1,l,(l.length:Int),((k+1:Nat):Int),o,a,s,id))):=λkn kx=>by
    rw[Bh,bm au,aj,bz au au,aj,aa,n1,hg];simp only[Option.isSome_some,cG,al,dz];rw[gz au au,ap1 (d:=(c.1.2.1,l[k].2.1,id,h,h - c.2.1)) ⟨c2,by have:=Uf c1;omega,hx.2.1,de⟩];simp only[ae,bG,abL];rw[gX au au,N.nV au]
   by_cases he:Cv c.1.2.1 l[k].2.1 id h (h - c.2.1)=0
   ·left;refine⟨(h,t,jI+c.1.1,l,(l.length:Int),((k+1:Nat):Int),o,a,s,id),⟨⟨aIP,aHU⟩,de,hl,hu,ha,k+1,au,rfl,rfl,by show 0<=jI+c.1.1;omega,by show jI+c.1.1<=_;omega⟩,by simp only[aa];omega,?_,λkn kx=> ?_⟩
    ·simp only[jC,mZ,aa,hd,uf,hg,he,ne_eq,not_true_eq_false,cF]
    ·rw[nQ,eU he,al]
   ·right;refine⟨jD ((o,a,s),Cv c.1.2.1 l[k].2.1 id h (h - c.2.1)),?_,λkn kx=> ?_⟩;rotate_left
    ·rw[nQ,gZ he,aj]
    ·simp only[jC,mZ,aa,hd,uf,hg];rw[if_pos he];rfl
 ·right;obtain rfl:k=l.length:=au;refine⟨xz ((t,o,a,s),jI),?_,λkn kx=> ?_⟩;rotate_left
  ·rw[Bh,bh au,al]
  ·simp only[jC,mZ,aa,aU,uf];rfl
theorem aeN:PR:=by
 refine Lp (λ(_,_,l,_,i,_,_,_)=>l.length - i.toNat) ?_
 rintro⟨t,jI,l,n,i,o,a,s⟩ ⟨hl,k,hk,rfl,rfl⟩;have hl:l.length<=1000:=hl;have hk:k<=l.length:=hk;by_cases je:k < l.length
 ·have n1:nth bM l k=l[k]:=da (t:=bM) je;have hd:l.drop k=l[k]::l.drop (k+1):=aC je;cases hg:(cd bM l[k] a).isSome with
  |true=>
   right;refine⟨xB (o,a,s),?_,λkn kx=> ?_⟩;rotate_left
   ·rw[Bi,bm au,aj,bz au au,aj,aa,n1,hg,aj]
   ·simp only[kY,oE,aa,hd,fU,pM,hg,Bool.true_or,cY];rfl
  |false=>
   left;refine⟨(t,jI,l,(l.length:Int),((k+1:Nat):Int),o,a,s),⟨hl,k+1,au,rfl,rfl⟩,by simp only[aa];omega,?_,λkn kx=> ?_⟩
   ·simp only[kY,oE,aa,hd,fU,pM,hg,Bool.false_or]
   ·rw[Bi,bm au,aj,bz au au,aj,aa,n1,hg,al,N.nV au]
 ·right;obtain rfl:k=l.length:=au;refine⟨xC (t,jI,o,a,s),?_,λkn kx=> ?_⟩;rotate_left
  ·rw[Bi,bh au,al]
  ·simp only[kY,oE,aa,aU,kS,bR,cF];rfl
theorem aeO:(lQ.mM 2 td):=by
 refine(lQ.qG 2 td) (λ(_,l,_,i,_,_,_)=>l.length - i.toNat) ?_
 rintro⟨jI,l,n,i,o,a,s⟩ ⟨hl,ho,k,hk,rfl,rfl,aGs,aCo⟩;have hl:l.length<=64:=hl;have hk:k<=l.length:=hk;have aGs: -((k:Int)*1125899906842624)<=jI:=aGs;have aCo:jI<=1000000000000000000:=aCo;by_cases je:k < l.length
 ·left;have n1:nth jy l k=l[k]:=da (t:=jy) je;have hd:l.drop k=l[k]::l.drop (k+1):=aC je;have hx:=ho _ (aV je);refine⟨(jI - l[k].1,l,(l.length:Int),((k+1:Nat):Int),o,a,s),⟨hl,ho,k+1,au,rfl,rfl,by show _<=jI - l[k].1;omega,by show jI - l[k].1<=_;omega⟩,by simp only[aa];omega,?_,λkn kx=> ?_⟩
  ·simp only[xD,Dd,aa,hd,lJ,cr,List.sum_cons];rw[Int.sub_sub]
  ·rw[HS,bm au,aj,bz au au,aj,aa,n1,gz au au,N.nV au]
 ·right;obtain rfl:k=l.length:=au;intro R kn kx;rw[HS,bh au,al];simp only[xD,Dd,aa,aU,lJ,iU,List.sum_nil,px]
theorem uv{t:dM}(h:iF t=aT):(fT t).length=t.2.1.length:=by unfold fT;rw[if_pos h];simp[Cs]
theorem T1{h:Int}{id:List Int}{a:List (cw×eS)}(ha:aah a):∀(l:List j9) (jI f:Int),uf h id a l jI= .inr f->jI<=f/\f<=jI+(l.length:Int)*1125899906842624
 |[],jI,f,e=>by simp only[uf,Sum.inr.injEq]at e;subst e;simp
 |x::l,jI,f,e=>by
  simp only[uf]at e;cases hg:cd bM x.1 a with
  |none=>rw[hg]at e;cases e
  |some c=>
   rw[hg]at e;simp only at e;split at e
   ·cases e
   ·have hc:=ha.get hg;have:=T1 ha l _ _ e;obtain⟨_,_,c3,c4,_⟩:=hc;rw[aH];omega
theorem at9:lQ.Ok:=by
 rintro⟨t,h,n,a,s⟩ ⟨hv,ha⟩;have hv:wX t:=hv;have ha:aah a:=ha;rw[at8,nq (d:=t) hv.1];simp only[ae,bG,pt,bG,aaO,dJ];by_cases iO:iF t=aT
 ·rw[iO,cG,al];obtain⟨⟨_,a2,a3,_⟩,b1,b2⟩:=jg iO;by_cases h1:1<=h
  ·rw[bh au,al];by_cases h2:h<=1048576
   ·rw[du au,al,if_pos ⟨rfl,h1,h2⟩,A6 (d:=t) hv];simp only[ae,bG,Nu];rw[aaP (d:=(h,t,0,t.1,(t.1.length:Int),0,n,a,s,sP t)) ⟨⟨by show 0<=h;omega,h2⟩,BY,a2,hv.2.1,ha,0,aN _,rfl,rfl,eZ,eZ⟩];simp only[ae,jC,mZ,bo,aQ];cases hi:uf h (sP t) a t.1 0 with
    |inl e=>
     simp only[l7,aj,j3,ae]
    |inr jI=>
     have hb:=T1 ha _ _ _ hi;simp only[dS,al,dg,ae];rw[Z7 (d:=t) hv];simp only[ae,bG,Ss];rw[aaQ (d:=(t,jI,fT t,((fT t).length:Int),0,n,a,s)) ⟨by rw[uv iO];omega,0,aN _,rfl,rfl⟩];simp only[ae,kY,oE,bo,aQ];by_cases hm:(fT t).any (pM a)=aT
     ·rw[if_pos hm];simp only[l7,aj,j3,ae,cY,hm]
     ·rw[if_neg hm];simp only[dS,al,dg,ae];rw[aaS (d:=(jI,t.2.1,(t.2.1.length:Int),0,n,a,s)) ⟨a3,λo ho=>(nc _ _ b2 o ho).1,0,aN _,rfl,rfl,by show -((0:Int)*_)<=jI;omega,by show jI<=_;omega⟩];simp only[ae,xD,Dd,bo,aQ];rw[if_neg hm];by_cases hf:jI - lJ t.2.1 < 0
      ·rw[bm hf,aj,if_pos hf]
      ·rw[bh hf,al,if_neg hf]
   ·rw[dT au,aj,if_neg (λe=>h2 e.2.2)]
  ·rw[bm au,aj,if_neg (λe=>h1 e.2.1)]
 ·have hok':iF t=aR:=by simpa using iO
  rw[hok',eY,aj,if_neg (λe=>by cases e.1)]
theorem YO:lQ.RS:=rE [.d ee,.d ti,.n,.d (.slice (.pair bM eO)),.d (.slice cC)] lQ
def Lq:=lQ.gf at9 3 ⟨.gA aeM,⟨.gA aeN,⟨.gA aeO,trivial⟩⟩⟩
def Bj(l:List cw)(a:List (cw×eS)):List (cw×eS):=l.foldl (λm o=>kg bM o m) a
def VG(l:List adD)(a:List (cw×eS)):List (cw×eS):=l.foldl (λm e=>e7 bM e.1 e.2.1 m) a
def CP(a:List (cw×eS))(st:cZ):List (cw×eS):=VG st.1 (Bj st.2.1 a)
abbrev Jk:=Int×(List cw)×Int×Int×Nat×(List (cw×eS))×(List cZ)
abbrev Tr:=(List (cw×eS))
def xH:Jk->Tr->((Int×Nat×(List cZ))×((List (cw×eS)))):=λ(n,t23,t24,t25,o0L,ed,di) y=>((n,o0L,di),y)
abbrev Jl:=Int×(List adD)×Int×Int×Nat×(List (cw×eS))×(List cZ)
abbrev Tt:=(List (cw×eS))
def xI:Jl->Tt->((Int×Nat×(List cZ))×((List (cw×eS)))):=λ(CU,t42,t43,t44,lR,uB,kD) y=>((CU,lR,kD),y)
abbrev amj:=Nat×(List (cw×eS))×(List cZ)
def aa0:Jk->Prop:=λ(_,l,n,i,_,_,_)=>l.length<=1000/\∃k:Nat,k<=l.length/\i=k/\n=l.length
def Dg:Jk->Tr:=λ(_,l,_,i,_,a,_)=>Bj (l.drop i.toNat) a
def aa2:Jl->Prop:=λ(_,l,n,i,_,_,_)=>l.length<=1000/\∃k:Nat,k<=l.length/\i=k/\n=l.length
def Dh:Jl->Tt:=λ(_,l,_,i,_,a,_)=>VG (l.drop i.toNat) a
def anW(st:cZ):Prop:=st.1.length<=1000/\st.2.1.length<=1000
def ao6:amj->Prop:=λ(n,_,s)=>n<=s.length/\s.length<=1000000/\∀st∈s,anW st
def R0:amj->(Bool×Nat×(List (cw×eS))×(List cZ)):=λ(n,a,s)=>if n=0 then(aR,n,a,s) else(aT,n - 1,CP a (nth cC s (n - 1)),s)
def tg:Ls aa0 xH Dg:=yg (λ(n,t23,t24,t25,o0L,ed,di)=>⟨([.ptr (.bF 0) 0 [] 0,cq,cq,.d ti n]++bf 19 ([.d (.slice bM) t23,.d ti t24,.d ti t25]++bf 40 [])),[dC (.pr (.cO (.bF 1) 0) (.pr (.b8 (.bF 2) 0 [] 0 0 o0L) kK)),dC (.mp bM eO ed),dC (.vec 139 cC di)],(ai 66 [])⟩) (λx=>(.exit 0,⟨([.ptr (.bF 0) 0 [] 0,cq,cq,.d ti x.1.1]++bf 62 []),[dC (.pr (.cO (.bF 1) 0) (.pr (.b8 (.bF 2) 0 [] 0 0 x.1.2.1) kK)),dC (.mp bM eO x.2),dC (.vec 139 cC x.1.2.2)],(ai 66 [])⟩))
def th:Ls aa2 xI Dh:=yg (λ(CU,t42,t43,t44,lR,uB,kD)=>⟨([.ptr (.bF 0) 0 [] 0,cq,cq,.d ti CU]++bf 38 ([.d (.slice arP) t42,.d ti t43,.d ti t44]++bf 21 [])),[dC (.pr (.cO (.bF 1) 0) (.pr (.b8 (.bF 2) 0 [] 0 0 lR) kK)),dC (.mp bM eO uB),dC (.vec 139 cC kD)],(ai 66 [])⟩) (λx=>(.exit 2,⟨([.ptr (.bF 0) 0 [] 0,cq,cq,.d ti x.1.1]++bf 62 []),[dC (.pr (.cO (.bF 1) 0) (.pr (.b8 (.bF 2) 0 [] 0 0 x.1.2.1) kK)),dC (.mp bM eO x.2),dC (.vec 139 cC x.1.2.2)],(ai 66 [])⟩))
def zp:Fs Tryz.prog ao6 bG R0:=fV 35 Tryz.f35 (λ(o0baL,o1,o2)=>([.ptr (.bF 0) 0 [] 0],[.obj 0 aR (.pr (.cO (.bF 1) 0) (.pr (.b8 (.bF 2) 0 [] 0 0 o0baL) (.d .unit ()))),.obj 0 aR (.mp bM eO o1),.obj 0 aR (.vec 139 cC o2)])) (λx=>⟨.d .bool x.1,[.obj 0 aR (.pr (.cO (.bF 1) 0) (.pr (.b8 (.bF 2) 0 [] 0 0 x.2.1) (.d .unit ()))),.obj 0 aR (.mp bM eO x.2.2.1),.obj 0 aR (.vec 139 cC x.2.2.2)],[]⟩) [aJ] [] {loops:=so [(5,{bp:=[0,3,23,24,25]}),(10,{bp:=[0,3,42,43,44]})],outs:=sm [(5,{bp:=[0,3]},{bp:=[2]}),(10,{bp:=[0,3]},{bp:=[2]})],gS:=tt [(5,tg.E),(10,th.E)]}
theorem aa1:tg.RS:=rL [.d ti,.d (.slice bM),.d ti,.d ti,.n,.d (.slice (.pair bM eO)),.d (.slice cC)] tg
theorem HW(n t23 t24 t25 o0L ed di)(kn:K2 R)(kx:K3 R):zp.R 0 tg (n,t23,t24,t25,o0L,ed,di) kn kx=aS (gY t25 t24) (aS (gI t25 (t23.length:Int)) (kn (tg.st (n,t23,t24,(bT .i64 t25 1),o0L,(kg bM (nth bM t23 (ab t25)) ed),di))) aJ) (tg.go kx ((n,o0L,di),ed)):=cM
theorem aa3:th.RS:=rL [.d ti,.d (.slice arP),.d ti,.d ti,.n,.d (.slice (.pair bM eO)),.d (.slice cC)] th
theorem HX(CU t42 t43 t44 lR uB kD)(kn:K2 R)(kx:K3 R):zp.R 1 th (CU,t42,t43,t44,lR,uB,kD) kn kx=aS (gY t44 t43) (aS (gI t44 (t42.length:Int)) (kn (th.st (CU,t42,t43,(bT .i64 t44 1),lR,(e7 bM (nth arP t42 (ab t44)).1 (nth arP t42 (ab t44)).2.1 uB),kD))) aJ) (th.go kx ((CU,lR,kD),uB)):=cM
theorem aug(o0baL o1 o2)(k:K1 R):zp.A (o0baL,o1,o2) k=aS (gY (dL .i64 ((o0baL:Nat):Int) 1) 0) (k (zp.out (aR,o0baL,o1,o2))) (aS (gI (dL .i64 ((o0baL:Nat):Int) 1) ((o0baL:Nat):Int)) (aS (decide ((0+(ab (dL .i64 ((o0baL:Nat):Int) 1))) < (ag o2))) (aS (decide ((((0+(ab (dL .i64 ((o0baL:Nat):Int) 1)))*2)+1)=((0+((ab (dL .i64 ((o0baL:Nat):Int) 1))*2))+1))) (aq (tg.call ((dL .i64 ((o0baL:Nat):Int) 1),(nth cC o2 (0+(ab (dL .i64 ((o0baL:Nat):Int) 1)))).2.1,(((ag (nth cC o2 (0+(ab (dL .i64 ((o0baL:Nat):Int) 1)))).2.1):Nat):Int),0,o0baL,o1,o2)) λx1=>aS (gI x1.1.1 ((x1.1.2.1:Nat):Int)) (aS (decide ((0+(ab x1.1.1)) < (ag x1.1.2.2))) (aS (decide ((((0+(ab x1.1.1))*2)+0)=((0+((ab x1.1.1)*2))+0))) (aq (th.call (x1.1.1,(nth cC x1.1.2.2 (0+(ab x1.1.1))).1,(((ag (nth cC x1.1.2.2 (0+(ab x1.1.1))).1):Nat):Int),0,x1.1.2.1,x1.2,x1.1.2.2)) λx2=>aS (inc x2.1.1 ((x2.1.2.1:Nat):Int)) (k (zp.out (aT,((ab x2.1.1) - 0),x2.2,x2.1.2.2))) aJ) aJ) aJ) aJ) aJ) aJ) aJ):=cM
theorem aeU:(zp.mM 0 tg):=by
 refine(zp.qG 0 tg) (λ(_,l,_,i,_,_,_)=>l.length - i.toNat) ?_
 rintro⟨u,l,n,i,o,a,s⟩ ⟨hl,k,hk,rfl,rfl⟩;have hl:l.length<=1000:=hl;have hk:k<=l.length:=hk;by_cases je:k < l.length
 ·left;have n1:nth bM l k=l[k]:=da (t:=bM) je;have hd:l.drop k=l[k]::l.drop (k+1):=aC je;refine⟨(u,l,(l.length:Int),((k+1:Nat):Int),o,Bj [l[k]] a,s),⟨hl,k+1,au,rfl,rfl⟩,by simp only[aa];omega,?_,λkn kx=> ?_⟩
  ·simp only[xH,Dg,aa,hd,Bj,aX,db]
  ·rw[HW,bm au,aj,bz au au,aj,aa,n1,N.nV au];rfl
 ·right;obtain rfl:k=l.length:=au;intro R kn kx;rw[HW,bh au,al];simp only[xH,Dg,aa,aU,Bj,db]
theorem aeV:(zp.mM 1 th):=by
 refine(zp.qG 1 th) (λ(_,l,_,i,_,_,_)=>l.length - i.toNat) ?_
 rintro⟨u,l,n,i,o,a,s⟩ ⟨hl,k,hk,rfl,rfl⟩;have hl:l.length<=1000:=hl;have hk:k<=l.length:=hk;by_cases je:k < l.length
 ·left;have n1:nth arP l k=l[k]:=da (t:=arP) je;have hd:l.drop k=l[k]::l.drop (k+1):=aC je;refine⟨(u,l,(l.length:Int),((k+1:Nat):Int),o,VG [l[k]] a,s),⟨hl,k+1,au,rfl,rfl⟩,by simp only[aa];omega,?_,λkn kx=> ?_⟩
  ·simp only[xI,Dh,aa,hd,VG,aX,db]
  ·rw[HX,bm au,aj,bz au au,aj,aa,n1,N.nV au];rfl
 ·right;obtain rfl:k=l.length:=au;intro R kn kx;rw[HX,bh au,al];simp only[xI,Dh,aa,aU,VG,db]
theorem auh:zp.Ok:=by
 rintro⟨n,a,s⟩ ⟨h1,h2,h3⟩;have h1:n<=s.length:=h1;have h2:s.length<=1000000:=h2;have h3:∀st∈s,anW st:=h3;rw[aug];simp only[bG,R0];cases n with
 |zero=>
  rw[bm eZ,aj];rfl
 |succ m=>
  have e1:dL .i64 (((m+1:Nat):Nat):Int) (1:Int)=(m:Int):=by rw[gz au au];omega
  have hm:m < s.length:=au;have n1:nth cC s m=s[m]:=da (t:=cC) hm;have hs:=h3 _ (aV hm);rw[e1,bh au,al,bz au au,aj];simp only[aa,bg,cX,ba hm,aj,cV,n1];rw[aa1 (d:=((m:Int),s[m].2.1,(s[m].2.1.length:Int),0,m+1,a,s)) ⟨hs.2,0,aN _,rfl,rfl⟩];simp only[ae,xH,Dg,bo,aQ];rw[bz au au,aj];simp only[aa,bg,cX,ba hm,aj,cV,n1];rw[aa3 (d:=((m:Int),s[m].1,(s[m].1.length:Int),0,m+1,Bj s[m].2.1 a,s)) ⟨hs.1,0,aN _,rfl,rfl⟩];simp only[ae,xI,Dh,bo,aQ];rw[tq au au,aj,if_neg au];simp only[aa,Nat.sub_zero,rr,n1,CP]
theorem YR:zp.RS:=rE [.n,.d (.slice (.pair bM eO)),.d (.slice cC)] zp
def aui:=zp.gf auh 2 ⟨.gA aeU,⟨.gA aeV,trivial⟩⟩
abbrev zi:=Int×dM×(List cw)×Int×Int×Nat×(List (cw×eS))×(List cZ)×Nat×((List cw)×Unit)×(List adD)
def rY:zi->AS:=λ(ei,oc,t28,t29,t30,o0L,ed,di,ayR,n9,n45)=>⟨([.ptr (.bF 0) 0 [] 0,cq,.d ti ei,cq,.eI ee oc]++bf 4 ([fu 9]++bf 18 ([.d (.slice bM) t28,.d ti t29,.d ti t30]++bf 54 []))),[dC (.pr (.cO (.bF 1) 0) (.pr (.b8 (.bF 2) 0 [] 0 0 o0L) kK)),dC (.mp bM eO ed),dC (.vec 139 cC di)],(bI 9 ([dG (.pr (oa 45 ayR) (.d (.pair (.slice bM) .unit) n9))]++bI 35 ([dG (.vec 141 arP n45)]++bI 39 [])))⟩
abbrev Ax:=(Int×dM×Nat×(List cZ)×((List cw)×Unit))×((List (cw×eS))×Nat×(List adD))
def xv:Ax->Exit×AS:=λ((a,b,c,e,f),g,h,i)=>(.exit 0,⟨([.ptr (.bF 0) 0 [] 0,cq,.d ti a,cq,.eI ee b]++bf 4 ([fu 9]++bf 75 [])),[dC (.pr (.cO (.bF 1) 0) (.pr (.b8 (.bF 2) 0 [] 0 0 c) kK)),dC (.mp bM eO g),dC (.vec 139 cC e)],(bI 9 ([dG (.pr (oa 45 h) (.d (.pair (.slice bM) .unit) f))]++bI 35 ([dG (.vec 141 arP i)]++bI 39 [])))⟩)
def Lj:Ax->Out (Exit×AS):=λx=> .ok (xv x)
def mX:zi->((List (cw×eS))×Nat×(List adD))->Ax:=λ(ei,oc,t28,t29,t30,o0L,ed,di,ayR,n9,n45) y=>((ei,oc,o0L,di,n9),y)
abbrev zj:=Int×dM×(List cw)×Int×Int×Nat×(List (cw×eS))×(List cZ)×Nat×((List cw)×Unit)×(List adD)
def rZ:zj->AS:=λ(Cn,BV,t54,t55,t56,lR,uB,kD,Qy,uA,Qu)=>⟨([.ptr (.bF 0) 0 [] 0,cq,.d ti Cn,cq,.eI ee BV]++bf 4 ([fu 9]++bf 44 ([.d (.slice bM) t54,.d ti t55,.d ti t56]++bf 28 []))),[dC (.pr (.cO (.bF 1) 0) (.pr (.b8 (.bF 2) 0 [] 0 0 lR) kK)),dC (.mp bM eO uB),dC (.vec 139 cC kD)],(bI 9 ([dG (.pr (oa 45 Qy) (.d (.pair (.slice bM) .unit) uA))]++bI 35 ([dG (.vec 141 arP Qu)]++bI 39 [])))⟩
abbrev Ay:=(Nat×(List cZ)×Nat×((List cw)×Unit)×(List adD))×((List (cw×eS)))
def xx:Ay->Exit×AS:=λ((a,b,c,e,f),g)=>(.exit 2,⟨([.ptr (.bF 0) 0 [] 0]++bf 8 ([fu 9]++bf 75 [])),[dC (.pr (.cO (.bF 1) 0) (.pr (.b8 (.bF 2) 0 [] 0 0 a) kK)),dC (.mp bM eO g),dC (.vec 139 cC b)],(bI 9 ([dG (.pr (oa 45 c) (.d (.pair (.slice bM) .unit) e))]++bI 35 ([dG (.vec 141 arP f)]++bI 39 [])))⟩)
def Lm:Ay->Out (Exit×AS):=λx=> .ok (xx x)
def mY:zj->((List (cw×eS)))->Ay:=λ(Cn,BV,t54,t55,t56,lR,uB,kD,Qy,uA,Qu) y=>((lR,kD,Qy,uA,Qu),y)
abbrev Lg:=dM×Int×Nat×(List (cw×eS))×(List cZ)
def Th:Lg->SA:=λ(t,height,o0baL,o1,o2)=>([.ptr (.bF 0) 0 [] 0,.d ee t,.d ti height],[dC (.pr (.cO (.bF 1) 0) (.pr (.b8 (.bF 2) 0 [] 0 0 o0baL) kK)),dC (.mp bM eO o1),dC (.vec 139 cC o2)])
abbrev amd:=(Int×Nat×(List (cw×eS))×(List cZ))⊕(Int×Nat×(List (cw×eS))×(List cZ))
abbrev aaN:=(Int×Nat×(List (cw×eS))×(List cZ))⊕(Int×Nat×(List (cw×eS))×(List cZ))
def G7:aaN->ig:=λx=>match x with | .inl x=>⟨.d ti x.1,[dC (.pr (.cO (.bF 1) 0) (.pr (.b8 (.bF 2) 0 [] 0 0 x.2.1) kK)),dC (.mp bM eO x.2.2.1),dC (.vec 139 cC x.2.2.2)],[]⟩ | .inr x=>⟨.d ti x.1,[dC (.pr (.cO (.bF 1) 0) (.pr (.b8 (.bF 2) 1 [] 0 0 x.2.1) kK)),dC (.mp bM eO x.2.2.1),.obj 1 aR (.vec 139 cC x.2.2.2)],[]⟩
def yW:Lg->amd->aaN:=λ(t,height,o0baL,o1,o2) y=>match y with | .inl y=> .inl y | .inr y=> .inr y
def wY(a:List (cw×eS)):List cw->List adD
 |[]=> []
 |o::l=>(o,((cd bM o a).getD ayG,()))::wY (kg bM o a) l
def IV(h:Int):List cw->List lT->List (cw×eS)->List (cw×eS)
 |o::l,x::xs,a=>IV h l xs (e7 bM o (x,(h,())) a)
 |_,_,a=>a
def stepOf(t:dM)(a:List (cw×eS)):cZ:=(wY a (dK t),(fT t,()))
def cm(t:dM)(h:Int)(a:List (cw×eS)):List (cw×eS):=IV h (fT t) t.2.1 (Bj (dK t) a)
def xu:zi->Prop:=λ(_,_,l,n,i,_,_,_,gL,_,g)=>l.length<=1000/\∃k:Nat,k<=l.length/\i=k/\n=l.length/\gL=g.length/\g.length=k
def rC:zi->((List (cw×eS))×Nat×(List adD)):=λ(_,_,l,_,i,_,a,_,gL,_,g)=>(Bj (l.drop i.toNat) a,gL+(l.drop i.toNat).length,g++wY a (l.drop i.toNat))
def xw:zj->Prop:=λ(_,t,l,n,i,_,_,_,_,_,_)=>l.length<=1000/\l.length=t.2.1.length/\(∀o∈t.2.1,aIk o.2.1)/\∃k:Nat,k<=l.length/\i=k/\n=l.length
def rD:zj->((List (cw×eS))):=λ(h,t,l,_,i,_,a,_,_,_,_)=>IV h (l.drop i.toNat) (t.2.1.drop i.toNat) a
def N6:Lg->Prop:=λ(t,_,n,a,s)=>wX t/\aah a/\n<=s.length/\s.length<=1000000
def G6:Lg->amd:=λ(t,h,n,a,s)=>if(dJ t h a).2≠0 then .inl ((dJ t h a).2,n,a,s) else .inr (0,n+1,cm t h a,s.take n++ [stepOf t a])
def Lh:qi:=lU (P:=Tryz.prog) [Lq,ahE,WT,al7]
def Td:=dW.gA rY xu mX rC Lj
def HM:zi->Option Ax:=iI Td rY
def Tf:=dW.gA rZ xw mY rD Lm
def HO:zj->Option Ay:=iI Tf rZ
def Ff:w7:= {loops:=so [(6,{bp:=[0,2,4,9,28,29,30],sites:=[9,45],owns:=[⟨9,[.fst],45,137⟩]}),(12,{bp:=[0,2,4,9,54,55,56],sites:=[9,45]})],outs:=sm [(6,{bp:=[0,2,4,9],sites:=[9,45]},{bp:=[6]}),(12,{bp:=[0,9],sites:=[9,45]},{bp:=[6]})],gS:=tt [(6,Td),(12,Tf)]}
def amb:= @NL Tryz.prog Lh Ff 0 Tryz.f34 _ Th
abbrev at5:=anS @amb N6 yW G6 G7
def Te:= @fh Tryz.prog Lh Ff 0 Tryz.f34 0 _ rY
abbrev PL:=mn Tryz.prog Lh Ff 0 Tryz.f34 0 rY xu mX rC Lj
def Tg:= @fh Tryz.prog Lh Ff 0 Tryz.f34 1 _ rZ
abbrev PM:=mn Tryz.prog Lh Ff 0 Tryz.f34 1 rZ xw mY rD Lm
theorem aaL:kC HM xu mX rC:=og (na [.d ti,.d ee,.d (.slice bM),.d ti,.d ti,.n,.d (.slice (.pair bM eO)),.d (.slice cC),.n,.d (.pair (.slice bM) .unit),.d (.slice arP)] λ_=>cM)
theorem Li:asy @Te rY xu mX rC xv PL:=aDp
theorem HN(ei oc t28 t29 t30 o0L ed di ayR n9 n45)(kn:K2 R)(kx:K3 R):Te (ei,oc,t28,t29,t30,o0L,ed,di,ayR,n9,n45) kn kx=aS (gY t30 t29) (aS (gI t30 (((ag t28):Nat):Int)) (aS (decide (ayR<=(ag n45))) (aS (ea (ayR+1) 80) (kn (rY (ei,oc,t28,t29,(bT .i64 t30 (1:Int)),o0L,(kg bM (nth bM t28 (ab t30)) ed),di,(ayR+1),n9,((bn ayR n45)++ [((nth bM t28 (ab t30)),(((cd bM (nth bM t28 (ab t30)) ed).getD (((0:Int),((([]:List ud),()),())),((0:Int),()))),()))])))) aJ) aJ) aJ) (kx (xv ((ei,oc,o0L,di,n9),(ed,ayR,n45))).1 (xv ((ei,oc,o0L,di,n9),(ed,ayR,n45))).2):=cM
theorem aaM:kC HO xw mY rD:=og (na [.d ti,.d ee,.d (.slice bM),.d ti,.d ti,.n,.d (.slice (.pair bM eO)),.d (.slice cC),.n,.d (.pair (.slice bM) .unit),.d (.slice arP)] λ_=>cM)
theorem Ll:asy @Tg rZ xw mY rD xx PM:=aDp
theorem HP(Cn BV t54 t55 t56 lR uB kD Qy uA Qu)(kn:K2 R)(kx:K3 R):Tg (Cn,BV,t54,t55,t56,lR,uB,kD,Qy,uA,Qu) kn kx=aS (gY t56 t55) (aS (gI t56 (((ag t54):Nat):Int)) (aS (gI t56 (((ag BV.2.1):Nat):Int)) (aq (Rp.call (nth jy BV.2.1 (ab t56))) λx1=>kn (rZ (Cn,BV,t54,t55,(bT .i64 t56 (1:Int)),lR,(e7 bM (nth bM t54 (ab t56)) (x1,(Cn,())) uB),kD,Qy,uA,Qu))) aJ) aJ) (kx (xx ((lR,kD,Qy,uA,Qu),uB)).1 (xx ((lR,kD,Qy,uA,Qu),uB)).2):=cM
theorem at6(t height o0baL o1 o2)(k:K1 R):amb (t,height,o0baL,o1,o2) k=aq (lQ.call (t,height,o0baL,o1,o2)) λx1=>aS (JE x1.2.1 (0:Int)) (k (G7 (.inl (x1.2.1,x1.2.2.1,x1.2.2.2.1,x1.2.2.2.2)))) (aq (EC.call t) λx2=>aq (qZ.call t) λx3=>aq (HM (height,t,x3,(((ag x3):Nat):Int),(0:Int),x1.2.2.1,x1.2.2.2.1,x1.2.2.2.2,0,(x2,()),([]:List adD))) λx4=>aq (HO (x4.1.1,x4.1.2.1,x4.1.2.2.2.2.1,(((ag x4.1.2.2.2.2.1):Nat):Int),(0:Int),x4.1.2.2.1,x4.2.1,x4.1.2.2.2.1,x4.2.2.1,x4.1.2.2.2.2,x4.2.2.2)) λx6=>aS (decide (0=0/\(0+x6.1.2.2.1)<=(ag x6.1.2.2.2.2))) (aS (decide (x6.1.1<=(ag x6.1.2.1))) (aS (ea (x6.1.1+1) 48) (k (G7 (.inr ((0:Int),(x6.1.1+1),x6.2,((bn x6.1.1 x6.1.2.1)++ [((cut x6.1.2.2.2.2 0 x6.1.2.2.1),x6.1.2.2.2.1)]))))) aJ) aJ) aJ):=cM
theorem aeK:PL:=by
 refine Li (λ(_,_,l,_,i,_,_,_,_,_,_)=>l.length - i.toNat) ?_
 rintro⟨h,t,l,n,i,o,a,s,gL,u,g⟩ ⟨hl,k,hk,rfl,rfl,rfl,hg⟩;have hl:l.length<=1000:=hl;have hk:k<=l.length:=hk;have hg:g.length=k:=hg;by_cases je:k < l.length
 ·left;have n1:nth bM l k=l[k]:=da (t:=bM) je;have hd:l.drop k=l[k]::l.drop (k+1):=aC je;refine⟨(h,t,l,(l.length:Int),((k+1:Nat):Int),o,kg bM l[k] a,s,g.length+1,u,g++ [(l[k],((cd bM l[k] a).getD ayG,()))]),⟨hl,k+1,au,rfl,rfl,by simp,by simp[hg]⟩,by simp only[aa];omega,?_,λkn kx=> ?_⟩
  ·simp only[mX,rC,aa,hd,Bj,aX,wY,aO,dQ,aH];rw[show g.length+1+(l.drop (k+1)).length=g.length+((l.drop (k+1)).length+1) by omega]
  ·rw[HN,bm au,aj,bz au au,aj,ba (aF _),aj,eW au au,aj,aa,n1,N.nV au,cJ];rfl
 ·right;obtain rfl:k=l.length:=au;intro R kn kx;rw[HN,bh au,al];simp only[mX,rC,aa,aU,Bj,db,wY,bP,bB,cX]
theorem aeL:PM:=by
 refine Ll (λ(_,_,l,_,i,_,_,_,_,_,_)=>l.length - i.toNat) ?_
 rintro⟨h,t,l,n,i,o,a,s,gL,u,g⟩ ⟨hl,he,hb,k,hk,rfl,rfl⟩;have hl:l.length<=1000:=hl;have he:l.length=t.2.1.length:=he;have hk:k<=l.length:=hk;by_cases je:k < l.length
 ·left;have aD4:k < t.2.1.length:=au;have n1:nth bM l k=l[k]:=da (t:=bM) je;have n2:nth jy t.2.1 k=t.2.1[k]:=da (t:=jy) aD4;have hd:l.drop k=l[k]::l.drop (k+1):=aC je;have aHQ:t.2.1.drop k=t.2.1[k]::t.2.1.drop (k+1):=aC aD4;refine⟨(h,t,l,(l.length:Int),((k+1:Nat):Int),o,e7 bM l[k] (t.2.1[k],(h,())) a,s,gL,u,g),⟨hl,he,hb,k+1,au,rfl,rfl⟩,by simp only[aa];omega,?_,λkn kx=> ?_⟩
  ·simp only[mY,rD,aa,hd,aHQ,IV]
  ·rw[HP,bm au,aj,bz au au,aj,bz au au,aj,aa,n1,n2,aeE (d:=t.2.1[k]) (hb _ (aV aD4))];simp only[ae,bG,aiV];rw[N.nV au]
 ·right;obtain rfl:k=l.length:=au;intro R kn kx;rw[HP,bh au,al];simp only[mY,rD,aa,aU,IV]
theorem G2{t:dM}{h:Int}{a:List (cw×eS)}(e:(dJ t h a).2=0):iF t=aT/\1<=h/\h<=1048576/\∃jI,uf h (sP t) a t.1 0= .inr jI/\(fT t).any (pM a)=aR/\0<=jI - lJ t.2.1/\dJ t h a=(jI - lJ t.2.1,0):=by
 unfold dJ at e ⊢;by_cases h0:iF t=aT/\1<=h/\h<=1048576
 ·rw[if_pos h0]at e;rw[if_pos h0];refine⟨h0.1,h0.2.1,h0.2.2,?_⟩;cases hi:uf h (sP t) a t.1 0 with
  |inl x=>
   exfalso;rw[hi]at e;simp only at e;subst e;have key:∀(l:List j9) (f:Int),uf h (sP t) a l f≠ .inl 0:=by
    intro l
    induction l with
    |nil=>intro f hf;cases hf
    |cons x l ih=>
     intro f hf;simp only[uf]at hf;cases hg:cd bM x.1 a with
     |none=>rw[hg]at hf;simp at hf
     |some c=>
      rw[hg]at hf;simp only at hf;split at hf
      ·rename_i gj;exact gj (by injection hf)
      ·exact ih _ hf
   exact key _ _ hi
  |inr jI=>
   rw[hi]at e;simp only at e ⊢;by_cases hm:(fT t).any (pM a)=aT
   ·rw[if_pos hm]at e;cases e
   ·rw[if_neg hm]at e;rw[if_neg hm];by_cases hf:jI - lJ t.2.1 < 0
    ·rw[if_pos hf]at e;cases e
    ·rw[if_neg hf];exact⟨jI,rfl,by simpa using hm,au,rfl⟩
 ·rw[if_neg h0]at e;cases e
theorem T4{t:dM}(h:iF t=aT):(dK t).length=t.1.length:=by unfold dK;rw[if_pos h,cH]
theorem at7:at5:=by
 rintro⟨t,h,n,a,s⟩ ⟨hv,ha,hn,hs⟩;have hv:wX t:=hv;have ha:aah a:=ha;have hn:n<=s.length:=hn;have hs:s.length<=1000000:=hs;rw[at6,YO (d:=(t,h,n,a,s)) ⟨hv,ha⟩];simp only[ae,bG,aaO,yW,G6];by_cases he:(dJ t h a).2=0
 ·rw[eU he,al,if_neg (λe=>e he)];obtain⟨iO,_,_,_⟩:=G2 he;obtain⟨⟨_,a2,a3,_⟩,b1,b2⟩:=jg iO;rw[Z7 (d:=t) hv];simp only[ae,bG,Ss];rw[Rk (d:=t) hv.1];simp only[ae,bG,Hs];rw[aaL (d:=(h,t,dK t,((dK t).length:Int),0,n,a,s,0,(fT t,()),[])) ⟨by rw[T4 iO];omega,0,aN _,rfl,rfl,rfl,rfl⟩];simp only[ae,mX,rC,bo,aQ,aY,bg];rw[aaM (d:=(h,t,fT t,((fT t).length:Int),0,n,Bj (dK t) a,s,(dK t).length,(fT t,()),wY a (dK t))) ⟨by rw[uv iO];omega,uv iO,λo ho=>by
   have:=Uf (nc _ _ b2 o ho).2;exact⟨au,λb hb=>by have:=this.2 b hb;omega⟩,0,aN _,rfl,rfl⟩]
  simp only[ae,mY,rD,bo,aQ];have aKt:∀(l:List cw) (a:List (cw×eS)),(wY a l).length=l.length:=by
   intro l
   induction l with
   |nil=>intro a;rfl
   |cons o l ih=>intro a;simp[wY,ih]
  rw[ba (by rw[aKt];exact⟨trivial,au⟩),aj,ba hn,aj,eW au au,aj,fA (aKt _ _)];rfl
 ·rw[gZ he,aj,if_pos he]
def amc:=Entry.ajV [aJ,ao ee,ao ti] Th N6 yW G6 G7
def rF:Lg->Option aaN:=PE amc Th
theorem ao1:kC rF N6 yW G6:=anw (afG [.d ee,.d ti,.n,.d (.slice (.pair bM eO)),.d (.slice cC)] λ_=>cM)
def Ln:SG Tryz.prog:=⟨34,qN,amc,.of (.aHw (.fn 2 cM at7 (And.intro (.gA aeK cM) (And.intro (.gA aeL cM) trivial)))) (by rfl)⟩
theorem axQ(k:Int)(m:List Int):aC6 (mI k m):=by
 unfold mI;split
 ·exact⟨(aBK _).u,(alJ _ _).u⟩
 ·exact⟨⟨fI 0,eZ⟩,fI 0,eZ⟩
theorem afc:∀(l l':List j9) (b:List Int),l.map (·.1)=l'.map (·.1)->l.foldl R8 b=l'.foldl R8 b
 |[],[],_,_=>rfl
 |[],_::_,_,h=>by cases h
 |_::_,[],_,h=>by cases h
 |x::l,y::l',b,h=>by
  rw[cr,cr,cz]at h;have e:R8 b x=R8 b y:=by unfold R8;rw[h.1]
  rw[aX,aX,e,afc l l' _ h.2]
theorem aqW{l l':List j9}(t:List lT×Int×Unit)(h:l.map (·.1)=l'.map (·.1)):wH (l,t)=wH (l',t):=by
 have hl:l.length=l'.length:=by have:=bD ag h;simpa using this
 unfold wH;simp only[hl];rw[afc l l' _ h]
theorem afH:∀(l l':List j9) (m:List (cw×Bool)),l.map (·.1)=l'.map (·.1)->EN m l=aT->(∀x∈l',EF x.2.1=aT)->EN m l'=aT
 |[],[],_,_,_,_=>rfl
 |[],_::_,_,h,_,_=>by cases h
 |_::_,[],_,h,_,_=>by cases h
 |x::l,y::l',m,h,hi,hw=>by
  rw[cr,cr,cz]at h;rw[EN,av,av]at hi ⊢;have hx:=hi.1.2;unfold TV at hx;rw[av]at hx;refine⟨⟨?_,?_⟩,?_⟩
  ·have:=hi.1.1;unfold P3 at this ⊢;rw[<-h.1];exact this
  ·unfold TV;rw[<-h.1,hx.1,hw y aK];rfl
  ·rw[<-h.1];exact afH l l' _ h.2 hi.2 λz hz=>hw z (aL _ hz)
theorem ayu{l l':List j9}{t:List lT×Int×Unit}(h:l.map (·.1)=l'.map (·.1))(iO:iF (l,t)=aT)(hw:∀x∈l',EF x.2.1=aT):iF (l',t)=aT:=by
 have hl:l.length=l'.length:=by have:=bD ag h;simpa using this
 unfold iF adg at iO ⊢;rw[av,av]at iO ⊢;simp only[hl]at iO;exact⟨iO.1,afH l l' _ h iO.2.1 hw,iO.2.2⟩
theorem anF{l l':List j9}{t:List lT×Int×Unit}(h:l.map (·.1)=l'.map (·.1))(h1:iF (l,t)=aT)(h2:iF (l',t)=aT):sP (l',t)=sP (l,t):=by unfold sP;rw[h1,h2,aqW t h]
theorem ala{l l':List j9}{t:List lT×Int×Unit}(h:l.map (·.1)=l'.map (·.1))(h1:iF (l,t)=aT)(h2:iF (l',t)=aT):dK (l',t)=dK (l,t):=by unfold dK;rw[h1,h2];exact h.symm
theorem avX{l l':List j9}{t:List lT×Int×Unit}(h:l.map (·.1)=l'.map (·.1))(h1:iF (l,t)=aT)(h2:iF (l',t)=aT):fT (l',t)=fT (l,t):=by unfold fT;rw[h1,h2,anF h h1 h2]
def RM(t:dM)(k:Nat)(w:RT):dM:=(t.1.set k ((nth gB t.1 k).1,w,()),t.2)
theorem Nb(l:List j9)(k:Nat)(w:RT)(h:k < l.length):l.map (·.1)=(l.set k ((nth gB l k).1,w,())).map (·.1):=by
 have n1:nth gB l k=l[k]:=da (t:=gB) h;rw[n1,List.map_set];have e:(l[k].1:cw)=(l.map (·.1))[k]'(by rw[cH];exact h):=by rw[List.getElem_map]
 show _=(l.map (·.1)).set k l[k].1;rw[e,gm]
theorem ahh{l:List j9}{k:Nat}{w:RT}{x:j9}(h:k < l.length)(hx:x∈l.set k ((nth gB l k).1,w,())):x∈l\/(x.1=l[k].1/\x.2.1=w):=by
 have n1:nth gB l k=l[k]:=da (t:=gB) h;rw[n1]at hx;rcases List.mem_or_eq_of_mem_set hx with h1 | h1
 ·exact .inl h1
 ·exact .inr ⟨by rw[h1],by rw[h1]⟩
theorem Sr{t:dM}{k:Nat}{w:RT}(h:k < t.1.length)(iO:iF t=aT)(hw:EF w=aT):iF (RM t k w)=aT:=by
 obtain⟨_,b1,_⟩:=jg iO;refine ayu (l:=t.1) (Nb t.1 k w h) iO λx hx=> ?_
 rcases ahh h hx with h1 | h1
 ·have:=oR _ _ b1 x h1;unfold TV at this;rw[av]at this;exact this.2
 ·rw[h1.2];exact hw
theorem aER{t:dM}{k:Nat}{w:RT}(h:k < t.1.length)(hv:wX t)(hu:Su w)(hl:w.2.1.length<=9223372036854775807):wX (RM t k w):=by
 refine⟨⟨hv.1.1,by show(t.1.set k _).length<=_;rw[List.length_set];exact hv.1.2.1,hv.1.2.2⟩,λx hx=> ?_,hv.2.2⟩;rcases ahh h hx with h1 | h1
 ·exact hv.2.1 x h1
 ·refine⟨?_,by rw[h1.2];exact hu,by rw[h1.2];exact hl⟩;rw[h1.1];exact(hv.2.1 _ (aV h)).1
theorem aBy{t:dM}{k:Nat}{w:RT}(h:k < t.1.length)(iO:iF t=aT)(hw:EF w=aT):sP (RM t k w)=sP t/\dK (RM t k w)=dK t/\fT (RM t k w)=fT t:=⟨anF (l:=t.1) (Nb t.1 k w h) iO (Sr h iO hw),ala (l:=t.1) (Nb t.1 k w h) iO (Sr h iO hw),avX (l:=t.1) (Nb t.1 k w h) iO (Sr h iO hw)⟩
def XW(t:dM)(br:Int)(ks:List Int)(sc:Int):RT:=(br,ks.map (λk=>mI k (sP t)),sc,())
theorem axS(t:dM)(i br:Int)(ks:List Int)(sc:Int):axR t i br ks sc=if DZ t i br ks then(RM t i.toNat (XW t br ks sc),0) else(([],[],0,()),1):=rfl
theorem ahl{t:dM}{i br:Int}{ks:List Int}(h:DZ t i br ks=aT):iF t=aT/\(0<=i/\i < t.1.length/\0<=br/\br < 4/\ks.length<=12)/\∀k∈ks,k < 2305843009213688669/\k≠0:=by unfold DZ at h;simp only[av,aW,cv]at h;refine⟨h.1,h.2.1,λk hk=> ?_⟩;have:=h.2.2;rw[jl]at this;have:=this k hk;unfold IW at this;simpa using this
theorem aBA{t:dM}{i br:Int}{ks:List Int}(sc:Int)(h:DZ t i br ks=aT):EF (XW t br ks sc)=aT:=by have e:=(ahl h).2.1;unfold EF XW;rw[ba ⟨e.2.2.1,e.2.2.2.1⟩,ba (by rw[cH];exact e.2.2.2.2)];rfl
theorem aEU(t:dM)(br:Int)(ks:List Int){sc:Int}(h:ou sc):Su (XW t br ks sc):=⟨λs hs=>by
  obtain⟨k,_,rfl⟩:=dO.1 (show s∈ks.map λk=>mI k (sP t) from hs);exact axQ k _,h⟩
theorem axT{t:dM}{i br sc:Int}{ks:List Int}(hv:wX t)(h:DZ t i br ks=aT)(hs:ou sc):
  iF (RM t i.toNat (XW t br ks sc))=aT/\wX (RM t i.toNat (XW t br ks sc))/\sP (RM t i.toNat (XW t br ks sc))=sP t/\dK (RM t i.toNat (XW t br ks sc))=dK t/\fT (RM t i.toNat (XW t br ks sc))=fT t:=by
 obtain⟨iO,e,_⟩:=ahl h;have hk:i.toNat < t.1.length:=au;have hw:=aBA sc h;exact⟨Sr hk iO hw,aER hk hv (aEU t br ks hs) (by show(ks.map _).length<=_;rw[cH];omega),aBy hk iO hw⟩
abbrev B9:=Bs×Bs×Int×Int
def rz:B9->AS:=λ(akT,akU,t12,t13)=>⟨([.d tB akT,.d tB akU]++bf 10 ([.d ti t12,.d ti t13]++bf 12 [])),[],(ai 26 [])⟩
def rU:Unit->Exit×AS:=λx=>(.ret,⟨(bf 4 ([.d .bool aR]++bf 21 [])),[],(ai 26 [])⟩)
def An:Unit->Exit×AS:=λx=>(.exit 0,⟨(bf 26 []),[],(ai 26 [])⟩)
abbrev NQ:=(Unit)⊕(Unit)
abbrev Yv:=(Unit)⊕(Unit)
def EY:NQ->Out (Exit×AS):=λx=> .br x.isLeft (.get x.getLeft? λa=> .ok (rU a)) (.get x.getRight? λb=> .ok (An b))
def mu:B9->Yv->NQ:=λ(akT,akU,t12,t13) y=>match y with | .inl y=> .inl y | .inr z=> .inr (z)
def Am:B9->Prop:=λ(a,b,m,i)=>a.length<=1000000000/\a.length=b.length/\m=a.length/\∃k:Nat,k<=a.length/\i=k
def rT:B9->Yv:=λ(a,b,m,i)=>if a.drop i.toNat=b.drop i.toNat then .inr () else .inl ()
def asQ:(Bs×Bs)->Prop:=λ(a,b)=>a.length<=1000000000
def ain:(Bs×Bs)->Bool:=λ(a,b)=>decide (a=b)
def Yu:=dW.gA rz Am mu rT EY
def KF:B9->Option NQ:=iI Yu rz
def NO:Fs Tryz.prog asQ bG ain:=fV 157 Tryz.f157 (λ(s1,s2)=>([.d tB s1,.d tB s2],[])) (λx=>⟨.d .bool x,[],[]⟩) [ao tB,ao tB] [] {loops:=so [(4,{bp:=[0,1,12,13]})],outs:=sm [(4,{},{bp:=[4]})],gS:=tt [(4,Yu)]}
def NP:= @fh Tryz.prog (lU NO.G) NO.an 0 Tryz.f157 0 _ rz
abbrev SH:=mn Tryz.prog (lU NO.G) NO.an 0 Tryz.f157 0 rz Am mu rT EY
theorem ad1:kC KF Am mu rT:=og (na [.d tB,.d tB,.d ti,.d ti] λ_=>cM)
theorem NR:qp @NP rz Am mu rT EY SH:=rA
theorem KH(akT akU t12 t13)(kn:K2 R)(kx:K3 R):NP (akT,akU,t12,t13) kn kx=aS (gY t13 t12) (aS (gI t13 (((ag akT):Nat):Int)) (aS (gI t13 (((ag akU):Nat):Int)) (aS (JE (nth tb akT (ab t13)) (nth tb akU (ab t13))) (kx (rU ()).1 (rU ()).2) (kn (rz (akT,akU,t12,(bT .i64 t13 (1:Int)))))) aJ) aJ) (kx (An ()).1 (An ()).2):=cM
theorem ay4(s1 s2)(k:K1 R):NO.A (s1,s2) k=aS (JE (s1.length:Int) (s2.length:Int)) (k (NO.out aR)) (aq (KF (s1,s2,(s1.length:Int),0)) λx1=>aS x1.isLeft (aq x1.getLeft? λa2=>k (NO.out aR)) (aq x1.getRight? λb3=>k (NO.out aT))):=cM
theorem aio:SH:=by
 refine NR (λ(a,b,m,i)=>a.length - i.toNat) ?_
 rintro⟨a,b,m,i⟩ ⟨hl,ady,rfl,k,hk,rfl⟩;have hl:a.length<=1000000000:=hl;have ady:a.length=b.length:=ady;have hk:k<=a.length:=hk;by_cases h:k < a.length
 ·have h2:k < b.length:=au;have n1:nth (.int .u8) a k=a[k]:=da (t:=(.int .u8)) h;have n2:nth (.int .u8) b k=b[k]:=da (t:=(.int .u8)) h2;have hd:(a.drop k=b.drop k)=(a[k]=b[k]/\a.drop (k+1)=b.drop (k+1)):=by rw[aC h,aC h2,cz]
  have step:∀ {R:Type} (kn:AS->Option R) (kx:Exit->AS->Option R),NP (a,b,(a.length:Int),(k:Int)) kn kx=if a[k]=b[k] then kn (rz (a,b,(a.length:Int),((k+1:Nat):Int))) else kx (rU ()).1 (rU ()).2:=by
   intro R kn kx;rw[KH,bm au,bz au au,bz au au,aa,n1,n2,N.nV au];simp only[aj];by_cases hx:a[k]=b[k]
   ·rw[eU hx,if_pos hx];rfl
   ·rw[gZ hx,if_neg hx];rfl
  by_cases hx:a[k]=b[k]
  ·left;refine⟨(a,b,(a.length:Int),((k+1:Nat):Int)),⟨hl,ady,rfl,k+1,au,rfl⟩,by simp only[aa];omega,?_,λkn kx=> ?_⟩
   ·simp only[mu,rT,aa,hd,hx,Ae]
   ·rw[step,if_pos hx]
  ·right;refine⟨rU (),?_,λkn kx=> ?_⟩
   ·simp only[mu,rT,aa,hd,hx,false_and,cF];rfl
   ·rw[step,if_neg hx]
 ·right;obtain rfl:k=a.length:=au;refine⟨An (),?_,λkn kx=> ?_⟩
  ·simp only[mu,rT,aa,aU];rw[ady,aU,if_pos rfl];rfl
  ·rw[KH,bh au,al]
theorem ay5:NO.Ok:=by
 rintro⟨a,b⟩ hl;have hl:a.length<=1000000000:=hl;rw[ay4];simp only[bG,ain];by_cases h:a.length=b.length
 ·rw[eU au,al,ad1 (d:=(a,b,(a.length:Int),0)) ⟨hl,h,rfl,0,aN _,rfl⟩];simp only[ae,mu,rT,bo,aQ];by_cases hx:a=b
  ·rw[if_pos hx,ba hx];rfl
  ·rw[if_neg hx,bE hx];rfl
 ·rw[gZ au,bE (λx=>h (by rw[x]))];rfl
theorem asR:NO.RS:=rE [.d tB,.d tB] NO
def ay6:=NO.gf ay5 1 ⟨.gA aio,trivial⟩
theorem asS(t:Ty)(x:t.den)(h:t.comp=aT):t.beq x x=aT:=beq_refl t x h
theorem ay8(t:Ty)(hc:t.comp=aT)(x y:t.den) [Decidable (x=y)]:t.beq x y=decide (x=y):=by
 by_cases h:x=y
 ·subst h;rw[ba rfl,asS t x hc]
 ·rw[bE h];cases hb:t.beq x y
  ·rfl
  ·exact absurd (beq_eq t x y hc hb) h
theorem aDd(x y:cw):Ty.beq bM x y=decide (x=y):= @ay8 bM rfl x y (inferInstanceAs (Decidable (x=y)))
def vA(x:j9):Bool:=decide (x.2.1.2.1.length<=14)
def vz(b:ud):Bool:=decide (b.1.length<=14)
def qH(o:lT):Bool:=decide (o.2.1.1.length<=6) && o.2.1.1.all vz
def pf(t:dM):Bool:=decide (t.1.length<=66/\t.2.1.length<=66) && (t.1.all vA && t.2.1.all qH)
abbrev qD:=dM×Int
def ki:qD->AS:=λ(oc,i)=>⟨([cq,.eI ee oc,cq,.d ti i]++bf 69 []),[],(ai 73 [])⟩
def kM:Unit->Exit×AS:=λx=>(.ret,⟨([cq,cq,.d .bool aR]++bf 70 []),[],(ai 73 [])⟩)
def qS:dM->Exit×AS:=λx=>(.exit 0,⟨([cq,.eI ee x]++bf 71 []),[],(ai 73 [])⟩)
abbrev BJ:=(Unit)⊕(dM)
abbrev Is:=(Unit)⊕(Unit)
def wJ:BJ->Out (Exit×AS):=λx=> .br x.isLeft (.get x.getLeft? λa=> .ok (kM a)) (.get x.getRight? λb=> .ok (qS b))
def im:qD->Is->BJ:=λ(oc,i) y=>match y with | .inl y=> .inl y | .inr z=> .inr (oc)
abbrev qE:=dM×Int
def kj:qE->AS:=λ(BV,Qb)=>⟨([cq,.eI ee BV,cq,cq,.d ti Qb]++bf 68 []),[],(ai 73 [])⟩
def ir:Unit->Exit×AS:=λx=>(.ret,⟨([cq,cq,.d .bool aR]++bf 70 []),[],(ai 73 [])⟩)
def qU:Unit->Exit×AS:=λx=>(.exit 2,⟨(bf 73 []),[],(ai 73 [])⟩)
abbrev BL:=(Unit)⊕(Unit)
abbrev Iu:=(Unit)⊕(Unit)
def wK:BL->Out (Exit×AS):=λx=> .br x.isLeft (.get x.getLeft? λa=> .ok (ir a)) (.get x.getRight? λb=> .ok (qU b))
def iq:qE->Iu->BL:=λ(BV,Qb) y=>match y with | .inl y=> .inl y | .inr z=> .inr (z)
abbrev qF:=dM×Int×Int
def kk:qF->AS:=λ(arQ,Ry,kv)=>⟨([cq,.eI ee arQ,cq,cq,.d ti Ry,.d ti kv]++bf 67 []),[],(ai 73 [])⟩
def kN:Unit->Exit×AS:=λx=>(.ret,⟨([cq,cq,.d .bool aR]++bf 70 []),[],(ai 73 [])⟩)
def qW:(dM×Int)->Exit×AS:=λx=>(.exit 4,⟨([cq,.eI ee x.1,cq,cq,.d ti x.2]++bf 68 []),[],(ai 73 [])⟩)
abbrev BN:=(Unit)⊕((dM×Int))
abbrev Iw:=(Unit)⊕(Unit)
def wL:BN->Out (Exit×AS):=λx=> .br x.isLeft (.get x.getLeft? λa=> .ok (kN a)) (.get x.getRight? λb=> .ok (qW b))
def iu:qF->Iw->BN:=λ(arQ,Ry,kv) y=>match y with | .inl y=> .inl y | .inr z=> .inr ((arQ,Ry))
def qR:qD->Prop:=λ(t,i)=>t.1.length<=1000000000/\∃k:Nat,k<=t.1.length/\i=k
def jN:qD->Is:=λ(t,i)=>if(bV (ab i) t.1).all vA then .inr () else .inl ()
def qV:qF->Prop:=λ(t,j,i)=>(nth jy t.2.1 (ab j)).2.1.1.length<=1000000000/\∃k:Nat,k<=(nth jy t.2.1 (ab j)).2.1.1.length/\i=k/\(0<=j/\j < (t.2.1.length:Int))
def jP:qF->Iw:=λ(t,j,i)=>if(bV (ab i) (nth jy t.2.1 (ab j)).2.1.1).all vz then .inr () else .inl ()
def qT:qE->Prop:=λ(t,i)=>t.2.1.length<=1000000000/\∃k:Nat,k<=t.2.1.length/\i=k
def jO:qE->Iu:=λ(t,i)=>if(bV (ab i) t.2.1).all qH then .inr () else .inl ()
def acF:dM->Prop:=λ_=>True
def J9:dM->Bool:=λt=>pf t
def Ir:=dW.gA ki qR im jN wJ
def CE:qD->Option BJ:=iI Ir ki
def It:=dW.gA kj qT iq jO wK
def CH:qE->Option BL:=iI It kj
def Iv:=dW.gA kk qV iu jP wL
def CJ:qF->Option BN:=iI Iv kk
def fP:Fs Tryz.prog acF bG J9:=fV 25 Tryz.f25 (λt=>([.d ee t],[])) (λx=>⟨.d .bool x,[],[]⟩) [ao ee] [] {loops:=so [(4,{bp:=[1,3]}),(9,{bp:=[1,4]}),(14,{bp:=[1,4,5]})],outs:=sm [(4,{bp:=[1]},{bp:=[2]}),(9,{},{bp:=[2]}),(14,{bp:=[1,4]},{bp:=[2]})],gS:=tt [(4,Ir),(9,It),(14,Iv)]}
def BI:= @fh Tryz.prog (lU fP.G) fP.an 0 Tryz.f25 0 _ ki
abbrev F5:=mn Tryz.prog (lU fP.G) fP.an 0 Tryz.f25 0 ki qR im jN wJ
def BK:= @fh Tryz.prog (lU fP.G) fP.an 0 Tryz.f25 1 _ kj
abbrev F7:=mn Tryz.prog (lU fP.G) fP.an 0 Tryz.f25 1 kj qT iq jO wK
def BM:= @fh Tryz.prog (lU fP.G) fP.an 0 Tryz.f25 2 _ kk
abbrev F9:=mn Tryz.prog (lU fP.G) fP.an 0 Tryz.f25 2 kk qV iu jP wL
theorem RG:kC CE qR im jN:=og (na [.d ee,.d ti] λ_=>cM)
theorem F6:qp @BI ki qR im jN wJ F5:=rA
theorem CF(oc i)(kn:K2 R)(kx:K3 R):BI (oc,i) kn kx=aS (gY i (((ag oc.1):Nat):Int)) (aS (gI i (((ag oc.1):Nat):Int)) (aS (Ak (((ag (nth gB oc.1 (ab i)).2.1.2.1):Nat):Int) (14:Int)) (kx (kM ()).1 (kM ()).2) (kn (ki (oc,(bT .i64 i (1:Int)))))) aJ) (kx (qS oc).1 (qS oc).2):=cM
theorem RH:kC CH qT iq jO:=og (na [.d ee,.d ti] λ_=>cM)
theorem F8:qp @BK kj qT iq jO wK F7:=rA
theorem CI(BV Qb)(kn:K2 R)(kx:K3 R):BK (BV,Qb) kn kx=aS (gY Qb (((ag BV.2.1):Nat):Int)) (aS (gI Qb (((ag BV.2.1):Nat):Int)) (aS (Ak (((ag (nth jy BV.2.1 (ab Qb)).2.1.1):Nat):Int) (6:Int)) (kx (ir ()).1 (ir ()).2) (aq (CJ (BV,Qb,(0:Int))) λx1=>aS x1.isLeft (aq x1.getLeft? λa2=>kx (ir ()).1 (ir ()).2) (aq x1.getRight? λb3=>kn (kj (b3.1,(bT .i64 b3.2 (1:Int))))))) aJ) (kx (qU ()).1 (qU ()).2):=cM
theorem RI:kC CJ qV iu jP:=og (na [.d ee,.d ti,.d ti] λ_=>cM)
theorem Ga:qp @BM kk qV iu jP wL F9:=rA
theorem CK(arQ Ry kv)(kn:K2 R)(kx:K3 R):BM (arQ,Ry,kv) kn kx=aS (gI Ry (((ag arQ.2.1):Nat):Int)) (aS (gY kv (((ag (nth jy arQ.2.1 (ab Ry)).2.1.1):Nat):Int)) (aS (gI Ry (((ag arQ.2.1):Nat):Int)) (aS (gI kv (((ag (nth jy arQ.2.1 (ab Ry)).2.1.1):Nat):Int)) (aS (Ak (((ag (nth sH (nth jy arQ.2.1 (ab Ry)).2.1.1 (ab kv)).1):Nat):Int) (14:Int)) (kx (kN ()).1 (kN ()).2) (kn (kk (arQ,Ry,(bT .i64 kv (1:Int)))))) aJ) aJ) (kx (qW (arQ,Ry)).1 (qW (arQ,Ry)).2)) aJ:=cM
theorem agX(t)(k:K1 R):fP.A t k=aS (Ak (t.1.length:Int) 66) (k (fP.out aR)) (aS (Ak (t.2.1.length:Int) 66) (k (fP.out aR)) (aq (CE (t,0)) λx1=>aS x1.isLeft (aq x1.getLeft? λa2=>k (fP.out aR)) (aq x1.getRight? λb3=>aq (CH (b3,0)) λx7=>aS x7.isLeft (aq x7.getLeft? λa8=>k (fP.out aR)) (aq x7.getRight? λb9=>k (fP.out aT))))):=cM
theorem VJ:F5:=by
 refine F6 (λ(t,i)=>t.1.length - ab i) ?_
 rintro⟨t,i⟩ ⟨hlen,k,hk,rfl⟩;have hlen:t.1.length<=1000000000:=hlen;have hk:k<=t.1.length:=hk;by_cases h:k < t.1.length
 ·have n1:nth gB t.1 k=t.1[k]:=da (t:=gB) h;have hd:(bV k t.1).all vA=(vA t.1[k] && (bV (k+1) t.1).all vA):=by rw[aC h,iT]
  have step:∀ {R:Type} (kn:AS->Option R) (kx:Exit->AS->Option R),BI (t,(k:Int)) kn kx=aS (vA t.1[k]) (kn (ki (t,((k+1:Nat):Int)))) (kx (kM ()).1 (kM ()).2):=by
   intro R kn kx;rw[CF,bm au,bz (show(0:Int)<=(k:Int) by omega) au,aa,n1];simp only[aj];rw[N.nV au];unfold vA;by_cases hs:t.1[k].2.1.2.1.length<=14
   ·rw[du au,ba hs];rfl
   ·rw[dT au,bE hs];rfl
  cases hp:vA t.1[k]
  ·right;refine⟨kM (),?_,λkn kx=> ?_⟩
   ·simp only[im,jN,aa,hd,hp,ff,bR,cF];rfl
   ·rw[step,hp,al]
  ·left;refine⟨(t,((k+1:Nat):Int)),⟨hlen,k+1,au,rfl⟩,by simp only[aa];omega,?_,λkn kx=> ?_⟩
   ·simp only[im,jN,aa,hd,hp,cD]
   ·rw[step,hp,aj]
 ·right;obtain rfl:k=t.1.length:=au;refine⟨qS t,?_,λkn kx=> ?_⟩
  ·simp only[im,jN,aa,aU];rfl
  ·rw[CF,bh au,al]
theorem VL:F9:=by
 refine Ga (λ(t,j,i)=>(nth jy t.2.1 (ab j)).2.1.1.length - ab i) ?_
 rintro⟨t,j,i⟩ ⟨hlen,k,hk,rfl,hj⟩;have hlen:(nth jy t.2.1 (ab j)).2.1.1.length<=1000000000:=hlen;have hk:k<=(nth jy t.2.1 (ab j)).2.1.1.length:=hk;have hj:0<=j/\j < (t.2.1.length:Int):=hj;by_cases h:k < (nth jy t.2.1 (ab j)).2.1.1.length
 ·have n1:nth sH (nth jy t.2.1 (ab j)).2.1.1 k=(nth jy t.2.1 (ab j)).2.1.1[k]:=da (t:=sH) h;have hd:(bV k (nth jy t.2.1 (ab j)).2.1.1).all vz=(vz (nth jy t.2.1 (ab j)).2.1.1[k] && (bV (k+1) (nth jy t.2.1 (ab j)).2.1.1).all vz):=by rw[aC h,iT]
  have step:∀ {R:Type} (kn:AS->Option R) (kx:Exit->AS->Option R),BM (t,j,(k:Int)) kn kx=aS (vz (nth jy t.2.1 (ab j)).2.1.1[k]) (kn (kk (t,j,((k+1:Nat):Int)))) (kx (kN ()).1 (kN ()).2):=by
   intro R kn kx;rw[CK,bz hj.1 hj.2,aj,bm au,bz (show(0:Int)<=(k:Int) by omega) au,aa,n1];simp only[aj];rw[N.nV au];unfold vz;by_cases hs:(nth jy t.2.1 (ab j)).2.1.1[k].1.length<=14
   ·rw[du au,ba hs];rfl
   ·rw[dT au,bE hs];rfl
  cases hp:vz (nth jy t.2.1 (ab j)).2.1.1[k]
  ·right;refine⟨kN (),?_,λkn kx=> ?_⟩
   ·simp only[iu,jP,aa,hd,hp,ff,bR,cF];rfl
   ·rw[step,hp,al]
  ·left;refine⟨(t,j,((k+1:Nat):Int)),⟨hlen,k+1,au,rfl,hj⟩,by simp only[aa];omega,?_,λkn kx=> ?_⟩
   ·simp only[iu,jP,aa,hd,hp,cD]
   ·rw[step,hp,aj]
 ·right;obtain rfl:k=(nth jy t.2.1 (ab j)).2.1.1.length:=au;refine⟨qW (t,j),?_,λkn kx=> ?_⟩
  ·simp only[iu,jP,aa,aU];rfl
  ·rw[CK,bz hj.1 hj.2,aj,bh au,al]
theorem VK:F7:=by
 refine F8 (λ(t,i)=>t.2.1.length - ab i) ?_
 rintro⟨t,i⟩ ⟨hlen,k,hk,rfl⟩;have hlen:t.2.1.length<=1000000000:=hlen;have hk:k<=t.2.1.length:=hk;by_cases h:k < t.2.1.length
 ·have n1:nth jy t.2.1 k=t.2.1[k]:=da (t:=jy) h;have hd:(bV k t.2.1).all qH=(qH t.2.1[k] && (bV (k+1) t.2.1).all qH):=by rw[aC h,iT]
  have step:∀ {R:Type} (kn:AS->Option R) (kx:Exit->AS->Option R),BK (t,(k:Int)) kn kx=aS (qH t.2.1[k]) (kn (kj (t,((k+1:Nat):Int)))) (kx (ir ()).1 (ir ()).2):=by
   intro R kn kx;rw[CI,bm au,bz (show(0:Int)<=(k:Int) by omega) au,aa,n1];simp only[aj];unfold qH;by_cases hs:t.2.1[k].2.1.1.length<=6
   ·rw[du au,ba hs,al,RI (d:=(t,(k:Int),0)) ⟨by rw[aa,n1];show t.2.1[k].2.1.1.length<=_;omega,0,aN _,rfl,by show(0:Int)<=(k:Int);omega,by show(k:Int) < (t.2.1.length:Int);omega⟩];simp only[ae,iu,jP,aa,n1,bo,aQ,cD];cases t.2.1[k].2.1.1.all vz
    ·rfl
    ·simp only[cY,dS,dg,al,ae,aj];rw[N.nV au]
   ·rw[dT au,bE hs];rfl
  cases hp:qH t.2.1[k]
  ·right;refine⟨ir (),?_,λkn kx=> ?_⟩
   ·simp only[iq,jO,aa,hd,hp,ff,bR,cF];rfl
   ·rw[step,hp,al]
  ·left;refine⟨(t,((k+1:Nat):Int)),⟨hlen,k+1,au,rfl⟩,by simp only[aa];omega,?_,λkn kx=> ?_⟩
   ·simp only[iq,jO,aa,hd,hp,cD]
   ·rw[step,hp,aj]
 ·right;obtain rfl:k=t.2.1.length:=au;refine⟨qU (),?_,λkn kx=> ?_⟩
  ·simp only[iq,jO,aa,aU];rfl
  ·rw[CI,bh au,al]
theorem agY:fP.Ok:=by
 intro t _;rw[agX];simp only[bG,J9,pf];by_cases h1:t.1.length<=66
 ·by_cases h2:t.2.1.length<=66
  ·rw[du au,du au,al,al,ba ⟨h1,h2⟩,RG (d:=(t,0)) ⟨by show t.1.length<=_;omega,0,aN _,rfl⟩];simp only[ae,im,jN,bo,aQ,cD];cases t.1.all vA
   ·rfl
   ·simp only[cY,dS,dg,al,ae,cD];rw[RH (d:=(t,0)) ⟨by show t.2.1.length<=_;omega,0,aN _,rfl⟩];simp only[ae,iq,jO,bo,aQ];cases t.2.1.all qH <;> rfl
  ·rw[du au,dT au,bE (λx=>h2 x.2)];rfl
 ·rw[dT au,bE (λx=>h1 x.1)];rfl
theorem MP:fP.RS:=rE [.d ee] fP
def QZ:=fP.gf agY 3 ⟨.gA VJ,⟨.gA VK,⟨.gA VL,trivial⟩⟩⟩
abbrev pa:=(List cw)×(List cw)×Int
def jr:pa->AS:=λ(adH,ov,i)=>⟨([.d (.slice bM) adH,.d (.slice bM) ov,cq,cq,cq,.d ti i]++bf 20 []),[],(ai 26 [])⟩
def j6:Unit->Exit×AS:=λx=>(.ret,⟨(bf 4 ([.d .bool aR]++bf 21 [])),[],(ai 26 [])⟩)
def pX:Unit->Exit×AS:=λx=>(.exit 0,⟨(bf 26 []),[],(ai 26 [])⟩)
abbrev zW:=(Unit)⊕(Unit)
abbrev F4:=(Unit)⊕(Unit)
def uF:zW->Out (Exit×AS):=λx=> .br x.isLeft (.get x.getLeft? λa=> .ok (j6 a)) (.get x.getRight? λb=> .ok (pX b))
def gO:pa->F4->zW:=λ(adH,ov,i) y=>match y with | .inl y=> .inl y | .inr z=> .inr (z)
abbrev QY:=(List cw)×(List cw)
def pW:pa->Prop:=λ(a,b,i)=>a.length<=1000000000/\a.length=b.length/\∃k:Nat,k<=a.length/\i=k
def jf:pa->F4:=λ(a,b,i)=>if bV (ab i) a=bV (ab i) b then .inr () else .inl ()
def XQ:QY->Prop:=λ(a,b)=>a.length<=1000000000
def F2:QY->Bool:=λ(a,b)=>decide (a=b)
def F3:=dW.gA jr pW gO jf uF
def AY:pa->Option zW:=iI F3 jr
def j4:Fs Tryz.prog XQ bG F2:=fV 12 Tryz.f12 (λ(a,b)=>([.d (.slice bM) a,.d (.slice bM) b],[])) (λx=>⟨.d .bool x,[],[]⟩) [ao (.slice bM),ao (.slice bM)] [] {loops:=so [(4,{bp:=[0,1,5]})],outs:=sm [(4,{},{bp:=[4]})],gS:=tt [(4,F3)]}
def zV:= @fh Tryz.prog (lU j4.G) j4.an 0 Tryz.f12 0 _ jr
abbrev Eo:=mn Tryz.prog (lU j4.G) j4.an 0 Tryz.f12 0 jr pW gO jf uF
theorem OT:kC AY pW gO jf:=og (na [.d (.slice bM),.d (.slice bM),.d ti] λ_=>cM)
theorem EO:qp @zV jr pW gO jf uF Eo:=rA
theorem AZ(adH ov i)(kn:K2 R)(kx:K3 R):zV (adH,ov,i) kn kx=aS (gY i (((ag adH):Nat):Int)) (aS (gI i (((ag adH):Nat):Int)) (aS (gI i (((ag ov):Nat):Int)) (aS (!(Ty.beq bM (nth bM adH (ab i)) (nth bM ov (ab i)))) (kx (j6 ()).1 (j6 ()).2) (kn (jr (adH,ov,(bT .i64 i (1:Int)))))) aJ) aJ) (kx (pX ()).1 (pX ()).2):=cM
theorem acC(a b)(k:K1 R):j4.A (a,b) k=aS (JE (a.length:Int) (b.length:Int)) (k (j4.out aR)) (aq (AY (a,b,0)) λx1=>aS x1.isLeft (aq x1.getLeft? λa2=>k (j4.out aR)) (aq x1.getRight? λb3=>k (j4.out aT))):=cM
theorem RF:Eo:=by
 refine EO (λ(a,b,i)=>a.length - ab i) ?_
 rintro⟨a,b,i⟩ ⟨hlen,ady,k,hk,rfl⟩;have hlen:a.length<=1000000000:=hlen;have ady:a.length=b.length:=ady;have hk:k<=a.length:=hk;by_cases h:k < a.length
 ·have h2:k < b.length:=au;have n1:nth bM a k=a[k]:=da (t:=bM) h;have n2:nth bM b k=b[k]:=da (t:=bM) h2;have hd:(bV k a=bV k b)=(a[k]=b[k]/\bV (k+1) a=bV (k+1) b):=by rw[aC h,aC h2,cz]
  have step:∀ {R:Type} (kn:AS->Option R) (kx:Exit->AS->Option R),zV (a,b,(k:Int)) kn kx=if a[k]=b[k] then kn (jr (a,b,((k+1:Nat):Int))) else kx (j6 ()).1 (j6 ()).2:=by
   intro R kn kx;rw[AZ,bm au,bz au au,bz au au,aa,n1,n2];simp only[aj];rw[aDd,N.nV au];by_cases hx:a[k]=b[k]
   ·rw[ba hx,if_pos hx];rfl
   ·rw[bE hx,if_neg hx];rfl
  by_cases hx:a[k]=b[k]
  ·left;refine⟨(a,b,((k+1:Nat):Int)),⟨hlen,ady,k+1,au,rfl⟩,by simp only[aa];omega,?_,λkn kx=> ?_⟩
   ·simp only[gO,jf,aa,hd,hx,Ae]
   ·rw[step,if_pos hx]
  ·right;refine⟨j6 (),?_,λkn kx=> ?_⟩
   ·simp only[gO,jf,aa,hd,hx,false_and,cF];rfl
   ·rw[step,if_neg hx]
 ·right;obtain rfl:k=a.length:=au;refine⟨pX (),?_,λkn kx=> ?_⟩
  ·simp only[gO,jf,aa,aU];rw[ady,aU,if_pos rfl];rfl
  ·rw[AZ,bh au,al]
theorem acD:j4.Ok:=by
 rintro⟨a,b⟩ h;have h:a.length<=1000000000:=h;rw[acC];simp only[bG,F2];by_cases e3:a.length=b.length
 ·rw[eU au,OT (d:=(a,b,0)) ⟨h,e3,0,aN _,rfl⟩];simp only[ae,gO,jf,bo,aQ,al];by_cases e4:a=b
  ·rw[if_pos e4,ba e4];rfl
  ·rw[if_neg e4,bE e4];rfl
 ·rw[gZ au,bE (λx=>e3 (by rw[x]))];rfl
theorem XR:j4.RS:=rE [.d (.slice bM),.d (.slice bM)] j4
def acE:=j4.gf acD 1 ⟨.gA RF,trivial⟩
def LA:gG:=([],aT,())
def qs(r:gG):Prop:=r.1.length<=1000000000/\Bytes r.1
def ml(n:Nat)(r:gG):List Int×gG:=if r.2.1=aT\/r.1.length < n then([],LA) else(r.1.take n,(r.1.drop n,r.2))
def JT(l:List Int):Int:=l.foldl (λn b=>n*256+b) 0
def qJ(r:gG):Int×gG:=(JT (ml 8 r).1,(ml 8 r).2)
theorem abe:qs LA:=⟨aN _,λx hx=>by cases hx⟩
theorem yJ{n:Nat}{r:gG}(h:qs r):(ml n r).1.length<=n/\Bytes (ml n r).1/\qs (ml n r).2:=by
 unfold ml;split
 ·exact⟨aN _,λx hx=>(by cases hx),abe⟩
 ·refine⟨by rw[cT];omega,λx hx=>h.2 x (oq hx),?_,λx hx=>h.2 x (List.mem_of_mem_drop hx)⟩;show(r.1.drop n).length<=_;rw[dx];have:=h.1;omega
theorem aqn(l:List Int)(b:Int):JT (l++ [b])=JT l*256+b:=by unfold JT;rw[List.foldl_append];rfl
theorem agh:∀(l:List Int) (n:Int) (k:Nat),Bytes l->0<=n->n < 256^k->0<=l.foldl (λn b=>n*256+b) n/\l.foldl (λn b=>n*256+b) n < 256^(k+l.length)
 |[],n,k,_,h0,h1=>⟨h0,h1⟩
 |b::l,n,k,hb,h0,h1=>by obtain⟨aH3,aH4⟩:=hb b aK;have e:(256:Int)^(k+1)=256^k*256:=fY 256 k;have:=agh l (n*256+b) (k+1) (λx hx=>hb x (aL _ hx)) au (by rw[e];omega);rw[show k+(b::l).length=k+1+l.length by rw[aH];omega];exact this
theorem amT{l:List Int}(h:Bytes l):0<=JT l/\JT l < 256^l.length:=by have:=agh l 0 0 h (fI 0) eZ;rw[bg]at this;exact this
theorem ZG{a b:Nat}(h:a<=b):(256:Int)^a<=256^b:=by have:((256^a:Nat):Int)<=((256^b:Nat):Int):=Int.ofNat_le.2 (Nat.pow_le_pow_right eZ h);rw[kH,kH]at this;exact this
theorem aEC{l:List Int}(h:Bytes l)(h8:l.length<=8):ou (JT l):=by have e:=amT h;have e2:=ZG h8;have e3:(256:Int)^8=18446744073709551616:=rfl;exact⟨e.1,au⟩
theorem Pf{r:gG}(h:qs r):ou (qJ r).1/\qs (qJ r).2:=⟨aEC (yJ h).2.1 (yJ h).1,(yJ h).2.2⟩
theorem aHu{n b:Int}(h0:0<=n)(h1:n < 72057594037927936)(hb:aai b):eh .or .u64 (oe .u64 n 8) (eD .u64 b)=n*256+b:=by have e:=(P0 (n:=n) (b:=b) ⟨h0,au⟩ hb).1;rw[vp 56 (by rfl) au]at e;have p:(2:Int)^56=72057594037927936:=rfl;rw[p]at e;omega
def arj:gG->Prop:=λ_=>True
def aBp:gG->gG:=λ_=>LA
def MZ:Fs Tryz.prog arj bG aBp:=fV 155 Tryz.f155 (λo0=>([.ptr (.bF 0) 0 [] 0],[.obj 0 aR (.d sO o0)])) (λx=>⟨.nil,[.obj 0 aR (.d sO x)],[]⟩) [aJ] [] {Lu:=[⟨0,[.arr],sO⟩]}
theorem axv(o0)(k:K1 R):MZ.A o0 k=k (MZ.out (([]:List Int),(aT,o0.2.2))):=cM
theorem axw:MZ.Ok:=by intro o _;rw[axv];rfl
theorem O0:MZ.RS:=rE [.d sO] MZ
def ag2:=MZ.gf axw
def ZN:gG->Int->((gG)×(Int)):=λo0 y=>(o0,y)
def arn:gG->Prop:=λ_=>True
def ant:gG->Int:=λo=>(o.1.length:Int)
def VY:Fs Tryz.prog arn ZN ant:=fV 136 Tryz.f136 (λo0=>([.ptr (.bF 0) 0 [] 0],[.obj 0 aR (.d sO o0)])) (λx=>⟨.d ti x.2,[.obj 0 aR (.d sO x.1)],[]⟩) [aJ]
theorem axA(o0)(k:K1 R):VY.A o0 k=k (VY.out (o0,(o0.1.length:Int))):=cM
theorem axB:VY.Ok:=by intro o _;rw[axA];rfl
theorem aro:VY.RS:=rE [.d sO] VY
def axC:=VY.gf axB
def ag4:gG->Bool->((gG)×(Bool)):=λo0 y=>(o0,y)
def axF:gG->Prop:=λ_=>True
def axE:gG->Bool:=λo=> !o.2.1
def akP:Fs Tryz.prog axF ag4 axE:=fV 135 Tryz.f135 (λo0=>([.ptr (.bF 0) 0 [] 0],[.obj 0 aR (.d sO o0)])) (λx=>⟨.d .bool x.2,[.obj 0 aR (.d sO x.1)],[]⟩) [aJ]
theorem aBs(o0)(k:K1 R):akP.A o0 k=k (akP.out (o0,(!o0.2.1))):=cM
theorem aBt:akP.Ok:=by intro o _;rw[aBs];rfl
theorem axG:akP.RS:=rE [.d sO] akP
def aBu:=akP.gf aBt
def aru:(Int×gG)->Prop:=λ(n,o)=>0<=n/\o.1.length<=1000000000
def Sq:(Int×gG)->(Bs×gG):=λ(n,o)=>ml n.toNat o
def Gf:Fs Tryz.prog aru bG Sq:=fV 156 Tryz.f156 (λ(n,o0)=>([.ptr (.bF 0) 0 [] 0,.d ti n],[.obj 0 aR (.d sO o0)])) (λx=>⟨.d tB x.1,[.obj 0 aR (.d sO x.2)],[]⟩) [aJ,ao ti] [ag2,N0] {res:=[ao tB],Lu:=[⟨0,[.arr],sO⟩]}
theorem axL(n o0)(k:K1 R):Gf.A (n,o0) k=aS (o0.2.1) (aq (MZ.call o0) λx1=>k (Gf.out (([]:List Int),x1))) (aS (Ak n (o0.1.length:Int)) (aq (MZ.call o0) λx2=>k (Gf.out (([]:List Int),x2))) (aS (inc n (o0.1.length:Int)) (aq (zf.call (cut o0.1 0 ((ab n) - 0))) λx3=>aS (inc n (o0.1.length:Int)) (aS (decide (0=0/\(0+x3.1)<=(ag x3.2))) (k (Gf.out ((cut x3.2 0 x3.1),((cut o0.1 (ab n) ((ag o0.1) - (ab n))),o0.2)))) aJ) aJ) aJ)):=cM
theorem axM:Gf.Ok:=by
 rintro⟨n,o⟩ ⟨h0,hl⟩;have h0:0<=n:=h0;have hl:o.1.length<=1000000000:=hl;obtain⟨k,rfl⟩:∃k:Nat,n=k:=⟨n.toNat,au⟩;rw[axL];simp only[bG,Sq,ml,aa,Nat.sub_zero];cases h2:o.2.1
 ·by_cases hn:o.1.length < k
  ·rw[dT au,if_pos (fm hn),O0 (d:=o) trivial];rfl
  ·have e1:cut o.1 0 k=o.1.take k:=rfl;have e2:cut o.1 k (o.1.length - k)=o.1.drop k:=by unfold cut;rw[bJ];rw[dx];omega
   rw[du au,if_neg (by intro x;rcases x with x | x;exact absurd x eZ;exact hn x),tq au au,e1,e2,I6 (d:=o.1.take k) (by show(o.1.take k).length<=_;rw[cT];omega)];simp only[al,aj,ae,bG,E8,bg,aF,kf,cV,fA]
 ·rw[aj,if_pos (lG rfl),O0 (d:=o) trivial];rfl
theorem O7:Gf.RS:=rE [.d ti,.d sO] Gf
def V5:=Gf.gf axM
abbrev O9:=Int×Bs×Int×Int×gG
def ag7:O9->Int->((gG)×(Int)):=λ(n,t7,t8,t9,qm) y=>(qm,y)
def ag6:O9->Prop:=λ(n,l,m,i,o)=>Bytes l/\l.length<=8/\m=l.length/\∃k:Nat,k<=l.length/\i=k/\n=JT (l.take k)
def arv:O9->Int:=λ(n,l,m,i,o)=>JT l
def axN:gG->Prop:=λo=>qs o
def O8:gG->(Int×gG):=λo=>qJ o
def yF:Ls ag6 ag7 arv:=yg (λ(n,t7,t8,t9,qm)=>⟨([cq,cq,cq,.d tu n,cq,cq,cq,.d tB t7,.d ti t8,.d ti t9]++bf 10 []),dG (.d sO qm),(ai 20 [])⟩) (λx=>(.exit 0,⟨([cq,cq,cq,.d tu x.2]++bf 16 []),dG (.d sO x.1),(ai 20 [])⟩))
def M4:Fs Tryz.prog axN bG O8:=fV 134 Tryz.f134 (λo0=>([.ptr (.bF 0) 0 [] 0],[.obj 0 aR (.d sO o0)])) (λx=>⟨.d tu x.1,[.obj 0 aR (.d sO x.2)],[]⟩) [aJ] [V5] {loops:=so [(3,{bp:=[3,7,8,9]})],outs:=sm [(3,{bp:=[3]},{bp:=[2]})],gS:=tt [(3,yF.E)]}
theorem ag8:yF.RS:=rL [.d tu,.d tB,.d ti,.d ti,.d sO] yF
theorem M5(n t7 t8 t9 qm)(kn:K2 R)(kx:K3 R):M4.R 0 yF (n,t7,t8,t9,qm) kn kx=aS (gY t9 t8) (aS (gI t9 (t7.length:Int)) (kn (yF.st ((eh .or .u64 (oe .u64 n 8) (eD .u64 (nth tb t7 (ab t9)))),t7,t8,(bT .i64 t9 1),qm))) aJ) (yF.go kx (qm,n)):=cM
theorem aBv(o0)(k:K1 R):M4.A o0 k=aq (Gf.call (8,o0)) λx1=>aq (yF.call (0,x1.1,(x1.1.length:Int),0,x1.2)) λx2=>k (M4.out (x2.2,x2.1)):=cM
theorem akR:(M4.mM 0 yF):=by
 refine(M4.qG 0 yF) (λ(n,l,m,i,o)=>l.length - i.toNat) ?_
 rintro⟨n,l,m,i,o⟩ ⟨hb,h8,rfl,k,hk,rfl,rfl⟩;have h8:l.length<=8:=h8;have hk:k<=l.length:=hk;by_cases h:k < l.length
 ·left;have hx:=hb _ (aV h);have n1:nth (.int .u8) l k=l[k]:=da (t:= .int .u8) h;have ht:(l.take k).length=k:=by rw[cT];omega
  have b0:=amT (l:=l.take k) λx hx=>hb x (oq hx)
  rw[ht]at b0;have b1:=ZG (show k<=7 by omega);have b2:(256:Int)^7=72057594037927936:=rfl;refine⟨(JT (l.take (k+1)),l,l.length,((k+1:Nat):Int),o),⟨hb,h8,rfl,k+1,au,rfl,rfl⟩,by simp only[aa];omega,rfl,λkn kx=> ?_⟩;rw[M5,bm au,bz au au,aa,n1,N.nV au,aHu b0.1 au hx,List.take_succ_eq_append_getElem h,aqn];rfl
 ·right;obtain rfl:k=l.length:=au;intro R kn kx;rw[M5,bh au,al,cJ];rfl
theorem aBw:M4.Ok:=by intro o h;have h:qs o:=h;have t:=yJ (n:=8) h;rw[aBv,O7 (d:=(8,o)) ⟨eZ,h.1⟩];simp only[ae,bG,Sq];rw[show ab 8=8 from rfl,ag8 (d:=(0,(ml 8 o).1,(ml 8 o).1.length,0,(ml 8 o).2)) ⟨t.2.1,t.1,rfl,0,aN _,rfl,rfl⟩];rfl
theorem Gg:M4.RS:=rE [.d sO] M4
def anv:=M4.gf aBw 1 ⟨.gA akR,trivial⟩
def arp:Bs->Prop:=λb=>b.length<=1000000000
def acJ:Bs->gG:=λb=>(b,aR,())
def Q3:Fs Tryz.prog arp bG acJ:=fV 128 Tryz.f128 (λb=>([.d tB b],[])) (λx=>⟨.ptr (.new 0 0) 0 [] 0,[],[.obj 0 aR (.d sO x)]⟩) [ao tB] [N0] {bN:=[6],Lu:=[⟨2,[.arr],sO⟩]}
theorem axH(b)(k:K1 R):Q3.A b k=aq (zf.call b) λx1=>aS (decide (0=0/\(0+x1.1)<=(ag x1.2))) (k (Q3.out ((cut x1.2 0 x1.1),(aR,())))) aJ:=cM
theorem axI:Q3.Ok:=by intro b hb;have hb:b.length<=1000000000:=hb;rw[axH,I6 (d:=b) (by show b.length<=_;omega)];simp only[ae,bG,E8,bg,aF,kf,cV,aj,fA];rfl
theorem ZQ:Q3.RS:=rE [.d tB] Q3
def ag5:=Q3.gf axI
abbrev V8:=Int×gG
def DU:V8->Bool->((Int×gG)×(Bool)):=λ(o0,o2) y=>((o0,o2),y)
def akS:V8->Prop:=λ(a,o)=>0<=a
def M7:V8->Bool:=λ(a,o)=>decide (o.1.length<=a.toNat\/8 < a.toNat\/(0 < a.toNat/\nth (.int .u8) o.1 a.toNat=0))
def BQ:Fs Tryz.prog akS DU M7:=fV 154 Tryz.f154 (λ(o0,o2)=>([.ptr (.bF 0) 0 [] 0,.ptr (.bF 1) 0 [] 0],[.obj 0 aR (.d ti o0),.obj 0 aR (.ptr (.bF 2) 0 [] 0),.obj 0 aR (.d sO o2)])) (λx=>⟨.d .bool x.2,[.obj 0 aR (.d ti x.1.1),.obj 0 aR (.ptr (.bF 2) 0 [] 0),.obj 0 aR (.d sO x.1.2)],[]⟩) [aJ,aJ]
theorem arx(o0 o2)(k:K1 R):BQ.A (o0,o2) k=aS (Bp o0 (o2.1.length:Int)) (k (BQ.out ((o0,o2),aT))) (aS (Ak o0 8) (k (BQ.out ((o0,o2),aT))) (aS (Ak o0 0) (aS (gI o0 (o2.1.length:Int)) (k (BQ.out ((o0,o2),(EM (nth tb o2.1 (ab o0)) 0)))) aJ) (k (BQ.out ((o0,o2),aR))))):=cM
theorem ary:BQ.Ok:=by
 rintro⟨a,o⟩ h0;obtain⟨k,rfl⟩:∃k:Nat,a=k:=⟨a.toNat,by have h0:0<=a:=h0;omega⟩;rw[arx];simp only[DU,M7,aa];by_cases h1:o.1.length<=k
 ·rw[gM au,ba (lG h1)];rfl
 by_cases h2:8 < k
 ·rw[eT au,dT au,ba (fm (lG h2))];rfl
 by_cases h3:0 < k
 ·rw[eT au,du au,dT au,bz au au];simp only[al,aj];by_cases h4:nth (.int .u8) o.1 k=0
  ·rw[lk h4,ba (fm (fm ⟨h3,h4⟩))]
  ·rw[kL h4,bE (by rintro(x | x | x);exact h1 x;exact h2 x;exact h4 x.2)]
 ·rw[eT au,du au,du au,bE (by rintro(x | x | x);exact h1 x;exact h2 x;exact h3 x.1)];rfl
theorem V9:BQ.RS:=rE [.d ti,.d sO] BQ
def arz:=BQ.gf ary
def zI:List Int->Nat->Int->(Int×Nat)⊕Unit
 |[],_,_=> .inr ()
 |d::l,a,n=>if 8 < a\/(0 < a/\d=0) then .inr () else if d < 128 then .inl (n+d%128*128^a,a+1) else zI l (a+1) (n+d%128*128^a)
def dI(r:gG):Int×gG:=match zI r.1 0 0 with | .inl v=>(v.1,(r.1.drop v.2,r.2)) | .inr _=>(0,LA)
theorem akz(k:Nat):(128:Int)^k=((128^k:Nat):Int):=by rw[kH];rfl
theorem ae0{n d k:Nat}(hk:k<=8)(hn:n < 128^k)(hd:d < 128):eh .or .i64 (n:Int) (oe .i64 (d:Int) ((7*k:Nat):Int))=((n+d*128^k:Nat):Int)/\n+d*128^k < 128^(k+1)/\128^(k+1)<=9223372036854775808:=by
 have p:128^k<=128^8:=Nat.pow_le_pow_right eZ hk;have p8:128^8=72057594037927936:=rfl;have e1:128^(k+1)=128^k*128:=Nat.pow_succ (n:=128) (m:=k);have e2:2^(7*k)=128^k:=by rw[Nat.pow_mul]
 have e3:d*128^k<=127*128^k:=c8 _ au;refine⟨?_,au,au⟩;have s:oe .i64 (d:Int) ((7*k:Nat):Int)=((d*128^k:Nat):Int):=by
  rw[oe];have e:min (ab ((7*k:Nat):Int)) IntKind.i64.bits=7*k:=by simp only[IntKind.bits,aa];omega
  rw[e,show(2:Int)^(7*k)=((2^(7*k):Nat):Int) by rw[kH];rfl,e2,<-kG];exact tp au au
 rw[s];have e:(bj 64 (n:Int) ||| bj 64 ((d*128^k:Nat):Int)).toNat=n+d*128^k:=by
  rw[BitVec.toNat_or];have a:(bj 64 ((d*128^k:Nat):Int)).toNat=2^(7*k)*d:=by rw[iY,ka,e2,pD];exact jZ (by rw[pD];omega)
  have b:(bj 64 (n:Int)).toNat=n:=by rw[iY,ka];exact jZ au
  rw[a,b,Nat.or_comm,<-Nat.two_pow_add_eq_or_of_lt (by rw[e2];exact hn),e2,pD];omega
 show IntKind.i64.wrap ((bj 64 (n:Int) ||| bj 64 ((d*128^k:Nat):Int)).toNat:Int)=_;rw[e];exact tp au au
theorem ab0:∀(l:List Int) (a:Nat) (n:Int) (v:Int×Nat),Bytes l->a<=9->0<=n->n < 128^a->zI l a n= .inl v->0<=v.1/\v.1 < 9223372036854775808/\a < v.2/\v.2<=a+l.length/\v.2<=9
 |[],a,n,v,_,_,_,_,h=>by cases h
 |d::l,a,n,v,hb,ha,h0,h1,h=>by
  have hx:=hb d aK;obtain⟨x1,x2⟩:=hx;rw[zI]at h;split at h
  ·cases h
  ·rename_i hc;have aKm:a<=8:=au;rw[akz]at h1 h;obtain⟨nn,rfl⟩:∃m:Nat,n=m:=⟨n.toNat,au⟩;obtain⟨dn,ayN⟩:∃m:Nat,d%128=m:=⟨(d%128).toNat,au⟩;have g:=(ae0 (n:=nn) (d:=dn) aKm au au).2;rw[ayN]at h;have ec:((nn:Int)+(dn:Int)*((128^a:Nat):Int))=((nn+dn*128^a:Nat):Int):=by rw[Int.natCast_add,kG]
   rw[ec]at h;split at h
   ·cases h;simp only[aH];exact⟨au,au,au,au,au⟩
   ·have:=ab0 l (a+1) _ v (λx hx=>hb x (aL _ hx)) au au (by rw[akz];omega) h;simp only[aH];exact⟨this.1,this.2.1,au,au,this.2.2.2.2⟩
theorem qP{r:gG}(h:qs r):0<=(dI r).1/\(dI r).1<=9223372036854775807/\qs (dI r).2:=by
 unfold dI;cases hf:zI r.1 0 0 with
 |inl v=>
  have:=ab0 r.1 0 0 v h.2 eZ eZ eZ hf;refine⟨this.1,by have:=this.2.1;show v.1<=_;omega,?_,λx hx=>h.2 x (List.mem_of_mem_drop hx)⟩;show(r.1.drop v.2).length<=_;rw[dx];have:=h.1;omega
 |inr _=>exact⟨fI 0,(show(0:Int)<=9223372036854775807 by decide),abe⟩
theorem agj:∀(f:Nat) (n:Int) (a:Nat) (m:Int) (rest:List Int),0<=n->n < 128^(f+1)->a+f<=8->(a=0\/0 < n)->
  zI ((gD f n).1++(gD f n).2::rest) a m= .inl (m+n*128^a,a+(gD f n).1.length+1)
 | 0,n,a,m,rest,h0,h1,ha,hp=>by have h1:n < 128:=h1;show zI (n::rest) a m=_;rw[zI,if_neg au,if_pos h1,fi h0 h1];rfl
 |f+1,n,a,m,rest,h0,h1,ha,hp=>by
  rw[gD];have e:(128:Int)^(f+1+1)=128^(f+1)*128:=fY 128 (f+1);split
  ·rename_i h;show zI ((n%128+128)::((gD f (n / 128)).1++(gD f (n / 128)).2::rest)) a m=_;rw[zI,if_neg au,if_neg au,agj f (n / 128) (a+1) _ rest au au au (fm au)];have e2:(128:Int)^(a+1)=128^a*128:=fY 128 a;have e3:(n%128+128)%128=n%128:=au;have e4:m+n%128*128^a+n / 128*(128^a*128)=m+n*128^a:=by
    have:n*128^a=(n%128+n / 128*128)*128^a:=by rw[show n%128+n / 128*128=n by omega]
    rw[this,Int.add_mul,Int.mul_assoc (n / 128),Int.mul_comm 128 (128^a),Int.add_assoc]
   rw[e3,e2,e4];simp only[aH];rw[show a+1+(gD f (n / 128)).1.length+1=a+((gD f (n / 128)).1.length+1)+1 by omega]
  ·rename_i h;show zI (n::rest) a m=_;rw[zI,if_neg au,if_pos au,fi h0 au];rfl
theorem FJ(n:Int)(h:EH n)(rest:List Int)(u:Bool×Unit):dI (iE n++rest,u)=(n,(rest,u)):=by
 have h0:=h.1;have h1:=h.2;have e8:(128:Int)^(8+1)=9223372036854775808:=rfl;have e10:(128:Int)^(10+1)=151115727451828646838272:=rfl;have er:gD 10 n=gD 8 n:=Hq 10 8 n (by rw[e10];omega) (by rw[e8];omega);have el:iE n++rest=(gD 8 n).1++(gD 8 n).2::rest:=by unfold iE;rw[er,aO];rfl
 have e:=agj 8 n 0 0 rest h0 (by rw[e8];omega) eZ (lG rfl);unfold dI;show(match zI (iE n++rest) 0 0 with | .inl v=>(v.1,((iE n++rest).drop v.2,u)) | .inr _=>(0,LA))=_;rw[el,e];show(0+n*128^0,(((gD 8 n).1++(gD 8 n).2::rest).drop (0+(gD 8 n).1.length+1),u))=_;rw[kQ,Int.mul_one,Int.zero_add,bg,List.append_cons,kI (by rw[ak];rfl)]
theorem awa(n:Int)(h:ou n):JT (mq n)=n:=by obtain⟨h0,h1⟩:=h;unfold JT mq;simp only[aX,db];omega
theorem GL(n:Int)(h:ou n)(rest:List Int):qJ (mq n++rest,aR,())=(n,(rest,aR,())):=by
 unfold qJ ml;have l8:=dA n;rw[if_neg (by
  intro x;rcases x with x | x
  ·have x:aR=aT:=x;cases x
  ·have x:(mq n++rest).length < 8:=x;rw[ak]at x;omega)]
 show(JT ((mq n++rest).take 8),((mq n++rest).drop 8,aR,()))=_;rw[kJ l8,kI l8,awa n h]
abbrev CL:=Int×gG×Int
def rR:CL->AS:=λ(n,qm,n4)=>⟨([.ptr (.bF 0) 0 [] 0,fu 1,cq,.d ti n,fu 4,.fn 154 (.cons (fu 4) (.cons (fu 1) (.nil)))]++bf 35 []),dG (.d sO qm),([[],dG (.ptr (.bF 0) 0 [] 0),[],[],dG (.d ti n4)]++bI 36 [])⟩
def A3:gG->Exit×AS:=λx=>(.ret,⟨([.ptr (.bF 0) 0 [] 0,cq,.d ti (0:Int)]++bf 38 []),dG (.d sO x),(ai 41 [])⟩)
def sF:(Int×gG×Int)->Exit×AS:=λ(a,b,c)=>(.exit 0,⟨([.ptr (.bF 0) 0 [] 0,fu 1,cq,.d ti a,fu 4]++bf 36 []),dG (.d sO b),([[],dG (.ptr (.bF 0) 0 [] 0),[],[],dG (.d ti c)]++bI 36 [])⟩)
abbrev O2:=(gG)⊕((Int×gG×Int))
abbrev ZP:=(gG)⊕((Int×gG×Int))
def Ge:O2->Out (Exit×AS):=λx=> .br x.isLeft (.get x.getLeft? λa=> .ok (A3 a)) (.get x.getRight? λb=> .ok (sF b))
def mH:CL->ZP->O2:=λ(n,qm,n4) y=>match y with | .inl y=> .inl y | .inr z=> .inr (z)
def A1:CL->Prop:=λ(n,o,i)=>qs o/\∃(k m:Nat),k<=9/\i=k/\n=m/\m < 128^k
def sE:CL->ZP:=λ(n,o,i)=>match zI (o.1.drop i.toNat) i.toNat n with | .inl v=> .inr (v.1,o,(v.2:Int)) | .inr _=> .inl LA
def axD:gG->Prop:=λo=>qs o
def uH:gG->(Int×gG):=λo=>dI o
def ZO:=dW.gA rR A1 mH sE Ge
def M0:CL->Option O2:=iI ZO rR
def BP:Fs Tryz.prog axD bG uH:=fV 130 Tryz.f130 (λo0=>([.ptr (.bF 0) 0 [] 0],[.obj 0 aR (.d sO o0)])) (λx=>⟨.d ti x.1,[.obj 0 aR (.d sO x.2)],[]⟩) [aJ] [arz,ag2] {bN:=[1],loops:=so [(3,{bp:=[0,1,3,4,5],sites:=[1,4]})],outs:=sm [(3,{bp:=[0,1,3,4],sites:=[1,4]},{bp:=[0,2]})],gS:=tt [(3,ZO)],Lu:=[⟨0,[.arr],sO⟩]}
def O1:= @fh Tryz.prog (lU BP.G) BP.an 0 Tryz.f130 0 _ rR
abbrev VZ:=mn Tryz.prog (lU BP.G) BP.an 0 Tryz.f130 0 rR A1 mH sE Ge
theorem ag3:kC M0 A1 mH sE:=og (na [.d ti,.d sO,.d ti] λ_=>cM)
theorem O3:qp @O1 rR A1 mH sE Ge VZ:=rA
theorem M1(n qm n4)(kn:K2 R)(kx:K3 R):O1 (n,qm,n4) kn kx=aq (BQ.call (n4,qm)) λx1=>aS (x1.2) (aq (MZ.call x1.1.2) λx2=>kx (A3 x2).1 (A3 x2).2) (aS (gI x1.1.1 (((ag x1.1.2.1):Nat):Int)) (aS (rN (jj .i64 (7:Int) x1.1.1)) (aS (gY (nth tb x1.1.2.1 (ab x1.1.1)) (128:Int)) (kx (sF ((eh .or .i64 n (oe .i64 (eD .i64 (ur (nth tb x1.1.2.1 (ab x1.1.1)) (128:Int))) (jj .i64 (7:Int) x1.1.1))),x1.1.2,(bT .i64 x1.1.1 (1:Int)))).1 (sF ((eh .or .i64 n (oe .i64 (eD .i64 (ur (nth tb x1.1.2.1 (ab x1.1.1)) (128:Int))) (jj .i64 (7:Int) x1.1.1))),x1.1.2,(bT .i64 x1.1.1 (1:Int)))).2) (kn (rR ((eh .or .i64 n (oe .i64 (eD .i64 (ur (nth tb x1.1.2.1 (ab x1.1.1)) (128:Int))) (jj .i64 (7:Int) x1.1.1))),x1.1.2,(bT .i64 x1.1.1 (1:Int)))))) aJ) aJ):=cM
theorem aBq(o0)(k:K1 R):BP.A o0 k=aq (M0 (0,o0,0)) λx3=>aS x3.isLeft (aq x3.getLeft? λa4=>k (BP.out (0,a4))) (aq x3.getRight? λb5=>aS (inc b5.2.2 (b5.2.1.1.length:Int)) (k (BP.out (b5.1,((cut b5.2.1.1 (ab b5.2.2) ((ag b5.2.1.1) - (ab b5.2.2))),b5.2.1.2)))) aJ):=cM
theorem akO:VZ:=by
 refine O3 (λ(n,o,i)=>9 - i.toNat) ?_
 rintro⟨n,o,i⟩ ⟨hr,k,m,hk,rfl,rfl,hm⟩;have hk:k<=9:=hk;have hr:qs o:=hr;by_cases hw:o.1.length<=k\/8 < k\/(0 < k/\nth (.int .u8) o.1 k=0)
 ·right;have hf:zI (o.1.drop k) k (m:Int)= .inr ():=by
   by_cases h:k < o.1.length
   ·have n1:nth (.int .u8) o.1 k=o.1[k]:=da (t:= .int .u8) h;rw[aC h,zI,if_pos (by rw[n1]at hw;rcases hw with x | x | x;exact absurd x au;exact lG x;exact fm x)]
   ·rw[fZ au];rfl
  refine⟨A3 LA,?_,λkn kx=> ?_⟩
  ·simp only[mH,sE,aa,hf];rfl
  ·rw[M1,V9 (d:=((k:Int),o)) (gF k)];simp only[ae,DU,M7,aa];rw[ba hw,aj,O0 (d:=o) trivial];rfl
 ·have h:k < o.1.length:=au;have hx:=hr.2 _ (aV h);obtain⟨x1,x2⟩:=hx;have n1:nth (.int .u8) o.1 k=o.1[k]:=da (t:= .int .u8) h;have hc:¬(8 < k\/(0 < k/\o.1[k]=0)):=λx=>hw (x.elim (λy=> .inr (.inl y)) λy=> .inr (.inr ⟨y.1,n1.trans y.2⟩))
  obtain⟨dn,ayN⟩:∃d:Nat,o.1[k]=d:=⟨o.1[k].toNat,au⟩;have g:=ae0 (n:=m) (d:=dn%128) (k:=k) au hm au;have step:∀ {R:Type} (kn:AS->Option R) (kx:Exit->AS->Option R),O1 ((m:Int),o,(k:Int)) kn kx=aS (gY o.1[k] 128) (kx (sF (((m+dn%128*128^k:Nat):Int),o,((k+1:Nat):Int))).1 (sF (((m+dn%128*128^k:Nat):Int),o,((k+1:Nat):Int))).2) (kn (rR (((m+dn%128*128^k:Nat):Int),o,((k+1:Nat):Int)))):=by intro R kn kx;rw[M1,V9 (d:=((k:Int),o)) (gF k)];simp only[ae,DU,M7,aa];rw[bE hw,al,bz au au,n1,ayN,N.aG6 au,vZ au,N.aJH,N.cN au,g.1,N.nV au];rfl
  have ef:zI (o.1.drop k) k (m:Int)=if o.1[k] < 128 then .inl (((m+dn%128*128^k:Nat):Int),k+1) else zI (o.1.drop (k+1)) (k+1) ((m+dn%128*128^k:Nat):Int):=by
   have ec:(m:Int)+o.1[k]%128*128^k=((m+dn%128*128^k:Nat):Int):=by rw[ayN,akz,Int.natCast_add,kG];rfl
   rw[aC h,zI,if_neg hc,ec]
  by_cases hl:o.1[k] < 128
  ·right;refine⟨sF (((m+dn%128*128^k:Nat):Int),o,((k+1:Nat):Int)),?_,λkn kx=> ?_⟩
   ·simp only[mH,sE,aa,ef,if_pos hl];rfl
   ·rw[step,bm hl,aj]
  ·left;refine⟨(((m+dn%128*128^k:Nat):Int),o,((k+1:Nat):Int)),⟨hr,k+1,_,au,rfl,rfl,g.2.1⟩,by simp only[aa];omega,?_,λkn kx=> ?_⟩
   ·simp only[mH,sE,aa,ef,if_neg hl]
   ·rw[step,bh hl,al]
theorem aBr:BP.Ok:=by
 intro o h;have h:qs o:=h;rw[aBq,ag3 (d:=(0,o,0)) ⟨h,0,0,eZ,rfl,rfl,eZ⟩];simp only[ae,mH,sE,bo,aQ,bG,uH,dI];cases hf:zI o.1 0 0 with
 |inl v=>
  have g:=ab0 o.1 0 0 v h.2 eZ eZ eZ hf;have e2:cut o.1 v.2 (o.1.length - v.2)=o.1.drop v.2:=by unfold cut;rw[bJ];rw[dx];omega
  simp only[dS,dg,al,ae,aa];rw[tq au au,aj,e2]
 |inr _=>rfl
theorem pb:BP.RS:=rE [.d sO] BP
def Sp:=BP.gf aBr 1 ⟨.gA akO,trivial⟩
theorem gb{a b:List Int}(ha:Bytes a)(hb:Bytes b):Bytes (a++b):=λx hx=>by
 rcases bC.1 hx with h | h
 ·exact ha x h
 ·exact hb x h
theorem V2:∀(f:Nat) (n:Int),0<=n->n < 128^(f+1)->Bytes (gD f n).1/\aai (gD f n).2
 | 0,n,h0,h1=>by have h1:n < 128:=h1;exact⟨λx hx=>(by cases hx),h0,by show n < 256;omega⟩
 |f+1,n,h0,h1=>by
  have e:(128:Int)^(f+1+1)=128^(f+1)*128:=fY 128 (f+1);rw[gD];split
  ·have ih:=V2 f (n / 128) au au;refine⟨λx hx=> ?_,ih.2⟩;rcases cj.1 hx with rfl | hx
   ·exact⟨au,au⟩
   ·exact ih.1 x hx
  ·exact⟨λx hx=>(by cases hx),h0,by show n < 256;omega⟩
theorem kO{n:Int}(h:EH n):Bytes (iE n):=by have e10:(128:Int)^(10+1)=151115727451828646838272:=rfl;obtain⟨h0,h1⟩:=h;have:=V2 10 n h0 (by rw[e10];omega);unfold iE;exact gb this.1 λx hx=>by rw[bw]at hx;subst hx;exact this.2
theorem afN:∀(ks:List Int) (o:List Int),ui o ks=o++ks.flatMap mq
 |[],o=>by rw[pz,bP];rfl
 |k::ks,o=>by show ui (o++mq k) ks=_;rw[afN ks,dq,aO]
theorem ajF(ks:List Int):Bytes (ks.flatMap mq):=λx hx=>by obtain⟨k,_,hk⟩:=iL.1 hx;exact Ce k x hk
def ayK(b:ud):List Int:=iE b.1.length++(b.1.flatMap mq++(iE b.2.1++(iE b.2.2.1++mq b.2.2.2.1)))
theorem Sn(o:List Int){n:Int}(h:0<=n):dX o n=o++iE n:=by rw[dX,if_neg au]
structure aC2(b:ud):Prop where
 len:b.1.length<=12
 af:EH b.2.1
 dl:EH b.2.2.1
theorem aDm{b:ud}(h:EI b=aT):aC2 b:=by unfold EI On at h;simp only[av,aW]at h;obtain⟨h1,_,h2,h3,_⟩:=h;exact⟨h1,⟨h2.1,au⟩,⟨h3.1,au⟩⟩
theorem tz{n:Nat}(h:n<=1000000000):EH (n:Int):=⟨au,au⟩
theorem aDk(o:List Int){b:ud}(h:aC2 b):ayJ o b=o++ayK b:=by unfold ayJ ayK;rw[Sn _ (gF _),afN,Sn _ h.af.1,Sn _ h.dl.1];simp only[aO]
theorem al2:∀(bs:List ud) (o:List Int),(∀b∈bs,aC2 b)->bs.foldl ayJ o=o++bs.flatMap ayK
 |[],o,_=>by rw[pz,bP];rfl
 |b::bs,o,h=>by rw[aX,aDk o (h b aK),al2 bs _ λx hx=>h x (aL _ hx),dq,aO]
theorem ajN{l:Lk}(h:nT l=aT):(∀b∈l.1,aC2 b)/\0 < l.1.length/\l.1.length<=4:=by unfold nT at h;simp only[av,cS,aW]at h;exact⟨λb hb=>aDm (h.1 b hb),h.2⟩
theorem avD{l:Lk}(h:nT l=aT):OA l=iE l.1.length++l.1.flatMap ayK:=by unfold OA;rw[if_pos h,al2 _ _ (ajN h).1,Sn _ (gF _),aY]
theorem aoy{b:ud}(h:aC2 b):Bytes (ayK b):=
 have aso:=h.len
 gb (kO (tz au)) (gb (ajF _) (gb (kO h.af) (gb (kO h.dl) (Ce _))))
theorem apV(l:Lk):Bytes (OA l):=by
 cases h:nT l
 ·unfold OA;rw[h,if_neg eZ];exact λx hx=>(by cases hx)
 ·have hk:=ajN h;rw[avD h];refine gb (kO (tz au)) λx hx=> ?_
  obtain⟨b,hb,hx⟩:=iL.1 hx;exact aoy (hk.1 b hb) x hx
theorem akK{b:List Int}(h:Bytes b)(hl:b.length<=1000000000)(u:Bool×Unit):qs (b,u):=⟨hl,h⟩
def sk:Nat->gG->List Int×gG
 | 0,r=>([],r)
 |k+1,r=>((qJ r).1::(sk k (qJ r).2).1,(sk k (qJ r).2).2)
def Cc(k:Nat)(r:gG):ud×gG:=(((sk k r).1,(dI (sk k r).2).1,(dI (dI (sk k r).2).2).1,(qJ (dI (dI (sk k r).2).2).2).1,()),(qJ (dI (dI (sk k r).2).2).2).2)
def Cd:Nat->Int->gG->List ud
 | 0,_,_=> []
 |f+1,n,r=>if 0 < n then(if f=0\/12 < (dI r).1 then [] else(Cc (dI r).1.toNat (dI r).2).1::Cd f (n - 1) (Cc (dI r).1.toNat (dI r).2).2) else []
def sD(b:List Int):List ud:=Cd 5 (dI (b,aR,())).1 (dI (b,aR,())).2
theorem abG:∀(k:Nat) (r:gG),qs r->Ec (sk k r).1/\(sk k r).1.length=k/\qs (sk k r).2
 | 0,r,h=>⟨λx hx=>(by cases hx),rfl,h⟩
 |k+1,r,h=>by
  have e:=Pf h;have ih:=abG k _ e.2;refine⟨λx hx=> ?_,by rw[sk,aH,ih.2.1],ih.2.2⟩;rcases cj.1 hx with rfl | hx
  ·exact e.1
  ·exact ih.1 x hx
theorem alZ(k:Nat)(r:gG)(h:qs r):aB5 (Cc k r).1/\(Cc k r).1.1.length=k/\qs (Cc k r).2:=by have h1:=abG k r h;have h2:=qP h1.2.2;have h3:=qP h2.2.2;have h4:=Pf h3.2.2;exact⟨⟨h1.1,h4.1⟩,h1.2.1,h4.2⟩
theorem ati:∀(f:Nat) (n:Int) (r:gG),qs r->(∀b∈Cd f n r,aB5 b)/\(Cd f n r).length<=f
 | 0,n,r,h=>⟨λx hx=>(by cases hx),aF _⟩
 |f+1,n,r,h=>by
  have h1:=qP h;have h2:=alZ (dI r).1.toNat _ h1.2.2;have ih:=ati f (n - 1) _ h2.2.2;rw[Cd];split
  ·split
   ·exact⟨λx hx=>(by cases hx),aN _⟩
   ·refine⟨λx hx=> ?_,by rw[aH];omega⟩;rcases cj.1 hx with rfl | hx
    ·exact h2.1
    ·exact ih.1 x hx
  ·exact⟨λx hx=>(by cases hx),aN _⟩
theorem anq{b:List Int}(h:Bytes b)(hl:b.length<=1000000000):alF (sD b,())/\(sD b).length<=5:=by have e:=ati 5 (dI (b,aR,())).1 _ (qP (akK h hl (aR,()))).2.2;exact⟨e.1,e.2⟩
theorem Zd:∀(ks:List Int) (rest:List Int),Ec ks->sk ks.length (ks.flatMap mq++rest,aR,())=(ks,(rest,aR,()))
 |[],rest,_=>rfl
 |k::ks,rest,h=>by
  have e:qJ ((k::ks).flatMap mq++rest,aR,())=(k,(ks.flatMap mq++rest,aR,())):=by rw[dq,aO];exact GL k (h k aK) _
  have ih:=Zd ks rest λx hx=>h x (aL _ hx)
  rw[aH,sk,e,ih]
theorem aou(b:ud)(hb:aB5 b)(hk:aC2 b)(rest:List Int):Cc b.1.length (b.1.flatMap mq++(iE b.2.1++(iE b.2.2.1++(mq b.2.2.2.1++rest))),aR,())=(b,(rest,aR,())):=by unfold Cc;rw[Zd _ _ hb.1];simp only[];rw[FJ _ hk.af,FJ _ hk.dl,GL _ hb.2]
theorem ath(b:ud)(rest:List Int):ayK b++rest=iE b.1.length++(b.1.flatMap mq++(iE b.2.1++(iE b.2.2.1++(mq b.2.2.2.1++rest)))):=by unfold ayK;simp only[aO]
theorem aek:∀(bs:List ud) (f:Nat) (rest:List Int),(∀b∈bs,aB5 b)->(∀b∈bs,aC2 b)->bs.length+1<=f->Cd f bs.length (bs.flatMap ayK++rest,aR,())=bs
 |[],0,rest,_,_,h=>absurd h (by simp)
 |[],f+1,rest,_,_,_=>by rw[Cd,if_neg (by show ¬(0:Int) < ((0:Nat):Int);omega)]
 |b::bs,0,rest,_,_,h=>absurd h (by simp)
 |b::bs,f+1,rest,hu,hk,h=>by
  have ub:=hu b aK;have kb:=hk b aK;have h:bs.length+1+1<=f+1:=h;have e:(b::bs).flatMap ayK++rest=iE b.1.length++(b.1.flatMap mq++(iE b.2.1++(iE b.2.2.1++(mq b.2.2.2.1++(bs.flatMap ayK++rest))))):=by rw[dq,aO,ath]
  have aso:=kb.len;rw[Cd,if_pos (by rw[aH];omega),e,FJ _ (tz au)];simp only[aa];rw[if_neg au,aou b ub kb];simp only[];rw[show((b::bs).length:Int) - 1=(bs.length:Int) by rw[aH];omega,aek bs f rest (λx hx=>hu x (aL _ hx)) (λx hx=>hk x (aL _ hx)) au]
theorem arf{l:Lk}(hu:alF l)(iO:nT l=aT)(rest:List Int):sD (OA l++rest)=l.1:=by have hk:=ajN iO;unfold sD;rw[avD iO,aO,FJ _ (tz au)];exact aek l.1 5 rest hu hk.1 au
def Ep(b:List Int):Lk×Bool:=if nT (sD b,())=aT/\OA (sD b,())=b then((sD b,()),aT) else(([],()),aR)
theorem ZL{l:Lk}(hu:alF l)(iO:nT l=aT):Ep (OA l)=(l,aT):=by
 have e:sD (OA l)=l.1:=by have e:=arf hu iO [];rw[bP]at e;exact e
 unfold Ep;rw[e];have e2:((l.1,()):Lk)=l:=rfl;rw[e2,if_pos ⟨iO,rfl⟩]
theorem axp{b:List Int}(h:(Ep b).2=aT):∃l:Lk,nT l=aT/\OA l=b/\Ep b=(l,aT)/\l=(sD b,()):=by
 unfold Ep at h ⊢;split at h
 ·rename_i hc;exact⟨(sD b,()),hc.1,hc.2,by rw[if_pos hc],rfl⟩
 ·cases h
abbrev Ul:=Bs×Int×Int×Nat×gG×(List ud)
abbrev JM:=Bs×Int×Int×Int×Int×Nat×Nat×(Int×(Int×(Int×Unit)))×gG×(List Int)×(List ud)
abbrev Um:=Nat×gG×(List Int)
def ye:JM->Um->((Bs×Int×Int×Nat×(Int×(Int×(Int×Unit)))×(List ud))×(Nat×gG×(List Int))):=λ(adv,CU,Qb,t27,t28,UR,aAH,n8,Zl,n35,UO) y=>((adv,CU,Qb,UR,n8,UO),y)
def abQ:JM->Prop:=λ(b,n,i,t,j,m1,m2,x,r,ks,bs)=>qs r/\ks.length=m2/\m2<=1000/\∃k c:Nat,j=k/\t=c/\k<=c/\c<=12/\m2=k
def DA:JM->Um:=λ(b,n,i,t,j,m1,m2,x,r,ks,bs)=>(m2+(t - j).toNat,(sk (t - j).toNat r).2,ks++(sk (t - j).toNat r).1)
def abO:Ul->Prop:=λ(b,n,i,m,r,bs)=>qs r/\n<=9223372036854775807/\bs.length=m/\∃k:Nat,i=k/\k<=4/\m=k
def zB:Ul->(Bs×Nat×(List ud)):=λ(b,n,i,m,r,bs)=>(b,m+(Cd (5 - i.toNat) (n - i) r).length,bs++Cd (5 - i.toNat) (n - i) r)
def ap2:Bs->Prop:=λb=>Bytes b/\b.length<=1000000000
def abN:Bs->(Lk×Bool):=λb=>Ep b
def oU:Ls abO bG zB:=yg (λ(ov,n,i,aEv,n11,n51)=>⟨([.d tB ov,cq,fu 2,cq,fu 11,fu 5,.d ti n,.d ti i]++bf 57 []),[],([[],[],dG (.pr (.dH) kK),[],[],dG (.pr (oa 51 aEv) kK)]++bI 5 ([dG (.d sO n11)]++bI 39 ([dG (.vec 93 sH n51)]++bI 13 [])))⟩) (λx=>(.exit 0,⟨([.d tB x.1,cq,fu 2,cq,cq,fu 5]++bf 59 []),[],([[],[],dG (.pr (.dH) kK),[],[],dG (.pr (oa 51 x.2.1) kK)]++bI 45 ([dG (.vec 93 sH x.2.2)]++bI 13 []))⟩))
def tw:Ls abQ ye DA:=yg (λ(adv,CU,Qb,t27,t28,UR,aAH,n8,Zl,n35,UO)=>⟨([.d tB adv,cq,fu 2,cq,fu 11,fu 5,.d ti CU,.d ti Qb,fu 8]++bf 18 ([.d ti t27,.d ti t28]++bf 36 [])),[],([[],[],dG (.pr (.dH) kK),[],[],dG (.pr (oa 51 UR) kK),[],[],dG (.pr (oa 35 aAH) (.d (.pair ti (.pair ti (.pair tu .unit))) n8)),[],[],dG (.d sO Zl)]++bI 23 ([dG (.vec 89 tu n35)]++bI 15 ([dG (.vec 93 sH UO)]++bI 13 [])))⟩) (λx=>(.exit 2,⟨([.d tB x.1.1,cq,fu 2,cq,fu 11,fu 5,.d ti x.1.2.1,.d ti x.1.2.2.1,fu 8]++bf 56 []),[],([[],[],dG (.pr (.dH) kK),[],[],dG (.pr (oa 51 x.1.2.2.2.1) kK),[],[],dG (.pr (oa 35 x.2.1) (.d (.pair ti (.pair ti (.pair tu .unit))) x.1.2.2.2.2.1)),[],[],dG (.d sO x.2.2.1)]++bI 23 ([dG (.vec 89 tu x.2.2.2)]++bI 15 ([dG (.vec 93 sH x.1.2.2.2.2.2)]++bI 13 [])))⟩))
def zA:Fs Tryz.prog ap2 bG abN:=fV 132 Tryz.f132 (λb=>([.d tB b],[])) (λx=>⟨.cons (.d ah7 x.1) (.cons (.d .bool x.2) (.nil)),[],[]⟩) [ao tB] [ag5,Sp,anv,Cr,Ze,ay6] {loops:=so [(5,{bp:=[0,2,4,5,6,7],sites:=[2,5,11,51],owns:=[⟨5,[.fst],51,44⟩]}),(11,{bp:=[0,2,4,5,6,7,8,27,28],sites:=[2,5,8,11,35,51],owns:=[⟨8,[.fst],35,91⟩]})],outs:=sm [(5,{bp:=[0,2,5],sites:=[2,5,51]},{bp:=[2,3]}),(11,{bp:=[0,2,4,5,6,7,8],sites:=[2,5,8,11,35,51]},{bp:=[2,3]})],gS:=tt [(5,oU.E),(11,tw.E)],res:=[ao ah7,aJ]}
theorem abP:oU.RS:=rL [.d tB,.d ti,.d ti,.n,.d sO,.d (.slice sH)] oU
theorem Bu(ov n i aEv n11 n51)(kn:K2 R)(kx:K3 R):zA.R 0 oU (ov,n,i,aEv,n11,n51) kn kx=aS (gY i n) (aq (BP.call n11) λIT=>aS (EM i 4) (oU.go kx (ov,aEv,n51)) (aS (Ak IT.1 12) (oU.go kx (ov,aEv,n51)) (aq (tw.call (ov,n,i,IT.1,0,aEv,0,(0,(0,(0,()))),IT.2,([]:List Int),n51)) λCV=>aq (BP.call CV.2.2.1) λaKW=>aq (BP.call aKW.2) λaCY=>aq (M4.call aCY.2) λaCZ=>aS (decide (0=0/\(0+CV.2.1)<=(ag CV.2.2.2))) (aS (decide (CV.1.2.2.2.1<=(ag CV.1.2.2.2.2.2))) (aS (ea (CV.1.2.2.2.1+1) 48) (kn (oU.st (CV.1.1,CV.1.2.1,(bT .i64 CV.1.2.2.1 1),(CV.1.2.2.2.1+1),aCZ.2,((bn CV.1.2.2.2.1 CV.1.2.2.2.2.2)++ [((cut CV.2.2.2 0 CV.2.1),(aKW.1,(aCY.1,(aCZ.1,CV.1.2.2.2.2.1.2.2.2))))])))) aJ) aJ) aJ))) (oU.go kx (ov,aEv,n51)):=cM
theorem abR:tw.RS:=rL [.d tB,.d ti,.d ti,.d ti,.d ti,.n,.n,.d (.pair ti (.pair ti (.pair tu .unit))),.d sO,.d tU,.d (.slice sH)] tw
theorem Ia(adv CU Qb t27 t28 UR aAH n8 Zl n35 UO)(kn:K2 R)(kx:K3 R):zA.R 1 tw (adv,CU,Qb,t27,t28,UR,aAH,n8,Zl,n35,UO) kn kx=aS (gY t28 t27) (aq (M4.call Zl) λx4=>aS (decide (aAH<=(ag n35))) (aS (ea (aAH+1) 8) (kn (tw.st (adv,CU,Qb,t27,(bT .i64 t28 1),UR,(aAH+1),n8,x4.2,((bn aAH n35)++ [x4.1]),UO))) aJ) aJ) (tw.go kx ((adv,CU,Qb,UR,n8,UO),(aAH,Zl,n35))):=cM
theorem avO(b)(k:K1 R):zA.A b k=aq (Q3.call b) λx4=>aq (BP.call x4) λx6=>aq (oU.call (b,x6.1,0,0,x6.2,([]:List ud))) λasl=>aS (decide (0=0/\(0+asl.2.1)<=(ag asl.2.2))) (aq (oV.call ((cut asl.2.2 0 asl.2.1),())) λaJ1=>aS (!aJ1) (k (zA.out ((([]:List ud),()),aR))) (aS (decide (0=0/\(0+asl.2.1)<=(ag asl.2.2))) (aq (rK.call ((cut asl.2.2 0 asl.2.1),())) λaJ2=>aq (NO.call (aJ2,asl.1)) λaJ3=>aS (!aJ3) (k (zA.out ((([]:List ud),()),aR))) (aS (decide (0=0/\(0+asl.2.1)<=(ag asl.2.2))) (k (zA.out (((cut asl.2.2 0 asl.2.1),()),aT))) aJ)) aJ)) aJ:=cM
theorem afZ:(zA.mM 1 tw):=by
 refine(zA.qG 1 tw) (λ(b,n,i,t,j,m1,m2,x,r,ks,bs)=>(t - j).toNat) ?_
 rintro⟨b,n,i,t,j,m1,m2,x,r,ks,bs⟩ ⟨hr,aHY,hm,k,c,rfl,rfl,aMb,hc,au2⟩;have hr:qs r:=hr;have aHY:ks.length=m2:=aHY;have au2:m2=k:=au2;by_cases h:k < c
 ·left;have e1:((c:Int) - (k:Int)).toNat=(c - (k+1))+1:=au;have e2:((c:Int) - ((k+1:Nat):Int)).toNat=c - (k+1):=au;refine⟨(b,n,i,(c:Int),((k+1:Nat):Int),m1,m2+1,x,(qJ r).2,ks++ [(qJ r).1],bs),⟨(Pf hr).2,by rw[ak];show ks.length+1=_;omega,au,k+1,c,rfl,rfl,au,hc,au⟩,by show((c:Int) - ((k+1:Nat):Int)).toNat < ((c:Int) - (k:Int)).toNat;omega,?_,λkn kx=> ?_⟩
  ·simp only[ye,DA,e1,e2,sk,aO,dQ];rw[show m2+1+(c - (k+1))=m2+(c - (k+1)+1) by omega]
  ·rw[Ia,bm au,Gg (d:=r) hr];simp only[ae,aj,bG,O8];rw[ba au,eW au au,N.nV au,bJ au];rfl
 ·right;obtain rfl:k=c:=au;intro R kn kx;rw[Ia,bh au,al];simp only[ye,DA,Int.sub_self,bo,sk,bP,cX]
theorem afY:(zA.mM 0 oU):=by
 refine(zA.qG 0 oU) (λ(b,n,i,m,r,bs)=>5 - i.toNat) ?_
 rintro⟨b,n,i,m,r,bs⟩ ⟨hr,hn,aKo,k,rfl,hk,au2⟩;have hr:qs r:=hr;have hn:n<=9223372036854775807:=hn;have aKo:bs.length=m:=aKo;have au2:m=k:=au2;have e0:5 - (k:Int).toNat=(4 - k)+1:=by rw[aa];omega
 have g1:=qP hr;by_cases h:(k:Int) < n
 ·have hp:0 < n - (k:Int):=au;by_cases hc:4 - k=0\/12 < (dI r).1
  ·right;intro R kn kx;have eb:Cd ((4 - k)+1) (n - (k:Int)) r=[]:=by rw[Cd,if_pos hp,if_pos hc]
   rw[Bu,bm h,pb (d:=r) hr];simp only[ae,aj,bG,uH,bG,zB,e0,eb,bB,cX,bP];by_cases h4:(k:Int)=4
   ·rw[lk h4,aj]
   ·rw[kL h4,al,dT au,aj]
  ·left;have h4:¬(k:Int)=4:=au;have aGC:¬(dI r).1 > 12:=au;obtain⟨c,aKp⟩:∃c:Nat,(dI r).1=c:=⟨(dI r).1.toNat,au⟩;have afp:=alZ c _ g1.2.2;have gk:=abG c _ g1.2.2;have ga:=qP gk.2.2;have gd:=qP ga.2.2;have eb:Cd ((4 - k)+1) (n - (k:Int)) r=(Cc c (dI r).2).1::Cd (4 - k) (n - (k:Int) - 1) (Cc c (dI r).2).2:=by rw[Cd,if_pos hp,if_neg hc,aKp,aa]
   have e1:5 - ((k+1:Nat):Int).toNat=4 - k:=by rw[aa];omega
   refine⟨(b,n,((k+1:Nat):Int),m+1,(Cc c (dI r).2).2,bs++ [(Cc c (dI r).2).1]),⟨afp.2.2,hn,by rw[ak];show bs.length+1=_;omega,k+1,rfl,au,au⟩,by simp only[aa];omega,?_,λkn kx=> ?_⟩
   ·simp only[bG,zB,e0,e1,eb,aO,dQ,aH];rw[show n - ((k+1:Nat):Int)=n - (k:Int) - 1 by omega,show m+1+(Cd (4 - k) (n - (k:Int) - 1) (Cc c (dI r).2).2).length=m+((Cd (4 - k) (n - (k:Int) - 1) (Cc c (dI r).2).2).length+1) by omega]
   ·rw[Bu,bm h,pb (d:=r) hr];simp only[ae,aj,bG,uH];rw[kL h4,al,du aGC,al,aKp,abR (d:=(b,n,(k:Int),(c:Int),0,m,0,(0,0,0,()),(dI r).2,[],bs)) ⟨g1.2.2,rfl,eZ,0,c,rfl,rfl,aN _,au,rfl⟩];simp only[ae,ye,DA,px,aa,bg,aY];rw[pb (d:=(sk c (dI r).2).2) gk.2.2];simp only[ae,bG,uH];rw[pb (d:=(dI (sk c (dI r).2).2).2) ga.2.2];simp only[ae,bG,uH];rw[Gg (d:=(dI (dI (sk c (dI r).2).2).2).2) gd.2.2];simp only[ae,bG,O8];rw[ba ⟨by trivial,by rw[gk.2.1];exact aF _⟩,ba au,eW au au,N.nV au,bJ au,fA gk.2.1];rfl
 ·right;intro R kn kx;have eb:Cd ((4 - k)+1) (n - (k:Int)) r=[]:=by rw[Cd,if_neg au]
  rw[Bu,bh h,al];simp only[bG,zB,e0,eb,bB,cX,bP]
theorem avP:zA.Ok:=by
 rintro b ⟨hb,hl⟩;have hb:Bytes b:=hb;have hl:b.length<=1000000000:=hl;have g0:=akK hb hl (aR,());have g1:=qP g0;have gu:=anq hb hl;rw[avO,ZQ (d:=b) hl];simp only[ae,bG,acJ];rw[pb (d:=(b,aR,())) g0];simp only[ae,bG,uH];rw[abP (d:=(b,(dI (b,aR,())).1,0,0,(dI (b,aR,())).2,[])) ⟨g1.2.2,g1.2.1,rfl,0,rfl,eZ,rfl⟩];simp only[ae,bG,zB,bo,Nat.sub_zero,px,bg,aY,aF,kf,cV,aj,fA];rw[show Cd 5 (dI (b,aR,())).1 (dI (b,aR,())).2=sD b from rfl];have hL1:((sD b,()):Lk).1.length<=1000000000:=by show(sD b).length<=_;omega
 rw[zC (d:=(sD b,())) ⟨gu.1,kV hL1 eZ⟩];simp only[ae,bG,Cq,bG,abN,Ep];cases iO:nT (sD b,())
 ·rw[if_neg (by rintro⟨x,_⟩;cases x)];rfl
 ·rw[Uc (d:=(sD b,())) ⟨gu.1,kV hL1 eZ⟩];simp only[cG,al,ae,bG,L0];rw[asR (d:=(OA (sD b,()),b)) (by show(OA _).length<=_;have:=L4 (sD b,());omega)];simp only[ae,bG,ain];by_cases hx:OA (sD b,())=b
  ·rw[ba hx,if_pos ⟨by trivial,hx⟩];rfl
  ·rw[bE hx,if_neg (λy=>hx y.2)];rfl
theorem ap3:zA.RS:=rE [.d tB] zA
def avQ:=zA.gf avP 2 ⟨.gA afY,⟨.gA afZ,trivial⟩⟩
def Fp(r:gG):List Int×gG:=((ml 32 r).1++bV (ml 32 r).1.length (ai 32 (0:Int)),(ml 32 r).2)
def EK(r:gG):List Int×gG:=if(dI r).2.2.1=aT then([],(dI r).2) else ml (dI r).1.toNat (dI r).2
def Kt(most:Int)(r:gG):Int×gG:=(if(dI r).1 > most then -1 else(dI r).1,(dI r).2)
def aCO(r:gG):cw×gG:=(((Fp r).1,(dI (Fp r).2).1,()),(dI (Fp r).2).2)
def HD:Nat->gG->List cw×gG
 | 0,r=>([],r)
 |k+1,r=>((aCO r).1::(HD k (aCO r).2).1,(HD k (aCO r).2).2)
def U1(r:gG):lT×gG:=(((dI r).1,(Ep (EK (dI r).2).1).1,()),(EK (dI r).2).2)
def En:Nat->gG->Option (List lT×gG)
 | 0,r=>ao ([],r)
 |k+1,r=>if(Ep (EK (dI r).2).1).2=aT then(match En k (U1 r).2 with
  |some x=>ao ((U1 r).1::x.1,x.2)
  |none=>aJ) else aJ
def aCU(r:gG):Sg×gG:=(((qJ r).1,(qJ (qJ r).2).1,()),(qJ (qJ r).2).2)
def DY:Nat->gG->List Sg×gG
 | 0,r=>([],r)
 |k+1,r=>((aCU r).1::(DY k (aCU r).2).1,(DY k (aCU r).2).2)
def uN(r:gG):List Sg×gG:=DY (Kt 12 (dI r).2).1.toNat (Kt 12 (dI r).2).2
def alz(r:gG):Option (RT×gG):=if(Kt 12 (dI r).2).1 < 0 then aJ else ao (((dI r).1,(uN r).1,(qJ (uN r).2).1,()),(qJ (uN r).2).2)
def EG:List cw->gG->Option (List j9×gG)
 |[],r=>ao ([],r)
 |o::l,r=>match alz r with
  |none=>aJ
  |some w=>match EG l w.2 with
   |none=>aJ
   |some x=>ao ((o,w.1,())::x.1,x.2)
def aEA:dM×Bool:=(([],[],0,()),aR)
def auq(n m:Int)(t:dM)(r:gG):dM×Bool:=if n < 0\/m < 0\/r.2.1=aT\/0 < r.1.length\/iF t=aR then aEA else(t,aT)
def avY(n m:Int)(ops:List cw)(os:List lT)(r:gG):dM×Bool:=match EG ops (dI r).2 with
 |none=>aEA
 |some x=>auq n m (x.1,os,(dI r).1,()) x.2
def acG(b:List Int):dM×Bool:=
 let n:=Kt 64 (b,aR,())
 let ops:=HD n.1.toNat n.2
 let m:=Kt 64 ops.2
 match En m.1.toNat m.2 with
 |none=>aEA
 |some x=>avY n.1 m.1 ops.1 x.1 x.2
def aj8(o:cw):List Int:=o.1++iE o.2.1
def Cw(o:lT):List Int:=iE o.1++(iE (OA o.2.1).length++OA o.2.1)
def asw(s:Sg):List Int:=mq s.1++mq s.2.1
def B4(w:RT):List Int:=iE w.1++(iE w.2.1.length++(w.2.1.flatMap asw++mq w.2.2.1))
def aIf(t:dM):List Int:=iE t.1.length++(t.1.flatMap (λx=>aj8 x.1)++(iE t.2.1.length++(t.2.1.flatMap Cw++(iE t.2.2.1++t.1.flatMap λx=>B4 x.2.1))))
theorem Ck{α:Type}(f:List Int->α->List Int)(w:α->List Int):∀(l:List α) (b:List Int),(∀x∈l,∀b,f b x=b++w x)->l.foldl f b=b++l.flatMap w
 |[],b,_=>by simp
 |x::l,b,h=>by rw[aX,h x aK,Ck f w l _ λy hy=>h y (aL _ hy),dq,aO]
theorem zU(b:List Int){n:Int}(h:0<=n):dX b n=b++iE n:=by unfold dX;rw[if_neg au]
theorem ayt{t:dM}(iO:iF t=aT):aBP t=aIf t:=by
 obtain⟨⟨_,a2,a3,a4⟩,b1,b2⟩:=jg iO;have e1:∀b,t.1.foldl R8 b=b++t.1.flatMap λx=>aj8 x.1:=λb=>Ck _ _ _ _ λx hx b=>by have:=Du (oR _ _ b1 x hx);unfold R8 aj8;rw[zU _ this.1,aO]
 have e2:∀b,t.2.1.foldl RE b=b++t.2.1.flatMap Cw:=λb=>Ck _ _ _ _ λo ho b=>by have:=(nc _ _ b2 o ho).1;unfold RE Cw;rw[zU _ this.1,aO]
 have e3:∀(l:List Sg) b,l.foldl Wb b=b++l.flatMap asw:=λl b=>Ck _ _ _ _ λs _ b=>by unfold Wb asw;rw[aO]
 have e4:∀b,t.1.foldl aly b=b++t.1.flatMap λx=>B4 x.2.1:=λb=>Ck _ _ _ _ λx hx b=>by have:=Du (oR _ _ b1 x hx);unfold aly B4;rw[e3,zU _ this.2.2.1,zU _ au];simp only[aO]
 unfold aBP wH aIf;rw[if_pos iO,e4,zU _ a4,e2,zU _ au,e1,zU _ au,aY];simp only[aO]
theorem Z5{n:Nat}(a rest:List Int)(h:a.length=n):ml n (a++rest,aR,())=(a,(rest,aR,())):=by
 unfold ml;rw[if_neg (by
  intro x;rcases x with x | x
  ·cases x
  ·have x:(a++rest).length < n:=x;rw[ak]at x;omega)]
 show((a++rest).take n,((a++rest).drop n,aR,()))=_;rw[kJ h,kI h]
theorem apv(a rest:List Int)(h:a.length=32):Fp (a++rest,aR,())=(a,(rest,aR,())):=by unfold Fp;rw[Z5 a rest h];simp only[h];rw[show bV 32 (ai 32 (0:Int))=[] from rfl,bP]
theorem Cu(n:Int)(h:EH n)(rest:List Int):dI (iE n++rest,aR,())=(n,(rest,aR,())):=FJ n h rest _
theorem atm(a rest:List Int)(h:a.length<=1000000000):EK (iE a.length++(a++rest),aR,())=(a,(rest,aR,())):=by unfold EK;rw[Cu _ (tz au)];simp only[bR,cF,aa];exact Z5 a rest rfl
theorem adm{n m:Int}(h:EH n)(hm:n<=m)(rest:List Int):Kt m (iE n++rest,aR,())=(n,(rest,aR,())):=by unfold Kt;rw[Cu n h];simp only[if_neg (show ¬n > m by omega)]
theorem agq:∀(l:List cw) (rest:List Int),(∀o∈l,o.1.length=32/\EH o.2.1)->HD l.length (l.flatMap aj8++rest,aR,())=(l,(rest,aR,()))
 |[],rest,_=>rfl
 |o::l,rest,h=>by
  obtain⟨h1,h2⟩:=h o aK;have e:aCO ((o::l).flatMap aj8++rest,aR,())=(o,(l.flatMap aj8++rest,aR,())):=by unfold aCO aj8;rw[dq,aO,aO,apv _ _ h1];simp only[];rw[Cu _ h2]
  rw[aH,HD,e,agq l rest λx hx=>h x (aL _ hx)]
theorem Zx:∀(l:List lT) (rest:List Int),(∀o∈l,EH o.1/\nT o.2.1=aT/\alF o.2.1)->En l.length (l.flatMap Cw++rest,aR,())=ao (l,(rest,aR,()))
 |[],rest,_=>rfl
 |o::l,rest,h=>by
  obtain⟨h1,h2,h3⟩:=h o aK;have hl:=L4 o.2.1;have e0:dI ((o::l).flatMap Cw++rest,aR,())=(o.1,(iE (OA o.2.1).length++(OA o.2.1++(l.flatMap Cw++rest)),aR,())):=by rw[dq];unfold Cw;simp only[aO];exact Cu _ h1 _
  have e1:EK (dI ((o::l).flatMap Cw++rest,aR,())).2=(OA o.2.1,(l.flatMap Cw++rest,aR,())):=by rw[e0];exact atm _ _ au
  have e2:U1 ((o::l).flatMap Cw++rest,aR,())=(o,(l.flatMap Cw++rest,aR,())):=by unfold U1;rw[e1,e0,ZL h3 h2]
  rw[aH,En,e1,ZL h3 h2,if_pos rfl,e2,Zx l rest λx hx=>h x (aL _ hx)]
theorem ahi:∀(l:List Sg) (rest:List Int),(∀s∈l,ou s.1/\ou s.2.1)->DY l.length (l.flatMap asw++rest,aR,())=(l,(rest,aR,()))
 |[],rest,_=>rfl
 |s::l,rest,h=>by
  obtain⟨h1,h2⟩:=h s aK;have e:aCU ((s::l).flatMap asw++rest,aR,())=(s,(l.flatMap asw++rest,aR,())):=by unfold aCU asw;rw[dq,aO,aO,GL _ h1];simp only[];rw[GL _ h2]
  rw[aH,DY,e,ahi l rest λx hx=>h x (aL _ hx)]
theorem ayC(w:RT)(rest:List Int)(hw:Su w)(hb:EH w.1)(aso:w.2.1.length<=12):alz (B4 w++rest,aR,())=ao (w,(rest,aR,())):=by
 have e0:dI (B4 w++rest,aR,())=(w.1,(iE w.2.1.length++(w.2.1.flatMap asw++(mq w.2.2.1++rest)),aR,())):=by unfold B4;simp only[aO];exact Cu _ hb _
 have e1:Kt 12 (dI (B4 w++rest,aR,())).2=((w.2.1.length:Int),(w.2.1.flatMap asw++(mq w.2.2.1++rest),aR,())):=by rw[e0];exact adm (tz au) au _
 have e2:uN (B4 w++rest,aR,())=(w.2.1,(mq w.2.2.1++rest,aR,())):=by unfold uN;rw[e1];exact ahi _ _ hw.1
 unfold alz;rw[e1,if_neg (by show ¬(w.2.1.length:Int) < 0;omega),e2,e0];simp only[];rw[GL _ hw.2]
theorem aae:∀(l:List j9) (rest:List Int),(∀x∈l,Su x.2.1/\EH x.2.1.1/\x.2.1.2.1.length<=12)->EG (l.map (·.1)) (l.flatMap (λx=>B4 x.2.1)++rest,aR,())=ao (l,(rest,aR,()))
 |[],rest,_=>rfl
 |x::l,rest,h=>by obtain⟨h1,h2,h3⟩:=h x aK;rw[dq,aO,cr,EG,ayC _ _ h1 h2 h3];simp only[];rw[aae l rest λy hy=>h y (aL _ hy)]
theorem akL{t:dM}(hv:wX t)(iO:iF t=aT):acG (aBP t)=(t,aT):=by
 obtain⟨⟨a1,a2,a3,a4⟩,b1,b2⟩:=jg iO;have afr:∀x∈t.1,_:=λx hx=>Du (oR _ _ b1 x hx)
 have aLt:=hv.2.2;rw[ayt iO];have e1:=adm (n:=(t.1.length:Int)) (m:=64) (tz au) au (t.1.flatMap (λx=>aj8 x.1)++(iE t.2.1.length++(t.2.1.flatMap Cw++(iE t.2.2.1++t.1.flatMap λx=>B4 x.2.1))));have ef:t.1.flatMap (λx=>aj8 x.1)=(t.1.map (·.1)).flatMap aj8:=by rw[List.flatMap_map]
 have e2:=agq (t.1.map (·.1)) (iE t.2.1.length++(t.2.1.flatMap Cw++(iE t.2.2.1++t.1.flatMap λx=>B4 x.2.1))) λo ho=>by obtain⟨x,hx,rfl⟩:=dO.1 ho;exact⟨(hv.2.1 x hx).1.1,(afr x hx).1,by have:=(afr x hx).2.1;omega⟩
 rw[<-ef,cH]at e2;have e3:=adm (n:=(t.2.1.length:Int)) (m:=64) (tz au) au (t.2.1.flatMap Cw++(iE t.2.2.1++t.1.flatMap λx=>B4 x.2.1));have e4:=Zx t.2.1 (iE t.2.2.1++t.1.flatMap λx=>B4 x.2.1) λo ho=>by have:=nc _ _ b2 o ho;exact⟨⟨this.1.1,au⟩,this.2,(hv.1.1 o ho).1⟩
 have e5:=Cu t.2.2.1 ⟨a4,aLt⟩ (t.1.flatMap λx=>B4 x.2.1);have e6:=aae t.1 [] λx hx=>⟨(hv.2.1 x hx).2.1,⟨(afr x hx).2.2.1,by have:=(afr x hx).2.2.2.1;omega⟩,(afr x hx).2.2.2.2⟩
 rw[bP]at e6;unfold acG aIf;simp only[e1,aa,e2,e3,e4];unfold avY;simp only[e5,e6];unfold auq;rw[if_neg];rintro(x | x | x | x | x)
 ·omega
 ·omega
 ·cases x
 ·simp at x
 ·rw[show((t.1,t.2.1,t.2.2.1,()):dM)=t from rfl,iO]at x;cases x
def sV(r:gG):Prop:=qs r/\(r.2.1=aT->r.1=[])
def Ov(r r':gG)(e:List Int):Prop:=sV r'/\(r'.2.1=aR->r.2.1=aR/\r.1=e++r'.1)
theorem Ov.trans{r r1 r2:gG}{e1 e2:List Int}(h1:Ov r r1 e1)(h2:Ov r1 r2 e2):Ov r r2 (e1++e2):=
 ⟨h2.1,λh=>⟨(h1.2 (h2.2 h).1).1,by rw[(h1.2 (h2.2 h).1).2,(h2.2 h).2,aO]⟩⟩
theorem Ov.of{r r':gG}{e e':List Int}(h:Ov r r' e)(he:r'.2.1=aR->e=e'):Ov r r' e':=⟨h.1,λh'=>by rw[<-he h'];exact h.2 h'⟩
theorem Ov.refl{r:gG}(h:sV r):Ov r r []:=⟨h,λh'=>⟨h',rfl⟩⟩
theorem azN:sV LA:=⟨abe,λ_=>rfl⟩
theorem ae6(r:gG)(e:List Int):Ov r LA e:=⟨azN,λh=>by cases h⟩
theorem aBo{b:List Int}(hb:Bytes b)(hl:b.length<=1000000000):sV (b,aR,()):=⟨akK hb hl (aR,()),λh=>by cases h⟩
theorem Ww{r:gG}(h:sV r)(n:Nat):Ov r (ml n r).2 (ml n r).1/\((ml n r).2.2.1=aR->(ml n r).1.length=n):=by
 have hb:=(yJ (n:=n) h.1).2.2
 revert hb
 unfold ml;split
 ·exact λ_=>⟨ae6 _ _,λh=>by cases h⟩
 ·rename_i hc;intro hb;have h1:r.2.1=aR:=by cases hr:r.2.1 with | false=>rfl | true=>exact absurd (lG hr) hc
  have h2:¬r.1.length < n:=λx=>hc (fm x)
  exact⟨⟨⟨hb,λ(hx:r.2.1=aT)=>by rw[h1]at hx;cases hx⟩,λ_=>⟨h1,(dR n r.1).symm⟩⟩,λ_=>by show(r.1.take n).length=n;rw[cT];omega⟩
theorem V4(f:Nat){d:Int}(h:d < 128):gD f d=([],d):=by
 cases f with
 |zero=>rfl
 |succ f=>rw[gD,if_neg au]
theorem agi:∀(l:List Int) (a:Nat) (n:Int) (v:Int×Nat),Bytes l->a<=9->zI l a n= .inl v->
  ∃w rest,v.1=n+w*128^a/\0<=w/\(a=0\/0 < w)/\w < 128^(9 - a)/\l=(gD (8 - a) w).1++(gD (8 - a) w).2::rest/\v.2=a+(gD (8 - a) w).1.length+1
 |[],a,n,v,_,_,h=>by cases h
 |d::l,a,n,v,hb,ha,h=>by
  obtain⟨x1,x2⟩:=hb d aK;rw[zI]at h;split at h
  ·cases h
  rename_i hc;have aKm:a<=8:=au;have e9:(128:Int)^(9 - a)=128^(8 - a)*128:=by rw[show 9 - a=(8 - a)+1 by omega];exact fY 128 (8 - a)
  have p8:(0:Int) < 128^(8 - a):=Int.pow_pos eZ;split at h
  ·rename_i hd;cases h;refine⟨d,l,by rw[fi x1 hd],x1,au,au,?_,?_⟩
   ·rw[V4 _ hd];rfl
   ·rw[V4 _ hd];rfl
  ·rename_i hd;obtain⟨w,rest,e1,w0,w1,w2,e2,e3⟩:=agi l (a+1) _ v (λx hx=>hb x (aL _ hx)) au h;have w1:0 < w:=au;rw[show 9 - (a+1)=8 - a by omega]at w2;have aL6:a<=7:=by
    by_cases h8:a=8
    ·rw[h8]at w2;have:(128:Int)^(8 - 8)=1:=rfl;omega
    ·omega
   have er:gD (8 - a) (d%128+128*w)=((d%128+128)::(gD (8 - (a+1)) w).1,(gD (8 - (a+1)) w).2):=by rw[show 8 - a=(8 - (a+1))+1 by omega,gD,if_pos au,show(d%128+128*w)%128=d%128 by omega,show(d%128+128*w) / 128=w by omega]
   refine⟨d%128+128*w,rest,?_,au,au,au,?_,?_⟩
   ·rw[e1,fY,Int.add_mul,Int.add_assoc,Int.mul_comm 128 w,Int.mul_assoc w,Int.mul_comm 128]
   ·rw[er,e2,show d%128+128=d by omega];rfl
   ·rw[er,e3];simp only[aH];omega
theorem qQ{r:gG}(h:sV r):Ov r (dI r).2 (iE (dI r).1)/\((dI r).2.2.1=aR->EH (dI r).1):=by
 have hk:=qP h.1
 revert hk
 unfold dI;cases hf:zI r.1 0 0 with
 |inr _=>exact λ_=>⟨ae6 _ _,λh=>by cases h⟩
 |inl v=>
  intro hk;obtain⟨w,rest,e1,w0,_,w2,e2,e3⟩:=agi r.1 0 0 v h.1.2 eZ hf;have h1:r.2.1=aR:=by
   cases hr:r.2.1 with
   |false=>rfl
   |true=>rw[h.2 hr]at hf;cases hf
  have ew:v.1=w:=by rw[e1,kQ];omega
  have e9:(128:Int)^(9 - 0)=9223372036854775808:=rfl;have e8:(128:Int)^(8+1)=9223372036854775808:=rfl;have e10:(128:Int)^(10+1)=151115727451828646838272:=rfl;have er:gD 10 w=gD 8 w:=Hq 10 8 w (by rw[e10];omega) (by rw[e8];omega);have en:iE v.1=(gD 8 w).1++ [(gD 8 w).2]:=by rw[ew];unfold iE;rw[er]
  refine⟨⟨⟨hk.2.2,λ(hx:r.2.1=aT)=>by rw[h1]at hx;cases hx⟩,λ_=>⟨h1,?_⟩⟩,λ_=>⟨hk.1,hk.2.1⟩⟩;show r.1=iE v.1++r.1.drop v.2;rw[en,e3,aO]
  conv=>rhs;rw[e2]
  rw[List.append_cons,bg,kI (by rw[ak];rfl)];exact e2
theorem asP{l:List Int}(h:l.length=8)(hb:Bytes l):mq (JT l)=l:=by
 match l,h with
 |[a,b,c,d,e,f,g,i],_=>
  have h0:=hb a (by simp);have h1:=hb b (by simp);have h2:=hb c (by simp);have h3:=hb d (by simp);have h4:=hb e (by simp);have h5:=hb f (by simp);have h6:=hb g (by simp);have h7:=hb i (by simp);unfold aai at h0 h1 h2 h3 h4 h5 h6 h7;unfold mq JT;simp only[aX,db];congr 1
  ·omega
  congr 1
  ·omega
  congr 1
  ·omega
  congr 1
  ·omega
  congr 1
  ·omega
  congr 1
  ·omega
  congr 1
  ·omega
  congr 1;omega
theorem Hu{r:gG}(h:sV r):Ov r (qJ r).2 (mq (qJ r).1):=by have e:=Ww h 8;exact e.1.of λhk=>(asP (e.2 hk) (yJ h.1).2.1).symm
theorem afo{r:gG}(h:sV r):Ov r (Fp r).2 (Fp r).1:=by
 have e:=Ww h 32;refine e.1.of λhk=> ?_
 unfold Fp;simp only[e.2 hk];rw[show bV 32 (ai 32 (0:Int))=[] from rfl,bP]
theorem auX{r:gG}(h:qs r):Sm (Fp r).1:=by
 have e:=yJ (n:=32) h;refine⟨?_,gb e.2.1 λx hx=> ?_⟩
 ·show((ml 32 r).1++bV (ml 32 r).1.length (ai 32 (0:Int))).length=32;rw[ak,dx,dE];have:=e.1;omega
 ·obtain rfl:=(rq.1 (List.mem_of_mem_drop hx)).2;exact⟨eZ,eZ⟩
theorem aay{r:gG}(h:sV r):Ov r (EK r).2 (iE (EK r).1.length++(EK r).1)/\Bytes (EK r).1/\(EK r).1.length<=1000000000:=by
 have e:=qQ h;unfold EK;split
 ·rename_i hc;exact⟨⟨e.1.1,λhk=>by rw[hc]at hk;cases hk⟩,λx hx=>(by cases hx),aN _⟩
 ·rename_i hc;have hc:(dI r).2.2.1=aR:=by simpa using hc
  have t:=Ww e.1.1 (dI r).1.toNat;have tb:=yJ (n:=(dI r).1.toNat) e.1.1.1;have n0:=(e.2 hc).1;refine⟨(e.1.trans t.1).of λhk=> ?_,tb.2.1,?_⟩
  ·rw[t.2 hk,Int.toNat_of_nonneg n0]
  ·have hl:(ml (dI r).1.toNat (dI r).2).1.length<=(dI r).2.1.length:=by
    unfold ml;split
    ·exact aN _
    ·show((dI r).2.1.take _).length<=_;rw[cT];omega
   have:=e.1.1.1.1;omega
theorem aFa{r:gG}(h:sV r){m:Int}(h0:0<=(Kt m r).1):Ov r (Kt m r).2 (iE (Kt m r).1)/\(Kt m r).1<=m:=by
 have e:=qQ h;unfold Kt at h0 ⊢;by_cases hc:(dI r).1 > m
 ·simp only[if_pos hc]at h0;omega
 ·simp only[if_neg hc];exact⟨e.1,au⟩
theorem anI{r:gG}(h:sV r)(m:Int):sV (Kt m r).2:=(qQ h).1.1
theorem anH{r:gG}(h:qs r){m:Int}(hm:0<=m): -1<=(Kt m r).1/\(Kt m r).1<=m:=by
 have:=(qP h).1;unfold Kt;split
 ·exact⟨au,by show(-1:Int)<=m;omega⟩
 ·rename_i hc;have hc:¬(dI r).1 > m:=hc;exact⟨by show -1<=(dI r).1;omega,by show(dI r).1<=m;omega⟩
theorem amX:∀(k:Nat) {r:gG},sV r->Ov r (HD k r).2 ((HD k r).1.flatMap aj8)/\(HD k r).1.length=k/\∀o∈(HD k r).1,Sm o.1
 | 0,r,h=>⟨Ov.refl h,rfl,λx hx=>by cases hx⟩
 |k+1,r,h=>by
  have e1:=afo h;have e2:=qQ e1.1;have ih:=amX k (r:=(aCO r).2) e2.1.1;refine⟨?_,by rw[HD,aH,ih.2.1],λo ho=> ?_⟩
  ·have:=(e1.trans e2.1).trans ih.1;rw[HD,dq];exact this
  ·rcases cj.1 ho with rfl | ho
   ·exact auX h.1
   ·exact ih.2.2 o ho
theorem aEG{r:gG}(h:sV r):sV (U1 r).2:=(aay (qQ h).1.1).1.1
theorem ags:∀(k:Nat) {r:gG} {x:List lT×gG},sV r->En k r=ao x->Ov r x.2 (x.1.flatMap Cw)/\x.1.length=k/\∀o∈x.1,o.1<=9223372036854775807/\nT o.2.1=aT/\aC5 o.2.1
 | 0,r,x,h,hx=>by cases hx;exact⟨Ov.refl h,rfl,λx hx=>by cases hx⟩
 |k+1,r,x,h,hx=>by
  rw[En]at hx;split at hx
  ·rename_i hr;split at hx
   ·rename_i y hy;cases hx;have e1:=qQ h;have e2:=aay e1.1.1;have ih:=ags k (aEG h) hy;obtain⟨l,hl,aD3,he,hle⟩:=axp hr;have hu:=anq e2.2.1 e2.2.2;have el:(U1 r).1.2.1=l:=by show(Ep (EK (dI r).2).1).1=l;rw[he]
    refine⟨?_,by rw[aH,ih.2.1],λo ho=> ?_⟩
    ·have:=(e1.1.trans e2.1).trans ih.1;rw[dq];unfold Cw;rw[el,aD3];exact this
    ·rcases cj.1 ho with rfl | ho
     ·refine⟨(qP h.1).2.1,by rw[el];exact hl,?_⟩;rw[el,hle];exact⟨hu.1,by show(sD _).length<=_;omega⟩
     ·exact ih.2.2 o ho
   ·cases hx
  ·cases hx
theorem acO:∀(k:Nat) {r:gG},sV r->Ov r (DY k r).2 ((DY k r).1.flatMap asw)/\(DY k r).1.length=k/\∀s∈(DY k r).1,aC6 s
 | 0,r,h=>⟨Ov.refl h,rfl,λx hx=>by cases hx⟩
 |k+1,r,h=>by
  have e1:=Hu h;have e2:=Hu e1.1;have ih:=acO k (r:=(aCU r).2) e2.1;refine⟨?_,by rw[DY,aH,ih.2.1],λo ho=> ?_⟩
  ·have:=(e1.trans e2).trans ih.1;rw[DY,dq];exact this
  ·rcases cj.1 ho with rfl | ho
   ·exact⟨(Pf h.1).1,(Pf e1.1.1).1⟩
   ·exact ih.2.2 o ho
theorem anK{r:gG}(h:sV r):sV (uN r).2/\(uN r).1.length<=12/\∀s∈(uN r).1,aC6 s:=by have e1:=qQ h;have ih:=acO (Kt 12 (dI r).2).1.toNat (anI e1.1.1 12);have:=anH e1.1.1.1 (m:=12) eZ;exact⟨ih.1.1,by show(DY _ _).1.length<=12;rw[ih.2.1];omega,ih.2.2⟩
theorem aBZ{r:gG}{w:RT×gG}(h:sV r)(hw:alz r=ao w):Ov r w.2 (B4 w.1)/\Su w.1/\w.1.2.1.length<=12:=by
 unfold alz at hw;split at hw
 ·cases hw
 ·rename_i hc;cases hw;have e1:=qQ h;have hc:0<=(Kt 12 (dI r).2).1:=au;have e2:=aFa e1.1.1 hc;have e3:=acO (Kt 12 (dI r).2).1.toNat e2.1.1;have g:=anK h;have e4:=Hu g.1;have hl:((uN r).1.length:Int)=(Kt 12 (dI r).2).1:=by show((DY _ _).1.length:Int)=_;rw[e3.2.1];omega
  have:=((e1.1.trans e2.1).trans e3.1).trans e4;refine⟨this.of λ_=> ?_,⟨g.2.2,(Pf g.1.1).1⟩,g.2.1⟩;unfold B4;simp only[hl,aO];rfl
theorem ahZ:∀(l:List cw) {r:gG} {x:List j9×gG},sV r->EG l r=ao x->Ov r x.2 (x.1.flatMap λy=>B4 y.2.1)/\x.1.map (·.1)=l/\∀y∈x.1,Su y.2.1/\y.2.1.2.1.length<=12
 |[],r,x,h,hx=>by cases hx;exact⟨Ov.refl h,rfl,λx hx=>by cases hx⟩
 |o::l,r,x,h,hx=>by
  rw[EG]at hx;split at hx
  ·cases hx
  ·rename_i w hw;have e:=aBZ h hw;split at hx
   ·cases hx
   ·rename_i y hy;cases hx;have ih:=ahZ l e.1.1 hy;refine⟨?_,by rw[cr,ih.2.1],λz hz=> ?_⟩
    ·have:=e.1.trans ih.1;rw[dq];exact this
    ·rcases cj.1 hz with rfl | hz
     ·exact e.2
     ·exact ih.2.2 z hz
def ayT(o:cw):Bb:=(o,(0,aJ,0,()),())
def aH7(x:j9):Bb:=(x.1,(x.2.1.1,ao x.2.1.2.1,x.2.1.2.2),())
def aJ0(x:Bb):j9:=(x.1,(x.2.1.1,x.2.1.2.1.getD [],x.2.1.2.2),())
theorem aDx(l:List Bb):aFm (.slice qI) (.slice gB) l=l.map aJ0:=cM
theorem aE7(l:List j9):(l.map aH7).map aJ0=l:=by rw[List.map_map];have:(aJ0∘aH7)=id:=rfl;rw[this,List.map_id]
theorem aAP{t:Ty}{l:List t.den}{k:Nat}{y:t.den}(h:k < l.length):nth t (l.set k y) k=y:=by simp[nth,h]
theorem aAO{t:Ty}{a b:List t.den}{k:Nat}{y:t.den}(h:a.length=k):nth t (a++y::b) k=y:=by subst h;simp[nth]
theorem aBz{α:Type}{a b:List α}{k:Nat}{y z:α}(h:a.length=k):(a++y::b).set k z=a++z::b:=by subst h;simp
theorem arU{α:Type}{l:List α}{k:Nat}{y:α}:(l.set k y).take k=l.take k:=by rw[List.take_set,List.set_eq_of_length_le (by rw[cT];omega)]
theorem ao8{α:Type}{l:List α}{k:Nat}{y:α}:(l.set k y).drop (k+1)=l.drop (k+1):=List.drop_set_of_lt au
def ark:gG->Prop:=λr=>qs r
def ans:gG->(Bs×gG):=λr=>Fp r
def VX:Fs Tryz.prog ark bG ans:=fV 131 Tryz.f131 (λo0=>([.ptr (.bF 0) 0 [] 0],[.obj 0 aR (.d sO o0)])) (λx=>⟨.d tH x.1,[.obj 0 aR (.d sO x.2)],[]⟩) [aJ] [V5]
theorem axx(o0)(k:K1 R):VX.A o0 k=aq (Gf.call (32,o0)) λx1=>aS (decide ((ag x1.1)<=32)) (k (VX.out ((x1.1++(bV (ag x1.1) (ai 32 0))),x1.2))) aJ:=cM
theorem axy:VX.Ok:=by intro r h;have h:qs r:=h;have e:=(yJ (n:=32) h).1;rw[axx,O7 (d:=(32,r)) ⟨eZ,h.1⟩];simp only[ae,bG,Sq];rw[show ab 32=32 from rfl,ba e];rfl
theorem arl:VX.RS:=rE [.d sO] VX
def axz:=VX.gf axy
def akI:gG->Prop:=λr=>qs r
def VP:gG->(Bs×gG):=λr=>EK r
def Gb:Fs Tryz.prog akI bG VP:=fV 133 Tryz.f133 (λo0=>([.ptr (.bF 0) 0 [] 0],[.obj 0 aR (.d sO o0)])) (λx=>⟨.d tB x.1,[.obj 0 aR (.d sO x.2)],[]⟩) [aJ] [Sp,V5] {res:=[ao tB],Lu:=[⟨0,[.arr],sO⟩]}
theorem arc(o0)(k:K1 R):Gb.A o0 k=aq (BP.call o0) λx1=>aS (x1.2.2.1) (k (Gb.out (([]:List Int),x1.2))) (aq (Gf.call (x1.1,x1.2)) λx2=>k (Gb.out (x2.1,x2.2))):=cM
theorem ard:Gb.Ok:=by
 intro r h;have h:qs r:=h;have e:=qP h;rw[arc,pb (d:=r) h];simp only[ae,bG,uH,bG,VP,EK];cases hc:(dI r).2.2.1
 ·rw[al,O7 (d:=((dI r).1,(dI r).2)) ⟨e.1,e.2.2.1⟩];rfl
 ·rfl
theorem akJ:Gb.RS:=rE [.d sO] Gb
def are:=Gb.gf ard
def asd:(Int×gG)->Prop:=λ(m,r)=>qs r
def NA:(Int×gG)->(Int×gG):=λ(m,r)=>Kt m r
def IK:Fs Tryz.prog asd bG NA:=fV 129 Tryz.f129 (λ(most,o1)=>([.d ti most,.ptr (.bF 0) 0 [] 0],[.obj 0 aR (.ptr (.bF 1) 0 [] 0),.obj 0 aR (.d sO o1)])) (λx=>⟨.d ti x.1,[.obj 0 aR (.ptr (.bF 1) 0 [] 0),.obj 0 aR (.d sO x.2)],[]⟩) [ao ti,aJ] [Sp]
theorem ayp(most o1)(k:K1 R):IK.A (most,o1) k=aq (BP.call o1) λx1=>aS (Ak x1.1 most) (k (IK.out ((-1),x1.2))) (k (IK.out (x1.1,x1.2))):=cM
theorem ayq:IK.Ok:=by
 rintro⟨m,r⟩ h;have h:qs r:=h;rw[ayp,pb (d:=r) h];simp only[ae,bG,uH,bG,NA,Kt];by_cases hc:(dI r).1 > m
 ·rw[dT hc,if_pos hc];rfl
 ·rw[du hc,if_neg hc];rfl
theorem Pe:IK.RS:=rE [.d ti,.d sO] IK
def ayr:=IK.gf ayq
abbrev Kh:=Int×Int×Int×(Int×Unit)×Nat×(Int×Unit)×gG×(List Bb)
abbrev WK:=Nat×gG×(List Bb)
def yK:Kh->WK->((Int×(Int×Unit)×(Int×Unit))×(Nat×gG×(List Bb))):=λ(n,t20,t21,n2,aAF,n4,n16,n32) y=>((n,n2,n4),y)
abbrev Aa:=Int×Int×Int×Int×(Int×Unit)×Nat×Nat×(Int×Unit)×gG×(List Bb)×(List lT)
def pn:Aa->AS:=λ(CU,m,t37,t38,sK,Qv,Ib,oW,UE,sw,aCK)=>⟨([cq,cq,fu 2,cq,fu 4,fu 5,.fn 129 (.cons (fu 5) (.nil)),.d ti CU,.d ti m]++bf 28 ([.d ti t37,.d ti t38]++bf 93 [])),[],([[],[],dG (.pr (.dH) (.pr (.dH) (.d (.pair ti .unit) sK))),[],dG (.pr (oa 32 Qv) (.pr (oa 58 Ib) (.d (.pair ti .unit) oW))),dG (fu 16)]++bI 10 ([dG (.d sO UE)]++bI 15 ([dG (.vec 88 qI sw)]++bI 25 ([dG (.vec 51 jy aCK)]++bI 73 []))))⟩
def qd:(Int×Unit)->Exit×AS:=λx=>(.ret,⟨([cq,cq,fu 2,.d .bool aR]++bf 128 []),[],([[],[],dG (.pr (.dH) (.pr (.dH) (.d (.pair ti .unit) x)))]++bI 129 [])⟩)
abbrev Rb:=(Int×Int×(Int×Unit)×Nat×(Int×Unit)×(List Bb))×(Nat×gG×(List lT))
def yM:Rb->Exit×AS:=λ((a,b,c,e,f,g),h,i,j)=>(.exit 2,⟨([cq,cq,fu 2,cq,fu 4,fu 5,.fn 129 (.cons (fu 5) (.nil)),.d ti a,.d ti b]++bf 123 []),[],([[],[],dG (.pr (.dH) (.pr (.dH) (.d (.pair ti .unit) c))),[],dG (.pr (oa 32 e) (.pr (oa 58 h) (.d (.pair ti .unit) f))),dG (fu 16)]++bI 10 ([dG (.d sO i)]++bI 15 ([dG (.vec 88 qI g)]++bI 25 ([dG (.vec 51 jy j)]++bI 73 []))))⟩)
abbrev Kj:=((Int×Unit))⊕(Rb)
abbrev WM:=((Int×Unit))⊕((Nat×gG×(List lT)))
def D6:Kj->Out (Exit×AS):=λx=> .br x.isLeft (.get x.getLeft? λa=> .ok (qd a)) (.get x.getRight? λb=> .ok (yM b))
def lE:Aa->WM->Kj:=λ(CU,m,t37,t38,sK,Qv,Ib,oW,UE,sw,aCK) y=>match y with | .inl y=> .inl y | .inr z=> .inr (((CU,m,sK,Qv,oW,sw),z))
abbrev Ac:=Int×Int×Int×Int×(Int×Unit)×Nat×Nat×(Int×Unit)×gG×(List Bb)×(List lT)
def pq:Ac->AS:=λ(aEw,amN,t66,t67,zG,Qw,UL,Mj,UF,fk,UP)=>⟨([cq,cq,fu 2,cq,fu 4,fu 5,.fn 129 (.cons (fu 5) (.nil)),.d ti aEw,.d ti amN]++bf 57 ([.d ti t66,.d ti t67]++bf 64 [])),[],([[],[],dG (.pr (.dH) (.pr (.dH) (.d (.pair ti .unit) zG))),[],dG (.pr (oa 32 Qw) (.pr (oa 58 UL) (.d (.pair ti .unit) Mj))),dG (fu 16)]++bI 10 ([dG (.d sO UF)]++bI 15 ([dG (.vec 88 qI fk)]++bI 25 ([dG (.vec 51 jy UP)]++bI 73 []))))⟩
def qe:(Int×Unit)->Exit×AS:=λx=>(.ret,⟨([cq,cq,fu 2,.d .bool aR]++bf 128 []),[],([[],[],dG (.pr (.dH) (.pr (.dH) (.d (.pair ti .unit) x)))]++bI 129 [])⟩)
abbrev Re:=Int×Int×(Int×Unit)×Nat×Nat×(Int×Unit)×gG×(List Bb)×(List lT)
def yO:Re->Exit×AS:=λ(a,b,c,e,f,g,h,i,j)=>(.exit 4,⟨([cq,cq,fu 2,cq,fu 4,fu 5,cq,.d ti a,.d ti b]++bf 123 []),[],([[],[],dG (.pr (.dH) (.pr (.dH) (.d (.pair ti .unit) c))),[],dG (.pr (oa 32 e) (.pr (oa 58 f) (.d (.pair ti .unit) g))),dG (fu 16)]++bI 10 ([dG (.d sO h)]++bI 15 ([dG (.vec 88 qI i)]++bI 25 ([dG (.vec 51 jy j)]++bI 73 []))))⟩)
abbrev Kl:=((Int×Unit))⊕(Re)
abbrev WO:=((Int×Unit))⊕((Int×Int×(Int×Unit)×Nat×Nat×(Int×Unit)×gG×(List Bb)×(List lT)))
def D7:Kl->Out (Exit×AS):=λx=> .br x.isLeft (.get x.getLeft? λa=> .ok (qe a)) (.get x.getRight? λb=> .ok (yO b))
def lF:Ac->WO->Kl:=λ(aEw,amN,t66,t67,zG,Qw,UL,Mj,UF,fk,UP) y=>match y with | .inl y=> .inl y | .inr z=> .inr (z)
abbrev Km:=Int×Int×Int×Int×Int×Int×(Int×Unit)×Nat×Nat×(Int×Unit)×gG×(List Bb)×cw×Int×Nat×(Int×Unit)×(List Bb)×(List lT)×(List Sg)
abbrev WQ:=gG×(List Bb)×(List Sg)
def yP:Km->WQ->((Int×Int×Int×Int×(Int×Unit)×Nat×Nat×(Int×Unit)×(List lT))×(gG×(List Bb)×(List Sg))):=λ(aEx,aEr,Wt,CO,t85,t86,JR,UM,UN,ajZ,Zm,Zp,Zq,Zr,RC,Zs,UK,UQ,n99) y=>((aEx,aEr,Wt,CO,JR,UM,UN,ajZ,UQ),y)
def ac2:Kh->Prop:=λ(n,m,i,u,L,v,r,l)=>sV r/\m<=64/\∃k:Nat,i=k/\k<=64/\L=l.length/\l.length=k
def D5:Kh->WK:=λ(n,m,i,u,L,v,r,l)=>(L+(m - i).toNat,(HD (m - i).toNat r).2,l++(HD (m - i).toNat r).1.map ayT)
def yL:Aa->Prop:=λ(n,m1,m,i,u,L,L2,v,r,l,os)=>sV r/\m<=64/\∃k:Nat,i=k/\k<=64/\L2=os.length/\os.length=k
def pj:Aa->WM:=λ(n,m1,m,i,u,L,L2,v,r,l,os)=>match En (m - i).toNat r with | none=> .inl (0,()) | some x=> .inr (L2+x.1.length,x.2,os++x.1)
def ac6:Km->Prop:=λ(n,m1,mo,io,m,i,u,L,L2,v,r,la,op,br,Ls,sc,lb,os,sg)=>sV r/\m<=12/\∃k:Nat,i=k/\k<=12/\Ls=sg.length/\sg.length=k
def D8:Km->WQ:=λ(n,m1,mo,io,m,i,u,L,L2,v,r,la,op,br,Ls,sc,lb,os,sg)=>((DY (m - i).toNat r).2,la++(op,(br,ao (sg++(DY (m - i).toNat r).1),sc),())::lb,sg++(DY (m - i).toNat r).1)
def yN:Ac->Prop:=λ(n,m1,m,i,u,L,L2,v,r,l,os)=>sV r/\l.length<=64/\∃k:Nat,i=k/\k<=l.length/\m=l.length/\L=l.length/\∀x∈l.drop k,x=ayT x.1
def po:Ac->WO:=λ(n,m1,m,i,u,L,L2,v,r,l,os)=>match EG ((l.drop i.toNat).map (·.1)) r with | none=> .inl (0,()) | some x=> .inr (n,m1,u,L,L2,v,x.2,l.take i.toNat++x.1.map aH7,os)
def ar4:Bs->Prop:=λb=>Bytes b/\b.length<=1000000000
def ac1:Bs->(dM×Bool):=λb=>acG b
def tX:Ls ac2 yK D5:=yg (λ(n,t20,t21,n2,aAF,n4,n16,n32)=>⟨([cq,cq,fu 2,cq,fu 4,fu 5,.fn 129 (.cons (fu 5) (.nil)),.d ti n]++bf 12 ([.d ti t20,.d ti t21]++bf 110 [])),[],([[],[],dG (.pr (.dH) (.pr (.dH) (.d (.pair ti .unit) n2))),[],dG (.pr (oa 32 aAF) (.pr (.dH) (.d (.pair ti .unit) n4))),dG (fu 16)]++bI 10 ([dG (.d sO n16)]++bI 15 ([dG (.vec 88 qI n32)]++bI 99 [])))⟩) (λx=>(.exit 0,⟨([cq,cq,fu 2,cq,fu 4,fu 5,.fn 129 (.cons (fu 5) (.nil)),.d ti x.1.1]++bf 124 []),[],([[],[],dG (.pr (.dH) (.pr (.dH) (.d (.pair ti .unit) x.1.2.1))),[],dG (.pr (oa 32 x.2.1) (.pr (.dH) (.d (.pair ti .unit) x.1.2.2))),dG (fu 16)]++bI 10 ([dG (.d sO x.2.2.1)]++bI 15 ([dG (.vec 88 qI x.2.2.2)]++bI 99 [])))⟩))
def WL:=dW.gA pn yL lE pj D6
def ID:Aa->Option Kj:=iI WL pn
def WN:=dW.gA pq yN lF po D7
def IF:Ac->Option Kl:=iI WN pq
def tY:Ls ac6 yP D8:=yg (λ(aEx,aEr,Wt,CO,t85,t86,JR,UM,UN,ajZ,Zm,Zp,Zq,Zr,RC,Zs,UK,UQ,n99)=>⟨([cq,cq,fu 2,cq,fu 4,fu 5,.fn 129 (.cons (fu 5) (.nil)),.d ti aEx,.d ti aEr]++bf 4 ([.ptr (.new 32 0) 0 [.snd,.fst,.snd,.fst] ((0+((ab CO)*36))+33)]++bf 52 ([.d ti Wt,.d ti CO]++bf 17 ([.d ti t85,.d ti t86]++bf 45 [])))),[],([[],[],dG (.pr (.dH) (.pr (.dH) (.d (.pair ti .unit) JR))),[],dG (.pr (oa 32 UM) (.pr (oa 58 UN) (.d (.pair ti .unit) ajZ))),dG (fu 16)]++bI 10 ([dG (.d sO Zm)]++bI 15 ([dG (.bx 88 36 (.pr (.d (.arr (0+(ab CO)) qI) Zp) (.pr (.pr (.d bM Zq) (.pr (.pr (.d ti Zr) (.pr (oa 99 RC) (.d (.pair tu .unit) Zs))) kK)) (.d (.arr (ag UK) qI) UK))))]++bI 25 ([dG (.vec 51 jy UQ)]++bI 40 ([dG (.vec 148 No n99)]++bI 32 [])))))⟩) (λx=>(.exit 6,⟨([cq,cq,fu 2,cq,fu 4,fu 5,.fn 129 (.cons (fu 5) (.nil)),.d ti x.1.1,.d ti x.1.2.1]++bf 4 ([.ptr (.new 32 0) 0 [.idx (0+(ab x.1.2.2.2.1)),.snd,.fst] ((0+((ab x.1.2.2.2.1)*36))+33)]++bf 52 ([.d ti x.1.2.2.1,.d ti x.1.2.2.2.1]++bf 64 []))),[],([[],[],dG (.pr (.dH) (.pr (.dH) (.d (.pair ti .unit) x.1.2.2.2.2.1))),[],dG (.pr (oa 32 x.1.2.2.2.2.2.1) (.pr (oa 58 x.1.2.2.2.2.2.2.1) (.d (.pair ti .unit) x.1.2.2.2.2.2.2.2.1))),dG (fu 16)]++bI 10 ([dG (.d sO x.2.1)]++bI 15 ([dG (.vec 88 qI x.2.2.1)]++bI 25 ([dG (.vec 51 jy x.1.2.2.2.2.2.2.2.2)]++bI 40 ([[.obj 0 aT (.vec 148 No x.2.2.2)]]++bI 32 [])))))⟩))
def lS:Fs Tryz.prog ar4 bG ac1:=fV 88 Tryz.f88 (λb=>([.d tB b],[])) (λx=>⟨.cons (.d ee x.1) (.cons (.d .bool x.2) (.nil)),[],[]⟩) [ao tB] [ag5,ayr,axz,Sp,are,avQ,anv,aBu,axC,qf] {bN:=[100031,100032],loops:=so [(6,{bp:=[2,4,5,6,7,20,21],sites:=[2,4,5,16,32],owns:=[⟨4,[.fst],32,100054⟩]}),(11,{bp:=[2,4,5,6,7,8,37,38],sites:=[2,4,5,16,32,58],owns:=[⟨4,[.snd,.fst],58,22⟩]}),(21,{bp:=[2,4,5,6,7,8,66,67],sites:=[2,4,5,16,32,58]}),(29,{bp:=[2,4,5,6,7,8,13,66,67,85,86],sites:=[2,4,5,16,32,58,99],owns:=[⟨13,[.snd,.fst],99,84⟩],aKh:=[13]})],outs:=sm [(6,{bp:=[2,4,5,6,7],sites:=[2,4,5,16,32]},{bp:=[2,3]}),(11,{bp:=[2,4,5,6,7,8],sites:=[2,4,5,16,32,58]},{bp:=[2,3],sites:=[2]}),(21,{bp:=[2,4,5,7,8],sites:=[2,4,5,16,32,58]},{bp:=[2,3],sites:=[2]}),(29,{bp:=[2,4,5,6,7,8,13,66,67],sites:=[2,4,5,16,32,58,99],aKS:=[13]},{bp:=[2,3]})],gS:=tt [(6,tX.E),(11,WL),(21,WN),(29,tY.E)],res:=[ao ee,aJ]}
def Ki:= @fh Tryz.prog (lU lS.G) lS.an 0 Tryz.f88 1 _ pn
abbrev Ra:=mn Tryz.prog (lU lS.G) lS.an 0 Tryz.f88 1 pn yL lE pj D6
def Kk:= @fh Tryz.prog (lU lS.G) lS.an 0 Tryz.f88 2 _ pq
abbrev Rc:=mn Tryz.prog (lU lS.G) lS.an 0 Tryz.f88 2 pq yN lF po D7
theorem ac3:tX.RS:=rL [.d ti,.d ti,.d ti,.d (.pair ti .unit),.n,.d (.pair ti .unit),.d sO,.d (.slice qI)] tX
theorem IC(n t20 t21 n2 aAF n4 n16 n32)(kn:K2 R)(kx:K3 R):lS.R 0 tX (n,t20,t21,n2,aAF,n4,n16,n32) kn kx=aS (gY t21 t20) (aq (VX.call n16) λx7=>aq (BP.call x7.2) λx8=>aS (decide (aAF<=(ag n32))) (aS (ea (aAF+1) 80) (kn (tX.st (n,t20,(bT .i64 t21 1),n2,(aAF+1),n4,x8.2,((bn aAF n32)++ [((x7.1,(x8.1,())),((0,(aJ,(0,()))),()))])))) aJ) aJ) (tX.go kx ((n,n2,n4),(aAF,n16,n32))):=cM
theorem ac4:kC ID yL lE pj:=og (na [.d ti,.d ti,.d ti,.d ti,.d (.pair ti .unit),.n,.n,.d (.pair ti .unit),.d sO,.d (.slice qI),.d (.slice jy)] λ_=>cM)
theorem Nv:qp @Ki pn yL lE pj D6 Ra:=rA
theorem IE(CU m t37 t38 sK Qv Ib oW UE sw aCK)(kn:K2 R)(kx:K3 R):Ki (CU,m,t37,t38,sK,Qv,Ib,oW,UE,sw,aCK) kn kx=aS (gY t38 t37) (aq (BP.call UE) λsQ=>aq (Gb.call sQ.2) λaKV=>aq (zA.call aKV.1) λCV=>aS (!CV.2) (kx (qd ((0:Int),())).1 (qd ((0:Int),())).2) (aS (decide (Ib<=(ag aCK))) (aS (ea (Ib+1) 32) (kn (pn (CU,m,t37,(bT .i64 t38 (1:Int)),sK,Qv,(Ib+1),oW,aKV.2,sw,((bn Ib aCK)++ [(sQ.1,(CV.1,()))])))) aJ) aJ)) (kx (yM ((CU,m,sK,Qv,oW,sw),(Ib,UE,aCK))).1 (yM ((CU,m,sK,Qv,oW,sw),(Ib,UE,aCK))).2):=cM
theorem ac5:kC IF yN lF po:=og (na [.d ti,.d ti,.d ti,.d ti,.d (.pair ti .unit),.n,.n,.d (.pair ti .unit),.d sO,.d (.slice qI),.d (.slice jy)] λ_=>cM)
theorem Nw:qp @Kk pq yN lF po D7 Rc:=rA
theorem IG(aEw amN t66 t67 zG Qw UL Mj UF fk UP)(kn:K2 R)(kx:K3 R):Kk (aEw,amN,t66,t67,zG,Qw,UL,Mj,UF,fk,UP) kn kx=aS (gY t67 t66) (aS (gI t67 ((Qw:Nat):Int)) (aq (BP.call UF) λsQ=>aS (decide ((0+(ab t67)) < (ag fk))) (aS (decide ((((0+(ab t67))*36)+33)=(((0+((ab t67)*36))+33)+0))) (aS (decide ((0+(ab t67)) < (ag fk))) (aq (IK.call ((12:Int),sQ.2)) λadr=>aS (gY adr.1 (0:Int)) (kx (qe ((0:Int),())).1 (qe ((0:Int),())).2) (aS (decide ((0+(ab t67)) < (ag (gr fk (0+(ab t67)) ((nth qI fk (0+(ab t67))).1,((sQ.1,(nth qI fk (0+(ab t67))).2.1.2),(nth qI fk (0+(ab t67))).2.2)))))) (aS (Option.isNone (nth qI (gr fk (0+(ab t67)) ((nth qI fk (0+(ab t67))).1,((sQ.1,(nth qI fk (0+(ab t67))).2.1.2),(nth qI fk (0+(ab t67))).2.2))) (0+(ab t67))).2.1.2.1) (aq (tY.call (aEw,amN,t66,t67,adr.1,(0:Int),zG,Qw,UL,Mj,adr.2,(bn (0+(ab t67)) (gr fk (0+(ab t67)) ((nth qI fk (0+(ab t67))).1,((sQ.1,(nth qI fk (0+(ab t67))).2.1.2),(nth qI fk (0+(ab t67))).2.2)))),((nth qI (gr fk (0+(ab t67)) ((nth qI fk (0+(ab t67))).1,((sQ.1,(nth qI fk (0+(ab t67))).2.1.2),(nth qI fk (0+(ab t67))).2.2))) (0+(ab t67))).1.1,((nth qI (gr fk (0+(ab t67)) ((nth qI fk (0+(ab t67))).1,((sQ.1,(nth qI fk (0+(ab t67))).2.1.2),(nth qI fk (0+(ab t67))).2.2))) (0+(ab t67))).1.2.1,(nth qI (gr fk (0+(ab t67)) ((nth qI fk (0+(ab t67))).1,((sQ.1,(nth qI fk (0+(ab t67))).2.1.2),(nth qI fk (0+(ab t67))).2.2))) (0+(ab t67))).1.2.2)),(nth qI (gr fk (0+(ab t67)) ((nth qI fk (0+(ab t67))).1,((sQ.1,(nth qI fk (0+(ab t67))).2.1.2),(nth qI fk (0+(ab t67))).2.2))) (0+(ab t67))).2.1.1,0,((nth qI (gr fk (0+(ab t67)) ((nth qI fk (0+(ab t67))).1,((sQ.1,(nth qI fk (0+(ab t67))).2.1.2),(nth qI fk (0+(ab t67))).2.2))) (0+(ab t67))).2.1.2.2.1,(nth qI (gr fk (0+(ab t67)) ((nth qI fk (0+(ab t67))).1,((sQ.1,(nth qI fk (0+(ab t67))).2.1.2),(nth qI fk (0+(ab t67))).2.2))) (0+(ab t67))).2.1.2.2.2),(bV ((0+(ab t67))+1) (gr fk (0+(ab t67)) ((nth qI fk (0+(ab t67))).1,((sQ.1,(nth qI fk (0+(ab t67))).2.1.2),(nth qI fk (0+(ab t67))).2.2)))),UP,([]:List Sg))) λIT=>aq (M4.call IT.2.1) λCV=>aS (decide ((0+(ab IT.1.2.2.2.1)) < (ag IT.2.2.1))) (aS (decide ((((0+(ab IT.1.2.2.2.1))*36)+35)=(((0+((ab IT.1.2.2.2.1)*36))+33)+2))) (aS (decide ((0+(ab IT.1.2.2.2.1)) < (ag IT.2.2.1))) (kn (pq (IT.1.1,IT.1.2.1,IT.1.2.2.1,(bT .i64 IT.1.2.2.2.1 (1:Int)),IT.1.2.2.2.2.1,IT.1.2.2.2.2.2.1,IT.1.2.2.2.2.2.2.1,IT.1.2.2.2.2.2.2.2.1,CV.2,(gr IT.2.2.1 (0+(ab IT.1.2.2.2.1)) ((nth qI IT.2.2.1 (0+(ab IT.1.2.2.2.1))).1,(((nth qI IT.2.2.1 (0+(ab IT.1.2.2.2.1))).2.1.1,((nth qI IT.2.2.1 (0+(ab IT.1.2.2.2.1))).2.1.2.1,(CV.1,(nth qI IT.2.2.1 (0+(ab IT.1.2.2.2.1))).2.1.2.2.2))),(nth qI IT.2.2.1 (0+(ab IT.1.2.2.2.1))).2.2))),IT.1.2.2.2.2.2.2.2.2))) aJ) aJ) aJ) aJ) aJ)) aJ) aJ) aJ) aJ) (kx (yO (aEw,amN,zG,Qw,UL,Mj,UF,fk,UP)).1 (yO (aEw,amN,zG,Qw,UL,Mj,UF,fk,UP)).2):=cM
theorem ac7:tY.RS:=rL [.d ti,.d ti,.d ti,.d ti,.d ti,.d ti,.d (.pair ti .unit),.n,.n,.d (.pair ti .unit),.d sO,.d (.slice qI),.d bM,.d ti,.n,.d (.pair tu .unit),.d (.slice qI),.d (.slice jy),.d (.slice No)] tY
theorem IH(aEx aEr Wt CO t85 t86 JR UM UN ajZ Zm Zp Zq Zr RC Zs UK UQ n99)(kn:K2 R)(kx:K3 R):lS.R 3 tY (aEx,aEr,Wt,CO,t85,t86,JR,UM,UN,ajZ,Zm,Zp,Zq,Zr,RC,Zs,UK,UQ,n99) kn kx=aS (gY t86 t85) (aS (decide ((((0+(ab CO))*36)+34)=(((0+((ab CO)*36))+33)+1))) (aq (M4.call Zm) λx7=>aq (M4.call x7.2) λx8=>aS (decide (RC<=(ag n99))) (aS (ea (RC+1) 16) (aS (decide ((((0+(ab CO))*36)+34)=(((0+((ab CO)*36))+33)+1))) (kn (tY.st (aEx,aEr,Wt,CO,t85,(bT .i64 t86 1),JR,UM,UN,ajZ,x8.2,Zp,Zq,Zr,(RC+1),Zs,UK,UQ,((bn RC n99)++ [(x7.1,(x8.1,()))])))) aJ) aJ) aJ) aJ) (aS (decide (0=0/\(0+RC)<=(ag n99))) (tY.go kx ((aEx,aEr,Wt,CO,JR,UM,UN,ajZ,UQ),(Zm,(Zp++(Zq,((Zr,((ao (cut n99 0 RC)),Zs)),()))::UK),n99))) aJ):=cM
theorem ayg(b)(k:K1 R):lS.A b k=aq (Q3.call b) λx4=>aq (IK.call (64,x4)) λx8=>aq (tX.call (x8.1,x8.1,0,(0,()),0,(0,()),x8.2,([]:List Bb))) λYk=>aq (IK.call (64,Yk.2.2.1)) λaaf=>aq (ID (Yk.1.1,aaf.1,aaf.1,0,Yk.1.2.1,Yk.2.1,0,Yk.1.2.2,aaf.2,Yk.2.2.2,([]:List lT))) λaKa=>aS aKa.isLeft (aq aKa.getLeft? λa83=>k (lS.out ((([]:List j9),(([]:List lT),a83)),aR))) (aq aKa.getRight? λb84=>aq (BP.call b84.2.2.1) λAi=>aq (IF (b84.1.1,b84.1.2.1,((b84.1.2.2.2.1:Nat):Int),0,b84.1.2.2.1,b84.1.2.2.2.1,b84.2.1,(Ai.1,b84.1.2.2.2.2.1.2),Ai.2,b84.1.2.2.2.2.2,b84.2.2.2)) λaFd=>aS aFd.isLeft (aq aFd.getLeft? λa125=>k (lS.out ((([]:List j9),(([]:List lT),a125)),aR))) (aq aFd.getRight? λb126=>aS (gY b126.1 0) (k (lS.out ((([]:List j9),(([]:List lT),(0,()))),aR))) (aS (gY b126.2.1 0) (k (lS.out ((([]:List j9),(([]:List lT),(0,()))),aR))) (aq (akP.call b126.2.2.2.2.2.2.1) λaHC=>aS (!aHC.2) (k (lS.out ((([]:List j9),(([]:List lT),(0,()))),aR))) (aq (VY.call aHC.1) λaJ4=>aS (Ak aJ4.2 0) (k (lS.out ((([]:List j9),(([]:List lT),(0,()))),aR))) (aS (decide (0=0/\(0+b126.2.2.2.1)<=(ag b126.2.2.2.2.2.2.2.1))) (aS (decide (0=0/\(0+b126.2.2.2.2.1)<=(ag b126.2.2.2.2.2.2.2.2))) (aq (hP.call ((aFm (.slice qI) (.slice gB) (cut b126.2.2.2.2.2.2.2.1 0 b126.2.2.2.1)),((cut b126.2.2.2.2.2.2.2.2 0 b126.2.2.2.2.1),b126.2.2.2.2.2.1))) λaJ5=>aS (!aJ5) (k (lS.out ((([]:List j9),(([]:List lT),(0,()))),aR))) (aS (decide (0=0/\(0+b126.2.2.2.1)<=(ag b126.2.2.2.2.2.2.2.1))) (aS (decide (0=0/\(0+b126.2.2.2.2.1)<=(ag b126.2.2.2.2.2.2.2.2))) (k (lS.out (((aFm (.slice qI) (.slice gB) (cut b126.2.2.2.2.2.2.2.1 0 b126.2.2.2.1)),((cut b126.2.2.2.2.2.2.2.2 0 b126.2.2.2.2.1),b126.2.2.2.2.2.1)),aT))) aJ) aJ)) aJ) aJ)))))):=cM
theorem ahH:(lS.mM 0 tX):=by
 refine(lS.qG 0 tX) (λ(n,m,i,u,L,v,r,l)=>(m - i).toNat) ?_
 rintro⟨n,m,i,u,L,v,r,l⟩ ⟨hr,hm,k,rfl,hk,rfl,adz⟩;have hr:sV r:=hr;have hm:m<=64:=hm;have adz:l.length=k:=adz;by_cases h:(k:Int) < m
 ·left;have e1:(m - (k:Int)).toNat=(m - ((k+1:Nat):Int)).toNat+1:=au;have h1:=afo hr;refine⟨(n,m,((k+1:Nat):Int),u,l.length+1,v,(aCO r).2,l++ [ayT (aCO r).1]),⟨(qQ h1.1).1.1,hm,k+1,rfl,au,by rw[ak];rfl,by rw[ak];show l.length+1=_;omega⟩,by show(m - ((k+1:Nat):Int)).toNat < (m - (k:Int)).toNat;omega,?_,λkn kx=> ?_⟩
  ·simp only[yK,D5,e1,HD,cr,aO,dQ];rw[show ∀a c:Nat,a+1+c=a+(c+1) from λa c=>au]
  ·rw[IC,bm h,arl (d:=r) hr.1];simp only[aj,ae,bG,ans];rw[pb (d:=(Fp r).2) h1.1.1];simp only[ae,bG,uH];rw[ba (aF _),eW au au,N.nV au,cJ];rfl
 ·right;intro R kn kx;have e1:(m - (k:Int)).toNat=0:=au;rw[IC,bh h,al];simp only[yK,D5,e1,HD,iU,bP,cX]
theorem ahI:Ra:=by
 refine Nv (λ(n,m1,m,i,u,L,L2,v,r,l,os)=>(m - i).toNat) ?_
 rintro⟨n,m1,m,i,u,L,L2,v,r,l,os⟩ ⟨hr,hm,k,rfl,hk,rfl,adz⟩;have hr:sV r:=hr;have hm:m<=64:=hm;have adz:os.length=k:=adz;by_cases h:(k:Int) < m
 ·have e1:(m - (k:Int)).toNat=(m - ((k+1:Nat):Int)).toNat+1:=au;have h1:=qQ hr;have h2:=aay h1.1.1;have step:∀ {R:Type} (kn:AS->Option R) (kx:Exit->AS->Option R),Ki (n,m1,m,(k:Int),u,L,os.length,v,r,l,os) kn kx=aS (!(Ep (EK (dI r).2).1).2) (kx (qd (0,())).1 (qd (0,())).2) (kn (pn (n,m1,m,((k+1:Nat):Int),u,L,os.length+1,v,(U1 r).2,l,os++ [(U1 r).1]))):=by intro R kn kx;rw[IE,bm h,pb (d:=r) hr.1];simp only[aj,ae,bG,uH];rw[akJ (d:=(dI r).2) h1.1.1.1];simp only[ae,bG,VP];rw[ap3 (d:=(EK (dI r).2).1) ⟨h2.2.1,h2.2.2⟩];simp only[ae,bG,abN];rw[ba (aF _),eW au au,N.nV au,cJ];rfl
  cases hp:(Ep (EK (dI r).2).1).2
  ·right;refine⟨qd (0,()),?_,λkn kx=> ?_⟩
   ·simp only[lE,pj,e1,En,hp,bR,cF];rfl
   ·rw[step,hp];rfl
  ·left;refine⟨(n,m1,m,((k+1:Nat):Int),u,L,os.length+1,v,(U1 r).2,l,os++ [(U1 r).1]),⟨h2.1.1,hm,k+1,rfl,au,by rw[ak];rfl,by rw[ak];show os.length+1=_;omega⟩,by show(m - ((k+1:Nat):Int)).toNat < (m - (k:Int)).toNat;omega,?_,λkn kx=> ?_⟩
   ·simp only[lE,pj,e1,En,hp,cY];cases En (m - ((k+1:Nat):Int)).toNat (U1 r).2 with
    |none=>rfl
    |some x=>
     simp only[aH,aO,dQ];rw[show ∀a c:Nat,a+1+c=a+(c+1) from λa c=>au]
   ·rw[step,hp];rfl
 ·right;have e1:(m - (k:Int)).toNat=0:=au;refine⟨yM ((n,m1,u,L,v,l),(os.length,r,os)),?_,λkn kx=> ?_⟩
  ·simp only[lE,pj,e1,En,bB,cX,bP];rfl
  ·rw[IE,bh h,al]
theorem ahK:(lS.mM 3 tY):=by
 refine(lS.qG 3 tY) (λ(n,m1,mo,io,m,i,u,L,L2,v,r,la,op,br,Ls,sc,lb,os,sg)=>(m - i).toNat) ?_
 rintro⟨n,m1,mo,io,m,i,u,L,L2,v,r,la,op,br,Ls,sc,lb,os,sg⟩ ⟨hr,hm,k,rfl,hk,rfl,adz⟩;have hr:sV r:=hr;have hm:m<=12:=hm;have adz:sg.length=k:=adz;by_cases h:(k:Int) < m
 ·left;have e1:(m - (k:Int)).toNat=(m - ((k+1:Nat):Int)).toNat+1:=au;have h1:=Hu hr;have h2:=Hu h1.1;refine⟨(n,m1,mo,io,m,((k+1:Nat):Int),u,L,L2,v,(aCU r).2,la,op,br,sg.length+1,sc,lb,os,sg++ [(aCU r).1]),⟨h2.1,hm,k+1,rfl,au,by rw[ak];rfl,by rw[ak];show sg.length+1=_;omega⟩,by show(m - ((k+1:Nat):Int)).toNat < (m - (k:Int)).toNat;omega,?_,λkn kx=> ?_⟩
  ·simp only[yP,D8,e1,DY,aO,dQ]
  ·rw[IH,bm h,ba au,Gg (d:=r) hr.1];simp only[aj,ae,bG,O8];rw[Gg (d:=(qJ r).2) h1.1.1];simp only[ae,bG,O8];rw[ba (aF _),eW au au,N.nV au,cJ];rfl
 ·right;intro R kn kx;have e1:(m - (k:Int)).toNat=0:=au;rw[IH,bh h,al];simp only[yP,D8,e1,DY,bP,bg,aF,kf,cV,aj,fA]
theorem ahJ:Rc:=by
 refine Nw (λ(n,m1,m,i,u,L,L2,v,r,l,os)=>l.length - i.toNat) ?_
 rintro⟨n,m1,m,i,u,L,L2,v,r,l,os⟩ ⟨hr,hl,k,rfl,hk,rfl,rfl,hg⟩;have hr:sV r:=hr;have hl:l.length<=64:=hl;have hk:k<=l.length:=hk;by_cases h:k < l.length
 ·have n1:nth qI l k=l[k]:=da (t:=qI) h;have hd:l.drop k=l[k]::l.drop (k+1):=aC h;have dj:l[k]=ayT l[k].1:=hg _ (by rw[hd];exact aK);obtain⟨op,aGN⟩:∃op,l[k].1=op:=⟨_,rfl⟩;rw[aGN]at dj;have h1:=qQ hr;have h2:=anI h1.1.1 12;have h3:=anH h1.1.1.1 (m:=12) eZ;have hw:=anK hr;have hu:=Hu hw.1;have NG:(l.take k).length=k:=by rw[cT];omega
  have step:∀ {R:Type} (kn:AS->Option R) (kx:Exit->AS->Option R),Kk (n,m1,(l.length:Int),(k:Int),u,l.length,L2,v,r,l,os) kn kx=aS (gY (Kt 12 (dI r).2).1 0) (kx (qe (0,())).1 (qe (0,())).2) (kn (pq (n,m1,(l.length:Int),((k+1:Nat):Int),u,l.length,L2,v,(qJ (uN r).2).2,l.take k++(op,((dI r).1,ao (uN r).1,(qJ (uN r).2).1,()),())::l.drop (k+1),os))):=by
   intro R kn kx;rw[IG,bm au,bz au au,pb (d:=r) hr.1];have ns:∀y:Bb,nth qI (l.set k y) k=y:=λy=>aAP (t:=qI) h
   have nm:∀(y:Bb) (b:List Bb),nth qI (l.take k++y::b) k=y:=λy b=>aAO (t:=qI) NG
   simp only[aj,ae,bG,uH,aa,bg,cX,n1,dj,ba h,cV];rw[Pe (d:=(12,(dI r).2)) h1.1.1.1];simp only[aj,ae,bG,NA];refine bD (λz=>aS _ _ z) ?_
   simp only[List.length_set,ba h,aj,ayT,ns,arU,ao8,Option.isNone_none];rw[ac7 (d:=(n,m1,(l.length:Int),(k:Int),(Kt 12 (dI r).2).1,0,u,l.length,L2,v,(Kt 12 (dI r).2).2,l.take k,op,(dI r).1,0,(0,()),l.drop (k+1),os,[])) ⟨h2,h3.2,0,rfl,eZ,rfl,rfl⟩];simp only[ae,yP,D8,px,aY];rw[show DY (Kt 12 (dI r).2).1.toNat (Kt 12 (dI r).2).2=uN r from rfl,Gg (d:=(uN r).2) hw.1.1];simp only[ae,bG,O8,aa,nm,aBz NG,ba (show k < (l.take k++(op,((dI r).1,ao (uN r).1,0,()),())::l.drop (k+1)).length by rw[ak,aH];omega),fF,Nat.reduceAdd,cV,aj];rw[N.nV au]
  by_cases hp:(Kt 12 (dI r).2).1 < 0
  ·right;refine⟨qe (0,()),?_,λkn kx=> ?_⟩
   ·simp only[lF,po,aa,hd,cr,EG,alz,if_pos hp];rfl
   ·rw[step,bm hp,aj]
  ·left;have ajo:(l.take k++(op,((dI r).1,ao (uN r).1,(qJ (uN r).2).1,()),())::l.drop (k+1)).length=l.length:=by rw[ak,aH,dx];omega
   have aHQ:(l.take k++(op,((dI r).1,ao (uN r).1,(qJ (uN r).2).1,()),())::l.drop (k+1)).drop (k+1)=l.drop (k+1):=by rw[List.append_cons,kI (by rw[ak];show(l.take k).length+1=_;omega)]
   have aJl:(l.take k++(op,((dI r).1,ao (uN r).1,(qJ (uN r).2).1,()),())::l.drop (k+1)).take (k+1)=l.take k++ [(op,((dI r).1,ao (uN r).1,(qJ (uN r).2).1,()),())]:=by rw[List.append_cons,kJ (by rw[ak];show(l.take k).length+1=_;omega)]
   refine⟨(n,m1,(l.length:Int),((k+1:Nat):Int),u,l.length,L2,v,(qJ (uN r).2).2,l.take k++(op,((dI r).1,ao (uN r).1,(qJ (uN r).2).1,()),())::l.drop (k+1),os),⟨hu.1,by rw[ajo];exact hl,k+1,rfl,by rw[ajo];omega,by rw[ajo],by rw[ajo],by rw[aHQ];exact λx hx=>hg x (by rw[hd];exact aL _ hx)⟩,by simp only[aa,ajo];omega,?_,λkn kx=> ?_⟩
   ·simp only[lF,po,aa,aHQ,aJl,hd,cr,EG,alz,if_neg hp,aGN];cases EG ((l.drop (k+1)).map (·.1)) (qJ (uN r).2).2 with
    |none=>rfl
    |some x=>
     simp only[cr,aO,dQ];rfl
   ·rw[step,bh hp,al]
 ·right;obtain rfl:k=l.length:=au;refine⟨yO (n,m1,u,l.length,L2,v,r,l,os),?_,λkn kx=> ?_⟩
  ·simp only[lF,po,aa,aU,iU,EG,cJ,bP];rfl
  ·rw[IG,bh au,al]
theorem aAC(l:List cw):(l.map ayT).map (·.1)=l:=by rw[List.map_map];have:((λx:Bb=>x.1)∘ayT)=id:=rfl;rw[this,List.map_id]
theorem ayh:lS.Ok:=by
 rintro b ⟨hb,hl⟩;have hb:Bytes b:=hb;have hl:b.length<=1000000000:=hl;have k0:=aBo hb hl;have k1:=anI k0 64;have u1:=anH k0.1 (m:=64) eZ;rw[ayg,ZQ (d:=b) hl];simp only[ae,bG,acJ,bG,ac1,acG];rw[Pe (d:=(64,(b,aR,()))) k0.1];simp only[ae,bG,NA];generalize Kt 64 (b,aR,())=n at*;have o2:=amX n.1.toNat k1;rw[ac3 (d:=(n.1,n.1,0,(0,()),0,(0,()),n.2,[])) ⟨k1,u1.2,0,rfl,eZ,rfl,rfl⟩];simp only[ae,yK,D5,px,aY,bg];generalize HD n.1.toNat n.2=ops at*;have k3:=anI o2.1.1 64;have u3:=anH o2.1.1.1 (m:=64) eZ;rw[Pe (d:=(64,ops.2)) o2.1.1.1];simp only[ae,bG,NA];generalize Kt 64 ops.2=m at*;rw[ac4 (d:=(n.1,m.1,m.1,0,(0,()),n.1.toNat,0,(0,()),m.2,ops.1.map ayT,[])) ⟨k3,u3.2,0,rfl,eZ,rfl,rfl⟩];simp only[ae,lE,pj,px,aY,bg];cases hx:En m.1.toNat m.2 with
 |none=>rfl
 |some x=>
  have o4:=ags _ k3 hx;have o5:=qQ o4.1.1;have ol:(ops.1.map ayT).length=n.1.toNat:=by rw[cH];exact o2.2.1
  simp only[dS,dg,al,ae];rw[pb (d:=x.2) o4.1.1.1];simp only[ae,bG,uH];rw[ac5 (d:=(n.1,m.1,(n.1.toNat:Int),0,(0,()),n.1.toNat,x.1.length,((dI x.2).1,()),(dI x.2).2,ops.1.map ayT,x.1)) ⟨o5.1.1,by rw[ol];omega,0,rfl,aN _,by rw[ol],by rw[ol],λz hz=>by
   rw[aQ]at hz;obtain⟨o,_,rfl⟩:=dO.1 hz;rfl⟩]
  simp only[ae,lF,po,bo,aQ,fg,aY,aAC,avY];cases hy:EG ops.1 (dI x.2).2 with
  |none=>rfl
  |some y=>
   have o6:=ahZ _ o5.1.1 hy;have yl:y.1.length=n.1.toNat:=by rw[<-o2.2.1,<-o6.2.1,cH]
   have yl2:(y.1.map aH7).length=n.1.toNat:=by rw[cH];exact yl
   simp only[dS,dg,al,ae,auq];by_cases c1:n.1 < 0
   ·rw[bm c1,aj,if_pos (lG c1)];rfl
   rw[bh c1,al];by_cases c2:m.1 < 0
   ·rw[bm c2,aj,if_pos (fm (lG c2))];rfl
   rw[bh c2,al,axG (d:=y.2) trivial];simp only[ae,ag4,axE,Bool.not_not];cases c3:y.2.2.1
   ·rw[al,aro (d:=y.2) trivial];simp only[ae,ZN,ant];by_cases c4:0 < y.2.1.length
    ·rw[dT au,aj,if_pos (fm (fm (fm (lG c4))))];rfl
    ·rw[du au,al,ba ⟨by trivial,au⟩,ba ⟨by trivial,au⟩,fA yl2,fA rfl,aDx,aE7];simp only[aj];rw[nq (d:=(y.1,x.1,(dI x.2).1,())) ⟨λo ho=>(o4.2.2 o ho).2.2,by show y.1.length<=_;omega,by show x.1.length<=_;have:=o4.2.1;omega⟩];simp only[ae,bG,pt];cases c5:iF (y.1,x.1,(dI x.2).1,())
     ·rw[if_pos (fm (fm (fm (fm (by trivial)))))];rfl
     ·rw[if_neg (by
       rintro(z | z | z | z | z)
       ·exact c1 z
       ·exact c2 z
       ·cases z
       ·exact c4 z
       ·cases z)]
      rfl
   ·rw[aj,if_pos (fm (fm (lG (by trivial))))];rfl
theorem ar5:lS.RS:=rE [.d tB] lS
def ayi:=lS.gf ayh 4 ⟨.gA ahH,⟨.gA ahI,⟨.gA ahJ,⟨.gA ahK,trivial⟩⟩⟩⟩
theorem axX{t:dM}(h:pf t=aT):t.1.length<=66/\t.2.1.length<=66/\(∀x∈t.1,x.2.1.2.1.length<=14)/\∀o∈t.2.1,o.2.1.1.length<=6/\∀b∈o.2.1.1,b.1.length<=14:=by
 unfold pf at h;simp only[av,aW,cS]at h;refine⟨h.1.1,h.1.2,λx hx=> ?_,λo ho=> ?_⟩
 ·have:=h.2.1 x hx;unfold vA at this;simpa using this
 ·have:=h.2.2 o ho;unfold qH at this;simp only[av,aW,cS]at this;refine⟨this.1,λb hb=> ?_⟩;have:=this.2 b hb;unfold vz at this;simpa using this
theorem C5{α:Type}{f:α->List Int}{l:List α}(h:∀x∈l,Bytes (f x)):Bytes (l.flatMap f):=λb hb=>by obtain⟨x,hx,hb⟩:=iL.1 hb;exact h x hx b hb
theorem Fy{α:Type}{f:α->List Int}{n:Nat}:∀ {l:List α},(∀x∈l,(f x).length<=n)->(l.flatMap f).length<=n*l.length
 |[],_=>aN _
 |x::l,h=>by
  rw[dq,ak,aH,Nat.mul_add,jG];have h1:=h x aK;have h2:=Fy (l:=l) λy hy=>h y (aL _ hy)
  omega
theorem ase{t:dM}(hv:wX t):Bytes (aBP t)/\(aBP t).length<=1000000:=by
 cases iO:iF t
 ·unfold aBP;rw[iO];exact⟨λx hx=>(by cases hx),aN _⟩
 obtain⟨⟨a1,a2,a3,a4⟩,b1,b2⟩:=jg iO;have afr:∀x∈t.1,_:=λx hx=>Du (oR _ _ b1 x hx)
 rw[ayt iO];have n0:∀ {n:Nat},n<=1000->EH (n:Int):=λh=>tz au
 have e1:∀x∈t.1,Bytes (aj8 x.1)/\(aj8 x.1).length<=43:=λx hx=>by have hi:=afr x hx;have hr:=nE x.1.2.1;have hs:=(hv.2.1 x hx).1;exact⟨gb hs.2 (kO ⟨hi.1,au⟩),by unfold aj8;rw[ak,hs.1];omega⟩
 have e2:∀o∈t.2.1,Bytes (Cw o)/\(Cw o).length<=1022:=λo ho=>by have hi:=(nc _ _ b2 o ho).1;have hr:=nE o.1;have aft:=nE (OA o.2.1).length;have hl:=L4 o.2.1;exact⟨gb (kO ⟨hi.1,au⟩) (gb (kO (n0 hl)) (apV _)),by unfold Cw;rw[ak,ak];omega⟩
 have e3:∀x∈t.1,Bytes (B4 x.2.1)/\(B4 x.2.1).length<=300:=λx hx=>by
  have hi:=afr x hx;have hr:=nE x.2.1.1;have aft:=nE x.2.1.2.1.length;have hf:=Fy (f:=asw) (n:=16) (l:=x.2.1.2.1) λs _=>by unfold asw;rw[ak,dA,dA];omega
  refine⟨gb (kO ⟨hi.2.2.1,au⟩) (gb (kO (n0 au)) (gb (C5 λs _=>gb (Ce _) (Ce _)) (Ce _))),?_⟩;unfold B4;simp only[ak,dA];omega
 have f1:=Fy (f:=λx:j9=>aj8 x.1) (n:=43) (l:=t.1) λx hx=>(e1 x hx).2
 have f2:=Fy (f:=Cw) (n:=1022) (l:=t.2.1) λx hx=>(e2 x hx).2
 have f3:=Fy (f:=λx:j9=>B4 x.2.1) (n:=300) (l:=t.1) λx hx=>(e3 x hx).2
 have r1:=nE t.1.length;have r2:=nE t.2.1.length;have r3:=nE t.2.2.1;refine⟨gb (kO (n0 au)) (gb (C5 λx hx=>(e1 x hx).1) (gb (kO (n0 au)) (gb (C5 λx hx=>(e2 x hx).1) (gb (kO ⟨a4,hv.2.2⟩) (C5 λx hx=>(e3 x hx).1))))),?_⟩;unfold aIf;simp only[ak];omega
section
section
variable {β:Type} {kt:Ty}
theorem R3(hc:kt.comp=aT)(o o':kt.den)(v:β):∀l:List (kt.den×β),cd kt o (e7 kt o' v l)=if kt.beq o o'=aT then ao v else cd kt o l
 |[]=>by rw[OE,eR,uz]
 |p::l=>by
  rw[zD];by_cases h:kt.beq o' p.1=aT
  ·rw[if_pos h,eR,eR];have e:=beq_eq kt _ _ hc h;by_cases h2:kt.beq o o'=aT
   ·rw[if_pos h2,if_pos h2]
   ·rw[if_neg h2,if_neg h2,if_neg (by rw[<-e];exact h2)]
  ·rw[if_neg h,eR,eR,R3 hc o o' v l];by_cases h3:kt.beq o p.1=aT
   ·rw[if_pos h3,if_pos h3,if_neg];intro h4;apply h;rw[<-beq_eq kt _ _ hc h4];exact h3
   ·rw[if_neg h3,if_neg h3]
theorem amp(hc:kt.comp=aT)(o o':kt.den):∀ {l:List (kt.den×β)},(l.map (·.1)).Nodup->cd kt o (kg kt o' l)=if kt.beq o o'=aT then aJ else cd kt o l
 |[],_=>by rw[aqd,uz];split <;> rfl
 |p::l,hn=>by
  rw[cr,dm]at hn;rw[JP];by_cases h:kt.beq o' p.1=aT
  ·rw[if_pos h,eR];have e:=beq_eq kt _ _ hc h;by_cases h2:kt.beq o o'=aT
   ·rw[if_pos h2];have e2:=beq_eq kt _ _ hc h2;cases hg:cd kt o l with
    |none=>rfl
    |some v=>exact absurd (dO.2 ⟨_,(mh hc hn.2).1 hg,rfl⟩) (by rw[e2,e];exact hn.1)
   ·rw[if_neg h2,if_neg (by rw[<-e];exact h2)]
  ·rw[if_neg h,eR,eR,amp hc o o' hn.2];by_cases h3:kt.beq o p.1=aT
   ·rw[if_pos h3,if_pos h3,if_neg];intro h4;apply h;rw[<-beq_eq kt _ _ hc h4];exact h3
   ·rw[if_neg h3,if_neg h3]
theorem get_none(hc:kt.comp=aT){o:kt.den}{l:List (kt.den×β)}(hn:(l.map (·.1)).Nodup):cd kt o l=aJ↔o ∉ l.map (·.1):=by
 constructor
 ·intro h hm;obtain⟨p,hp,e⟩:=dO.1 hm;have e:p.1=o:=e;have:=(mh hc hn (x:=o) (v:=p.2)).2 (by rw[<-e];exact hp);rw[h]at this;cases this
 ·intro h;cases hg:cd kt o l with
  |none=>rfl
  |some v=>exact absurd (dO.2 ⟨_,(mh hc hn).1 hg,rfl⟩) h
theorem Ic{l:List (kt.den×β)}(hn:(l.map (·.1)).Nodup):l.Nodup:=by
 induction l with
 |nil=>exact gV
 |cons p l ih=>
  rw[cr,dm]at hn;exact dm.2 ⟨λh=>hn.1 (dO.2 ⟨p,h,rfl⟩),ih hn.2⟩
theorem agA(hc:kt.comp=aT){l l':List (kt.den×β)}(hn:(l.map (·.1)).Nodup)(hn':(l'.map (·.1)).Nodup)(h:∀o,cd kt o l=cd kt o l'):l.Perm l':=by rw[List.perm_ext_iff_of_nodup (Ic hn) (Ic hn')];rintro⟨o,v⟩;rw[<-mh hc hn,<-mh hc hn',h]
end
theorem NS(a b:cw):(Ty.beq bM a b=aT)↔a=b:=⟨beq_eq bM a b rfl,λh=>by rw[h];exact beq_refl bM b rfl⟩
abbrev At:=List (cw×eS)
abbrev eC(a:At):List cw:=a.map (·.1)
theorem apu(o o':cw)(v:eS)(a:At):cd bM o (e7 bM o' v a)=if o=o' then ao v else cd bM o a:=by
 rw[R3 jx];by_cases h:o=o'
 ·rw[if_pos ((NS _ _).2 h),if_pos h]
 ·rw[if_neg (λe=>h ((NS _ _).1 e)),if_neg h]
theorem afj(o o':cw){a:At}(hn:(eC a).Nodup):cd bM o (kg bM o' a)=if o=o' then aJ else cd bM o a:=by
 rw[amp jx _ _ hn];by_cases h:o=o'
 ·rw[if_pos ((NS _ _).2 h),if_pos h]
 ·rw[if_neg (λe=>h ((NS _ _).1 e)),if_neg h]
theorem JB{o:cw}{v:eS}{a:At}(hn:(eC a).Nodup):(eC (e7 bM o v a)).Nodup:=Qt jx hn
theorem oM{o:cw}{a:At}(hn:(eC a).Nodup):(eC (kg bM o a)).Nodup:=FG jx hn
theorem aCi{a a':At}(hn:(eC a).Nodup)(hn':(eC a').Nodup)(h:∀o,cd bM o a=cd bM o a'):a.Perm a':=agA jx hn hn' h
theorem awL{a a':At}(hn:(eC a).Nodup)(h:a'.Perm a)(o:cw):cd bM o a'=cd bM o a:=Uy jx hn h
theorem alo{o:cw}{c:eS}{a:At}(hn:(eC a).Nodup)(hg:cd bM o a=ao c):a.Perm ((o,c)::kg bM o a):=by
 refine aCi hn ?_ λx=> ?_
 ·show(o::eC (kg bM o a)).Nodup;refine dm.2 ⟨?_,oM hn⟩;have:=(get_none jx (oM (o:=o) hn)).1 (by rw[afj o o hn,if_pos rfl]);exact this
 ·rw[eR,afj x o hn];by_cases h:x=o
  ·subst h;rw[if_pos ((NS _ _).2 rfl),hg]
  ·rw[if_neg (λe=>h ((NS _ _).1 e)),if_neg h]
theorem N8(o:cw)(l:List cw)(a:At):Bj (o::l) a=Bj l (kg bM o a):=rfl
theorem Dj:∀(l:List cw) {a:At},(eC a).Nodup->(eC (Bj l a)).Nodup
 |[],_,h=>h
 |o::l,a,h=>by rw[N8];exact Dj l (oM h)
theorem P1(x:cw):∀(l:List cw) {a:At},(eC a).Nodup->cd bM x (Bj l a)=if x∈l then aJ else cd bM x a
 |[],a,_=>by rw[if_neg (by simp)];rfl
 |o::l,a,h=>by
  rw[N8,P1 x l (oM h),afj x o h];by_cases h1:x∈l
  ·rw[if_pos h1,if_pos (aL _ h1)]
  ·rw[if_neg h1];by_cases h2:x=o
   ·rw[if_pos h2,if_pos (by rw[h2];exact aK ..)]
   ·rw[if_neg h2,if_neg (by simp[h1,h2])]
theorem yT(h:Int)(o:cw)(l:List cw)(x:lT)(xs:List lT)(a:At):IV h (o::l) (x::xs) a=IV h l xs (e7 bM o (x,(h,())) a):=rfl
theorem Sv(h:Int):∀(l:List cw) (xs:List lT) {a:At},(eC a).Nodup->(eC (IV h l xs a)).Nodup
 |[],[],_,hn=>hn
 |[],_::_,_,hn=>hn
 |_::_,[],_,hn=>hn
 |o::l,x::xs,a,hn=>by rw[yT];exact Sv h l xs (JB hn)
theorem afg(h:Int)(x:cw):∀(l:List cw) (xs:List lT) (a:At),x ∉ l->cd bM x (IV h l xs a)=cd bM x a
 |[],[],_,_=>rfl
 |[],_::_,_,_=>rfl
 |_::_,[],_,_=>rfl
 |o::l,y::xs,a,hx=>by rw[yT,afg h x l xs _ (λe=>hx (aL _ e)),apu,if_neg (λe=>hx (by rw[e];exact aK ..))]
theorem afh(h:Int):∀(l:List cw) (xs:List lT) (a:At),l.Nodup->∀(k:Nat) (hk:k < l.length) (amu:k < xs.length),cd bM l[k] (IV h l xs a)=ao (xs[k],(h,()))
 |[],_,_,_,k,hk,_=>by simp at hk
 |_::_,[],_,_,k,_,hk=>by simp at hk
 |o::l,y::xs,a,hn,k,hk,amu=>by
  rw[dm]at hn;rw[yT];cases k with
  |zero=>
   show cd bM o _=ao (y,(h,()));rw[afg h o l xs _ hn.1,apu,if_pos rfl]
  |succ k=>
   simp only[List.getElem_cons_succ];exact afh h l xs _ hn.2 k (by simpa using hk) (by simpa using amu)
def wP(a:At)(l:List cw):Int:=(l.map λo=>((cd bM o a).getD ayG).1.1).sum
theorem aeZ:∀(l:List cw) {a:At},(eC a).Nodup->l.Nodup->(∀o∈l,(cd bM o a).isSome=aT)->ji (Bj l a)=ji a - wP a l/\(Bj l a).length+l.length=a.length
 |[],a,_,_,_=>by simp[Bj,wP]
 |o::l,a,hn,hl,ht=>by
  rw[dm]at hl;obtain⟨c,hc⟩:=bA.1 (ht o (aK ..));have hg:∀x∈l,cd bM x (kg bM o a)=cd bM x a:=λx hx=>by rw[afj x o hn,if_neg (λe=>hl.1 (by rw[<-e];exact hx))]
  obtain⟨h1,h2⟩:=aeZ l (oM (o:=o) hn) hl.2 λx hx=>by rw[hg x hx];exact ht x (aL _ hx)
  have hp:=alo hn hc;have h3:=B8 hp;have h4:=hp.length_eq;have h5:wP (kg bM o a) l=wP a l:=by unfold wP;congr 1;exact hZ λx hx=>by rw[hg x hx]
  rw[ma]at h3;rw[aH]at h4;rw[N8,h1,h5,aH];have h6:wP a (o::l)=c.1.1+wP a l:=by simp[wP,hc]
  rw[h6];exact⟨by have h3:ji a=c.1.1+ji (kg bM o a):=h3;omega,au⟩
theorem FK(x:lT)(xs:List lT):lJ (x::xs)=x.1+lJ xs:=by simp[lJ]
theorem adI(h:Int):∀(l:List cw) (xs:List lT) {a:At},(eC a).Nodup->l.Nodup->l.length=xs.length->(∀o∈l,cd bM o a=aJ)->ji (IV h l xs a)=ji a+lJ xs/\(IV h l xs a).length=a.length+l.length
 |[],[],a,_,_,_,_=>by simp[IV,lJ]
 |[],_::_,_,_,_,he,_=>by simp at he
 |_::_,[],_,_,_,he,_=>by simp at he
 |o::l,x::xs,a,hn,hl,he,ht=>by
  rw[dm]at hl;have h0:=(get_none jx hn).1 (ht o (aK ..));have e:e7 bM o (x,(h,())) a=a++ [(o,(x,(h,())))]:=AM jx h0;obtain⟨h1,h2⟩:=adI h l xs (JB (o:=o) (v:=(x,(h,()))) hn) hl.2 (by simpa using he) λy hy=>by rw[apu,if_neg (λe=>hl.1 (by rw[<-e];exact hy))];exact ht y (aL _ hy)
  rw[yT,h1,h2,e,adM,FK,ak];simp only[ji,cr,iU,List.sum_cons,List.sum_nil,aH,bB];omega
theorem T5:∀(l:List j9) (m:List (cw×Bool)),EN m l=aT->(l.map (·.1)).Nodup/\∀x∈l,cd bM x.1 m≠ao aT
 |[],_,_=>⟨gV,λ_ h=>by cases h⟩
 |x::l,m,h=>by
  rw[EN,av,av]at h;obtain⟨⟨h1,_⟩,h2⟩:=h;obtain⟨h3,h4⟩:=T5 l _ h2;have hs:∀y∈l,cd bM y.1 (e7 bM x.1 aT m)≠ao aT:=h4;have gj:∀y∈l,y.1≠x.1:=λy hy e=>hs y hy (by rw[R3 jx,if_pos ((NS _ _).2 e)])
  refine⟨?_,λy hy=> ?_⟩
  ·rw[cr,dm];refine⟨λhm=> ?_,h3⟩;obtain⟨y,hy,e⟩:=dO.1 hm;exact gj y hy e
  ·rcases cj.1 hy with rfl | hy
   ·intro e;unfold P3 at h1;rw[e]at h1;cases h1
   ·have:=hs y hy;rw[R3 jx,if_neg (λe=>gj y hy ((NS _ _).1 e))]at this;exact this
theorem Ni(t:dM):(dK t).Nodup:=by
 unfold dK;split
 ·rename_i h;exact(T5 _ _ (jg h).2.1).1
 ·exact gV
theorem Up(t:dM):(fT t).Nodup:=by
 unfold fT;split
 ·unfold Cs;refine List.Pairwise.map _ (λa b gj e=> ?_) (List.nodup_range' (s:=0) (n:=t.2.1.length) (step:=1));have:(a:Int)=b:=bD (λo:cw=>o.2.1) e;exact gj au
 ·exact gV
theorem T3{h:Int}{id:List Int}{a:At}:∀(l:List j9) (f0 f:Int),uf h id a l f0= .inr f->(∀o∈l.map (·.1),(cd bM o a).isSome=aT)/\f=f0+wP a (l.map (·.1))
 |[],f0,f,e=>by simp only[uf,Sum.inr.injEq]at e;subst e;simp[wP]
 |x::l,f0,f,e=>by
  simp only[uf]at e;cases hg:cd bM x.1 a with
  |none=>rw[hg]at e;cases e
  |some c=>
   rw[hg]at e;simp only at e;split at e
   ·cases e
   ·obtain⟨h1,h2⟩:=T3 l _ _ e;refine⟨λo ho=> ?_,?_⟩
    ·rw[cr]at ho;rcases cj.1 ho with rfl | ho
     ·rw[hg];rfl
     ·exact h1 o ho
    ·rw[h2];simp only[wP,cr,List.sum_cons,hg,dz];omega
structure rn(t:dM)(h:Int)(a:At)(jI:Int):Prop where
 ok:iF t=aT
 h1:1<=h
 h2:h<=1048576
 ins:∃f,uf h (sP t) a t.1 0= .inr f/\jI=f - lJ t.2.1
 there:∀o∈dK t,(cd bM o a).isSome=aT
 made:∀o∈fT t,cd bM o a=aJ
 aFY:jI=wP a (dK t) - lJ t.2.1
 pos:0<=jI
theorem C7{t:dM}{h:Int}{a:At}(e:(dJ t h a).2=0):rn t h a (dJ t h a).1:=by
 obtain⟨iO,h1,h2,f,hi,hm,hp,hc⟩:=G2 e;obtain⟨i1,i2⟩:=T3 _ _ _ hi;have hs:dK t=t.1.map (·.1):=by unfold dK;rw[if_pos iO]
 rw[hc];refine⟨iO,h1,h2,⟨f,hi,rfl⟩,by rw[hs];exact i1,λo ho=> ?_,by rw[hs,i2];show 0+_ - _=_;omega,hp⟩;have:=jl.1 hm o ho;unfold pM at this;cases hg:cd bM o a with
 |none=>rfl
 |some c=>rw[hg]at this;simp at this
section
variable {t:dM} {h jI:Int} {a:At}
theorem rn.axY(hc:rn t h a jI)(ha:(eC a).Nodup){o:cw}(ho:o∈dK t):cd bM o (cm t h a)=aJ:=by
 have hm:o ∉ fT t:=λe=>by have:=hc.there o ho;rw[hc.made o e]at this;cases this
 unfold cm;rw[afg h o _ _ _ hm,P1 o _ ha,if_pos ho]
theorem rn.new(hc:rn t h a jI){k:Nat}(hk:k < (fT t).length)(amu:k < t.2.1.length):cd bM (fT t)[k] (cm t h a)=ao (t.2.1[k],(h,())):=by unfold cm;exact afh h _ _ _ (Up t) k hk amu
theorem xc(ha:(eC a).Nodup){o:cw}(h1:o ∉ dK t)(h2:o ∉ fT t):cd bM o (cm t h a)=cd bM o a:=by unfold cm;rw[afg h o _ _ _ h2,P1 o _ ha,if_neg h1]
theorem fy(ha:(eC a).Nodup):(eC (cm t h a)).Nodup:=Sv h _ _ (Dj _ ha)
theorem rn.sum(hc:rn t h a jI)(ha:(eC a).Nodup):ji (cm t h a)=ji a - jI/\(cm t h a).length+t.1.length=a.length+t.2.1.length:=by
 obtain⟨d1,d2⟩:=aeZ (dK t) ha (Ni t) hc.there;obtain⟨e1,e2⟩:=adI h (fT t) t.2.1 (Dj (dK t) ha) (Up t) (uv hc.ok) λo ho=>by
  rw[P1 o _ ha];split
  ·rfl
  ·exact hc.made o ho
 have hf:=hc.aFY;have hl:=T4 hc.ok;have hm:=uv hc.ok;unfold cm;rw[e1,e2,d1];exact⟨au,au⟩
theorem rn.Cl(hc:rn t h a jI)(ha:aah a)(hv:wX t):aah (cm t h a):=by
 refine⟨fy ha.1,λp hp=> ?_⟩;have hg:=(mh jx (fy (t:=t) (h:=h) ha.1) (x:=p.1) (v:=p.2)).2 hp;by_cases h2:p.1∈fT t
 ·obtain⟨k,hk,e⟩:=List.getElem_of_mem h2;have amu:k < t.2.1.length:=by rw[<-uv hc.ok];exact hk
  rw[<-e,hc.new hk amu]at hg;have hg:=(aP hg).symm;have ho:=nc _ _ (jg hc.ok).2.2 _ (aV amu);have hu:=hv.1.1 _ (aV amu);have h1:=hc.h1;have h3:=hc.h2;refine⟨?_,?_⟩
  ·rw[<-e];have hm:fT t=Cs (sP t) 0 t.2.1.length:=by unfold fT;rw[if_pos hc.ok]
   simp only[hm,Cs,List.getElem_map];have:=(BY (t:=t));exact⟨this.1,λx hx=>this.2 x hx⟩
  ·rw[hg];exact⟨ho.2,hu.1,ho.1.1,ho.1.2,by show 0<=h;omega,h3⟩
 ·by_cases h1:p.1∈dK t
  ·rw[hc.axY ha.1 h1]at hg;cases hg
  ·rw[xc ha.1 h1 h2]at hg;exact ha.2 p ((mh jx ha.1).1 hg)
end
end
theorem alN(k:Int):ou (gw k):=(agW _ _).u
def mT:List Int:=[152,45,158,62,185,150,245,89,230,51,244,209,148,222,243,118,29,144,159,90,59,100,125,26,133,31,234,214,124,50,201,209]
theorem s3:mI 3 mT=(2066670005889522986,1913675330412042729,()):=by decide+kernel
theorem s5:mI 5 mT=(1601457595092860225,1871270319440231866,()):=by decide+kernel
theorem u0:ou 0:=⟨fI 0,eZ⟩
theorem ajE{x:Int}{l:List Int}(h:ou x)(hl:Ec l):Ec (x::l):=λp hp=>by
 rcases cj.1 hp with rfl | hp
 ·exact h
 ·exact hl p hp
theorem apO:Ec []:=λp hp=>by cases hp
theorem aJk:On 0=aT:=rfl
theorem azj(ks:List Int)(a d:Int)(h:ks.length<=12):EI (ks,a,d,0,())=(ks.all B5 && (On a && On d)):=by have e:EI (ks,a,d,0,())=(decide (ks.length<=12) && (ks.all B5 && (On a && (On d && aT)))):=rfl;rw[e,ba h,cD,Bool.and_true]
def awn(b:ud)(sg:List Sg)(s:Int)(m:List Int)(height age:Int):Int:=if height < b.2.1\/age < b.2.2.1 then 11 else if b.2.2.2.1≠0/\gw s≠b.2.2.2.1 then 23 else if sg.length≠b.1.length then 7 else if wU m b.1 sg then 0 else 7
theorem aAT{l:Lk}{i:Nat}{b:ud}(iO:nT l=aT)(hi:i < l.1.length)(hb:l.1[i]=b)(sg:List Sg)(s:Int)(m:List Int)(h a:Int):Cv l ((i:Int),sg,s,()) m h a=awn b sg s m h a:=by
 have n1:nth (.pair (.slice (.int .u64)) (.pair (.int .i64) (.pair (.int .i64) (.pair (.int .u64) .unit)))) l.1 i=l.1[i]:=da (t:=(.pair (.slice (.int .u64)) (.pair (.int .i64) (.pair (.int .i64) (.pair (.int .u64) .unit))))) hi;unfold Cv;rw[if_neg (by
  intro hh;rcases hh with hh | hh | hh
  ·rw[iO]at hh;cases hh
  ·have hh:(i:Int) < 0:=hh;omega
  ·have hh:(i:Int)>=l.1.length:=hh;omega)]
 show(if h < (nth (.pair (.slice (.int .u64)) (.pair (.int .i64) (.pair (.int .i64) (.pair (.int .u64) .unit)))) l.1 i).2.1\/a < (nth (.pair (.slice (.int .u64)) (.pair (.int .i64) (.pair (.int .i64) (.pair (.int .u64) .unit)))) l.1 i).2.2.1 then 11 else if(nth (.pair (.slice (.int .u64)) (.pair (.int .i64) (.pair (.int .i64) (.pair (.int .u64) .unit)))) l.1 i).2.2.2.1≠0/\gw s≠(nth (.pair (.slice (.int .u64)) (.pair (.int .i64) (.pair (.int .i64) (.pair (.int .u64) .unit)))) l.1 i).2.2.2.1 then 23 else if sg.length≠(nth (.pair (.slice (.int .u64)) (.pair (.int .i64) (.pair (.int .i64) (.pair (.int .u64) .unit)))) l.1 i).1.length then 7 else if wU m (nth (.pair (.slice (.int .u64)) (.pair (.int .i64) (.pair (.int .i64) (.pair (.int .u64) .unit)))) l.1 i).1 sg then 0 else 7)=_;rw[n1,hb];rfl
theorem W5(m:List Int):∀ks:List Int,(∀k∈ks,0 < k/\k < 2305843009213688669)->wU m (ks.map gw) (ks.map λk=>mI k m)=aT
 |[],_=>rfl
 |k::ks,h=>by have hk:=h k aK;show(ze (gw k) m 1 (mI k m) && wU m (ks.map gw) (ks.map λk=>mI k m))=aT;rw[aBB k m hk.1 hk.2,W5 m ks λx hx=>h x (aL _ hx)];rfl
theorem ab4(ks:List Int)(hk:∀k∈ks,0 < k/\k < 2305843009213688669)(af dl sc s:Int)(m:List Int)(h a:Int)(hs:sc=0\/gw s=sc):
  awn (ks.map gw,af,dl,sc,()) (ks.map λk=>mI k m) s m h a=if h < af\/a < dl then 11 else 0:=by
 have e:awn (ks.map gw,af,dl,sc,()) (ks.map λk=>mI k m) s m h a=if h < af\/a < dl then 11 else if sc≠0/\gw s≠sc then 23 else if(ks.map λk=>mI k m).length≠(ks.map gw).length then 7 else if wU m (ks.map gw) (ks.map λk=>mI k m) then 0 else 7:=rfl
 rw[e,W5 m ks hk,if_neg (c:=sc≠0/\gw s≠sc) (by rintro⟨h1,h2⟩;exact hs.elim h1 h2),if_neg (c:=(ks.map λk=>mI k m).length≠(ks.map gw).length) (by rw[cH,cH];exact λx=>x rfl)];rfl
theorem aHd{k:Int}(h:0 < k/\k < 2305843009213688669):∀x∈ [k],0 < x/\x < 2305843009213688669:=λx hx=>by rw[bw]at hx;subst hx;exact h
def z32:List Int:=ai 32 0
def aKY:Lk:=aIq [gw 7]
def aKb:At:=[Au 0 ((100:Int),(aKY,()))]
theorem b7:ou (gw 7):=alN 7
theorem ayv:ou 0:=⟨eZ,eZ⟩
theorem n14(m:List Int)(hm:¬m=z32):cd bM (m,((0:Int),())) aKb=aJ:=by unfold aKb Au;rw[eR,if_neg,uz];intro e;have:=(NS _ _).1 e;exact hm (bD (λo:cw=>o.1) this)
section
structure sN(m n:Nat)(a:At)(s:List cZ):Prop where
 Cl:aah a
 le:n<=s.length
 len:s.length<=m
 aHv:∀st∈s,anW st
 sum:ji a<=1125899906842624
 aHL:a.length<=256+64*m
theorem sN.mono{m m' n:Nat}{a:At}{s:List cZ}(h:sN m n a s)(hm:m<=m'):sN m' n a s:=⟨h.Cl,h.le,kV h.len hm,h.aHv,h.sum,by have:=h.aHL;omega⟩
theorem Sw{a:At}(h:∀p∈a,0<=p.2.1.1):0<=ji a:=by
 induction a with
 |nil=>exact fI 0
 |cons p a ih=>
  rw[ma];have:=h p aK;have:=ih λq hq=>h q (aL _ hq)
  omega
theorem aah.pos{a:At}(h:aah a):0<=ji a:=Sw λp hp=>(h.2 p hp).2.2.2.1
theorem Zt:∀(l:List lT) (sum:Int) (k:Nat) {a:At},0<=sum->sum<=1125899906842624->(∀o∈l,adE o)->Mm sum k l=ao a->
  a.length=l.length/\ji a=lJ l/\sum+lJ l<=1125899906842624/\(∀o∈l,0<=o.1)/\(∀p∈a,adu p.1/\aFi p.2/\(k:Int)<=p.1.2.1)/\(eC a).Nodup
 |[],sum,k,a,h0,h1,_,e=>by obtain rfl:=aP e;exact⟨rfl,rfl,by show sum+0<=_;omega,λo ho=>(by cases ho),λp hp=>(by cases hp),gV⟩
 |o::l,sum,k,a,h0,h1,hg,e=>by
  rw[Mm]at e;cases ho:zL sum o with
  |false=>rw[ho]at e;cases e
  |true=>
   rw[ho]at e;simp only at e;cases hr:Mm (sum+o.1) (k+1) l with
   |none=>rw[hr]at e;cases e
   |some r=>
    rw[hr]at e;obtain rfl:=aP e;have ho':=ho;unfold zL at ho';simp only[av,aW]at ho';obtain⟨k1,k2,k3⟩:=ho';obtain⟨i1,i2,i3,i4,i5,i6⟩:=Zt l (sum+o.1) (k+1) au au (λx hx=>hg x (aL _ hx)) hr;have hu:=hg o aK;refine⟨by rw[aH,aH,i1],?_,by rw[FK];omega,λx hx=> ?_,λp hp=> ?_,?_⟩
    ·rw[ma,FK,i2];rfl
    ·rcases cj.1 hx with rfl | hx
     ·exact k2
     ·exact i4 x hx
    ·rcases cj.1 hp with rfl | hp
     ·refine⟨⟨by show(ai 32 (0:Int)).length=32;rw[dE],λx hx=> ?_⟩,⟨k1,hu.1,k2,by show o.1<=_;omega,fI 0,by show(0:Int)<=_;decide⟩,by show(k:Int)<=k;omega⟩;have hx:x∈ai 32 (0:Int):=hx;obtain rfl:=(rq.1 hx).2;exact⟨eZ,eZ⟩
     ·have:=i5 p hp;exact⟨this.1,this.2.1,au⟩
    ·show((Au k o).1::eC r).Nodup;refine dm.2 ⟨λhm=> ?_,i6⟩;obtain⟨p,hp,he⟩:=dO.1 hm;have:=(i5 p hp).2.2;have he:p.1=(Au k o).1:=he;rw[he]at this;have this:((k+1:Nat):Int)<=(k:Int):=this;omega
theorem aqj{outs:List lT}{a:At}(hg:∀o∈outs,adE o)(e:abY outs=ao a):sN 0 0 a []/\ji a=lJ outs/\a.length=outs.length/\outs.length<=256/\(∀o∈outs,0<=o.1)/\lJ outs<=1125899906842624:=by
 unfold abY at e;by_cases hl:outs.length<=256
 ·rw[if_pos hl]at e;obtain⟨i1,i2,i3,i4,i5,i6⟩:=Zt outs 0 0 eZ eZ hg e;exact⟨⟨⟨i6,λp hp=>⟨(i5 p hp).1,(i5 p hp).2.1⟩⟩,aF _,aF _,λst nQ=>(by cases nQ),au,au⟩,i2,i1,hl,i4,au⟩
 ·rw[if_neg hl]at e;cases e
theorem aAN{outs:List lT}(hg:∀o∈outs,adE o):zo outs=ao (match abY outs with | none=> .inl () | some r=> .inr (r,[])):=by rw[YP (d:=outs) hg];simp only[Ch,G9];cases abY outs <;> rfl
theorem Y3:∀(l:List cw) (a:At),(wY a l).length=l.length
 |[],_=>rfl
 |o::l,a=>by rw[wY,aH,aH,Y3 l]
theorem ax4{t:dM}{h jI:Int}{a:At}(hc:rn t h a jI):anW (stepOf t a):=by have h1:=(jg hc.ok).1;have h2:=uv hc.ok;have h3:=T4 hc.ok;unfold anW stepOf;rw[Y3];exact⟨au,by show(fT t).length<=1000;omega⟩
section
variable {m n:Nat} {t:dM} {h:Int} {a:At} {s:List cZ}
theorem sN.app(hg:sN m n a s)(hc:rn t h a (dJ t h a).1)(hv:wX t):sN (m+1) (n+1) (cm t h a) (s.take n++ [stepOf t a]):=by
 have hl:=hg.le;have hm:=hg.len;have hs:=hc.sum hg.Cl.1;have hp:=hc.pos;have h1:=(jg hc.ok).1;have e:(s.take n).length=n:=by rw[cT];omega
 refine⟨hc.Cl hg.Cl hv,by rw[ak,e];exact aF _,by rw[ak,e];show n+1<=_;omega,λst nQ=> ?_,?_,?_⟩
 ·rcases bC.1 nQ with nQ | nQ
  ·exact hg.aHv st (oq nQ)
  ·rw[bw.1 nQ];exact ax4 hc
 ·have:=hg.sum;omega
 ·have:=hg.aHL;omega
theorem sN.apply(hg:sN m n a s)(hm:m<=1000)(hv:wX t):((dJ t h a).2≠0/\rF (t,h,n,a,s)=ao (.inl ((dJ t h a).2,n,a,s)))\/
  (rn t h a (dJ t h a).1/\(dJ t h a).2=0/\rF (t,h,n,a,s)=ao (.inr (0,n+1,cm t h a,s.take n++ [stepOf t a]))/\sN (m+1) (n+1) (cm t h a) (s.take n++ [stepOf t a])):=by
 have hr:=ao1 (d:=(t,h,n,a,s)) ⟨hv,hg.Cl,hg.le,by have:=hg.len;show s.length<=_;omega⟩;by_cases he:(dJ t h a).2=0
 ·right;refine⟨C7 he,he,?_,hg.app (C7 he) hv⟩;rw[hr];simp only[yW,G6,he,ne_eq,not_true_eq_false,cF]
 ·left;refine⟨he,?_⟩;rw[hr];simp only[yW,G6,ne_eq,he,not_false_eq_true,cY]
theorem sN.check(hg:sN m n a s)(hv:wX t):lQ.call (t,h,n,a,s)=ao ((dJ t h a).1,(dJ t h a).2,n,a,s):=YO (d:=(t,h,n,a,s)) ⟨hv,hg.Cl⟩
def adK(a:At):List cw:=Kd (t:=bM) I7 (eC a)
theorem sN.all(hg:sN m n a s)(hm:m<=1000):Av.call (n,a,s)=ao (a.length,n,a,s,adK a):=ao0 (d:=(n,a,s)) ⟨by have:=hg.aHL;show a.length<=_;omega,λp hp=>(hg.Cl.2 p hp).1⟩
theorem sN.total(hg:sN m n a s):Cj.call (n,a,s)=ao (ji a,n,a,s):=YQ (d:=(n,a,s)) ⟨λp hp=>(hg.Cl.2 p hp).2.2.2.1,by have:=hg.sum;show ji a<=_;omega⟩
theorem sN.copy(hg:sN m n a s)(hm:m<=1000):te.call (n,a,s)=ao (n,a,s,(s.take n).length,eP a,s.take n):=ai1 (d:=(n,a,s)) ⟨hg.le,by have:=hg.len;show s.length<=_;omega,hg.Cl.1⟩
theorem sN.aHy(hg:sN m n a s)(hm:m<=1000):zp.call (n,a,s)=ao (if n=0 then(aR,n,a,s) else(aT,n - 1,CP a (nth cC s (n - 1)),s)):=YR (d:=(n,a,s)) ⟨hg.le,by have:=hg.len;show s.length<=_;omega,hg.aHv⟩
theorem aah.perm{a':At}(h:aah a)(hp:a.Perm a'):aah a':=⟨(hp.map _).nodup_iff.1 h.1,λp hm=>h.2 p (hp.mem_iff.2 hm)⟩
theorem sN.canon(hg:sN m n a s):sN m n (eP a) (s.take n)/\(s.take n).length=n:=by
 have hp:=vP a;have e:(s.take n).length=n:=by rw[cT];have:=hg.le;omega
 exact⟨⟨hg.Cl.perm hp.symm,au,by have:=hg.le;have:=hg.len;omega,λst nQ=>hg.aHv st (oq nQ),by rw[B8 hp];exact hg.sum,by rw[hp.length_eq];exact hg.aHL⟩,e⟩
end
theorem asJ{a:At}(h:aah a):(adK a).Perm (eC a):=(acS K6 λx hx=>by
 obtain⟨p,hp,rfl⟩:=dO.1 hx;exact(h.2 p hp).1).1
end
def abb(v o:cw):Bool:=Ty.beq bM v o
def KC(b:qq)(x:j9):Bool:=b.2.2.2.2.1.any (abb x.1)
def Bc(b:qq)(t:dM):Bool:=t.1.any (KC b)
abbrev zK:=(List cw)×cw×Int×Int
def o7:zK->AS:=λ(jw,aFK,t7,t8)=>⟨([.d (.slice bM) jw,cq,cq,.eI bM aFK,cq,cq,cq,.d ti t7,.d ti t8]++bf 10 []),[],(ai 19 [])⟩
def pS:Int->Exit×AS:=λx=>(.ret,⟨(bf 4 ([.d ti x]++bf 14 [])),[],(ai 19 [])⟩)
def yk:Unit->Exit×AS:=λx=>(.exit 0,⟨(bf 19 []),[],(ai 19 [])⟩)
abbrev JV:=(Int)⊕(Unit)
abbrev U0:=(Int)⊕(Unit)
def DG:JV->Out (Exit×AS):=λx=> .br x.isLeft (.get x.getLeft? λa=> .ok (pS a)) (.get x.getRight? λb=> .ok (yk b))
def lz:zK->U0->JV:=λ(jw,aFK,t7,t8) y=>match y with | .inl y=> .inl y | .inr z=> .inr (z)
abbrev amW:=(List cw)×cw
def yj:zK->Prop:=λ(l,v,n,i)=>l.length<=1000000000/\(True)/\n=l.length/\∃k:Nat,k<=l.length/\i=k
def oZ:zK->U0:=λ(l,v,n,i)=>Bo (abb v) (l.drop i.toNat) i
def aqs:amW->Prop:=λ(l,v)=>l.length<=1000000000/\(True)
def ab5:amW->Int:=λ(l,v)=>Xn (abb v) l
def UZ:=dW.gA o7 yj lz oZ DG
def Ie:zK->Option JV:=iI UZ o7
def Em:Fs Tryz.prog aqs bG ab5:=fV 111 Tryz.f111 (λ(sv,v)=>([.d (.slice bM) sv,.d bM v],[])) (λx=>⟨.d ti x,[],[]⟩) [ao (.slice bM),ao bM] [] {loops:=so [(2,{bp:=[0,3,7,8]})],outs:=sm [(2,{},{bp:=[4]})],gS:=tt [(2,UZ)]}
def JU:= @fh Tryz.prog (lU Em.G) Em.an 0 Tryz.f111 0 _ o7
abbrev QB:=mn Tryz.prog (lU Em.G) Em.an 0 Tryz.f111 0 o7 yj lz oZ DG
theorem ab6:kC Ie yj lz oZ:=og (na [.d (.slice bM),.d bM,.d ti,.d ti] λ_=>cM)
theorem Mo:qp @JU o7 yj lz oZ DG QB:=rA
theorem Ig(jw aFK t7 t8)(kn:K2 R)(kx:K3 R):JU (jw,aFK,t7,t8) kn kx=aS (gY t8 t7) (aS (gI t8 (((ag jw):Nat):Int)) (aS (Ty.beq bM aFK (nth bM jw (ab t8))) (kx (pS t8).1 (pS t8).2) (kn (o7 (jw,aFK,t7,(bT .i64 t8 (1:Int)))))) aJ) (kx (yk ()).1 (yk ()).2):=cM
theorem awo(sv v)(k:K1 R):Em.A (sv,v) k=aq (Ie (sv,v,(sv.length:Int),0)) λx1=>aS x1.isLeft (aq x1.getLeft? λa2=>k (Em.out a2)) (aq x1.getRight? λb3=>k (Em.out (-1))):=cM
theorem agp:QB:=by
 refine Mo (λ(l,v,n,i)=>l.length - i.toNat) ?_
 rintro⟨l,v,n,i⟩ ⟨hb,hv,rfl,k,hk,rfl⟩;have hb:l.length<=1000000000:=hb;have hk:k<=l.length:=hk;by_cases h:k < l.length
 ·have n1:nth bM l k=l[k]:=da (t:=bM) h;have hd:Bo (abb v) (l.drop k) k=if abb v l[k] then .inl (k:Int) else Bo (abb v) (l.drop (k+1)) ((k+1:Nat):Int):=by rw[aC h];rfl
  have step:∀ {R:Type} (kn:AS->Option R) (kx:Exit->AS->Option R),JU (l,v,(l.length:Int),(k:Int)) kn kx=aS (abb v l[k]) (kx (pS (k:Int)).1 (pS (k:Int)).2) (kn (o7 (l,v,(l.length:Int),((k+1:Nat):Int)))):=by intro R kn kx;rw[Ig,bm au,bz au au,aa,n1,N.nV au];rfl
  cases hp:abb v l[k]
  ·left;refine⟨(l,v,l.length,((k+1:Nat):Int)),⟨hb,hv,rfl,k+1,au,rfl⟩,by simp only[aa];omega,?_,λkn kx=> ?_⟩
   ·simp only[lz,oZ,aa,hd,hp,bR,cF]
   ·rw[step,hp,al]
  ·right;refine⟨pS (k:Int),?_,λkn kx=> ?_⟩
   ·simp only[lz,oZ,aa,hd,hp,cY];rfl
   ·rw[step,hp,aj]
 ·right;obtain rfl:k=l.length:=au;refine⟨yk (),?_,λkn kx=> ?_⟩
  ·simp only[lz,oZ,aa,aU];rfl
  ·rw[Ig,bh au,al]
theorem awp:Em.Ok:=by rintro⟨l,v⟩ ⟨hb,hv⟩;rw[awo,ab6 (d:=(l,v,l.length,0)) ⟨hb,hv,rfl,0,au,rfl⟩];simp only[ae,lz,oZ,bo,aQ,bG,ab5,Xn];cases Bo (abb v) l 0 <;> rfl
theorem aqt:Em.RS:=rE [.d (.slice bM),.d bM] Em
def awq:=Em.gf awp 1 ⟨.gA agp,trivial⟩
abbrev amV:=(List cw)×cw
def aqr:amV->Prop:=λ(l,_)=>l.length<=1000000000
def aAR:amV->Bool:=λ(l,v)=>l.any (abb v)
def QA:Fs Tryz.prog aqr bG aAR:=fV 72 Tryz.f72 (λ(sv,v)=>([.d (.slice bM) sv,.d bM v],[])) (λx=>⟨.d .bool x,[],[]⟩) [ao (.slice bM),ao bM] [awq]
theorem awl(sv v)(k:K1 R):QA.A (sv,v) k=aq (Em.call (sv,v)) λx1=>k (QA.out (Bp x1 0)):=cM
theorem awm:QA.Ok:=by rintro⟨l,v⟩ hb;rw[awl,aqt (d:=(l,v)) ⟨hb,trivial⟩];simp only[ae,bG,ab5,LR];rfl
theorem Zw:QA.RS:=rE [.d (.slice bM),.d bM] QA
def ago:=QA.gf awm
def an2:(j9×qq)->Prop:=λ(_,b)=>b.2.2.2.2.1.length<=1000
def ay0:(j9×qq)->Bool:=λ(x,b)=>KC b x
def SB:Fs Tryz.prog an2 bG ay0:=fV 71 Tryz.f71 (λ(x,t1)=>([.d gB x,.eI pZ t1],[])) (λx=>⟨.d .bool x,[],[]⟩) [ao gB,aJ] [ago]
theorem asL(x t1)(k:K1 R):SB.A (x,t1) k=aq (QA.call (t1.2.2.2.2.1,x.1)) λx1=>k (SB.out x1):=cM
theorem asM:SB.Ok:=by rintro⟨x,b⟩ hb;have hb:b.2.2.2.2.1.length<=1000:=hb;rw[asL,Zw (d:=(b.2.2.2.2.1,x.1)) (by show b.2.2.2.2.1.length<=_;omega)];rfl
theorem an3:SB.RS:=rE [.d gB,.d pZ] SB
def asN:=SB.gf asM
abbrev zy:=(List j9)×qq×Int×Int
def oQ:zy->AS:=λ(jw,f,t7,t8)=>⟨([.d (.slice gB) jw,.fn 71 (.cons (.eI pZ f) (.nil))]++bf 5 ([.d ti t7,.d ti t8]++bf 10 [])),[],(ai 19 [])⟩
def pL:Int->Exit×AS:=λx=>(.ret,⟨(bf 4 ([.d ti x]++bf 14 [])),[],(ai 19 [])⟩)
def xX:Unit->Exit×AS:=λx=>(.exit 0,⟨(bf 19 []),[],(ai 19 [])⟩)
abbrev JG:=(Int)⊕(Unit)
abbrev T0:=(Int)⊕(Unit)
def Dv:JG->Out (Exit×AS):=λx=> .br x.isLeft (.get x.getLeft? λa=> .ok (pL a)) (.get x.getRight? λb=> .ok (xX b))
def ln:zy->T0->JG:=λ(jw,f,t7,t8) y=>match y with | .inl y=> .inl y | .inr z=> .inr (z)
abbrev amC:=(List j9)×qq
def xW:zy->Prop:=λ(l,v,n,i)=>l.length<=1000000000/\(v.2.2.2.2.1.length<=1000)/\n=l.length/\∃k:Nat,k<=l.length/\i=k
def oP:zy->T0:=λ(l,v,n,i)=>Bo (KC v) (l.drop i.toNat) i
def apI:amC->Prop:=λ(l,v)=>l.length<=1000000000/\(v.2.2.2.2.1.length<=1000)
def abC:amC->Int:=λ(l,v)=>Xn (KC v) l
def TZ:=dW.gA oQ xW ln oP Dv
def H6:zy->Option JG:=iI TZ oQ
def Ek:Fs Tryz.prog apI bG abC:=fV 110 Tryz.f110 (λ(sv,fc)=>([.d (.slice gB) sv,.fn 71 (.cons (.eI pZ fc) (.nil))],[])) (λx=>⟨.d ti x,[],[]⟩) [ao (.slice gB),aJ] [asN] {loops:=so [(2,{bp:=[0,1,7,8]})],outs:=sm [(2,{},{bp:=[4]})],gS:=tt [(2,TZ)]}
def JF:= @fh Tryz.prog (lU Ek.G) Ek.an 0 Tryz.f110 0 _ oQ
abbrev Qc:=mn Tryz.prog (lU Ek.G) Ek.an 0 Tryz.f110 0 oQ xW ln oP Dv
theorem abD:kC H6 xW ln oP:=og (na [.d (.slice gB),.d pZ,.d ti,.d ti] λ_=>cM)
theorem LU:qp @JF oQ xW ln oP Dv Qc:=rA
theorem H7(jw f t7 t8)(kn:K2 R)(kx:K3 R):JF (jw,f,t7,t8) kn kx=aS (gY t8 t7) (aS (gI t8 (((ag jw):Nat):Int)) (aq (SB.call ((nth gB jw (ab t8)),f)) λx1=>aS (x1) (kx (pL t8).1 (pL t8).2) (kn (oQ (jw,f,t7,(bT .i64 t8 (1:Int)))))) aJ) (kx (xX ()).1 (xX ()).2):=cM
theorem avl(sv fc)(k:K1 R):Ek.A (sv,fc) k=aq (H6 (sv,fc,(sv.length:Int),0)) λx2=>aS x2.isLeft (aq x2.getLeft? λa3=>k (Ek.out a3)) (aq x2.getRight? λb4=>k (Ek.out (-1))):=cM
theorem afF:Qc:=by
 refine LU (λ(l,v,n,i)=>l.length - i.toNat) ?_
 rintro⟨l,v,n,i⟩ ⟨hb,hv,rfl,k,hk,rfl⟩;have hb:l.length<=1000000000:=hb;have hk:k<=l.length:=hk;by_cases h:k < l.length
 ·have n1:nth gB l k=l[k]:=da (t:=gB) h;have hd:Bo (KC v) (l.drop k) k=if KC v l[k] then .inl (k:Int) else Bo (KC v) (l.drop (k+1)) ((k+1:Nat):Int):=by rw[aC h];rfl
  have step:∀ {R:Type} (kn:AS->Option R) (kx:Exit->AS->Option R),JF (l,v,(l.length:Int),(k:Int)) kn kx=aS (KC v l[k]) (kx (pL (k:Int)).1 (pL (k:Int)).2) (kn (oQ (l,v,(l.length:Int),((k+1:Nat):Int)))):=by intro R kn kx;rw[H7,bm au,bz au au,aa,n1,an3 (d:=(l[k],v)) hv,N.nV au];rfl
  cases hp:KC v l[k]
  ·left;refine⟨(l,v,l.length,((k+1:Nat):Int)),⟨hb,hv,rfl,k+1,au,rfl⟩,by simp only[aa];omega,?_,λkn kx=> ?_⟩
   ·simp only[ln,oP,aa,hd,hp,bR,cF]
   ·rw[step,hp,al]
  ·right;refine⟨pL (k:Int),?_,λkn kx=> ?_⟩
   ·simp only[ln,oP,aa,hd,hp,cY];rfl
   ·rw[step,hp,aj]
 ·right;obtain rfl:k=l.length:=au;refine⟨xX (),?_,λkn kx=> ?_⟩
  ·simp only[ln,oP,aa,aU];rfl
  ·rw[H7,bh au,al]
theorem avm:Ek.Ok:=by rintro⟨l,v⟩ ⟨hb,hv⟩;rw[avl,abD (d:=(l,v,l.length,0)) ⟨hb,hv,rfl,0,au,rfl⟩];simp only[ae,ln,oP,bo,aQ,bG,abC,Xn];cases Bo (KC v) l 0 <;> rfl
theorem apJ:Ek.RS:=rE [.d (.slice gB),.d pZ] Ek
def avn:=Ek.gf avm 1 ⟨.gA afF,trivial⟩
abbrev amA:=(List j9)×qq
def apG:amA->Prop:=λ(l,b)=>l.length<=1000000000/\b.2.2.2.2.1.length<=1000
def aAr:amA->Bool:=λ(l,b)=>l.any (KC b)
def TX:Fs Tryz.prog apG bG aAr:=fV 70 Tryz.f70 (λ(sv,fc)=>([.d (.slice gB) sv,.fn 71 (.cons (.eI pZ fc) (.nil))],[])) (λx=>⟨.d .bool x,[],[]⟩) [ao (.slice gB),aJ] [avn]
theorem avi(sv fc)(k:K1 R):TX.A (sv,fc) k=aq (Ek.call (sv,fc)) λx1=>k (TX.out (Bp x1 0)):=cM
theorem avj:TX.Ok:=by rintro⟨l,v⟩ ⟨hb,hv⟩;rw[avi,apJ (d:=(l,v)) ⟨hb,hv⟩];simp only[ae,bG,abC,LR];rfl
theorem apH:TX.RS:=rE [.d (.slice gB),.d pZ] TX
def avk:=TX.gf avj
def aih:(dM×qq)->Prop:=λ(t,b)=>wX t/\t.1.length<=1000000000/\b.2.2.2.2.1.length<=1000
def KD:(dM×qq)->Bool:=λ(t,b)=>Bc b t
def IX:Fs Tryz.prog aih bG KD:=fV 69 Tryz.f69 (λ(t,t1)=>([.d ee t,.eI pZ t1],[])) (λx=>⟨.d .bool x,[],[]⟩) [ao ee,aJ] [avk]
theorem an4(t t1)(k:K1 R):IX.A (t,t1) k=aq (TX.call (t.1,t1)) λx1=>k (IX.out x1):=cM
theorem an5:IX.Ok:=by rintro⟨t,b⟩ ⟨_,hl,hb⟩;rw[an4,apH (d:=(t.1,b)) ⟨hl,hb⟩];rfl
theorem aii:IX.RS:=rE [.d ee,.d pZ] IX
def an6:=IX.gf an5
abbrev vM:=(List dM)×Int×qq×Int×(List dM)×Int×Int×Nat×(List (cw×eS))×(List cZ)×Nat×(List (cw×eS))×(List cZ)
def mS:vM->AS:=λ(El,ei,endv,fees,t18,t19,t20,o0L,ed,di,UG,n17,FI)=>⟨([cq,.d (.slice ee) El,.d ti ei,.fn 69 (.cons (.eI pZ endv) (.nil))]++bf 5 ([.d ti fees,cq,fu 17]++bf 6 ([.d (.slice ee) t18,.d ti t19,.d ti t20]++bf 32 []))),[dC (.pr (.cO (.bF 1) 0) (.pr (.b8 (.bF 2) 0 [] 0 0 o0L) kK)),dC (.mp bM eO ed),dC (.vec 139 cC di)],(bI 17 ([[dC (.pr (.cO (.new 17 1) 0) (.pr (.b8 (.new 17 2) 0 [] 0 0 UG) kK)),dC (.mp bM eO n17),dC (.vec 139 cC FI)]]++bI 35 []))⟩
abbrev KQ:=(Nat×(List (cw×eS))×(List cZ))×(Int×Int×Int)
def lI:KQ->Exit×AS:=λ((a,b,c),e,f,g)=>(.ret,⟨(bf 8 ([.d ti e,.d ti f,.d ti g]++bf 42 [])),[dC (.pr (.cO (.bF 1) 0) (.pr (.b8 (.bF 2) 0 [] 0 0 a) kK)),dC (.mp bM eO b),dC (.vec 139 cC c)],(ai 53 [])⟩)
abbrev KR:=((List dM)×Nat×(List (cw×eS))×(List cZ))×(Int)
def uT:KR->Exit×AS:=λ((a,b,c,e),f)=>(.exit 0,⟨([cq,.d (.slice ee) a]++bf 7 ([.d ti f]++bf 43 [])),[dC (.pr (.cO (.bF 1) 0) (.pr (.b8 (.bF 2) 0 [] 0 0 b) kK)),dC (.mp bM eO c),dC (.vec 139 cC e)],(ai 53 [])⟩)
abbrev EZ:=(KQ)⊕(KR)
abbrev Py:=((Int×Int×Int))⊕(Int)
def Be:EZ->Out (Exit×AS):=λx=> .br x.isLeft (.get x.getLeft? λa=> .ok (lI a)) (.get x.getRight? λb=> .ok (uT b))
def iV:vM->Py->EZ:=λ(El,ei,endv,fees,t18,t19,t20,o0L,ed,di,UG,n17,FI) y=>match y with | .inl y=> .inl ((o0L,ed,di),y) | .inr z=> .inr (((El,o0L,ed,di),z))
abbrev aee:=(List dM)×Int×qq×Nat×(List (cw×eS))×(List cZ)
def iD(b:qq)(h:Int):List dM->Int->Int->At->(Int×Int×Int)⊕Int
 |[],_,fees,_=> .inr fees
 |t::l,k,fees,a=>if Bc b t then .inl (k,fees,14) else if(dJ t h a).2≠0 then .inl (k,fees,(dJ t h a).2) else iD b h l (k+1) (fees+(dJ t h a).1) (cm t h a)
def asH(l:List dM)(b:qq):Prop:=l.length<=100/\(∀t∈l,wX t/\t.1.length<=1000000)/\b.2.2.2.2.1.length<=1000
def uS:vM->Prop:=λ(_,_,b,fees,l,n',i,_,_,_,n,a,s)=>asH l b/\n'=(l.length:Int)/\∃k:Nat,k<=l.length/\i=k/\sN (500+k) n a s/\0<=fees/\fees+ji a<=1125899906842624
def kX:vM->Py:=λ(_,h,b,fees,l,_,i,_,_,_,_,a,_)=>iD b h (l.drop i.toNat) i fees a
def kB(b:qq)(h:Int)(l:List dM)(a:At):Int×Int×Int:=match iD b h l 0 0 (eP a) with
 | .inl x=>x
 | .inr f=>((l.length:Int),f,0)
def aiz:aee->Prop:=λ(l,_,b,n,a,s)=>asH l b/\sN 500 n a s
def aef:aee->(Int×Int×Int×Nat×(List (cw×eS))×(List cZ)):=λ(l,h,b,n,a,s)=>((kB b h l a).1,(kB b h l a).2.1,(kB b h l a).2.2,n,a,s)
def Pw:=dW.gA mS uS iV kX Be
def E0:vM->Option EZ:=iI Pw mS
def wz:Fs Tryz.prog aiz bG aef:=fV 54 Tryz.f54 (λ(l,height,endc,o0baL,o1,o2)=>([.ptr (.bF 0) 0 [] 0,.d (.slice ee) l,.d ti height,.fn 69 (.cons (.eI pZ endc) (.nil))],[.obj 0 aR (.pr (.cO (.bF 1) 0) (.pr (.b8 (.bF 2) 0 [] 0 0 o0baL) (.d .unit ()))),.obj 0 aR (.mp bM eO o1),.obj 0 aR (.vec 139 cC o2)])) (λx=>⟨.cons (.d ti x.1) (.cons (.d ti x.2.1) (.cons (.d ti x.2.2.1) (.nil))),[.obj 0 aR (.pr (.cO (.bF 1) 0) (.pr (.b8 (.bF 2) 0 [] 0 0 x.2.2.2.1) (.d .unit ()))),.obj 0 aR (.mp bM eO x.2.2.2.2.1),.obj 0 aR (.vec 139 cC x.2.2.2.2.2)],[]⟩) [aJ,ao (.slice ee),ao ti,aJ] [G8,an6,Lq,Ln] {loops:=so [(3,{bp:=[1,2,3,9,11,18,19,20],sites:=[17],owns:=[⟨11,[.snd,.fst],17,32⟩]})],outs:=sm [(3,{bp:=[1,9]},{bp:=[8,9,10]})],gS:=tt [(3,Pw)]}
def Px:= @fh Tryz.prog (lU wz.G) wz.an 0 Tryz.f54 0 _ mS
abbrev KP:=mn Tryz.prog (lU wz.G) wz.an 0 Tryz.f54 0 mS uS iV kX Be
theorem Xe:kC E0 uS iV kX:=og (na [.d (.slice ee),.d ti,.d pZ,.d ti,.d (.slice ee),.d ti,.d ti,.n,.d (.slice (.pair bM eO)),.d (.slice cC),.n,.d (.slice (.pair bM eO)),.d (.slice cC)] λ_=>cM)
theorem I1:qp @Px mS uS iV kX Be KP:=rA
theorem sZ(El ei endv fees t18 t19 t20 o0L ed di UG n17 FI)(kn:K2 R)(kx:K3 R):Px (El,ei,endv,fees,t18,t19,t20,o0L,ed,di,UG,n17,FI) kn kx=aS (gY t20 t19) (aS (gI t20 (((ag t18):Nat):Int)) (aq (IX.call ((nth ee t18 (ab t20)),endv)) λx1=>aS (x1) (kx (lI ((o0L,ed,di),(t20,fees,(14:Int)))).1 (lI ((o0L,ed,di),(t20,fees,(14:Int)))).2) (aq (lQ.call ((nth ee t18 (ab t20)),ei,UG,n17,FI)) λx2=>aS (JE x2.2.1 (0:Int)) (kx (lI ((o0L,ed,di),(t20,fees,x2.2.1))).1 (lI ((o0L,ed,di),(t20,fees,x2.2.1))).2) (aq (rF ((nth ee t18 (ab t20)),ei,x2.2.2.1,x2.2.2.2.1,x2.2.2.2.2)) λx3=>aS x3.isLeft (aq x3.getLeft? λaFf=>kn (mS (El,ei,endv,(bT .i64 fees x2.1),t18,t19,(bT .i64 t20 (1:Int)),o0L,ed,di,aFf.2.1,aFf.2.2.1,aFf.2.2.2))) (aq x3.getRight? λaFg=>kn (mS (El,ei,endv,(bT .i64 fees x2.1),t18,t19,(bT .i64 t20 (1:Int)),o0L,ed,di,aFg.2.1,aFg.2.2.1,aFg.2.2.2)))))) aJ) (kx (uT ((El,o0L,ed,di),fees)).1 (uT ((El,o0L,ed,di),fees)).2):=cM
theorem aoq(l height endc o0baL o1 o2)(k:K1 R):wz.A (l,height,endc,o0baL,o1,o2) k=aq (te.call (o0baL,o1,o2)) λx1=>aq (E0 (l,height,endc,0,l,(l.length:Int),0,x1.1,x1.2.1,x1.2.2.1,x1.2.2.2.1,x1.2.2.2.2.1,x1.2.2.2.2.2)) λx8=>aS x8.isLeft (aq x8.getLeft? λa9=>k (wz.out (a9.2.1,a9.2.2.1,a9.2.2.2,a9.1.1,a9.1.2.1,a9.1.2.2))) (aq x8.getRight? λb10=>k (wz.out ((b10.1.1.length:Int),b10.2,0,b10.1.2.1,b10.1.2.2.1,b10.1.2.2.2))):=cM
theorem aau:KP:=by
 refine I1 (λ(_,_,_,_,l,_,i,_)=>l.length - i.toNat) ?_
 rintro⟨l0,h,b,fees,l,n',i,nS,a0,s0,n,a,s⟩ ⟨⟨h1,h2,h3⟩,rfl,k,hk,rfl,hg,f0,f1⟩;have h1:l.length<=100:=h1;have hk:k<=l.length:=hk;have f0:0<=fees:=f0;have f1:fees+ji a<=1125899906842624:=f1;have hg:sN (500+k) n a s:=hg;by_cases je:k < l.length
 ·have n1:nth ee l k=l[k]:=da (t:=ee) je;have hd:l.drop k=l[k]::l.drop (k+1):=aC je;obtain⟨hv,hi⟩:=h2 _ (aV je);have Hy:=aii (d:=(l[k],b)) ⟨hv,kV hi eZ,h3⟩;by_cases hb:Bc b l[k]=aT
  ·right;refine⟨lI ((nS,a0,s0),((k:Int),fees,14)),?_,λkn kx=> ?_⟩;rotate_left
   ·rw[sZ,bm au,aj,bz au au,aj,aa,n1,Hy];simp only[ae,bG,KD,hb,aj]
   ·simp only[iV,kX,aa,hd,iD,if_pos hb];rfl
  ·have hb':Bc b l[k]=aR:=by simpa using hb
   have hc:=hg.check (t:=l[k]) (h:=h) hv;rcases hg.apply (t:=l[k]) (h:=h) au hv with⟨he,_⟩ | ⟨aII,he,ha,hg'⟩
   ·right;refine⟨lI ((nS,a0,s0),((k:Int),fees,(dJ l[k] h a).2)),?_,λkn kx=> ?_⟩;rotate_left
    ·rw[sZ,bm au,aj,bz au au,aj,aa,n1,Hy];simp only[ae,bG,KD,hb',al];rw[hc];simp only[ae];rw[gZ he,aj]
    ·simp only[iV,kX,aa,hd,iD,if_neg hb,if_pos he];rfl
   ·left;have Bn:=(aII.sum hg.Cl.1).1;have aIL:0<=(dJ l[k] h a).1:=by obtain⟨_,_,_,f,_,_,hp,aGi⟩:=G2 he;rw[aGi];exact hp
    have sI:=Sw λp hp=>(hg'.Cl.2 p hp).2.2.2.1
    refine⟨(l0,h,b,fees+(dJ l[k] h a).1,l,(l.length:Int),((k+1:Nat):Int),nS,a0,s0,n+1,cm l[k] h a,s.take n++ [stepOf l[k] a]),⟨⟨h1,h2,h3⟩,rfl,k+1,au,rfl,hg',by show(0:Int)<=fees+(dJ l[k] h a).1;omega,by show fees+(dJ l[k] h a).1+ji (cm l[k] h a)<=_;omega⟩,by simp only[aa];omega,?_,λkn kx=> ?_⟩
    ·simp only[iV,kX,aa,hd,iD,if_neg hb,if_neg (λe=>e he:¬(dJ l[k] h a).2≠0)];rfl
    ·rw[sZ,bm au,aj,bz au au,aj,aa,n1,Hy];simp only[ae,bG,KD,hb',al];rw[hc];simp only[ae];rw[eU he,al,ha];simp only[ae,dS,al,dg];rw[gX (x:=fees) au au,N.nV au]
 ·right;obtain rfl:k=l.length:=au;refine⟨uT ((l0,nS,a0,s0),fees),?_,λkn kx=> ?_⟩;rotate_left
  ·rw[sZ,bh au,al]
  ·simp only[iV,kX,aa,aU,iD];rfl
theorem aor:wz.Ok:=by
 rintro⟨l,h,b,n,a,s⟩ ⟨hw,hg⟩;have hg:sN 500 n a s:=hg;obtain⟨hc,hl⟩:=hg.canon;have z1:((0:Int)).toNat=0:=rfl;rw[aoq,hg.copy au];simp only[ae];rw[hl,Xe (d:=(l,h,b,0,l,(l.length:Int),0,n,a,s,n,eP a,s.take n)) ⟨hw,rfl,0,aN _,rfl,hc,fI 0,by show(0:Int)+ji (eP a)<=_;have:=hc.sum;omega⟩];simp only[ae,iV,kX,z1,aQ,bG,aef,kB];cases iD b h l 0 0 (eP a) with
 |inl x=>rfl
 |inr f=>rfl
theorem aiA:wz.RS:=rE [.d (.slice ee),.d ti,.d pZ,.n,.d (.slice (.pair bM eO)),.d (.slice cC)] wz
def aos:=wz.gf aor 1 ⟨.gA aau,trivial⟩
abbrev aeb:=qq×Nat×(List (cw×eS))×(List cZ)
def iR(b:qq)(a:At):Int×Int:=if si b.1 b.2.2.2.1 then(if 4000 < aza b then(0,3) else(kB b b.1 b.2.2.1 a).2) else(0,1)
def asm(b:qq):Prop:=aIj b/\b.2.2.1.length<=100/\∀t∈b.2.2.1,t.1.length<=1000000
theorem asm.walk{b:qq}(h:asm b):asH b.2.2.1 b:=⟨h.2.1,λt ht=>⟨h.1.1.2 t ht,h.2.2 t ht⟩,h.1.2.2.1⟩
def aiw:aeb->Prop:=λ(b,n,a,s)=>asm b/\sN 500 n a s
def SP:aeb->(Int×Int×Nat×(List (cw×eS))×(List cZ)):=λ(b,n,a,s)=>((iR b a).1,(iR b a).2,n,a,s)
def y9:Fs Tryz.prog aiw bG SP:=fV 33 Tryz.f33 (λ(b,o0baL,o1,o2)=>([.ptr (.bF 0) 0 [] 0,.d pZ b],[.obj 0 aR (.pr (.cO (.bF 1) 0) (.pr (.b8 (.bF 2) 0 [] 0 0 o0baL) (.d .unit ()))),.obj 0 aR (.mp bM eO o1),.obj 0 aR (.vec 139 cC o2)])) (λx=>⟨.cons (.d ti x.1) (.cons (.d ti x.2.1) (.nil)),[.obj 0 aR (.pr (.cO (.bF 1) 0) (.pr (.b8 (.bF 2) 0 [] 0 0 x.2.2.1) (.d .unit ()))),.obj 0 aR (.mp bM eO x.2.2.2.1),.obj 0 aR (.vec 139 cC x.2.2.2.2)],[]⟩) [aJ,ao pZ] [Yy,as7,aos]
theorem aok(b o0baL o1 o2)(k:K1 R):y9.A (b,o0baL,o1,o2) k=aq (y8.call (b.1,b.2.2.2.1)) λx1=>aS (!x1) (k (y9.out (0,1,o0baL,o1,o2))) (aS (Ak (b.2.2.1.length:Int) 200) (k (y9.out (0,3,o0baL,o1,o2))) (aq (adw.call b) λx2=>aS (Ak x2 4000) (k (y9.out (0,3,o0baL,o1,o2))) (aq (wz.call (b.2.2.1,b.1,b,o0baL,o1,o2)) λx3=>k (y9.out (x3.2.1,x3.2.2.1,x3.2.2.2.1,x3.2.2.2.2.1,x3.2.2.2.2.2))))):=cM
theorem aol:y9.Ok:=by
 rintro⟨b,n,a,s⟩ ⟨hb,hg⟩;have hb:asm b:=hb;have hl:b.2.2.1.length<=100:=hb.2.1;rw[aok,SO (d:=(b.1,b.2.2.2.1)) trivial];simp only[ae,bG,KK,bG,SP,iR];cases hf:si b.1 b.2.2.2.1 with
 |false=>rfl
 |true=>
  have aCo:=hf;simp only[si,aW]at aCo;rw[cG,al,du au,al,alX (d:=b) ⟨hb.1,aCo.2.2.1,by show b.2.2.2.1<=_;omega⟩];simp only[ae,bG,alW,cY];by_cases hw:4000 < aza b
  ·rw[dT au,aj,if_pos hw]
  ·rw[du au,al,if_neg hw,aiA (d:=(b.2.2.1,b.1,b,n,a,s)) ⟨hb.walk,hg⟩];rfl
theorem SQ:y9.RS:=rE [.d pZ,.n,.d (.slice (.pair bM eO)),.d (.slice cC)] y9
def Yz:=y9.gf aol
abbrev alU:=qq×Nat×(List (cw×eS))×(List cZ)
def aoe:alU->Prop:=λ(b,n,a,s)=>asm b/\sN 500 n a s
def KJ:alU->(Int×Nat×(List (cw×eS))×(List cZ)):=λ(b,n,a,s)=>((iR b a).2,n,a,s)
def sY:Fs Tryz.prog aoe bG KJ:=fV 10 Tryz.f10 (λ(b,o0baL,o1,o2)=>([.ptr (.bF 0) 0 [] 0,.d pZ b],[.obj 0 aR (.pr (.cO (.bF 1) 0) (.pr (.b8 (.bF 2) 0 [] 0 0 o0baL) (.d .unit ()))),.obj 0 aR (.mp bM eO o1),.obj 0 aR (.vec 139 cC o2)])) (λx=>⟨.d ti x.1,[.obj 0 aR (.pr (.cO (.bF 1) 0) (.pr (.b8 (.bF 2) 0 [] 0 0 x.2.1) (.d .unit ()))),.obj 0 aR (.mp bM eO x.2.2.1),.obj 0 aR (.vec 139 cC x.2.2.2)],[]⟩) [aJ,ao pZ] [Yz]
theorem asZ(b o0baL o1 o2)(k:K1 R):sY.A (b,o0baL,o1,o2) k=aq (y9.call (b,o0baL,o1,o2)) λx1=>k (sY.out (x1.2.1,x1.2.2.1,x1.2.2.2.1,x1.2.2.2.2)):=cM
theorem as0:sY.Ok:=by rintro⟨b,n,a,s⟩ h;rw[asZ,SQ (d:=(b,n,a,s)) h];rfl
theorem um:sY.RS:=rE [.d pZ,.n,.d (.slice (.pair bM eO)),.d (.slice cC)] sY
def SM:=sY.gf as0
abbrev y7:=qq×Int×(List dM)×Int×Int×Nat×(List (cw×eS))×(List cZ)
def ow:y7->AS:=λ(ov,err,t12,t13,t14,o0L,ed,di)=>⟨([.ptr (.bF 0) 0 [] 0,cq,cq,.eI pZ ov,cq,.d ti err]++bf 6 ([.d (.slice ee) t12,.d ti t13,.d ti t14]++bf 13 [])),[dC (.pr (.cO (.bF 1) 0) (.pr (.b8 (.bF 2) 1 [] 0 0 o0L) kK)),dC (.mp bM eO ed),.obj 1 aR (.vec 139 cC di)],(ai 28 [])⟩
abbrev Pq:=(Int)×(Nat×(List (cw×eS))×(List cZ))
def xh:Pq->Exit×AS:=λ(a,b,c,e)=>(.ret,⟨(bf 4 ([.d ti a]++bf 23 [])),[dC (.pr (.cO (.bF 1) 0) (.pr (.b8 (.bF 2) 1 [] 0 0 b) kK)),dC (.mp bM eO c),.obj 1 aR (.vec 139 cC e)],(ai 28 [])⟩)
abbrev Pr:=(Int)×(Nat×(List (cw×eS))×(List cZ))
def xi:Pr->Exit×AS:=λ(a,b,c,e)=>(.exit 0,⟨(bf 5 ([.d ti a]++bf 22 [])),[dC (.pr (.cO (.bF 1) 0) (.pr (.b8 (.bF 2) 1 [] 0 0 b) kK)),dC (.mp bM eO c),.obj 1 aR (.vec 139 cC e)],(ai 28 [])⟩)
abbrev IY:=(Pq)⊕(Pr)
abbrev SL:=((Nat×(List (cw×eS))×(List cZ)))⊕((Nat×(List (cw×eS))×(List cZ)))
def C0:IY->Out (Exit×AS):=λx=> .br x.isLeft (.get x.getLeft? λa=> .ok (xh a)) (.get x.getRight? λb=> .ok (xi b))
def jA:y7->SL->IY:=λ(ov,err,t12,t13,t14,o0L,ed,di) y=>match y with | .inl y=> .inl (err,y) | .inr z=> .inr ((err,z))
abbrev alT:=qq×Nat×(List (cw×eS))×(List cZ)
abbrev asE:=Nat×At×List cZ
def EU(h:Int)(S:asE)(t:dM):asE:=if(dJ t h S.2.1).2≠0 then S else(S.1+1,cm t h S.2.1,S.2.2.take S.1++ [stepOf t S.2.1])
def aDi(b:qq)(S:asE):asE:=b.2.2.1.foldl (EU b.1) S
def xg:y7->Prop:=λ(_,_,l,m,i,n,a,s)=>(l.length<=100/\∀t∈l,wX t)/\m=(l.length:Int)/\∃k:Nat,k<=l.length/\i=k/\sN (400+k) n a s
def mQ:y7->SL:=λ(b,e,l,_,i,n,a,s)=>if e≠0/\i < (l.length:Int) then .inl (n,a,s) else .inr ((l.drop i.toNat).foldl (EU b.1) (n,a,s))
def aod:alT->Prop:=λ(b,n,a,s)=>asm b/\sN 400 n a s
def RV:alT->(Int×Nat×(List (cw×eS))×(List cZ)):=λ(b,n,a,s)=>((iR b a).2,if(iR b a).2≠0 then(n,a,s) else aDi b (n,a,s))
def SJ:=dW.gA ow xg jA mQ C0
def HH:y7->Option IY:=iI SJ ow
def Ap:Fs Tryz.prog aod bG RV:=fV 11 Tryz.f11 (λ(b,o0baL,o1,o2)=>([.ptr (.bF 0) 0 [] 0,.d pZ b],[.obj 0 aR (.pr (.cO (.bF 1) 0) (.pr (.b8 (.bF 2) 0 [] 0 0 o0baL) (.d .unit ()))),.obj 0 aR (.mp bM eO o1),.obj 0 aR (.vec 139 cC o2)])) (λx=>⟨.d ti x.1,[.obj 0 aR (.pr (.cO (.bF 1) 0) (.pr (.b8 (.bF 2) 1 [] 0 0 x.2.1) (.d .unit ()))),.obj 0 aR (.mp bM eO x.2.2.1),.obj 1 aR (.vec 139 cC x.2.2.2)],[]⟩) [aJ,ao pZ] [SM,Ln] {loops:=so [(3,{bp:=[0,3,5,12,13,14],aCb:=[(2,1)]})],outs:=sm [(3,{bp:=[5],aCb:=[(2,1)]},{bp:=[4],aCb:=[(2,1)]})],gS:=tt [(3,SJ)],aCb:=[(2,1)]}
def SK:= @fh Tryz.prog (lU Ap.G) Ap.an 0 Tryz.f11 0 _ ow
abbrev Pp:=mn Tryz.prog (lU Ap.G) Ap.an 0 Tryz.f11 0 ow xg jA mQ C0
theorem aar:kC HH xg jA mQ:=og (na [.d pZ,.d ti,.d (.slice ee),.d ti,.d ti,.n,.d (.slice (.pair bM eO)),.d (.slice cC)] λ_=>cM)
theorem KI:qp @SK ow xg jA mQ C0 Pp:=rA
theorem uR(ov err t12 t13 t14 o0L ed di)(kn:K2 R)(kx:K3 R):SK (ov,err,t12,t13,t14,o0L,ed,di) kn kx=aS (gY t14 t13) (aS (gI t14 (((ag t12):Nat):Int)) (aS (JE err (0:Int)) (kx (xh (err,(o0L,ed,di))).1 (xh (err,(o0L,ed,di))).2) (aq (rF ((nth ee t12 (ab t14)),ov.1,o0L,ed,di)) λx1=>aS x1.isLeft (aq x1.getLeft? λaB2=>kn (ow (ov,err,t12,t13,(bT .i64 t14 (1:Int)),aB2.2.1,aB2.2.2.1,aB2.2.2.2))) (aq x1.getRight? λaCX=>kn (ow (ov,err,t12,t13,(bT .i64 t14 (1:Int)),aCX.2.1,aCX.2.2.1,aCX.2.2.2))))) aJ) (kx (xi (err,(o0L,ed,di))).1 (xi (err,(o0L,ed,di))).2):=cM
theorem asX(b o0baL o1 o2)(k:K1 R):Ap.A (b,o0baL,o1,o2) k=aq (sY.call (b,o0baL,o1,o2)) λx1=>aq (HH (b,x1.1,b.2.2.1,(b.2.2.1.length:Int),0,x1.2.1,x1.2.2.1,x1.2.2.2)) λx3=>aS x3.isLeft (aq x3.getLeft? λa4=>k (Ap.out (a4.1,a4.2.1,a4.2.2.1,a4.2.2.2))) (aq x3.getRight? λb5=>k (Ap.out (b5.1,b5.2.1,b5.2.2.1,b5.2.2.2))):=cM
theorem ad4:Pp:=by
 refine KI (λ(_,_,l,_,i,_,_,_)=>l.length - i.toNat) ?_
 rintro⟨b,e,l,m,i,n,a,s⟩ ⟨⟨hl,hv⟩,rfl,k,hk,rfl,hg⟩;have hl:l.length<=100:=hl;have hk:k<=l.length:=hk;by_cases h:k < l.length
 ·have n1:nth ee l k=l[k]:=da (t:=ee) h;have hd:l.drop k=l[k]::l.drop (k+1):=aC h;have aKG:=hv _ (aV h);generalize l[k]=t at n1 hd aKG;by_cases h0:e=0
  ·left;have ne:¬(e≠0/\(k:Int) < (l.length:Int)):=λx=>x.1 h0
   have ne2:¬(e≠0/\((k+1:Nat):Int) < (l.length:Int)):=λx=>x.1 h0
   rcases hg.apply (t:=t) (h:=b.1) au aKG with⟨hc,ha⟩ | ⟨_,hc,ha,au0⟩
   ·refine⟨(b,e,l,(l.length:Int),((k+1:Nat):Int),n,a,s),⟨⟨hl,hv⟩,rfl,k+1,h,rfl,hg.mono au⟩,by simp only[aa];omega,?_,λkn kx=> ?_⟩
    ·simp only[jA,mQ,if_neg ne,if_neg ne2,aa,hd,aX];rw[show EU b.1 (n,a,s) t=(n,a,s) from if_pos hc]
    ·rw[uR,bm au,aj,bz au au,aj,eU h0,al,aa,n1,ha];simp only[ae,l7,aj,j3];rw[N.nV au]
   ·refine⟨(b,e,l,(l.length:Int),((k+1:Nat):Int),n+1,cm t b.1 a,s.take n++ [stepOf t a]),⟨⟨hl,hv⟩,rfl,k+1,h,rfl,au0⟩,by simp only[aa];omega,?_,λkn kx=> ?_⟩
    ·simp only[jA,mQ,if_neg ne,if_neg ne2,aa,hd,aX];rw[show EU b.1 (n,a,s) t=(n+1,cm t b.1 a,s.take n++ [stepOf t a]) from if_neg (λx=>x hc)]
    ·rw[uR,bm au,aj,bz au au,aj,eU h0,al,aa,n1,ha];simp only[ae,dS,al,dg];rw[N.nV au]
  ·right;refine⟨xh (e,(n,a,s)),?_,λkn kx=> ?_⟩
   ·have pe:e≠0/\(k:Int) < (l.length:Int):=⟨h0,au⟩;simp only[jA,mQ,if_pos pe];rfl
   ·rw[uR,bm au,aj,bz au au,aj,gZ h0,aj]
 ·right;obtain rfl:k=l.length:=au;refine⟨xi (e,(n,a,s)),?_,λkn kx=> ?_⟩
  ·have ne:¬(e≠0/\(l.length:Int) < (l.length:Int)):=λx=>au
   simp only[jA,mQ,if_neg ne,aa,aU,db];rfl
  ·rw[uR,bh au,al]
theorem asY:Ap.Ok:=by
 rintro⟨b,n,a,s⟩ ⟨hb,hg⟩;have hg:sN 400 n a s:=hg;rw[asX,um (d:=(b,n,a,s)) ⟨hb,hg.mono eZ⟩];simp only[ae,bG,KJ,bG,RV];rw[aar (d:=(b,(iR b a).2,b.2.2.1,(b.2.2.1.length:Int),0,n,a,s)) ⟨⟨hb.2.1,hb.1.1.2⟩,rfl,0,aN _,rfl,hg⟩];simp only[ae,jA,mQ,bo,aQ];by_cases h0:(iR b a).2=0
 ·rw[if_neg (λx=>x.1 h0),if_neg (λx=>x h0)];rfl
 ·rw[if_pos h0];by_cases hl:(0:Int) < (b.2.2.1.length:Int)
  ·rw[if_pos ⟨h0,hl⟩];rfl
  ·rw[if_neg (λx=>hl x.2),bu (by omega:b.2.2.1.length=0)];rfl
theorem Yx:Ap.RS:=rE [.d pZ,.n,.d (.slice (.pair bM eO)),.d (.slice cC)] Ap
def ad5:=Ap.gf asY 1 ⟨.gA ad4,trivial⟩
abbrev za:=Int×Int×Nat×(List (cw×eS))×(List cZ)
def rW:za->AS:=λ(t7,t8,o0L,ed,di)=>⟨([.ptr (.bF 0) 0 [] 0]++bf 6 ([.d ti t7,.d ti t8]++bf 5 [])),[dC (.pr (.cO (.bF 1) 0) (.pr (.b8 (.bF 2) 0 [] 0 0 o0L) kK)),dC (.mp bM eO ed),dC (.vec 139 cC di)],(ai 14 [])⟩
abbrev Pt:=Nat×(List (cw×eS))×(List cZ)
def xm:Pt->Exit×AS:=λ(a,b,c)=>(.ret,⟨(bf 4 ([.d .bool aR]++bf 9 [])),[dC (.pr (.cO (.bF 1) 0) (.pr (.b8 (.bF 2) 0 [] 0 0 a) kK)),dC (.mp bM eO b),dC (.vec 139 cC c)],(ai 14 [])⟩)
abbrev Pu:=Nat×(List (cw×eS))×(List cZ)
def xn:Pu->Exit×AS:=λ(a,b,c)=>(.exit 0,⟨(bf 14 []),[dC (.pr (.cO (.bF 1) 0) (.pr (.b8 (.bF 2) 0 [] 0 0 a) kK)),dC (.mp bM eO b),dC (.vec 139 cC c)],(ai 14 [])⟩)
abbrev I0:=(Pt)⊕(Pu)
abbrev SU:=((Nat×(List (cw×eS))×(List cZ)))⊕((Nat×(List (cw×eS))×(List cZ)))
def C2:I0->Out (Exit×AS):=λx=> .br x.isLeft (.get x.getLeft? λa=> .ok (xm a)) (.get x.getRight? λb=> .ok (xn b))
def mR:za->SU->I0:=λ(t7,t8,o0L,ed,di) y=>match y with | .inl y=> .inl y | .inr z=> .inr (z)
abbrev alV:=qq×Nat×(List (cw×eS))×(List cZ)
def Ph:Nat->asE->Bool×asE
 | 0,S=>(aT,S)
 |k+1,S=>if S.1=0 then(aR,S) else Ph k (S.1 - 1,CP S.2.1 (nth cC S.2.2 (S.1 - 1)),S.2.2)
def aC7(n:Nat)(s:List cZ):Prop:=n<=s.length/\s.length<=1000000/\∀st∈s,anW st
def xl:za->Prop:=λ(d,i,n,_,s)=>aC7 n s/\∃m k:Nat,d=m/\i=k/\k<=m/\m<=1000
def oz:za->SU:=λ(d,i,n,a,s)=>if(Ph (d - i).toNat (n,a,s)).1=aT then .inr (Ph (d - i).toNat (n,a,s)).2 else .inl (Ph (d - i).toNat (n,a,s)).2
def aom:alV->Prop:=λ(b,n,_,s)=>b.2.2.1.length<=1000/\aC7 n s
def aas:alV->(Bool×Nat×(List (cw×eS))×(List cZ)):=λ(b,n,a,s)=>Ph b.2.2.1.length (n,a,s)
def SR:=dW.gA rW xl mR oz C2
def HI:za->Option I0:=iI SR rW
def Ca:Fs Tryz.prog aom bG aas:=fV 16 Tryz.f16 (λ(b,o0baL,o1,o2)=>([.ptr (.bF 0) 0 [] 0,.d pZ b],[.obj 0 aR (.pr (.cO (.bF 1) 0) (.pr (.b8 (.bF 2) 0 [] 0 0 o0baL) (.d .unit ()))),.obj 0 aR (.mp bM eO o1),.obj 0 aR (.vec 139 cC o2)])) (λx=>⟨.d .bool x.1,[.obj 0 aR (.pr (.cO (.bF 1) 0) (.pr (.b8 (.bF 2) 0 [] 0 0 x.2.1) (.d .unit ()))),.obj 0 aR (.mp bM eO x.2.2.1),.obj 0 aR (.vec 139 cC x.2.2.2)],[]⟩) [aJ,ao pZ] [aui] {loops:=so [(2,{bp:=[0,7,8]})],outs:=sm [(2,{},{bp:=[4]})],gS:=tt [(2,SR)]}
def SS:= @fh Tryz.prog (lU Ca.G) Ca.an 0 Tryz.f16 0 _ rW
abbrev Ps:=mn Tryz.prog (lU Ca.G) Ca.an 0 Tryz.f16 0 rW xl mR oz C2
theorem aat:kC HI xl mR oz:=og (na [.d ti,.d ti,.n,.d (.slice (.pair bM eO)),.d (.slice cC)] λ_=>cM)
theorem KN:qp @SS rW xl mR oz C2 Ps:=rA
theorem Bd(t7 t8 o0L ed di)(kn:K2 R)(kx:K3 R):SS (t7,t8,o0L,ed,di) kn kx=aS (gY t8 t7) (aq (zp.call (o0L,ed,di)) λx1=>aS (!x1.1) (kx (xm (x1.2.1,x1.2.2.1,x1.2.2.2)).1 (xm (x1.2.1,x1.2.2.1,x1.2.2.2)).2) (kn (rW (t7,(bT .i64 t8 (1:Int)),x1.2.1,x1.2.2.1,x1.2.2.2)))) (kx (xn (o0L,ed,di)).1 (xn (o0L,ed,di)).2):=cM
theorem as4(b o0baL o1 o2)(k:K1 R):Ca.A (b,o0baL,o1,o2) k=aq (HI ((b.2.2.1.length:Int),0,o0baL,o1,o2)) λx2=>aS x2.isLeft (aq x2.getLeft? λa3=>k (Ca.out (aR,a3.1,a3.2.1,a3.2.2))) (aq x2.getRight? λb4=>k (Ca.out (aT,b4.1,b4.2.1,b4.2.2))):=cM
theorem aec:Ps:=by
 refine KN (λ(d,i,_)=>(d - i).toNat) ?_
 rintro⟨d,i,n,a,s⟩ ⟨hg,m,k,rfl,rfl,hk,hm⟩;have hg:aC7 n s:=hg;have hk:k<=m:=hk;have hm:m<=1000:=hm;by_cases je:k < m
 ·obtain⟨j,hj⟩:∃j,m=k+1+j:=⟨m - (k+1),au⟩;have e1:((m:Int) - (k:Int)).toNat=j+1:=au;have e2:((m:Int) - ((k+1:Nat):Int)).toNat=j:=au;have hc:=YR (d:=(n,a,s)) hg;by_cases h0:n=0
  ·right;refine⟨xm (n,a,s),?_,λkn kx=> ?_⟩;rotate_left
   ·rw[Bd,bm au,aj,hc];simp only[ae,bG,R0,if_pos h0,eY,aj]
   ·simp only[mR,oz,e1,Ph,if_pos h0,bR,cF];rfl
  ·left;refine⟨((m:Int),((k+1:Nat):Int),n - 1,CP a (nth cC s (n - 1)),s),⟨⟨by have:=hg.1;omega,hg.2⟩,m,k+1,rfl,rfl,au,hm⟩,by simp only[e1,e2];omega,?_,λkn kx=> ?_⟩
   ·simp only[mR,oz,e1,e2];rw[Ph,if_neg h0]
   ·rw[Bd,bm au,aj,hc];simp only[ae,bG,R0,if_neg h0,cG,al];rw[N.nV au]
 ·right;obtain rfl:k=m:=au;refine⟨xn (n,a,s),?_,λkn kx=> ?_⟩;rotate_left
  ·rw[Bd,bh au,al]
  ·have e1:((k:Int) - (k:Int)).toNat=0:=au;simp only[mR,oz,e1,Ph,cY];rfl
theorem as5:Ca.Ok:=by
 rintro⟨b,n,a,s⟩ ⟨hl,hg⟩;have hl:b.2.2.1.length<=1000:=hl;have e:((b.2.2.1.length:Int) - 0).toNat=b.2.2.1.length:=au;rw[as4,aat (d:=((b.2.2.1.length:Int),0,n,a,s)) ⟨hg,b.2.2.1.length,0,rfl,rfl,aN _,hl⟩];simp only[ae,oz,e,aas];cases hu:Ph b.2.2.1.length (n,a,s) with
 |mk r S=>
  cases r with
  |true=>rfl
  |false=>rfl
theorem aon:Ca.RS:=rE [.d pZ,.n,.d (.slice (.pair bM eO)),.d (.slice cC)] Ca
def as6:=Ca.gf as5 1 ⟨.gA aec,trivial⟩
def rS(a a':At):Prop:=∀o,cd bM o a=cd bM o a'
theorem rS.refl(a:At):rS a a:=λ_=>rfl
theorem rS.symm{a b:At}(h:rS a b):rS b a:=λo=>(h o).symm
theorem rS.trans{a b c:At}(h:rS a b)(h':rS b c):rS a c:=λo=>(h o).trans (h' o)
theorem rS.perm{a b:At}(h:rS a b)(ha:(eC a).Nodup)(hb:(eC b).Nodup):a.Perm b:=aCi ha hb h
theorem auw{a b:At}(hb:(eC b).Nodup)(h:a.Perm b):rS a b:=λo=>awL hb h o
theorem rS.del{a b:At}(h:rS a b)(ha:(eC a).Nodup)(hb:(eC b).Nodup)(l:List cw):rS (Bj l a) (Bj l b):=λo=>by
 rw[P1 o l ha,P1 o l hb,h o]
theorem Hp(e:adD)(l:List adD)(a:At):VG (e::l) a=VG l (e7 bM e.1 e.2.1 a):=rfl
theorem rS.set{a b:At}(h:rS a b)(o:cw)(c:eS):rS (e7 bM o c a) (e7 bM o c b):=λx=>by rw[apu,apu,h x]
theorem rS.put:∀(l:List adD) {a b:At},rS a b->rS (VG l a) (VG l b)
 |[],_,_,h=>h
 |e::l,a,b,h=>by rw[Hp,Hp];exact rS.put l (h.set _ _)
theorem VH:∀(l:List adD) {a:At},(eC a).Nodup->(eC (VG l a)).Nodup
 |[],_,h=>h
 |e::l,a,h=>by rw[Hp];exact VH l (JB h)
theorem ahT{a:At}(h:(eC a).Nodup)(st:cZ):(eC (CP a st)).Nodup:=VH _ (Dj _ h)
theorem rS.aHy{a b:At}(h:rS a b)(ha:(eC a).Nodup)(hb:(eC b).Nodup)(st:cZ):rS (CP a st) (CP b st):=rS.put _ (h.del ha hb _)
theorem rS.add(h:Int):∀(l:List cw) (xs:List lT) {a b:At},rS a b->rS (IV h l xs a) (IV h l xs b)
 |[],[],_,_,e=>e
 |[],_::_,_,_,e=>e
 |_::_,[],_,_,e=>e
 |o::l,x::xs,a,b,e=>by rw[yT,yT];exact rS.add h l xs (e.set _ _)
theorem rS.apply{a b:At}(e:rS a b)(ha:(eC a).Nodup)(hb:(eC b).Nodup)(t:dM)(h:Int):rS (cm t h a) (cm t h b):=rS.add h _ _ (e.del ha hb _)
theorem rS.ins{a b:At}(e:rS a b)(h:Int)(id:List Int):∀(l:List j9) (f:Int),uf h id a l f=uf h id b l f
 |[],_=>rfl
 |x::l,f=>by
  simp only[uf,e x.1];cases cd bM x.1 b with
  |none=>rfl
  |some c=>simp only[rS.ins e h id l]
theorem rS.check{a b:At}(e:rS a b)(t:dM)(h:Int):dJ t h a=dJ t h b:=by
 have e2:pM a=pM b:=funext λo=>by unfold pM;rw[e o]
 unfold dJ;rw[e.ins,e2]
theorem aCj(x:cw):∀(l:List cw) {a:At} (b:At),(eC a).Nodup->l.Nodup->(∀o∈l,(cd bM o a).isSome=aT)->cd bM x (VG (wY a l) b)=if x∈l then cd bM x a else cd bM x b
 |[],a,b,_,_,_=>by rw[if_neg (by simp)];rfl
 |o::l,a,b,hn,hl,ht=>by
  rw[dm]at hl;obtain⟨c,hc⟩:=bA.1 (ht o aK);have ht':∀y∈l,(cd bM y (kg bM o a)).isSome=aT:=λy hy=>by rw[afj y o hn,if_neg (λe=>hl.1 (by rw[<-e];exact hy))];exact ht y (aL _ hy)
  rw[wY,Hp,aCj x l _ (oM hn) hl.2 ht',afj x o hn,hc];by_cases h1:x∈l
  ·have h2:¬x=o:=λe=>hl.1 (by rw[<-e];exact h1)
   rw[if_pos h1,if_neg h2,if_pos (aL _ h1)]
  ·rw[if_neg h1];show cd bM x (e7 bM o c b)=_;rw[apu];by_cases h2:x=o
   ·subst h2;rw[if_pos rfl,if_pos aK,hc]
   ·rw[if_neg h2,if_neg (by simp[h1,h2])]
theorem alx{t:dM}{h jI:Int}{a:At}(hc:rn t h a jI)(ha:(eC a).Nodup):rS (CP (cm t h a) (stepOf t a)) a:=λo=>by
 unfold CP stepOf;rw[aCj o (dK t) _ ha (Ni t) hc.there];by_cases h1:o∈dK t
 ·rw[if_pos h1]
 ·rw[if_neg h1];show cd bM o (Bj (fT t) (cm t h a))=_;rw[P1 o _ (fy ha)];by_cases h2:o∈fT t
  ·rw[if_pos h2,hc.made o h2]
  ·rw[if_neg h2,xc ha h1 h2]
abbrev anX:=List (dM×Int)
def gH:At->anX->At
 |a,[]=>a
 |a,x::l=>gH (cm x.1 x.2 a) l
def mj:At->anX->List cZ
 |_,[]=> []
 |a,x::l=>stepOf x.1 a::mj (cm x.1 x.2 a) l
def uj:At->anX->Prop
 |_,[]=>True
 |a,x::l=>(dJ x.1 x.2 a).2=0/\wX x.1/\uj (cm x.1 x.2 a) l
theorem Sx:∀(l l':anX) (a:At),gH a (l++l')=gH (gH a l) l'
 |[],_,_=>rfl
 |x::l,l',a=>Sx l l' (cm x.1 x.2 a)
theorem Wm:∀(l l':anX) (a:At),mj a (l++l')=mj a l++mj (gH a l) l'
 |[],_,_=>rfl
 |x::l,l',a=>by show stepOf x.1 a::mj (cm x.1 x.2 a) (l++l')=_;rw[Wm l l'];rfl
theorem S5:∀(l l':anX) (a:At),uj a (l++l')↔uj a l/\uj (gH a l) l'
 |[],_,_=>⟨λh=>⟨trivial,h⟩,λh=>h.2⟩
 |x::l,l',a=>by have ih:=S5 l l' (cm x.1 x.2 a);exact⟨λh=>⟨⟨h.1,h.2.1,(ih.1 h.2.2).1⟩,(ih.1 h.2.2).2⟩,λh=>⟨h.1.1,h.1.2.1,ih.2 ⟨h.1.2.2,h.2⟩⟩⟩
theorem I8:∀(l:anX) {n:Nat} {a:At} {s:List cZ},s.length=n->sN n n a s->uj a l->sN (n+l.length) (n+l.length) (gH a l) (s++mj a l)
 |[],n,a,s,_,hg,_=>by show sN n n a (s++ []);rw[bP];exact hg
 |x::l,n,a,s,hs,hg,hc=>by have h1:=hg.app (C7 hc.1) hc.2.1;rw[bJ au]at h1;have:=I8 l (s:=s++ [stepOf x.1 a]) (by rw[ak,hs];rfl) h1 hc.2.2;rw[aO,show n+1+l.length=n+(l.length+1) by omega]at this;exact this
theorem rS.gone:∀(l:List cw) {a b:At},rS a b->(eC a).Nodup->(eC b).Nodup->wY a l=wY b l
 |[],_,_,_,_,_=>rfl
 |o::l,a,b,e,ha,hb=>by rw[wY,wY,e o,rS.gone l (a:=kg bM o a) (b:=kg bM o b) (λx=>by rw[afj x o ha,afj x o hb,e x]) (oM ha) (oM hb)]
theorem rS.step{a b:At}(e:rS a b)(ha:(eC a).Nodup)(hb:(eC b).Nodup)(t:dM):stepOf t a=stepOf t b:=by unfold stepOf;rw[e.gone _ ha hb]
theorem CY:∀(l:anX) {a:At},(eC a).Nodup->(eC (gH a l)).Nodup
 |[],_,h=>h
 |_::l,_,h=>CY l (fy h)
theorem rS.gH:∀(l:anX) {a b:At},rS a b->(eC a).Nodup->(eC b).Nodup->rS (gH a l) (Ab.gH b l)
 |[],_,_,e,_,_=>e
 |_::l,_,_,e,ha,hb=>rS.gH l (e.apply ha hb _ _) (fy ha) (fy hb)
theorem rS.mj:∀(l:anX) {a b:At},rS a b->(eC a).Nodup->(eC b).Nodup->mj a l=Ab.mj b l
 |[],_,_,_,_,_=>rfl
 |x::l,a,b,e,ha,hb=>by show stepOf x.1 a::Ab.mj (cm x.1 x.2 a) l=stepOf x.1 b::Ab.mj (cm x.1 x.2 b) l;rw[e.step ha hb,rS.mj l (e.apply ha hb _ _) (fy ha) (fy hb)]
theorem rS.atM:∀(l:anX) {a b:At},rS a b->(eC a).Nodup->(eC b).Nodup->uj a l->uj b l
 |[],_,_,_,_,_,_=>trivial
 |x::l,a,b,e,ha,hb,h=>⟨by rw[<-e.check];exact h.1,h.2.1,rS.atM l (e.apply ha hb _ _) (fy ha) (fy hb) h.2.2⟩
theorem arV{s q:List cZ}{st:cZ}{n:Nat}(hn:n<=s.length)(h:s.take n=q++ [st]):n=q.length+1/\nth cC s (n - 1)=st/\s.take (n - 1)=q:=by
 have hl:n=q.length+1:=by have:=bD ag h;rw[cT,ak]at this;simp only[aH,bB]at this;omega
 subst hl;have h1:q.length < s.length:=au;have e:s.take (q.length+1)=s.take q.length++ [s[q.length]]:=by rw[List.take_add_one,bQ h1];rfl
 rw[e]at h;obtain⟨h2,h3⟩:=List.append_inj' h rfl;refine⟨rfl,?_,h2⟩;rw[rr,da (t:=cC) h1];exact(List.cons.inj h3).1
theorem W0:∀(k:Nat) (l:anX) {a0 a:At} {n:Nat} {s p:List cZ},l.length=k->uj a0 l->(eC a0).Nodup->(eC a).Nodup->rS a (gH a0 l)->n<=s.length->s.take n=p++mj a0 l->
  ∃a',Ph k (n,a,s)=(aT,n - k,a',s)/\rS a' a0/\(eC a').Nodup/\s.take (n - k)=p/\k<=n
 | 0,l,a0,a,n,s,p,hl,_,_,ha,he,_,hs=>by obtain rfl:=bu hl;exact⟨a,rfl,he,ha,by rw[show mj a0 []=[] from rfl,bP]at hs;exact hs,aN _⟩
 |k+1,l,a0,a,n,s,p,hl,hc,h0,ha,he,hn,hs=>by
  have gj:l≠ []:=λe=>by rw[e]at hl;cases hl
  have el:=List.dropLast_concat_getLast gj;generalize l.getLast gj=x at el;generalize hl':l.dropLast=l' at el;have hk:l'.length=k:=by rw[<-hl',List.length_dropLast];omega
  subst el;obtain⟨c1,c2⟩:=(S5 l' [x] a0).1 hc;rw[Wm,<-aO]at hs;obtain⟨e1,e2,e3⟩:=arV hn hs;rw[Sx]at he;have hn':=CY l' h0;have e4:rS (CP a (stepOf x.1 (gH a0 l'))) (gH a0 l'):=(he.aHy ha (fy hn') _).trans (alx (C7 c2.1) hn');obtain⟨a',f1,f2,f3,f4,f5⟩:=W0 k l' (a:=CP a (stepOf x.1 (gH a0 l'))) (n:=n - 1) (s:=s) (p:=p) hk c1 h0 (ahT ha _) e4 au e3;refine⟨a',?_,f2,f3,by rw[show n - (k+1)=n - 1 - k by omega];exact f4,au⟩;have az6:¬n=0:=au;rw[Ph,if_neg (show ¬(n,a,s).1=0 from az6)];show Ph k (n - 1,CP a (nth cC s (n - 1)),s)=_;rw[e2,f1,show n - 1 - k=n - (k+1) by omega]
def wQ(b:qq):anX:=b.2.2.1.map λt=>(t,b.1)
theorem W7(b:qq)(h:Int):∀(l:List dM) (k fees:Int) (a:At) (x:Int×Int×Int),iD b h l k fees a= .inl x->x.2.2≠0
 |[],_,_,_,_,e=>by rw[iD]at e;cases e
 |t::l,k,fees,a,x,e=>by
  rw[iD]at e;split at e
  ·obtain rfl:=Sum.inl.inj e;show(14:Int)≠0;decide
  ·split at e
   ·rename_i h2;obtain rfl:=Sum.inl.inj e;exact h2
   ·exact W7 b h l _ _ _ x e
theorem W6(b:qq)(h:Int):∀(l:List dM) (k fees:Int) (a:At) (f:Int),(∀t∈l,wX t)->iD b h l k fees a= .inr f->uj a (l.map λt=>(t,h))
 |[],_,_,_,_,_,_=>trivial
 |t::l,k,fees,a,f,hv,e=>by
  rw[iD]at e;split at e
  ·cases e
  ·split at e
   ·cases e
   ·rename_i h2;exact⟨Decidable.not_not.1 h2,hv t aK,W6 b h l _ _ _ f (λy hy=>hv y (aL _ hy)) e⟩
theorem yU{a:At}(ha:(eC a).Nodup):rS (eP a) a/\(eC (eP a)).Nodup:=by have hp:=vP a;exact⟨auw ha hp,(hp.map _).nodup_iff.2 ha⟩
theorem U7{b:qq}{a:At}(hb:asm b)(ha:(eC a).Nodup)(e:(iR b a).2=0):uj a (wQ b):=by
 obtain⟨c1,c2⟩:=yU ha;unfold iR at e;split at e
 ·split at e
  ·cases e
  ·have e:(kB b b.1 b.2.2.1 a).2.2=0:=e;unfold kB at e;split at e
   ·rename_i x hx;exact absurd e (W7 _ _ _ _ _ _ _ hx)
   ·rename_i f hf;exact c1.atM _ c2 ha (W6 _ _ _ _ _ _ _ hb.1.1.2 hf)
 ·cases e
abbrev Wu:Ty:=(.pair ee (.pair tH (.pair ti (.pair ti .unit))))
abbrev y4:=(dM×(Bs×(Int×(Int×Unit))))
abbrev dh:Ty:=(.gN Wu)
abbrev eA:=(Option (Nat×y4))
abbrev Mk:=List (eA×Bool)
abbrev ayH:=List (Bs×eA)
def iP(m:Mk)(x:eA):Bool:=(cd dh x m).getD aR
def RR(q:ayH)(i:j9):eA:=(cd tH i.1.1 q).getD aJ
def jn(q:ayH):Nat->dM->Mk->Option Mk
 | 0,_,_=>aJ
 |n+1,t,m=>match t.1 with
  |[]=>ao m
  |[i]=>match RR q i with
   |none=>ao m
   |some x=>if iP m (ao x)=aT then ao m else if i.1.2.1 < 0 then ao m else if(x.2.1.2.1.length:Int)<=i.1.2.1 then ao m else jn q n x.2.1 (e7 dh (ao x) aT m)
  |_=>aJ
theorem af5{q:ayH}:∀ {n:Nat} {t:dM} {m r:Mk},jn q n t m=ao r->jn q (n+1) t m=ao r
 | 0,_,_,_,h=>by cases h
 |n+1,t,m,r,h=>by
  obtain⟨ins,o⟩:=t
  match ins,h with
  |[],h=>exact h
  |[i],h=>
   have h:(match RR q i with | none=>ao m | some x=>if iP m (ao x)=aT then ao m else if i.1.2.1 < 0 then ao m else if(x.2.1.2.1.length:Int)<=i.1.2.1 then ao m else jn q n x.2.1 (e7 dh (ao x) aT m))=ao r:=h;show(match RR q i with | none=>ao m | some x=>if iP m (ao x)=aT then ao m else if i.1.2.1 < 0 then ao m else if(x.2.1.2.1.length:Int)<=i.1.2.1 then ao m else jn q (n+1) x.2.1 (e7 dh (ao x) aT m))=ao r;cases hu:RR q i with
   |none=>rw[hu]at h;exact h
   |some x=>
    rw[hu]at h;simp only at h ⊢;by_cases h1:iP m (ao x)=aT
    ·rw[if_pos h1]at h ⊢;exact h
    rw[if_neg h1]at h ⊢;by_cases h2:i.1.2.1 < 0
    ·rw[if_pos h2]at h ⊢;exact h
    rw[if_neg h2]at h ⊢;by_cases h3:(x.2.1.2.1.length:Int)<=i.1.2.1
    ·rw[if_pos h3]at h ⊢;exact h
    rw[if_neg h3]at h ⊢;exact af5 h
  |_::_::_,h=>cases h
theorem af4{q:ayH}{t:dM}{m r:Mk}{n k:Nat}(hk:n<=k)(h:jn q n t m=ao r):jn q k t m=ao r:=by
 induction hk with
 |refl=>exact h
 |step _ ih=>exact af5 ih
abbrev yA:=dM×(List (Bs×eA))×(List (eA×Bool))
def tG:yA->SA:=λ(t,o1,o3)=>([.d ee t,.ptr (.bF 0) 0 [] 0,.ptr (.bF 2) 0 [] 0,.ptr (.bF 4) 0 [] 0],[dC (.cO (.bF 1) 0),dC (.mp tH dh o1),dC (.cO (.bF 3) 0),dC (.mp dh .bool o3),dC (.fn 92 (.cons (.ptr (.bF 0) 0 [] 0) (.cons (.ptr (.bF 2) 0 [] 0) (.cons (.ptr (.bF 4) 0 [] 0) (.nil)))))])
abbrev anj:=(List (Bs×eA))×(List (eA×Bool))
abbrev Sl:=(List (Bs×eA))×(List (eA×Bool))
def sB:Sl->ig:=λx=>⟨.nil,[dC (.cO (.bF 1) 0),dC (.mp tH dh x.1),dC (.cO (.bF 3) 0),dC (.mp dh .bool x.2),dC (.fn 92 (.cons (.ptr (.bF 0) 0 [] 0) (.cons (.ptr (.bF 2) 0 [] 0) (.cons (.ptr (.bF 4) 0 [] 0) (.nil)))))],[]⟩
def CC:yA->anj->Sl:=λ(t,o1,o3) y=>y
def Ho:Nat->yA->Prop
 | 0=>λ_=>False
 |dep+1=>λ(t,q,m)=>dep < 9/\(jn q (dep+1) t m).isSome=aT
def DN:yA->anj:=λ(t,q,m)=>(q,(jn q 10 t m).getD m)
theorem ZF:∀d d',tG d=tG d'->d=d':=afG [.d ee,.d (.slice (.pair tH dh)),.d (.slice (.pair dh .bool))] λ_=>cM
def MJ(dep:Nat):Entry:=Entry.of [ao ee,aJ,aJ,aJ] tG (Ho dep) (λd=>CC d (DN d)) sB
def QV(dep:Nat):yA->Option Sl:=λd=>(MJ dep).run (tG d).1 (tG d).2
theorem aku{dep:Nat}{d:yA}(h:Ho dep d):QV dep d=ao (CC d (DN d)):=Entry.rO ZF h
def ani(dep:Nat):qi:=afi 92 qN (MJ dep) (lU (P:=Tryz.prog) [])
def Vt:w7:= {loops:=so [(2,{bp:=[1,2,3,9,10,11],sites:=[6,52]})],outs:=sm [(2,{sites:=[6,52]},{sites:=[6,52]})]}
def ang(dep:Nat):= @NL Tryz.prog (ani dep) Vt 3 Tryz.f92 _ tG
theorem aw1(dep t o1 o3)(k:K1 R):ang dep (t,o1,o3) k=aS (gY (0:Int) (((ag t.1):Nat):Int)) (aS (gI (0:Int) (((ag t.1):Nat):Int)) (aS (Option.isNone ((cd tH (nth gB t.1 0).1.1 o1).getD aJ)) (aS (gY (1:Int) (((ag t.1):Nat):Int)) (aS (gI (1:Int) (((ag t.1):Nat):Int)) (aJ) aJ) (k (sB (o1,o3)))) (aS ((cd dh ((cd tH (nth gB t.1 0).1.1 o1).getD aJ) o3).getD aR) (aS (gY (1:Int) (((ag t.1):Nat):Int)) (aS (gI (1:Int) (((ag t.1):Nat):Int)) (aJ) aJ) (k (sB (o1,o3)))) (aS (gY (nth gB t.1 0).1.2.1 (0:Int)) (aS (gY (1:Int) (((ag t.1):Nat):Int)) (aS (gI (1:Int) (((ag t.1):Nat):Int)) (aJ) aJ) (k (sB (o1,o3)))) (aq (((cd tH (nth gB t.1 0).1.1 o1).getD aJ)) λx1=>aS (Bp (nth gB t.1 0).1.2.1 (((ag x1.2.1.2.1):Nat):Int)) (aS (gY (1:Int) (((ag t.1):Nat):Int)) (aS (gI (1:Int) (((ag t.1):Nat):Int)) (aJ) aJ) (k (sB (o1,o3)))) (aq (((cd tH (nth gB t.1 0).1.1 o1).getD aJ)) λx2=>aq (QV dep (x2.2.1,o1,(e7 dh ((cd tH (nth gB t.1 0).1.1 o1).getD aJ) aT o3))) λx3=>aS (gY (1:Int) (((ag t.1):Nat):Int)) (aS (gI (1:Int) (((ag t.1):Nat):Int)) (aJ) aJ) (k (sB (x3.1,x3.2)))))))) aJ) (k (sB (o1,o3))):=cM
theorem aw2:∀(dep:Nat) (d:yA),Ho (dep+1) d->ang dep d ao=ao (sB (CC d (DN d))):=by
 rintro dep ⟨⟨ins,o⟩,q,m⟩ ⟨hd,hs⟩;have hd:dep < 9:=hd;obtain⟨r,hr⟩:∃r,jn q (dep+1) (ins,o) m=ao r:=bA.1 hs;have hF:DN ((ins,o),q,m)=(q,r):=by simp only[DN];rw[af4 au hr];rfl
 rw[aw1,hF]
 match ins,hr with
 |[],hr=>
  have hr:ao m=ao r:=hr;obtain rfl:=aP hr;rfl
 |[i],hr=>
  have a0:gY (0:Int) (((ag [i]):Nat):Int)=aT:=rfl;have a1:gI (0:Int) (((ag [i]):Nat):Int)=aT:=rfl;have a2:gY (1:Int) (((ag [i]):Nat):Int)=aR:=rfl;have a3:nth gB [i] 0=i:=rfl;have a4:(cd tH i.1.1 q).getD aJ=RR q i:=rfl;simp only[a0,a1,a2,a3,a4,aj,al];have hr:(match RR q i with | none=>ao m | some x=>if iP m (ao x)=aT then ao m else if i.1.2.1 < 0 then ao m else if(x.2.1.2.1.length:Int)<=i.1.2.1 then ao m else jn q dep x.2.1 (e7 dh (ao x) aT m))=ao r:=hr;cases hu:RR q i with
  |none=>
   rw[hu]at hr;obtain rfl:=aP hr;rfl
  |some x=>
   rw[hu]at hr;simp only at hr;have a5:(cd dh (ao x) m).getD aR=iP m (ao x):=rfl;simp only[Option.isNone_some,al,a5,ae];cases h1:iP m (ao x) with
   |true=>
    rw[if_pos h1]at hr;obtain rfl:=aP hr;rfl
   |false=>
    rw[if_neg (by rw[h1];decide)]at hr;rw[al];by_cases h2:i.1.2.1 < 0
    ·rw[if_pos h2]at hr;obtain rfl:=aP hr;rw[bm h2];rfl
    ·rw[if_neg h2]at hr;rw[bh h2,al];by_cases h3:(x.2.1.2.1.length:Int)<=i.1.2.1
     ·rw[if_pos h3]at hr;obtain rfl:=aP hr;rw[gM h3];rfl
     ·rw[if_neg h3]at hr;rw[eT h3,al];cases dep with
      |zero=>cases hr
      |succ dep=>
       rw[aku (dep:=dep+1) (d:=(x.2.1,q,e7 dh (ao x) aT m)) ⟨au,by rw[hr];rfl⟩];simp only[ae,CC,DN];rw[af4 au hr];rfl
 |_::_::_,hr=>cases hr
def anh:Entry:=MJ 3
def Vu:yA->Option Sl:=PE anh tG
theorem aqX{d:yA}(h:Ho 3 d):Vu d=ao (CC d (DN d)):=show(MJ 3).run (tG d).1 (tG d).2=_ from Entry.rO ZF h
theorem QW:∀dep,rp Tryz.prog 92 (MJ dep)
 | 0=>rp.of (an:=Vt) (N:=0) (fn:=Tryz.f92) cM (show Sound _ azW from Sound.nil _) cM cM cM (mM.fn 1 cM (And.intro (.none cM) trivial)) (λ_ h=>False.elim h)
 |dep+1=>rp.of (an:=Vt) (N:=3) (fn:=Tryz.f92) cM (show Sound _ (ani dep) from Sound.cons (B6.of (QW dep) (by rfl)) (Sound.lU (P:=Tryz.prog) [])) cM cM cM (mM.fn 1 cM (And.intro (.none cM) trivial)) (aw2 dep)
def aw3:SG Tryz.prog:=⟨92,qN,anh,.of (QW 3) (by rfl)⟩
abbrev FN:=dM×(List eA)×Int×Int×(List (Bs×eA))
abbrev QC:=(List (Bs×eA))
def vd:FN->QC->((dM)×((List (Bs×eA)))):=λ(oc,t11,t12,t13,n10) y=>(oc,y)
abbrev agt:=(List eA)×dM
def anV(row:List eA):Prop:=∀x∈row,x.isSome=aT
def asI(m:ayH)(x:eA):ayH:=match x with | none=>m | some w=>e7 tH w.2.2.1 (ao w) m
def yE(row:List eA):ayH:=row.foldl asI []
def l9(row:List eA)(t:dM):Mk:=(jn (yE row) 10 t []).getD []
def aC1(row:List eA)(t:dM):Prop:=anV row/\row.length<=1000/\(jn (yE row) 3 t []).isSome=aT
def akc:agt->Prop:=λ(row,t)=>aC1 row t
def FM:agt->((List (eA×Bool))):=λ(row,t)=>l9 row t
def XC:FN->Prop:=λ(t,l,n,i,m)=>(l).length<=1000000000/\∃k:Nat,k<=(l).length/\i=k/\n=(l).length/\(∀x∈l,x.isSome=aT)
def AQ:FN->QC:=λ(t,l,n,i,m)=>(bV (ab i) l).foldl asI m
def pT:Ls XC vd AQ:=yg (λ(oc,t11,t12,t13,n10)=>⟨([cq,cq,cq,.eI ee oc,cq,fu 5]++bf 5 ([.d (.slice dh) t11,.d ti t12,.d ti t13]++bf 16 [])),[],(bI 5 ([dG (.cO (.new 10 0) 0)]++bI 4 ([dG (.mp tH dh n10)]++bI 19 [])))⟩) (λx=>(.exit 0,⟨([cq,cq,cq,.eI ee x.1,cq,fu 5]++bf 24 []),[],(bI 5 ([dG (.cO (.new 10 0) 0)]++bI 4 ([dG (.mp tH dh x.2)]++bI 19 [])))⟩))
def tC:Fs Tryz.prog akc bG FM:=fV 48 Tryz.f48 (λ(row,t)=>([.d (.slice dh) row,.d ee t],[])) (λx=>⟨.cO (.new 0 0) 0,[],[.obj 0 aR (.mp dh .bool x)]⟩) [ao (.slice dh),ao ee] [aw3] {loops:=so [(3,{bp:=[3,5,11,12,13],sites:=[5,10]})],outs:=sm [(3,{bp:=[3,5],sites:=[5,10]},{bp:=[4]})],gS:=tt [(3,pT.E)]}
theorem XD:pT.RS:=rL [.d ee,.d (.slice dh),.d ti,.d ti,.d (.slice (.pair tH dh))] pT
theorem FO(oc t11 t12 t13 n10)(kn:K2 R)(kx:K3 R):tC.R 0 pT (oc,t11,t12,t13,n10) kn kx=aS (gY t13 t12) (aS (gI t13 (t11.length:Int)) (aq ((nth dh t11 (ab t13))) λx1=>kn (pT.st (oc,t11,t12,(bT .i64 t13 1),(e7 tH x1.2.2.1 (nth dh t11 (ab t13)) n10)))) aJ) (pT.go kx (oc,n10)):=cM
theorem aqx(row t)(k:K1 R):tC.A (row,t) k=aq (pT.call (t,row,(row.length:Int),0,([]:List (Bs×eA)))) λx2=>aq (Vu (x2.1,x2.2,([]:List (eA×Bool)))) λx3=>k (tC.out x3.2):=cM
theorem ab7:(tC.mM 0 pT):=by
 refine(tC.qG 0 pT) (λ(t,l,n,i,m)=>(l).length - ab i) ?_
 rintro⟨t,l,n,i,m⟩ ⟨hlen,k,hk,rfl,rfl,hs⟩;have hlen:(l).length<=1000000000:=hlen;have hk:k<=(l).length:=hk;have hs:∀x∈l,x.isSome=aT:=hs;by_cases h:k < (l).length
 ·left;have n1:nth dh l k=l[k]:=da (t:=dh) h;have hd:bV k l=l[k]::bV (k+1) l:=aC h;refine⟨(t,l,((l).length:Int),((k+1:Nat):Int),(asI m l[k])),⟨hlen,k+1,au,rfl,rfl,hs⟩,by simp only[aa];omega,?_,λkn kx=> ?_⟩
  ·simp only[vd,AQ,aa,hd,aX]
  ·rw[FO,bm au,bz au au,aa,n1];simp only[aj];obtain⟨w,hw⟩:=bA.1 (hs _ (aV h));simp only[hw,ae,asI];rw[N.nV au]
 ·right;obtain rfl:k=(l).length:=au;intro R kn kx;rw[FO,bh au,al];simp only[vd,AQ,aa,aU,db]
theorem aqy:tC.Ok:=by rintro⟨row,t⟩ ⟨hs,hl,hm⟩;have hl:row.length<=1000:=hl;rw[aqx,XD (d:=(t,row,(row.length:Int),0,[])) ⟨by show row.length<=_;omega,0,aN _,rfl,rfl,hs⟩];simp only[ae,vd,AQ,bo,aQ];rw[show List.foldl asI [] row=yE row from rfl,aqX (d:=(t,yE row,[])) ⟨eZ,hm⟩];rfl
theorem DI:tC.RS:=rE [.d (.slice dh),.d ee] tC
def Cx:=tC.gf aqy 1 ⟨.gA ab7,trivial⟩
abbrev yo:=(List eA)×dM
def tE:yo->SA:=λ(row,t)=>([.d (.slice dh) row,.d ee t],[])
def Cz:Int->ig:=λx=>⟨.d ti x,[],[]⟩
def yY:yo->Int->Int:=λ(row,t) y=>y
def tj(row:List eA):Nat->dM->Option Int
 | 0,_=>aJ
 |n+1,t=>if(jn (yE row) 3 t []).isSome=aT then(match l9 row t with
  |[]=>ao 1
  |[p]=>match p.1 with
   |none=>aJ
   |some x=>match tj row n x.2.1 with
    |none=>aJ
    |some d=>ao (bT .i64 (imax 0 d) 1)
  |_=>aJ) else aJ
theorem aeX{row:List eA}:∀ {n:Nat} {t:dM} {d:Int},tj row n t=ao d->tj row (n+1) t=ao d
 | 0,_,_,h=>by cases h
 |n+1,t,d,h=>by
  unfold tj at h ⊢;by_cases hm:(jn (yE row) 3 t []).isSome=aT
  case neg=>rw[if_neg hm]at h;cases h
  rw[if_pos hm]at h ⊢
  match l9 row t,h with
  |[],h=>exact h
  |[(aJ,b)],h=>cases h
  |[(ao x,b)],h=>
   simp only at h ⊢;cases hd:tj row n x.2.1 with
   |none=>rw[hd]at h;cases h
   |some e=>rw[hd]at h;rw[aeX hd];exact h
  |_::_::_,h=>cases h
theorem Tu{row:List eA}{t:dM}{d:Int}{n k:Nat}(hk:n<=k)(h:tj row n t=ao d):tj row k t=ao d:=by
 induction hk with
 |refl=>exact h
 |step _ ih=>exact aeX ih
def Hm:Nat->yo->Prop
 | 0=>λ_=>False
 |dep+1=>λ(row,t)=>(anV row/\row.length<=1000/\dep < 9)/\(tj row (dep+1) t).isSome=aT
def AR:yo->Int:=λ(row,t)=>(tj row 10 t).getD 0
theorem ZB:∀d d',tE d=tE d'->d=d':=afG [.d (.slice dh),.d ee] λ_=>cM
def Mw(dep:Nat):Entry:=Entry.of [ao (.slice dh),ao ee] tE (Hm dep) (λd=>yY d (AR d)) Cz
def AT(dep:Nat):yo->Option Int:=λd=>(Mw dep).run (tE d).1 (tE d).2
theorem akj{dep:Nat}{d:yo}(h:Hm dep d):AT dep d=ao (yY d (AR d)):=Entry.rO ZB h
def am5(dep:Nat):qi:=afi 49 qN (Mw dep) (lU (P:=Tryz.prog) [Cx])
def Va:w7:= {loops:=so [(3,{bp:=[0,5,10],sites:=[9,10,21]})],outs:=sm [(3,{bp:=[5],sites:=[9,10,21]},{bp:=[4],sites:=[9,10,21]})]}
def am3(dep:Nat):= @NL Tryz.prog (am5 dep) Va 3 Tryz.f49 _ tE
theorem awH(dep row t)(k:K1 R):am3 dep (row,t) k=aq (tC.call (row,t)) λx1=>aS (decide (0 < (ag x1))) (adx (ag x1) λj2=>aq ((pR dh .bool x1 j2).1) λx3=>aq (AT dep (row,x3.2.1)) λx4=>aS (decide (0 < (ag (List.eraseIdx x1 j2)))) (adx (ag (List.eraseIdx x1 j2)) λj5=>aq ((pR dh .bool (List.eraseIdx x1 j2) j5).1) λx6=>aq (AT dep (row,x6.2.1)) λx7=>aS (decide (0 < (ag (List.eraseIdx (List.eraseIdx x1 j2) j5)))) (adx (ag (List.eraseIdx (List.eraseIdx x1 j2) j5)) λj8=>aq ((pR dh .bool (List.eraseIdx (List.eraseIdx x1 j2) j5) j8).1) λx9=>aq (AT dep (row,x9.2.1)) λasi=>aJ) (k (Cz (bT .i64 (imax (imax (0:Int) x4) x7) (1:Int))))) (k (Cz (bT .i64 (imax (0:Int) x4) (1:Int))))) (k (Cz (1:Int))):=cM
theorem awI:∀(dep:Nat) (d:yo),Hm (dep+1) d->am3 dep d ao=ao (Cz (yY d (AR d))):=by
 rintro dep ⟨row,t⟩ ⟨⟨h1,h2,hd⟩,hs⟩;have hd:dep < 9:=hd;obtain⟨r,hr⟩:∃r,tj row (dep+1) t=ao r:=bA.1 hs;have hF:AR (row,t)=r:=by simp only[AR];rw[Tu au hr];rfl
 unfold tj at hr;by_cases hm:(jn (yE row) 3 t []).isSome=aT
 case neg=>rw[if_neg hm]at hr;cases hr
 rw[if_pos hm]at hr;rw[awH,hF,DI (d:=(row,t)) ⟨h1,h2,hm⟩];simp only[ae,bG,FM]
 match l9 row t,hr with
 |[],hr=>
  obtain rfl:=aP hr;rfl
 |[(aJ,b)],hr=>cases hr
 |[(ao x,b)],hr=>
  simp only at hr;cases ayN:tj row dep x.2.1 with
  |none=>rw[ayN]at hr;cases hr
  |some e=>
   rw[ayN]at hr;obtain rfl:=aP hr;cases dep with
   |zero=>cases ayN
   |succ dep=>
    have hc:=akj (dep:=dep+1) (d:=(row,x.2.1)) ⟨⟨h1,h2,au⟩,by rw[ayN];rfl⟩;simp only[yY,AR,Tu (show dep+1<=10 by omega) ayN,dz]at hc;rw[ba (show 0 < [((ao x:eA),b)].length from Nat.one_pos),aj];refine ai2 Nat.one_pos λj hj=> ?_
    obtain rfl:j=0:=by have hj:j < 1:=hj;omega
    show aq (ao x) _=_;rw[ae,hc,ae];rfl
 |_::_::_,hr=>cases hr
def am4:Entry:=Mw 3
def Vb:yo->Option Int:=PE am4 tE
theorem aqJ{d:yo}(h:Hm 3 d):Vb d=ao (yY d (AR d)):=show(Mw 3).run (tE d).1 (tE d).2=_ from Entry.rO ZB h
theorem QF:∀dep,rp Tryz.prog 49 (Mw dep)
 | 0=>rp.of (an:=Va) (N:=0) (fn:=Tryz.f49) cM (show Sound _ azW from Sound.nil _) cM cM cM (mM.fn 1 cM (And.intro (.none cM) trivial)) (λ_ h=>False.elim h)
 |dep+1=>rp.of (an:=Va) (N:=3) (fn:=Tryz.f49) cM (show Sound _ (am5 dep) from Sound.cons (B6.of (QF dep) (by rfl)) (Sound.lU (P:=Tryz.prog) [Cx])) cM cM cM (mM.fn 1 cM (And.intro (.none cM) trivial)) (awI dep)
def awJ:SG Tryz.prog:=⟨49,qN,am4,.of (QF 3) (by rfl)⟩
def arI(l:List cw)(x:j9):Bool:=l.any (abb x.1)
def jo(t:dM)(l:List cw):Bool:=t.1.any (arI l)
abbrev ano:=j9×(List cw)
def aq6:ano->Prop:=λ(_,l)=>l.length<=1000000
def aBl:ano->Bool:=λ(x,l)=>arI l x
def VF:Fs Tryz.prog aq6 bG aBl:=fV 91 Tryz.f91 (λ(i,t1)=>([.d gB i,.eI (.slice bM) t1],[])) (λx=>⟨.d .bool x,[],[]⟩) [ao gB,aJ] [ago]
theorem axg(i t1)(k:K1 R):VF.A (i,t1) k=aq (QA.call (t1,i.1)) λx1=>k (VF.out x1):=cM
theorem axh:VF.Ok:=by rintro⟨x,l⟩ hl;have hl:l.length<=1000000:=hl;rw[axg,Zw (d:=(l,x.1)) (by show l.length<=_;omega)];rfl
theorem aq7:VF.RS:=rE [.d gB,.d (.slice bM)] VF
def axi:=VF.gf axh
abbrev wc:=(List j9)×(List cw)×Int×Int
def nf:wc->AS:=λ(jw,f,t7,t8)=>⟨([.d (.slice gB) jw,.fn 91 (.cons (.eI (.slice bM) f) (.nil))]++bf 5 ([.d ti t7,.d ti t8]++bf 10 [])),[],(ai 19 [])⟩
def nL:Int->Exit×AS:=λx=>(.ret,⟨(bf 4 ([.d ti x]++bf 14 [])),[],(ai 19 [])⟩)
def vj:Unit->Exit×AS:=λx=>(.exit 0,⟨(bf 19 []),[],(ai 19 [])⟩)
abbrev FW:=(Int)⊕(Unit)
abbrev QO:=(Int)⊕(Unit)
def BE:FW->Out (Exit×AS):=λx=> .br x.isLeft (.get x.getLeft? λa=> .ok (nL a)) (.get x.getRight? λb=> .ok (vj b))
def jM:wc->QO->FW:=λ(jw,f,t7,t8) y=>match y with | .inl y=> .inl y | .inr z=> .inr (z)
abbrev agF:=(List j9)×(List cw)
def vi:wc->Prop:=λ(l,v,n,i)=>l.length<=1000000000/\(v.length<=1000000)/\n=l.length/\∃k:Nat,k<=l.length/\i=k
def mG:wc->QO:=λ(l,v,n,i)=>Bo (arI v) (l.drop i.toNat) i
def aks:agF->Prop:=λ(l,v)=>l.length<=1000000000/\(v.length<=1000000)
def Vj:agF->Int:=λ(l,v)=>Xn (arI v) l
def QN:=dW.gA nf vi jM mG BE
def FX:wc->Option FW:=iI QN nf
def wG:Fs Tryz.prog aks bG Vj:=fV 110 Tryz.f110 (λ(sv,fc)=>([.d (.slice gB) sv,.fn 91 (.cons (.eI (.slice bM) fc) (.nil))],[])) (λx=>⟨.d ti x,[],[]⟩) [ao (.slice gB),aJ] [axi] {loops:=so [(2,{bp:=[0,1,7,8]})],outs:=sm [(2,{},{bp:=[4]})],gS:=tt [(2,QN)]}
def FV:= @fh Tryz.prog (lU wG.G) wG.an 0 Tryz.f110 0 _ nf
abbrev MC:=mn Tryz.prog (lU wG.G) wG.an 0 Tryz.f110 0 nf vi jM mG BE
theorem XJ:kC FX vi jM mG:=og (na [.d (.slice gB),.d (.slice bM),.d ti,.d ti] λ_=>cM)
theorem JZ:qp @FV nf vi jM mG BE MC:=rA
theorem FY(jw f t7 t8)(kn:K2 R)(kx:K3 R):FV (jw,f,t7,t8) kn kx=aS (gY t8 t7) (aS (gI t8 (((ag jw):Nat):Int)) (aq (VF.call ((nth gB jw (ab t8)),f)) λx1=>aS (x1) (kx (nL t8).1 (nL t8).2) (kn (nf (jw,f,t7,(bT .i64 t8 (1:Int)))))) aJ) (kx (vj ()).1 (vj ()).2):=cM
theorem aqS(sv fc)(k:K1 R):wG.A (sv,fc) k=aq (FX (sv,fc,(sv.length:Int),0)) λx2=>aS x2.isLeft (aq x2.getLeft? λa3=>k (wG.out a3)) (aq x2.getRight? λb4=>k (wG.out (-1))):=cM
theorem acj:MC:=by
 refine JZ (λ(l,v,n,i)=>l.length - i.toNat) ?_
 rintro⟨l,v,n,i⟩ ⟨hb,hv,rfl,k,hk,rfl⟩;have hb:l.length<=1000000000:=hb;have hk:k<=l.length:=hk;by_cases h:k < l.length
 ·have n1:nth gB l k=l[k]:=da (t:=gB) h;have hd:Bo (arI v) (l.drop k) k=if arI v l[k] then .inl (k:Int) else Bo (arI v) (l.drop (k+1)) ((k+1:Nat):Int):=by rw[aC h];rfl
  have step:∀ {R:Type} (kn:AS->Option R) (kx:Exit->AS->Option R),FV (l,v,(l.length:Int),(k:Int)) kn kx=aS (arI v l[k]) (kx (nL (k:Int)).1 (nL (k:Int)).2) (kn (nf (l,v,(l.length:Int),((k+1:Nat):Int)))):=by intro R kn kx;rw[FY,bm au,bz au au,aa,n1,aq7 (d:=(l[k],v)) hv,N.nV au];rfl
  cases hp:arI v l[k]
  ·left;refine⟨(l,v,l.length,((k+1:Nat):Int)),⟨hb,hv,rfl,k+1,au,rfl⟩,by simp only[aa];omega,?_,λkn kx=> ?_⟩
   ·simp only[jM,mG,aa,hd,hp,bR,cF]
   ·rw[step,hp,al]
  ·right;refine⟨nL (k:Int),?_,λkn kx=> ?_⟩
   ·simp only[jM,mG,aa,hd,hp,cY];rfl
   ·rw[step,hp,aj]
 ·right;obtain rfl:k=l.length:=au;refine⟨vj (),?_,λkn kx=> ?_⟩
  ·simp only[jM,mG,aa,aU];rfl
  ·rw[FY,bh au,al]
theorem aqT:wG.Ok:=by rintro⟨l,v⟩ ⟨hb,hv⟩;rw[aqS,XJ (d:=(l,v,l.length,0)) ⟨hb,hv,rfl,0,au,rfl⟩];simp only[ae,jM,mG,bo,aQ,bG,Vj,Xn];cases Bo (arI v) l 0 <;> rfl
theorem akt:wG.RS:=rE [.d (.slice gB),.d (.slice bM)] wG
def aqU:=wG.gf aqT 1 ⟨.gA acj,trivial⟩
abbrev agE:=(List j9)×(List cw)
def ako:agE->Prop:=λ(l,v)=>l.length<=1000000000/\v.length<=1000000
def awT:agE->Bool:=λ(l,v)=>l.any (arI v)
def JX:Fs Tryz.prog ako bG awT:=fV 70 Tryz.f70 (λ(sv,fc)=>([.d (.slice gB) sv,.fn 91 (.cons (.eI (.slice bM) fc) (.nil))],[])) (λx=>⟨.d .bool x,[],[]⟩) [ao (.slice gB),aJ] [aqU]
theorem aqM(sv fc)(k:K1 R):JX.A (sv,fc) k=aq (wG.call (sv,fc)) λx1=>k (JX.out (Bp x1 0)):=cM
theorem aqN:JX.Ok:=by rintro⟨l,v⟩ ⟨hb,hv⟩;rw[aqM,akt (d:=(l,v)) ⟨hb,hv⟩];simp only[ae,bG,Vj,LR];rfl
theorem akp:JX.RS:=rE [.d (.slice gB),.d (.slice bM)] JX
def aqO:=JX.gf aqN
abbrev ZI:=dM×(List cw)
def agS:ZI->Prop:=λ(t,l)=>t.1.length<=1000000000/\l.length<=1000000
def ZJ:ZI->Bool:=λ(t,l)=>jo t l
def vm:Fs Tryz.prog agS bG ZJ:=fV 46 Tryz.f46 (λ(t,l)=>([.d ee t,.d (.slice bM) l],[])) (λx=>⟨.d .bool x,[],[]⟩) [ao ee,ao (.slice bM)] [aqO]
theorem akD(t l)(k:K1 R):vm.A (t,l) k=aq (JX.call (t.1,l)) λx1=>k (vm.out x1):=cM
theorem akE:vm.Ok:=by rintro⟨t,l⟩ ⟨hb,hv⟩;rw[akD,akp (d:=(t.1,l)) ⟨hb,hv⟩];rfl
theorem QX:vm.RS:=rE [.d ee,.d (.slice bM)] vm
def VE:=vm.gf akE
def ayx:Int->Prop:=λ_=>True
def adj:Int->Bool:=λ_=>aR
def ahR:Fs Tryz.prog ayx bG adj:=fV 137 Tryz.f137 (λx=>([.d tu x],[])) (λx=>⟨.d .bool x,[],[]⟩) [ao tu]
theorem aBT(x)(k:K1 R):ahR.A x k=k (ahR.out (JE x x)):=cM
theorem aBU:ahR.Ok:=by intro x _;rw[aBT];simp only[bG,adj,eU rfl]
theorem ahS:ahR.RS:=rE [.d tu] ahR
def aBV:=ahR.gf aBU
def ayw:(Int×Int)->Prop:=λ_=>True
def adi:(Int×Int)->Int:=λ(x,y)=>N4 x y
def Pg:Fs Tryz.prog ayw bG adi:=fV 94 Tryz.f94 (λ(x,yv)=>([.d tu x,.d tu yv],[])) (λx=>⟨.d ti x,[],[]⟩) [ao tu,ao tu] [aBV]
theorem aBQ(x yv)(k:K1 R):Pg.A (x,yv) k=aq (ahR.call x) λx1=>aq (ahR.call yv) λx2=>aS (x1) (aS (x2) (k (Pg.out 0)) (k (Pg.out (-1)))) (aS (x2) (k (Pg.out 1)) (aS (gY x yv) (k (Pg.out (-1))) (aS (Ak x yv) (k (Pg.out 1)) (k (Pg.out 0))))):=cM
theorem aBR:Pg.Ok:=by
 rintro⟨x,y⟩ _;rw[aBQ,ahS (d:=x) trivial];simp only[ae,bG,adj];rw[ahS (d:=y) trivial];simp only[ae,bG,adj,al,bG,adi,N4];by_cases h:x < y
 ·rw[bm h,aj,if_pos h]
 ·rw[bh h,al,if_neg h];by_cases h2:x > y
  ·rw[dT h2,aj,if_pos h2]
  ·rw[du h2,al,if_neg h2]
theorem ahQ:Pg.RS:=rE [.d tu,.d tu] Pg
def aBS:=Pg.gf aBR
theorem adh(x:Int):0<=eD .u64 x/\eD .u64 x < 18446744073709551616:=by rw[amw,mm];omega
def azy(a b c d:Int):Int:=aEF [N4 (eD .u64 a*eD .u64 b / 18446744073709551616) (eD .u64 c*eD .u64 d / 18446744073709551616),N4 (eD .u64 a*eD .u64 b%18446744073709551616) (eD .u64 c*eD .u64 d%18446744073709551616)]
abbrev awA:=Int×Int×Int×Int
def awC:awA->Prop:=λ_=>True
def awB:awA->Int:=λ(a,b,c,d)=>azy a b c d
def agz:Fs Tryz.prog awC bG awB:=fV 51 Tryz.f51 (λ(a,b,c,d)=>([.d ti a,.d ti b,.d ti c,.d ti d],[])) (λx=>⟨.d ti x,[],[]⟩) [ao ti,ao ti,ao ti,ao ti] [Uz,aBS,atQ]
theorem aA5(a b c d)(k:K1 R):agz.A (a,b,c,d) k=aq (FH.call ((eD .u64 a),(eD .u64 b))) λx1=>aq (FH.call ((eD .u64 c),(eD .u64 d))) λx2=>aq (Pg.call (x1.1,x2.1)) λx3=>aq (Pg.call (x1.2,x2.2)) λx4=>aq (aoS.call [x3,x4]) λx5=>k (agz.out x5):=cM
theorem aA6:agz.Ok:=by rintro⟨a,b,c,d⟩ _;rw[aA5,Hl (d:=(eD .u64 a,eD .u64 b)) ⟨adh a,adh b⟩,Hl (d:=(eD .u64 c,eD .u64 d)) ⟨adh c,adh d⟩];simp only[ae,bG,Mg];rw[ahQ (d:=(eD .u64 a*eD .u64 b / 18446744073709551616,eD .u64 c*eD .u64 d / 18446744073709551616)) trivial];simp only[ae,bG,adi];rw[ahQ (d:=(eD .u64 a*eD .u64 b%18446744073709551616,eD .u64 c*eD .u64 d%18446744073709551616)) trivial];simp only[ae,bG,adi];rw[al6 (d:=[N4 (eD .u64 a*eD .u64 b / 18446744073709551616) (eD .u64 c*eD .u64 d / 18446744073709551616),N4 (eD .u64 a*eD .u64 b%18446744073709551616) (eD .u64 c*eD .u64 d%18446744073709551616)]) (by show 2<=_;decide)];rfl
theorem awD:agz.RS:=rE [.d ti,.d ti,.d ti,.d ti] agz
def am1:=agz.gf aA6
abbrev ayW:=eA×((List eA)×(Int×(Int×Unit)))
def aJu(x:eA):Bs:=match x with | none=> [] | some w=>w.2.2.1
def YS(b o:ayW):Bool:=if azy b.2.2.1 o.2.2.2.1 o.2.2.1 b.2.2.2.1 > 0 then aT else if azy b.2.2.1 o.2.2.2.1 o.2.2.1 b.2.2.2.1=0 then decide (S3 (aJu b.1) (aJu o.1) < 0) else aR
abbrev am2:=(eA×((List eA)×(Int×(Int×Unit))))×(eA×((List eA)×(Int×(Int×Unit))))
def aqH:am2->Prop:=λ(b,o)=>(∃w,b.1=ao w/\w.2.2.1.length=32)/\(∃w,o.1=ao w/\w.2.2.1.length=32)
def ace:am2->Bool:=λ(b,o)=>YS b o
def Mv:Fs Tryz.prog aqH bG ace:=fV 95 Tryz.f95 (λ(b,o)=>([.d (.pair dh (.pair (.slice dh) (.pair ti (.pair ti .unit)))) b,.d (.pair dh (.pair (.slice dh) (.pair ti (.pair ti .unit)))) o],[])) (λx=>⟨.d .bool x,[],[]⟩) [ao (.pair dh (.pair (.slice dh) (.pair ti (.pair ti .unit)))),ao (.pair dh (.pair (.slice dh) (.pair ti (.pair ti .unit))))] [am1,alQ]
theorem awE(b o)(k:K1 R):Mv.A (b,o) k=aq (agz.call (b.2.2.1,o.2.2.2.1,o.2.2.1,b.2.2.2.1)) λx1=>aS (Ak x1 0) (k (Mv.out aT)) (aS (EM x1 0) (aq (b.1) λx2=>aq (o.1) λx3=>aq (adW.call ((cut x2.2.2.1 0 32),(cut x3.2.2.1 0 32))) λx4=>k (Mv.out (gY x4 0))) (k (Mv.out aR))):=cM
theorem awF:Mv.Ok:=by
 rintro⟨⟨b0,b⟩,⟨o0,o⟩⟩ ⟨⟨w,hw,lw⟩,⟨v,hv,lv⟩⟩;have hw:b0=ao w:=hw;have hv:o0=ao v:=hv;subst hw;subst hv;rw[awE,awD (d:=(b.2.1,o.2.2.1,o.2.1,b.2.2.1)) trivial];simp only[ae,bG,awB,bG,ace,YS,aJu];generalize azy b.2.1 o.2.2.1 o.2.1 b.2.2.1=n;by_cases h1:n > 0
 ·rw[dT h1,aj,if_pos h1]
 ·rw[du h1,al,if_neg h1];by_cases h2:n=0
  ·rw[lk h2,aj,if_pos h2,fA lw,fA lv,adX (d:=(w.2.2.1,v.2.2.1)) trivial];simp only[ae,bG,aij,gY];rfl
  ·rw[kL h2,al,if_neg h2]
theorem aqI:Mv.RS:=rE [.d (.pair dh (.pair (.slice dh) (.pair ti (.pair ti .unit)))),.d (.pair dh (.pair (.slice dh) (.pair ti (.pair ti .unit))))] Mv
def awG:=Mv.gf awF
def aqV:dM->Prop:=λt=>wX t/\iF t=aT
def Sk:dM->dM:=λt=>t
def QP:Fs Tryz.prog aqV bG Sk:=fV 43 Tryz.f43 (λt=>([.d ee t],[])) (λx=>⟨.d ee x,[],[]⟩) [ao ee] [arY,ayi]
theorem awU(t)(k:K1 R):QP.A t k=aq (tS.call t) λx1=>aq (lS.call x1) λx2=>k (QP.out x2.1):=cM
theorem awV:QP.Ok:=by rintro t ⟨hv,iO⟩;have bl:=ase hv;rw[awU,alj (d:=t) hv];simp only[ae,bG,Wx];rw[ar5 (d:=aBP t) ⟨bl.1,by have:=bl.2;omega⟩];simp only[ae,bG,ac1,bG,Sk];rw[akL hv iO]
theorem ZD:QP.RS:=rE [.d ee] QP
def agG:=QP.gf awV
abbrev akv:=Int×Nat×(List (cw×eS))×(List cZ)
def Vv:akv->Bool->((Nat×(List (cw×eS))×(List cZ))×(Bool)):=λ(height,o0baL,o1,o2) y=>((o0baL,o1,o2),y)
def aw4:akv->Prop:=λ_=>True
def akw:akv->Bool:=λ(h,_)=>decide (1<=h/\h<=1048576)
def agK:Fs Tryz.prog aw4 Vv akw:=fV 37 Tryz.f37 (λ(height,o0baL,o1,o2)=>([.ptr (.bF 0) 0 [] 0,.d ti height],[.obj 0 aR (.pr (.cO (.bF 1) 0) (.pr (.b8 (.bF 2) 0 [] 0 0 o0baL) (.d .unit ()))),.obj 0 aR (.mp bM eO o1),.obj 0 aR (.vec 139 cC o2)])) (λx=>⟨.d .bool x.2,[.obj 0 aR (.pr (.cO (.bF 1) 0) (.pr (.b8 (.bF 2) 0 [] 0 0 x.1.1) (.d .unit ()))),.obj 0 aR (.mp bM eO x.1.2.1),.obj 0 aR (.vec 139 cC x.1.2.2)],[]⟩) [aJ,ao ti]
theorem aBa(height o0baL o1 o2)(k:K1 R):agK.A (height,o0baL,o1,o2) k=aS (Bp height 1) (k (agK.out ((o0baL,o1,o2),(adB height 1048576)))) (k (agK.out ((o0baL,o1,o2),aR))):=cM
theorem aBb:agK.Ok:=by
 rintro⟨h,n,a,s⟩ _;rw[aBa];simp only[Vv,akw];by_cases h1:1<=h
 ·rw[gM h1,aj];by_cases h2:h<=1048576
  ·rw[oO h2,ba ⟨h1,h2⟩]
  ·rw[mg h2,bE λe=>h2 e.2]
 ·rw[eT h1,al,bE λe=>h1 e.1]
theorem aw5:agK.RS:=rE [.d ti,.n,.d (.slice (.pair bM eO)),.d (.slice cC)] agK
def aBc:=agK.gf aBb
abbrev Vw:=Int×Nat×(List (cw×eS))×(List cZ)
def acq:Vw->SA:=λ(height,o0baL,o1,o2)=>([.ptr (.bF 0) 0 [] 0,.d ti height],[dC (.pr (.cO (.bF 1) 0) (.pr (.b8 (.bF 2) 0 [] 0 0 o0baL) kK)),dC (.mp bM eO o1),dC (.vec 139 cC o2)])
abbrev axb:=(Nat×(List (cw×eS))×(List cZ))⊕(Nat×(List (cw×eS))×(List cZ)×(Int×((List eA)×Unit))×Nat×(List (cw×eS))×(List cZ))
abbrev aky:=(Nat×(List (cw×eS))×(List cZ))⊕(Nat×(List (cw×eS))×(List cZ)×(Int×((List eA)×Unit))×Nat×(List (cw×eS))×(List cZ))
def ML:aky->ig:=λx=>match x with | .inl x=>⟨.kh,[dC (.pr (.cO (.bF 1) 0) (.pr (.b8 (.bF 2) 0 [] 0 0 x.1) kK)),dC (.mp bM eO x.2.1),dC (.vec 139 cC x.2.2)],[]⟩ | .inr x=>⟨fu 0,[dC (.pr (.cO (.bF 1) 0) (.pr (.b8 (.bF 2) 0 [] 0 0 x.1) kK)),dC (.mp bM eO x.2.1),dC (.vec 139 cC x.2.2.1)],[dC (.pr (.ptr (.new 0 1) 0 [] 0) (.d (.pair ti (.pair (.slice dh) .unit)) x.2.2.2.1)),dC (.pr (.cO (.new 0 2) 0) (.pr (.b8 (.new 0 3) 0 [] 0 0 x.2.2.2.2.1) kK)),dC (.mp bM eO x.2.2.2.2.2.1),dC (.vec 139 cC x.2.2.2.2.2.2)]⟩
def MK:Vw->axb->aky:=λ(height,o0baL,o1,o2) y=>match y with | .inl y=> .inl y | .inr y=> .inr y
abbrev aHH:=Int×((List eA)×Unit)
def Vx:Vw->Prop:=λ(_,n,a,s)=>sN 500 n a s
def acp:Vw->axb:=λ(h,n,a,s)=>if 1<=h/\h<=1048576 then .inr (n,a,s,(h,([],())),n,eP a,s.take n) else .inl (n,a,s)
def aEM:qi:=lU (P:=Tryz.prog) [aBc,G8]
def aBh:w7:= {bN:=[13],Lu:=[⟨4,[.snd,.snd,.fst],(.slice dh)⟩]}
def aw9:= @NL Tryz.prog aEM aBh 0 Tryz.f18 _ acq
abbrev aBg:=anS @aw9 Vx MK acp ML
theorem aBi(height o0baL o1 o2)(k:K1 R):aw9 (height,o0baL,o1,o2) k=aq (agK.call (height,o0baL,o1,o2)) λx1=>aS (!x1.2) (k (ML (.inl (x1.1.1,x1.1.2.1,x1.1.2.2)))) (aq (te.call (x1.1.1,x1.1.2.1,x1.1.2.2)) λx2=>k (ML (.inr (x2.1,x2.2.1,x2.2.2.1,(height,(([]:List eA),())),x2.2.2.2.1,x2.2.2.2.2.1,x2.2.2.2.2.2)))):=cM
theorem aBj:aBg:=by
 rintro⟨h,n,a,s⟩ hg;have hg:sN 500 n a s:=hg;obtain⟨hc,hl⟩:=hg.canon;rw[aBi,aw5 (d:=(h,n,a,s)) trivial];simp only[ae,Vv,akw,MK,acp];by_cases hh:1<=h/\h<=1048576
 ·rw[ba hh,if_pos hh,cG,al,hg.copy au];simp only[ae,hl]
 ·rw[bE hh,if_neg hh,eY,aj]
def axa:=Entry.ajV [aJ,ao ti] acq Vx MK acp ML
def OP:Vw->Option aky:=PE axa acq
theorem axc:kC OP Vx MK acp:=anw (afG [.d ti,.n,.d (.slice (.pair bM eO)),.d (.slice cC)] λ_=>cM)
def aBk:SG Tryz.prog:=⟨18,qN,axa,.of (.aHw (.fn 0 cM aBj trivial)) (by rfl)⟩
abbrev zM:=Bs×(List eA)×Int×Int×(Int×((List eA)×Unit))×Nat×(List (cw×eS))×(List cZ)
def sy:zM->AS:=λ(apF,t10,t11,t12,o0,o1L,di,oY)=>⟨([cq,cq,cq,.eI tH apF]++bf 6 ([.d (.slice dh) t10,.d ti t11,.d ti t12]++bf 11 [])),[dC (.pr (.ptr (.bF 1) 0 [] 0) (.d (.pair ti (.pair (.slice dh) .unit)) o0)),dC (.pr (.cO (.bF 2) 0) (.pr (.b8 (.bF 3) 0 [] 0 0 o1L) kK)),dC (.mp bM eO di),dC (.vec 139 cC oY)],(ai 24 [])⟩
abbrev QH:=((Int×((List eA)×Unit))×Nat×(List (cw×eS))×(List cZ))×(eA)
def yq:QH->Exit×AS:=λ((a,b,c,e),f)=>(.ret,⟨(bf 4 ([.d dh f]++bf 19 [])),[dC (.pr (.ptr (.bF 1) 0 [] 0) (.d (.pair ti (.pair (.slice dh) .unit)) a)),dC (.pr (.cO (.bF 2) 0) (.pr (.b8 (.bF 3) 0 [] 0 0 b) kK)),dC (.mp bM eO c),dC (.vec 139 cC e)],(ai 24 [])⟩)
abbrev QI:=(Int×((List eA)×Unit))×Nat×(List (cw×eS))×(List cZ)
def yr:QI->Exit×AS:=λ(a,b,c,e)=>(.exit 0,⟨(bf 24 []),[dC (.pr (.ptr (.bF 1) 0 [] 0) (.d (.pair ti (.pair (.slice dh) .unit)) a)),dC (.pr (.cO (.bF 2) 0) (.pr (.b8 (.bF 3) 0 [] 0 0 b) kK)),dC (.mp bM eO c),dC (.vec 139 cC e)],(ai 24 [])⟩)
abbrev JW:=(QH)⊕(QI)
abbrev Ve:=(eA)⊕(Unit)
def DJ:JW->Out (Exit×AS):=λx=> .br x.isLeft (.get x.getLeft? λa=> .ok (yq a)) (.get x.getRight? λb=> .ok (yr b))
def lA:zM->Ve->JW:=λ(apF,t10,t11,t12,o0,o1L,di,oY) y=>match y with | .inl y=> .inl ((o0,o1L,di,oY),y) | .inr z=> .inr ((o0,o1L,di,oY))
abbrev Mx:=Bs×(Int×((List eA)×Unit))×Nat×(List (cw×eS))×(List cZ)
def Vh:Mx->SA:=λ(id,o0b,o1baL,o2,o3)=>([.ptr (.bF 0) 0 [] 0,.d tH id],[dC (.pr (.ptr (.bF 1) 0 [] 0) (.d (.pair ti (.pair (.slice dh) .unit)) o0b)),dC (.pr (.cO (.bF 2) 0) (.pr (.b8 (.bF 3) 0 [] 0 0 o1baL) kK)),dC (.mp bM eO o2),dC (.vec 139 cC o3)])
abbrev am8:=(eA×(Int×((List eA)×Unit))×Nat×(List (cw×eS))×(List cZ))⊕((Int×((List eA)×Unit))×Nat×(List (cw×eS))×(List cZ))
abbrev ach:=(eA×(Int×((List eA)×Unit))×Nat×(List (cw×eS))×(List cZ))⊕((Int×((List eA)×Unit))×Nat×(List (cw×eS))×(List cZ))
def Hn:ach->ig:=λx=>match x with | .inl x=>⟨.d dh x.1,[dC (.pr (.ptr (.bF 1) 0 [] 0) (.d (.pair ti (.pair (.slice dh) .unit)) x.2.1)),dC (.pr (.cO (.bF 2) 0) (.pr (.b8 (.bF 3) 0 [] 0 0 x.2.2.1) kK)),dC (.mp bM eO x.2.2.2.1),dC (.vec 139 cC x.2.2.2.2)],[]⟩ | .inr x=>⟨.kh,[dC (.pr (.ptr (.bF 1) 0 [] 0) (.d (.pair ti (.pair (.slice dh) .unit)) x.1)),dC (.pr (.cO (.bF 2) 0) (.pr (.b8 (.bF 3) 0 [] 0 0 x.2.1) kK)),dC (.mp bM eO x.2.2.1),dC (.vec 139 cC x.2.2.2)],[]⟩
def CA:Mx->am8->ach:=λ(id,o0b,o1baL,o2,o3) y=>match y with | .inl y=> .inl y | .inr y=> .inr y
def aG0(id:Bs)(x:eA):Bool:=match x with | none=>aR | some w=>decide (w.2.2.1=id)
def Fk(id:Bs)(row:List eA):Option eA:=row.find? (aG0 id)
def yp:zM->Prop:=λ(_,l,n,i,_)=>(anV l/\l.length<=1000)/\n=(l.length:Int)/\∃k:Nat,k<=l.length/\i=k
def o8:zM->Ve:=λ(id,l,_,i,_)=>match Fk id (l.drop i.toNat) with | some x=> .inl x | none=> .inr ()
def OL:Mx->Prop:=λ(_,p,_)=>anV p.2.1/\p.2.1.length<=1000
def My:Mx->am8:=λ(id,p,n,a,s)=>match Fk id p.2.1 with | some x=> .inl (x,p,n,a,s) | none=> .inr (p,n,a,s)
def acf:qi:=lU (P:=Tryz.prog) []
def Vc:=dW.gA sy yp lA o8 DJ
def Ii:zM->Option JW:=iI Vc sy
def Vf:w7:= {loops:=so [(2,{bp:=[3,10,11,12]})],outs:=sm [(2,{},{bp:=[4]})],gS:=tt [(2,Vc)]}
def am6:= @NL Tryz.prog acf Vf 0 Tryz.f90 _ Vh
abbrev awM:=anS @am6 OL CA My Hn
def Vd:= @fh Tryz.prog acf Vf 0 Tryz.f90 0 _ sy
abbrev QG:=mn Tryz.prog acf Vf 0 Tryz.f90 0 sy yp lA o8 DJ
theorem acg:kC Ii yp lA o8:=og (na [.d tH,.d (.slice dh),.d ti,.d ti,.d (.pair ti (.pair (.slice dh) .unit)),.n,.d (.slice (.pair bM eO)),.d (.slice cC)] λ_=>cM)
theorem Mz:qp @Vd sy yp lA o8 DJ QG:=rA
theorem BC(apF t10 t11 t12 o0 o1L di oY)(kn:K2 R)(kx:K3 R):Vd (apF,t10,t11,t12,o0,o1L,di,oY) kn kx=aS (gY t12 t11) (aS (gI t12 (((ag t10):Nat):Int)) (aq ((nth dh t10 (ab t12))) λx1=>aS (Ty.beq tH x1.2.2.1 apF) (kx (yq ((o0,o1L,di,oY),(nth dh t10 (ab t12)))).1 (yq ((o0,o1L,di,oY),(nth dh t10 (ab t12)))).2) (kn (sy (apF,t10,t11,(bT .i64 t12 (1:Int)),o0,o1L,di,oY)))) aJ) (kx (yr (o0,o1L,di,oY)).1 (yr (o0,o1L,di,oY)).2):=cM
theorem awN(id o0b o1baL o2 o3)(k:K1 R):am6 (id,o0b,o1baL,o2,o3) k=aq (Ii (id,o0b.2.1,(((ag o0b.2.1):Nat):Int),(0:Int),o0b,o1baL,o2,o3)) λx2=>aS x2.isLeft (aq x2.getLeft? λa3=>k (Hn (.inl (a3.2,a3.1.1,a3.1.2.1,a3.1.2.2.1,a3.1.2.2.2)))) (aq x2.getRight? λb4=>k (Hn (.inr (b4.1,b4.2.1,b4.2.2.1,b4.2.2.2)))):=cM
theorem agB:QG:=by
 refine Mz (λ(_,l,_,i,_)=>l.length - i.toNat) ?_
 rintro⟨id,l,n,i,p,c,a,s⟩ ⟨⟨hs,hl⟩,rfl,k,hk,rfl⟩;have hl:l.length<=1000:=hl;have hk:k<=l.length:=hk;by_cases h:k < l.length
 ·have n1:nth dh l k=l[k]:=da (t:=dh) h;have hd:l.drop k=l[k]::l.drop (k+1):=aC h;obtain⟨w,hw⟩:=bA.1 (hs _ (aV h));rw[hw]at n1 hd;by_cases hi:w.2.2.1=id
  ·right;refine⟨yq ((p,c,a,s),ao w),?_,λkn kx=> ?_⟩;rotate_left
   ·rw[BC,bm au,aj,bz au au,aj,aa,n1,ae,Rs,ba hi,aj]
   ·have e:Fk id (l.drop k)=ao (ao w):=by rw[hd,Fk,List.find?_cons_of_pos (by show decide _=aT;exact ba hi)]
    simp only[lA,o8,aa,e];rfl
  ·left;refine⟨(id,l,(l.length:Int),((k+1:Nat):Int),p,c,a,s),⟨⟨hs,hl⟩,rfl,k+1,h,rfl⟩,by simp only[aa];omega,?_,λkn kx=> ?_⟩
   ·have e:Fk id (l.drop k)=Fk id (l.drop (k+1)):=by rw[hd,Fk,List.find?_cons_of_neg (by show ¬decide _=aT;rw[bE hi];decide)];rfl
    simp only[lA,o8,aa,e]
   ·rw[BC,bm au,aj,bz au au,aj,aa,n1,ae,Rs,bE hi,al,N.nV au]
 ·right;obtain rfl:k=l.length:=au;refine⟨yr (p,c,a,s),?_,λkn kx=> ?_⟩;rotate_left
  ·rw[BC,bh au,al]
  ·simp only[lA,o8,aa,aU];rfl
theorem awO:awM:=by
 rintro⟨id,p,n,a,s⟩ ⟨hs,hl⟩;rw[awN,acg (d:=(id,p.2.1,(p.2.1.length:Int),0,p,n,a,s)) ⟨⟨hs,hl⟩,rfl,0,aN _,rfl⟩];simp only[ae,lA,o8,bo,aQ,CA,My];cases Fk id p.2.1 with
 |none=>rfl
 |some x=>rfl
def am7:=Entry.ajV [aJ,ao tH] Vh OL CA My Hn
def Vg:Mx->Option ach:=PE am7 Vh
theorem aqK:kC Vg OL CA My:=anw (afG [.d tB,.d (.pair ti (.pair (.slice dh) .unit)),.n,.d (.slice (.pair bM eO)),.d (.slice cC)] λ_=>cM)
def awP:SG Tryz.prog:=⟨90,qN,am7,.of (.aHw (.fn 1 cM awO (And.intro (.gA agB cM) trivial))) (by rfl)⟩
abbrev awQ:=Bs×(Int×((List eA)×Unit))×Nat×(List (cw×eS))×(List cZ)
def awR:awQ->Prop:=λ(_,p,_)=>anV p.2.1/\p.2.1.length<=1000
def akn:awQ->(Bool×(Int×((List eA)×Unit))×Nat×(List (cw×eS))×(List cZ)):=λ(id,p,n,a,s)=>((Fk id p.2.1).isSome,p,n,a,s)
def agC:Fs Tryz.prog awR bG akn:=fV 45 Tryz.f45 (λ(id,o0b,o1baL,o2,o3)=>([.ptr (.bF 0) 0 [] 0,.d tH id],[.obj 0 aR (.pr (.ptr (.bF 1) 0 [] 0) (.d (.pair ti (.pair (.slice dh) .unit)) o0b)),.obj 0 aR (.pr (.cO (.bF 2) 0) (.pr (.b8 (.bF 3) 0 [] 0 0 o1baL) (.d .unit ()))),.obj 0 aR (.mp bM eO o2),.obj 0 aR (.vec 139 cC o3)])) (λx=>⟨.d .bool x.1,[.obj 0 aR (.pr (.ptr (.bF 1) 0 [] 0) (.d (.pair ti (.pair (.slice dh) .unit)) x.2.1)),.obj 0 aR (.pr (.cO (.bF 2) 0) (.pr (.b8 (.bF 3) 0 [] 0 0 x.2.2.1) (.d .unit ()))),.obj 0 aR (.mp bM eO x.2.2.2.1),.obj 0 aR (.vec 139 cC x.2.2.2.2)],[]⟩) [aJ,ao tH] [awP]
theorem aA7(id o0b o1baL o2 o3)(k:K1 R):agC.A (id,o0b,o1baL,o2,o3) k=aq (Vg (id,o0b,o1baL,o2,o3)) λx1=>aS x1.isLeft (aq x1.getLeft? λaB2=>k (agC.out ((!(Option.isNone aB2.1)),aB2.2.1,aB2.2.2.1,aB2.2.2.2.1,aB2.2.2.2.2))) (aq x1.getRight? λaCX=>k (agC.out (aR,aCX.1,aCX.2.1,aCX.2.2.1,aCX.2.2.2))):=cM
theorem aA8:agC.Ok:=by
 rintro⟨id,p,n,a,s⟩ ⟨hs,hl⟩;rw[aA7,aqK (d:=(id,p,n,a,s)) ⟨hs,hl⟩];simp only[ae,CA,My,bG,akn];cases h:Fk id p.2.1 with
 |none=>rfl
 |some x=>
  have hx:x.isSome=aT:=hs _ (List.mem_of_find?_eq_some h);obtain⟨w,rfl⟩:=bA.1 hx;rfl
theorem awS:agC.RS:=rE [.d tB,.d (.pair ti (.pair (.slice dh) .unit)),.n,.d (.slice (.pair bM eO)),.d (.slice cC)] agC
def aA9:=agC.gf aA8
def asA(w:Nat×y4):Prop:=wX w.2.1/\iF w.2.1=aT/\w.2.2.1.length=32
def ES(row:List eA):Prop:=row.length<=90/\∀x∈row,∃w,x=ao w/\asA w
theorem ES.some{row:List eA}(h:ES row):anV row:=λx hx=>by obtain⟨w,rfl,_⟩:=h.2 x hx;rfl
def JI(h:Int)(m:Mk)(S:asE)(x:eA):asE:=match x with | none=>S | some w=>if iP m (ao w)=aT then EU h S w.2.1 else S
def aEp(h:Int)(row:List eA)(t:dM)(S:asE):asE:=row.foldl (JI h (l9 row t)) S
abbrev FQ:=dM×(List eA)×Int×Int×(Int×((List eA)×Unit))×Nat×(List (cw×eS))×(List cZ)×(List (eA×Bool))×Nat×(List (cw×eS))×(List cZ)
abbrev QD:=Nat×(List (cw×eS))×(List cZ)
def nK:FQ->QD->((dM×(Int×((List eA)×Unit))×Nat×(List (cw×eS))×(List cZ))×(Nat×(List (cw×eS))×(List cZ))):=λ(oc,t20,t21,t22,o0,o1L,di,oY,n14,ajX,n19,zF) y=>((oc,o0,o1L,di,oY),y)
abbrev agy:=(List eA)×dM×(Int×((List eA)×Unit))×Nat×(List (cw×eS))×(List cZ)
def XE:FQ->Prop:=λ(_,l,m,i,_,_,_,_,_,n,a,s)=>ES l/\m=(l.length:Int)/\∃k:Nat,k<=l.length/\i=k/\sN (300+k) n a s
def sx:FQ->QD:=λ(_,l,_,i,p,_,_,_,m,n,a,s)=>(l.drop i.toNat).foldl (JI p.1 m) (n,a,s)
def akg:agy->Prop:=λ(row,t,_,n,a,s)=>ES row/\(jn (yE row) 3 t []).isSome=aT/\wX t/\sN 300 n a s
def EL(h:Int)(row:List eA)(t:dM)(n:Nat)(a:At)(s:List cZ):Int×Int:=dJ t h (aEp h row t (n,eP a,s.take n)).2.1
def U8:agy->(Int×Int×(Int×((List eA)×Unit))×Nat×(List (cw×eS))×(List cZ)):=λ(row,t,p,n,a,s)=>((EL p.1 row t n a s).1,(EL p.1 row t n a s).2,p,n,a,s)
theorem aCF{h:Int}{mk:Mk}:∀(l:List eA) {m:Nat} {S:asE},(∀x∈l,∃w,x=ao w/\asA w)->m+l.length<=1000->sN m S.1 S.2.1 S.2.2->sN (m+l.length) (l.foldl (JI h mk) S).1 (l.foldl (JI h mk) S).2.1 (l.foldl (JI h mk) S).2.2
 |[],_,_,_,_,hg=>hg
 |x::l,m,S,hr,hm,hg=>by
  have hm:m+(l.length+1)<=1000:=hm;have key:sN (m+1) (JI h mk S x).1 (JI h mk S x).2.1 (JI h mk S x).2.2:=by
   obtain⟨w,rfl,hw⟩:=hr x aK;simp only[JI];split
   ·rcases hg.apply (t:=w.2.1) (h:=h) au hw.1 with⟨hc,_⟩ | ⟨_,hc,_,au0⟩
    ·rw[show EU h S w.2.1=S from if_pos hc];exact hg.mono au
    ·rw[show EU h S w.2.1=(S.1+1,cm w.2.1 h S.2.1,S.2.2.take S.1++ [stepOf w.2.1 S.2.1]) from if_neg (λx=>x hc)];exact au0
   ·exact hg.mono au
  have:=aCF (h:=h) (mk:=mk) l (m:=m+1) (λy hy=>hr y (aL _ hy)) au key;rw[aX,aH,show m+(l.length+1)=m+1+l.length from au];exact this
def mi:Ls XE nK sx:=yg (λ(oc,t20,t21,t22,o0,o1L,di,oY,n14,ajX,n19,zF)=>⟨([.ptr (.bF 0) 0 [] 0]++bf 4 ([.eI ee oc,cq,cq,.cO (.new 14 0) 0,fu 19]++bf 10 ([.d (.slice dh) t20,.d ti t21,.d ti t22]++bf 26 []))),[dC (.pr (.ptr (.bF 1) 0 [] 0) (.d (.pair ti (.pair (.slice dh) .unit)) o0)),dC (.pr (.cO (.bF 2) 0) (.pr (.b8 (.bF 3) 0 [] 0 0 o1L) kK)),dC (.mp bM eO di),dC (.vec 139 cC oY)],(bI 14 ([dG (.mp dh .bool n14)]++bI 4 ([[dC (.pr (.cO (.new 19 1) 0) (.pr (.b8 (.new 19 2) 0 [] 0 0 ajX) kK)),dC (.mp bM eO n19),dC (.vec 139 cC zF)]]++bI 29 [])))⟩) (λx=>(.exit 0,⟨([.ptr (.bF 0) 0 [] 0]++bf 4 ([.eI ee x.1.1,cq,cq,cq,fu 19]++bf 39 [])),[dC (.pr (.ptr (.bF 1) 0 [] 0) (.d (.pair ti (.pair (.slice dh) .unit)) x.1.2.1)),dC (.pr (.cO (.bF 2) 0) (.pr (.b8 (.bF 3) 0 [] 0 0 x.1.2.2.1) kK)),dC (.mp bM eO x.1.2.2.2.1),dC (.vec 139 cC x.1.2.2.2.2)],(bI 19 ([[dC (.pr (.cO (.new 19 1) 0) (.pr (.b8 (.new 19 2) 0 [] 0 0 x.2.1) kK)),dC (.mp bM eO x.2.2.1),dC (.vec 139 cC x.2.2.2)]]++bI 29 []))⟩))
def BA:Fs Tryz.prog akg bG U8:=fV 50 Tryz.f50 (λ(row,t,o0b,o1baL,o2,o3)=>([.ptr (.bF 0) 0 [] 0,.d (.slice dh) row,.d ee t],[.obj 0 aR (.pr (.ptr (.bF 1) 0 [] 0) (.d (.pair ti (.pair (.slice dh) .unit)) o0b)),.obj 0 aR (.pr (.cO (.bF 2) 0) (.pr (.b8 (.bF 3) 0 [] 0 0 o1baL) (.d .unit ()))),.obj 0 aR (.mp bM eO o2),.obj 0 aR (.vec 139 cC o3)])) (λx=>⟨.cons (.d ti x.1) (.cons (.d ti x.2.1) (.nil)),[.obj 0 aR (.pr (.ptr (.bF 1) 0 [] 0) (.d (.pair ti (.pair (.slice dh) .unit)) x.2.2.1)),.obj 0 aR (.pr (.cO (.bF 2) 0) (.pr (.b8 (.bF 3) 0 [] 0 0 x.2.2.2.1) (.d .unit ()))),.obj 0 aR (.mp bM eO x.2.2.2.2.1),.obj 0 aR (.vec 139 cC x.2.2.2.2.2)],[]⟩) [aJ,ao (.slice dh),ao ee] [Cx,G8,Ln,Lq] {loops:=so [(4,{bp:=[0,5,8,9,20,21,22],sites:=[14,19],owns:=[⟨9,[.snd,.fst],19,32⟩]})],outs:=sm [(4,{bp:=[0,5,9],sites:=[19]},{bp:=[6,7]})],gS:=tt [(4,mi.E)]}
theorem XF:mi.RS:=rL [.d ee,.d (.slice dh),.d ti,.d ti,.d (.pair ti (.pair (.slice dh) .unit)),.n,.d (.slice (.pair bM eO)),.d (.slice cC),.d (.slice (.pair dh .bool)),.n,.d (.slice (.pair bM eO)),.d (.slice cC)] mi
theorem tD(oc t20 t21 t22 o0 o1L di oY n14 ajX n19 zF)(kn:K2 R)(kx:K3 R):BA.R 0 mi (oc,t20,t21,t22,o0,o1L,di,oY,n14,ajX,n19,zF) kn kx=aS (gY t22 t21) (aS (gI t22 (t20.length:Int)) (aS ((cd dh (nth dh t20 (ab t22)) n14).getD aR) (aq ((nth dh t20 (ab t22))) λx1=>aq (rF (x1.2.1,o0.1,ajX,n19,zF)) λx2=>aS x2.isLeft (aq x2.getLeft? λaJ7=>kn (mi.st (oc,t20,t21,(bT .i64 t22 1),o0,o1L,di,oY,n14,aJ7.2.1,aJ7.2.2.1,aJ7.2.2.2))) (aq x2.getRight? λaJ8=>kn (mi.st (oc,t20,t21,(bT .i64 t22 1),o0,o1L,di,oY,n14,aJ8.2.1,aJ8.2.2.1,aJ8.2.2.2)))) (kn (mi.st (oc,t20,t21,(bT .i64 t22 1),o0,o1L,di,oY,n14,ajX,n19,zF)))) aJ) (mi.go kx ((oc,o0,o1L,di,oY),(ajX,n19,zF))):=cM
theorem aqC(row t o0b o1baL o2 o3)(k:K1 R):BA.A (row,t,o0b,o1baL,o2,o3) k=aq (tC.call (row,t)) λx1=>aq (te.call (o1baL,o2,o3)) λx2=>aq (mi.call (t,row,(row.length:Int),0,o0b,x2.1,x2.2.1,x2.2.2.1,x1,x2.2.2.2.1,x2.2.2.2.2.1,x2.2.2.2.2.2)) λx7=>aq (lQ.call (x7.1.1,x7.1.2.1.1,x7.2.1,x7.2.2.1,x7.2.2.2)) λx8=>k (BA.out (x8.1,x8.2.1,x7.1.2.1,x7.1.2.2.1,x7.1.2.2.2.1,x7.1.2.2.2.2)):=cM
theorem ab9:(BA.mM 0 mi):=by
 refine(BA.qG 0 mi) (λ(_,l,_,i,_)=>l.length - i.toNat) ?_
 rintro⟨t,l,m,i,p,c,a0,s0,mk,n,a,s⟩ ⟨hr,rfl,k,hk,rfl,hg⟩;have hl:l.length<=90:=hr.1;have hk:k<=l.length:=hk;have hg:sN (300+k) n a s:=hg;by_cases h:k < l.length
 ·left;have n1:nth dh l k=l[k]:=da (t:=dh) h;have hd:l.drop k=l[k]::l.drop (k+1):=aC h;obtain⟨w,hw,hv,iO,hlen⟩:=hr.2 _ (aV h);rw[hw]at n1 hd;cases hm:iP mk (ao w) with
  |false=>
   refine⟨(t,l,(l.length:Int),((k+1:Nat):Int),p,c,a0,s0,mk,n,a,s),⟨hr,rfl,k+1,h,rfl,hg.mono au⟩,by simp only[aa];omega,?_,λkn kx=> ?_⟩
   ·simp only[nK,sx,aa,hd,aX,JI,hm,bR,cF]
   ·rw[tD,bm au,aj,bz au au,aj,aa,n1,show(cd dh (ao w) mk).getD aR=aR from hm,al,N.nV au]
  |true=>
   rcases hg.apply (t:=w.2.1) (h:=p.1) au hv with⟨hc,ha⟩ | ⟨_,hc,ha,au0⟩
   ·refine⟨(t,l,(l.length:Int),((k+1:Nat):Int),p,c,a0,s0,mk,n,a,s),⟨hr,rfl,k+1,h,rfl,hg.mono au⟩,by simp only[aa];omega,?_,λkn kx=> ?_⟩
    ·simp only[nK,sx,aa,hd,aX,JI,hm,cY];rw[show EU p.1 (n,a,s) w.2.1=(n,a,s) from if_pos hc]
    ·rw[tD,bm au,aj,bz au au,aj,aa,n1,show(cd dh (ao w) mk).getD aR=aT from hm,aj,ae,ha];simp only[ae,l7,aj,j3];rw[N.nV au]
   ·refine⟨(t,l,(l.length:Int),((k+1:Nat):Int),p,c,a0,s0,mk,n+1,cm w.2.1 p.1 a,s.take n++ [stepOf w.2.1 a]),⟨hr,rfl,k+1,h,rfl,au0⟩,by simp only[aa];omega,?_,λkn kx=> ?_⟩
    ·simp only[nK,sx,aa,hd,aX,JI,hm,cY];rw[show EU p.1 (n,a,s) w.2.1=(n+1,cm w.2.1 p.1 a,s.take n++ [stepOf w.2.1 a]) from if_neg (λx=>x hc)]
    ·rw[tD,bm au,aj,bz au au,aj,aa,n1,show(cd dh (ao w) mk).getD aR=aT from hm,aj,ae,ha];simp only[ae,dS,al,dg];rw[N.nV au]
 ·right;obtain rfl:k=l.length:=au;intro R kn kx;rw[tD,bh au,al];simp only[nK,sx,aa,aU,db]
theorem aqD:BA.Ok:=by rintro⟨row,t,p,n,a,s⟩ ⟨hr,hm,hv,hg⟩;have hl:row.length<=90:=hr.1;have hg:sN 300 n a s:=hg;obtain⟨hc,hn⟩:=hg.canon;have z1:((0:Int)).toNat=0:=rfl;rw[aqC,DI (d:=(row,t)) ⟨hr.some,by show row.length<=_;omega,hm⟩,hg.copy au];simp only[ae,bG,FM,hn];rw[XF (d:=(t,row,(row.length:Int),0,p,n,a,s,l9 row t,n,eP a,s.take n)) ⟨hr,rfl,0,aN _,rfl,hc⟩];simp only[ae,nK,sx,z1,aQ];have au0:=aCF (h:=p.1) (mk:=l9 row t) row (m:=300) (S:=(n,eP a,s.take n)) hr.2 au hc;obtain⟨S,hS⟩:∃S,row.foldl (JI p.1 (l9 row t)) (n,eP a,s.take n)=S:=⟨_,rfl⟩;rw[hS]at au0 ⊢;rw[au0.check hv];simp only[ae,bG,U8,EL,aEp,hS]
theorem akh:BA.RS:=rE [.d (.slice dh),.d ee,.d (.pair ti (.pair (.slice dh) .unit)),.n,.d (.slice (.pair bM eO)),.d (.slice cC)] BA
def aqE:=BA.gf aqD 1 ⟨.gA ab9,trivial⟩
abbrev zO:=dM×Nat×(List eA)×Int×Int×(Int×((List eA)×Unit))×Nat×(List (cw×eS))×(List cZ)×y4×(List (eA×Bool))×(List eA)
def lB:zO->AS:=λ(oc,restL,t36,t37,t38,o0,o1L,di,oY,n25,n32,aCL)=>⟨([.ptr (.bF 0) 0 [] 0,cq,cq,.eI ee oc,cq,fu 25,.cO (.new 32 0) 0,oa 77 restL]++bf 28 ([.d (.slice dh) t36,.d ti t37,.d ti t38]++bf 104 [])),[dC (.pr (.ptr (.bF 1) 0 [] 0) (.d (.pair ti (.pair (.slice dh) .unit)) o0)),dC (.pr (.cO (.bF 2) 0) (.pr (.b8 (.bF 3) 0 [] 0 0 o1L) kK)),dC (.mp bM eO di),dC (.vec 139 cC oY)],(bI 25 ([dG (.d Wu n25)]++bI 6 ([dG (.mp dh .bool n32)]++bI 44 ([dG (.vec 104 dh aCL)]++bI 65 []))))⟩
abbrev AV:=dM×Nat×(Int×((List eA)×Unit))×Nat×(List (cw×eS))×(List cZ)×y4×(List (eA×Bool))×(List eA)
def yu:AV->Exit×AS:=λ(a,b,c,e,f,g,h,i,j)=>(.exit 0,⟨([.ptr (.bF 0) 0 [] 0,cq,cq,.eI ee a,cq,fu 25,.cO (.new 32 0) 0,oa 77 b]++bf 135 []),[dC (.pr (.ptr (.bF 1) 0 [] 0) (.d (.pair ti (.pair (.slice dh) .unit)) c)),dC (.pr (.cO (.bF 2) 0) (.pr (.b8 (.bF 3) 0 [] 0 0 e) kK)),dC (.mp bM eO f),dC (.vec 139 cC g)],(bI 25 ([dG (.d Wu h)]++bI 6 ([dG (.mp dh .bool i)]++bI 44 ([dG (.vec 104 dh j)]++bI 65 []))))⟩)
def MF:AV->Out (Exit×AS):=λx=> .ok (yu x)
def ng:zO->(dM×Nat×(Int×((List eA)×Unit))×Nat×(List (cw×eS))×(List cZ)×y4×(List (eA×Bool))×(List eA))->AV:=λ(oc,restL,t36,t37,t38,o0,o1L,di,oY,n25,n32,aCL) y=>y
abbrev zP:=dM×Nat×eA×(List eA)×Int×Int×(Int×((List eA)×Unit))×Nat×(List (cw×eS))×(List cZ)×y4×(List (eA×Bool))×(List (eA×Bool))×(List (eA×Bool))×(List eA)
def o9:zP->AS:=λ(BV,yD,yv,Nl,Nn,wq,qm,w5,kD,HC,Mh,sw,n59,n60,Ml)=>⟨([.ptr (.bF 0) 0 [] 0,cq,cq,.eI ee BV,cq,fu 25,.cO (.new 32 0) 0,oa 77 yD,cq,.d dh yv]++bf 26 ([.d (.slice dh) Nl,.d ti Nn,.d ti wq]++bf 21 ([fu 60]++bf 82 []))),[dC (.pr (.ptr (.bF 1) 0 [] 0) (.d (.pair ti (.pair (.slice dh) .unit)) qm)),dC (.pr (.cO (.bF 2) 0) (.pr (.b8 (.bF 3) 0 [] 0 0 w5) kK)),dC (.mp bM eO kD),dC (.vec 139 cC HC)],(bI 25 ([dG (.d Wu Mh)]++bI 6 ([dG (.mp dh .bool sw)]++bI 26 ([[.obj 0 aT (.mp dh .bool n59)],dG (.qo (.new 59 0) 1 dh .bool n60 aJ)]++bI 16 ([dG (.vec 104 dh Ml)]++bI 65 [])))))⟩
abbrev AW:=(dM×Nat×eA×(List eA)×Int×Int×(Int×((List eA)×Unit))×Nat×(List (cw×eS))×(List cZ)×y4×(List eA))×((List (eA×Bool)))
def yx:AW->Exit×AS:=λ((a,b,c,e,f,g,h,i,j,k,l,m),n)=>(.exit 2,⟨([.ptr (.bF 0) 0 [] 0,cq,cq,.eI ee a,cq,fu 25,.cO (.new 32 0) 0,oa 77 b,cq,.d dh c]++bf 26 ([.d (.slice dh) e,.d ti f,.d ti g]++bf 104 [])),[dC (.pr (.ptr (.bF 1) 0 [] 0) (.d (.pair ti (.pair (.slice dh) .unit)) h)),dC (.pr (.cO (.bF 2) 0) (.pr (.b8 (.bF 3) 0 [] 0 0 i) kK)),dC (.mp bM eO j),dC (.vec 139 cC k)],(bI 25 ([dG (.d Wu l)]++bI 6 ([dG (.mp dh .bool n)]++bI 44 ([dG (.vec 104 dh m)]++bI 65 []))))⟩)
def MH:AW->Out (Exit×AS):=λx=> .ok (yx x)
def nh:zP->((List (eA×Bool)))->AW:=λ(BV,yD,yv,Nl,Nn,wq,qm,w5,kD,HC,Mh,sw,n59,n60,Ml) y=>((BV,yD,yv,Nl,Nn,wq,qm,w5,kD,HC,Mh,Ml),y)
abbrev zQ:=Nat×Int×Int×(Int×((List eA)×Unit))×Nat×(List (cw×eS))×(List cZ)×y4×(List (eA×Bool))×(List eA)×(List (eA×Bool))
def sz:zQ->AS:=λ(A0,jI,least,yh,nZ,qB,yi,Mi,fk,Qx,n107)=>⟨([.ptr (.bF 0) 0 [] 0]++bf 4 ([fu 25,cq,oa 77 A0,cq,cq,cq,.d ti jI,cq,.d ti least]++bf 93 ([fu 107]++bf 35 []))),[dC (.pr (.ptr (.bF 1) 0 [] 0) (.d (.pair ti (.pair (.slice dh) .unit)) yh)),dC (.pr (.cO (.bF 2) 0) (.pr (.b8 (.bF 3) 0 [] 0 0 nZ) kK)),dC (.mp bM eO qB),dC (.vec 139 cC yi)],(bI 25 ([dG (.d Wu Mi)]++bI 6 ([[.obj 0 aT (.mp dh .bool fk)]]++bI 44 ([[.obj 0 aT (.vec 104 dh Qx)]]++bI 29 ([dG (.qo (.new 32 0) 1 dh .bool n107 aJ)]++bI 35 [])))))⟩
abbrev QT:=(Int×((List eA)×Unit))×Nat×(List (cw×eS))×(List cZ)
def DL:QT->Exit×AS:=λ(a,b,c,e)=>(.ret,⟨([.ptr (.bF 0) 0 [] 0,cq,cq,cq,.d ti (13:Int)]++bf 138 []),[dC (.pr (.ptr (.bF 1) 0 [] 0) (.d (.pair ti (.pair (.slice dh) .unit)) a)),dC (.pr (.cO (.bF 2) 0) (.pr (.b8 (.bF 3) 0 [] 0 0 b) kK)),dC (.mp bM eO c),dC (.vec 139 cC e)],(ai 143 [])⟩)
abbrev QU:=(Nat×Int×(Int×((List eA)×Unit))×Nat×(List (cw×eS))×(List cZ)×y4×(List eA))×(Int)
def yz:QU->Exit×AS:=λ((a,b,c,e,f,g,h,i),j)=>(.exit 5,⟨([.ptr (.bF 0) 0 [] 0]++bf 4 ([fu 25,cq,oa 77 a,cq,cq,cq,.d ti b,cq,.d ti j]++bf 129 [])),[dC (.pr (.ptr (.bF 1) 0 [] 0) (.d (.pair ti (.pair (.slice dh) .unit)) c)),dC (.pr (.cO (.bF 2) 0) (.pr (.b8 (.bF 3) 0 [] 0 0 e) kK)),dC (.mp bM eO f),dC (.vec 139 cC g)],(bI 25 ([dG (.d Wu h)]++bI 51 ([[.obj 0 aT (.vec 104 dh i)]]++bI 65 [])))⟩)
abbrev J0:=(QT)⊕(QU)
abbrev Vq:=(Unit)⊕(Int)
def DM:J0->Out (Exit×AS):=λx=> .br x.isLeft (.get x.getLeft? λa=> .ok (DL a)) (.get x.getRight? λb=> .ok (yz b))
def tF:zQ->Vq->J0:=λ(A0,jI,least,yh,nZ,qB,yi,Mi,fk,Qx,n107) y=>match y with | .inl y=> .inl (yh,nZ,qB,yi) | .inr z=> .inr (((A0,jI,yh,nZ,qB,yi,Mi,Qx),z))
abbrev MD:=dM×(Int×((List eA)×Unit))×Nat×(List (cw×eS))×(List cZ)
def Vr:MD->SA:=λ(t,o0b,o1baL,o2,o3)=>([.ptr (.bF 0) 0 [] 0,.d ee t],[dC (.pr (.ptr (.bF 1) 0 [] 0) (.d (.pair ti (.pair (.slice dh) .unit)) o0b)),dC (.pr (.cO (.bF 2) 0) (.pr (.b8 (.bF 3) 0 [] 0 0 o1baL) kK)),dC (.mp bM eO o2),dC (.vec 139 cC o3)])
abbrev anf:=Int×(Int×((List eA)×Unit))×Nat×(List (cw×eS))×(List cZ)
abbrev aco:=Int×(Int×((List eA)×Unit))×Nat×(List (cw×eS))×(List cZ)
def nM:aco->ig:=λx=>⟨.d ti x.1,[dC (.pr (.ptr (.bF 1) 0 [] 0) (.d (.pair ti (.pair (.slice dh) .unit)) x.2.1)),dC (.pr (.cO (.bF 2) 0) (.pr (.b8 (.bF 3) 0 [] 0 0 x.2.2.1) kK)),dC (.mp bM eO x.2.2.2.1),dC (.vec 139 cC x.2.2.2.2)],[]⟩
def CB:MD->anf->aco:=λ(t,o0b,o1baL,o2,o3) y=>y
structure aC0(t:dM)(p:aHH)(n:Nat)(a:At)(s:List cZ):Prop where
 tv:wX t
 tok:iF t=aT
 row:ES p.2.1
 new:Fk (sP t) p.2.1=aJ
 aHc:∀w,ao w∈p.2.1->jo w.2.1 (dK t)=aR
 ah:∀w,ao w∈p.2.1->(jn (yE p.2.1) 3 w.2.1 []).isSome=aT
 dp:∃d,tj p.2.1 3 t=ao d/\d<=4
 st:sN 300 n a s
 ck:(EL p.1 p.2.1 t n a s).2=0
 fe:kE t<=(EL p.1 p.2.1 t n a s).1
theorem Of:∀l:List Nat,∃b,∀x∈l,x < b
 |[]=>⟨0,λx hx=>by cases hx⟩
 |y::l=>by
  obtain⟨b,hb⟩:=Of l;refine⟨b+y+1,λx hx=> ?_⟩;rcases cj.1 hx with rfl | hx
  ·omega
  ·have:=hb x hx;omega
def awi(p:aHH)(t:dM)(n:Nat)(a:At)(s:List cZ):y4:=(t,(sP t,((EL p.1 p.2.1 t n a s).1,(kE t,()))))
def yt:zO->Prop:=λ(t,rL,l,m,i,p,_,_,_,_,gone,rest)=>(aFP t/\ES p.2.1/\(∀w,ao w∈p.2.1->jo w.2.1 (dK t)=aR)/\∀w,ao w∈p.2.1->(jn (yE p.2.1) 3 w.2.1 []).isSome=aT)/\l=p.2.1/\gone=[]/\rL=rest.length/\m=(l.length:Int)/\∃k:Nat,k<=l.length/\i=k/\rest.length<=k
def rP:zO->(dM×Nat×(Int×((List eA)×Unit))×Nat×(List (cw×eS))×(List cZ)×y4×(List (eA×Bool))×(List eA)):=λ(t,rL,l,_,i,p,n,a,s,x,_,rest)=>(t,rL+(l.drop i.toNat).length,p,n,a,s,x,[],rest++l.drop i.toNat)
def yw:zP->Prop:=λ(_,_,_,_,_,_,_,_,_,_,_,gone,_,_,_)=>gone=[]
def rQ:zP->((List (eA×Bool))):=λ_=> []
def yy:zQ->Prop:=λ(_,_,_,_,_,_,_,_,_,_,gone)=>gone=[]
def zR:zQ->Vq:=λ(_,_,least,_)=> .inr least
def ON:MD->Prop:=λ(t,p,n,a,s)=>aC0 t p n a s
def J1:MD->anf->Prop:=λ(t,p,n,a,s) y=>∃k,k ∉ p.2.1.flatMap (hJ dh)/\y=(0,(p.1,(p.2.1++ [ao (k,awi p t n a s)],())),n,a,s)
def DK:qi:=lU (P:=Tryz.prog) [qf,agG,Kf,WW,aA9,WT,VE,Cx,awJ,aqE,am1]
def Vk:=dW.gA lB yt ng rP MF
def Ij:zO->Option AV:=iI Vk lB
def Vm:=dW.gA o9 yw nh rQ MH
def BF:zP->Option AW:=iI Vm o9
def Vo:=dW.gA sz yy tF zR DM
def Im:zQ->Option J0:=iI Vo sz
def zS:w7:= {bN:=[25],loops:=so [(9,{bp:=[0,3,5,6,7,36,37,38],sites:=[25,32,77],owns:=[⟨7,[],77,96⟩]}),(14,{bp:=[0,3,5,6,7,9,36,37,38,60],sites:=[25,32,59,60,77],aEo:=[60]}),(31,{bp:=[0,5,7,11,13,107],sites:=[25,32,77,107],aEo:=[107]})],outs:=sm [(9,{bp:=[0,3,5,6,7],sites:=[25,32,77]},{bp:=[0,4]}),(14,{bp:=[0,3,5,6,7,9,36,37,38],sites:=[25,32,77]},{bp:=[0,4]}),(31,{bp:=[0,5,7,11,13],sites:=[25,77]},{bp:=[0,4]})],gS:=tt [(9,Vk),(14,Vm),(31,Vo)],Lu:=[⟨0,[.snd,.snd,.fst],(.slice dh)⟩],RD:=λq=>(tt [(38,[⟨5,Wu,7⟩])] q).getD []}
def anb:= @NL Tryz.prog DK zS 0 Tryz.f21 _ Vr
abbrev awX:=aB7 @anb ON CB J1 nM
def Vl:= @fh Tryz.prog DK zS 0 Tryz.f21 0 _ lB
abbrev QQ:=mn Tryz.prog DK zS 0 Tryz.f21 0 lB yt ng rP MF
def Vn:= @fh Tryz.prog DK zS 0 Tryz.f21 1 _ o9
abbrev QR:=mn Tryz.prog DK zS 0 Tryz.f21 1 o9 yw nh rQ MH
def Vp:= @fh Tryz.prog DK zS 0 Tryz.f21 2 _ sz
abbrev QS:=mn Tryz.prog DK zS 0 Tryz.f21 2 sz yy tF zR DM
theorem ack:kC Ij yt ng rP:=og (na [.d ee,.n,.d (.slice dh),.d ti,.d ti,.d (.pair ti (.pair (.slice dh) .unit)),.n,.d (.slice (.pair bM eO)),.d (.slice cC),.d Wu,.d (.slice (.pair dh .bool)),.d (.slice dh)] λ_=>cM)
theorem ME:asy @Vl lB yt ng rP yu QQ:=aDp
theorem Ik(oc restL t36 t37 t38 o0 o1L di oY n25 n32 aCL)(kn:K2 R)(kx:K3 R):Vl (oc,restL,t36,t37,t38,o0,o1L,di,oY,n25,n32,aCL) kn kx=aS (gY t38 t37) (aS (gI t38 (((ag t36):Nat):Int)) (aq ((nth dh t36 (ab t38))) λx1=>aq (qZ.call oc) λx2=>aq (vm.call (x1.2.1,x2)) λx3=>aS (x3) (aq ((nth dh t36 (ab t38))) λx4=>aq (tC.call (o0.2.1,x4.2.1)) λx5=>aq (BF (oc,restL,(nth dh t36 (ab t38)),t36,t37,t38,o0,o1L,di,oY,n25,(e7 dh (nth dh t36 (ab t38)) aT n32),x5,x5,aCL)) λx6=>aS (!((cd dh x6.1.2.2.1 x6.2).getD aR)) (aS (decide (x6.1.2.1<=(ag x6.1.2.2.2.2.2.2.2.2.2.2.2))) (aS (ea (x6.1.2.1+1) 8) (kn (lB (x6.1.1,(x6.1.2.1+1),x6.1.2.2.2.1,x6.1.2.2.2.2.1,(bT .i64 x6.1.2.2.2.2.2.1 (1:Int)),x6.1.2.2.2.2.2.2.1,x6.1.2.2.2.2.2.2.2.1,x6.1.2.2.2.2.2.2.2.2.1,x6.1.2.2.2.2.2.2.2.2.2.1,x6.1.2.2.2.2.2.2.2.2.2.2.1,x6.2,((bn x6.1.2.1 x6.1.2.2.2.2.2.2.2.2.2.2.2)++ [x6.1.2.2.1])))) aJ) aJ) (kn (lB (x6.1.1,x6.1.2.1,x6.1.2.2.2.1,x6.1.2.2.2.2.1,(bT .i64 x6.1.2.2.2.2.2.1 (1:Int)),x6.1.2.2.2.2.2.2.1,x6.1.2.2.2.2.2.2.2.1,x6.1.2.2.2.2.2.2.2.2.1,x6.1.2.2.2.2.2.2.2.2.2.1,x6.1.2.2.2.2.2.2.2.2.2.2.1,x6.2,x6.1.2.2.2.2.2.2.2.2.2.2.2)))) (aq ((nth dh t36 (ab t38))) λx7=>aq (tC.call (o0.2.1,x7.2.1)) λx8=>aq (BF (oc,restL,(nth dh t36 (ab t38)),t36,t37,t38,o0,o1L,di,oY,n25,n32,x8,x8,aCL)) λx9=>aS (!((cd dh x9.1.2.2.1 x9.2).getD aR)) (aS (decide (x9.1.2.1<=(ag x9.1.2.2.2.2.2.2.2.2.2.2.2))) (aS (ea (x9.1.2.1+1) 8) (kn (lB (x9.1.1,(x9.1.2.1+1),x9.1.2.2.2.1,x9.1.2.2.2.2.1,(bT .i64 x9.1.2.2.2.2.2.1 (1:Int)),x9.1.2.2.2.2.2.2.1,x9.1.2.2.2.2.2.2.2.1,x9.1.2.2.2.2.2.2.2.2.1,x9.1.2.2.2.2.2.2.2.2.2.1,x9.1.2.2.2.2.2.2.2.2.2.2.1,x9.2,((bn x9.1.2.1 x9.1.2.2.2.2.2.2.2.2.2.2.2)++ [x9.1.2.2.1])))) aJ) aJ) (kn (lB (x9.1.1,x9.1.2.1,x9.1.2.2.2.1,x9.1.2.2.2.2.1,(bT .i64 x9.1.2.2.2.2.2.1 (1:Int)),x9.1.2.2.2.2.2.2.1,x9.1.2.2.2.2.2.2.2.1,x9.1.2.2.2.2.2.2.2.2.1,x9.1.2.2.2.2.2.2.2.2.2.1,x9.1.2.2.2.2.2.2.2.2.2.2.1,x9.2,x9.1.2.2.2.2.2.2.2.2.2.2.2))))) aJ) (kx (yu (oc,restL,o0,o1L,di,oY,n25,n32,aCL)).1 (yu (oc,restL,o0,o1L,di,oY,n25,n32,aCL)).2):=cM
theorem acm:kC BF yw nh rQ:=og (na [.d ee,.n,.d dh,.d (.slice dh),.d ti,.d ti,.d (.pair ti (.pair (.slice dh) .unit)),.n,.d (.slice (.pair bM eO)),.d (.slice cC),.d Wu,.d (.slice (.pair dh .bool)),.d (.slice (.pair dh .bool)),.d (.slice (.pair dh .bool)),.d (.slice dh)] λ_=>cM)
theorem MG:aC3 @Vn o9 yw nh rQ yx QR:=aFU
theorem Il(BV yD yv Nl Nn wq qm w5 kD HC Mh sw n59 n60 Ml)(kn:K2 R)(kx:K3 R):Vn (BV,yD,yv,Nl,Nn,wq,qm,w5,kD,HC,Mh,sw,n59,n60,Ml) kn kx=aS (decide (0 < (ag n60))) (adx (ag n60) λj1=>aS ((cd dh (pR dh .bool n60 j1).1 sw).getD aR) (kn (o9 (BV,yD,yv,Nl,Nn,wq,qm,w5,kD,HC,Mh,(e7 dh yv aT sw),n59,(List.eraseIdx n60 j1),Ml))) (kn (o9 (BV,yD,yv,Nl,Nn,wq,qm,w5,kD,HC,Mh,sw,n59,(List.eraseIdx n60 j1),Ml)))) (kx (yx ((BV,yD,yv,Nl,Nn,wq,qm,w5,kD,HC,Mh,Ml),sw)).1 (yx ((BV,yD,yv,Nl,Nn,wq,qm,w5,kD,HC,Mh,Ml),sw)).2):=cM
theorem acn:kC Im yy tF zR:=og (na [.n,.d ti,.d ti,.d (.pair ti (.pair (.slice dh) .unit)),.n,.d (.slice (.pair bM eO)),.d (.slice cC),.d Wu,.d (.slice (.pair dh .bool)),.d (.slice dh),.d (.slice (.pair dh .bool))] λ_=>cM)
theorem MI:qp @Vp sz yy tF zR DM QS:=rA
theorem XK(A0 jI least yh nZ qB yi Mi fk Qx n107)(kn:K2 R)(kx:K3 R):Vp (A0,jI,least,yh,nZ,qB,yi,Mi,fk,Qx,n107) kn kx=aS (decide (0 < (ag n107))) (adx (ag n107) λj1=>aq ((pR dh .bool n107 j1).1) λx2=>aq ((pR dh .bool n107 j1).1) λx3=>aq (agz.call (jI,x2.2.2.2.2.1,x3.2.2.2.1,Mi.2.2.2.1)) λx4=>aS (adB x4 (0:Int)) (kx (DL (yh,nZ,qB,yi)).1 (DL (yh,nZ,qB,yi)).2) (aq ((pR dh .bool n107 j1).1) λx5=>kn (sz (A0,jI,(bT .i64 least x5.2.2.2.1),yh,nZ,qB,yi,Mi,fk,Qx,(List.eraseIdx n107 j1))))) (kx (yz ((A0,jI,yh,nZ,qB,yi,Mi,Qx),least)).1 (yz ((A0,jI,yh,nZ,qB,yi,Mi,Qx),least)).2):=cM
theorem awY(t o0b o1baL o2 o3)(k:K1 R):anb (t,o0b,o1baL,o2,o3) k=aq (hP.call t) λx1=>aS (!x1) (k (nM ((1:Int),(o0b.1,(o0b.2.1,o0b.2.2)),o1baL,o2,o3))) (aq (QP.call t) λx2=>aq (tid.call t) λx3=>aq (q9.call t) λx4=>aq (agC.call (x3,o0b,o1baL,o2,o3)) λx5=>aS (x5.1) (k (nM ((4:Int),(x5.2.1.1,(x5.2.1.2.1,x5.2.1.2.2)),x5.2.2.1,x5.2.2.2.1,x5.2.2.2.2))) (aq (Ij (t,0,x5.2.1.2.1,(((ag x5.2.1.2.1):Nat):Int),(0:Int),x5.2.1,x5.2.2.1,x5.2.2.2.1,x5.2.2.2.2,(x2,(x3,((0:Int),(x4,())))),([]:List (eA×Bool)),([]:List eA))) λsQ=>aS (Bp ((sQ.2.1:Nat):Int) (100:Int)) (k (nM ((3:Int),(sQ.2.2.1.1,(sQ.2.2.1.2.1,sQ.2.2.1.2.2)),sQ.2.2.2.1,sQ.2.2.2.2.1,sQ.2.2.2.2.2.1))) (aS (decide (0=0/\(0+sQ.2.1)<=(ag sQ.2.2.2.2.2.2.2.2))) (aq (Vb ((cut sQ.2.2.2.2.2.2.2.2 0 sQ.2.1),sQ.1)) λaCW=>aS (Ak aCW (4:Int)) (k (nM ((25:Int),(sQ.2.2.1.1,(sQ.2.2.1.2.1,sQ.2.2.1.2.2)),sQ.2.2.2.1,sQ.2.2.2.2.1,sQ.2.2.2.2.2.1))) (aS (decide (0=0/\(0+sQ.2.1)<=(ag sQ.2.2.2.2.2.2.2.2))) (aq (BA.call ((cut sQ.2.2.2.2.2.2.2.2 0 sQ.2.1),sQ.1,sQ.2.2.1,sQ.2.2.2.1,sQ.2.2.2.2.1,sQ.2.2.2.2.2.1)) λanM=>aS (JE anM.2.1 (0:Int)) (k (nM (anM.2.1,(anM.2.2.1.1,(anM.2.2.1.2.1,anM.2.2.1.2.2)),anM.2.2.2.1,anM.2.2.2.2.1,anM.2.2.2.2.2))) (aq (Im (sQ.2.1,anM.1,sQ.2.2.2.2.2.2.1.2.2.2.1,anM.2.2.1,anM.2.2.2.1,anM.2.2.2.2.1,anM.2.2.2.2.2,(sQ.2.2.2.2.2.2.1.1,(sQ.2.2.2.2.2.2.1.2.1,(anM.1,sQ.2.2.2.2.2.2.1.2.2.2))),sQ.2.2.2.2.2.2.2.1,sQ.2.2.2.2.2.2.2.2,sQ.2.2.2.2.2.2.2.1)) λCV=>aS CV.isLeft (aq CV.getLeft? λa25=>k (nM ((13:Int),(a25.1.1,(a25.1.2.1,a25.1.2.2)),a25.2.1,a25.2.2.1,a25.2.2.2))) (aq CV.getRight? λb26=>aS (gY b26.1.2.1 b26.2) (k (nM ((13:Int),(b26.1.2.2.1.1,(b26.1.2.2.1.2.1,b26.1.2.2.1.2.2)),b26.1.2.2.2.1,b26.1.2.2.2.2.1,b26.1.2.2.2.2.2.1))) (Rq (λn=>n ∉ (List.flatMap (hJ dh) b26.1.2.2.2.2.2.2.2)) λaIh=>aS (decide (b26.1.1<=(ag b26.1.2.2.2.2.2.2.2))) (aS (decide (b26.1.1=(ag b26.1.2.2.2.2.2.2.2))) (aS (ea (b26.1.1+1) 8) (aS (decide (0=0/\(0+(b26.1.1+1))<=(ag ((bn b26.1.1 b26.1.2.2.2.2.2.2.2)++ [(ao (aIh,b26.1.2.2.2.2.2.2.1))])))) (k (nM ((0:Int),(b26.1.2.2.1.1,((cut ((bn b26.1.1 b26.1.2.2.2.2.2.2.2)++ [(ao (aIh,b26.1.2.2.2.2.2.2.1))]) 0 (b26.1.1+1)),b26.1.2.2.1.2.2)),b26.1.2.2.2.1,b26.1.2.2.2.2.1,b26.1.2.2.2.2.2.1))) aJ) aJ) aJ) aJ)))) aJ)) aJ))):=cM
theorem aBF(t:dM):(dK t).length<=64:=by
 unfold dK;split
 ·rename_i h;rw[cH];exact(jg h).1.2.1
 ·simp
theorem ap7(x:eA):iP [] x=aR:=rfl
theorem agI:QR:=by
 refine MG (λ(_,_,_,_,_,_,_,_,_,_,_,_,_,rest,_)=>rest.length) ?_
 rintro⟨t,rL,y,l,m,i,p,n,a,s,x,gone,all,rest,row⟩ hg;have hg:gone=[]:=hg;by_cases h:0 < rest.length
 ·left;refine⟨rest.length,λj=>(t,rL,y,l,m,i,p,n,a,s,x,gone,all,rest.eraseIdx j,row),h,λj hj=>⟨hg,?_,?_⟩,λkn kx=> ?_⟩
  ·show(rest.eraseIdx j).length < rest.length;rw[kU,if_pos hj];omega
  ·simp only[nh,rQ]
  ·rw[Il,ba h,aj];refine bD (adx rest.length) (funext λj=> ?_);rw[hg,show(cd dh (pR dh .bool rest j).1 ([]:Mk)).getD aR=aR from rfl,al]
 ·right;intro T kn kx;rw[Il,bE h,al];simp only[nh,rQ,hg]
theorem agH:QQ:=by
 refine ME (λ(_,_,l,_,i,_)=>l.length - i.toNat) ?_
 rintro⟨t,rL,l,m,i,p,n,a,s,x,gone,rest⟩ ⟨⟨hu,hr,hn,ha⟩,rfl,rfl,rfl,rfl,k,hk,rfl,aFy⟩;have hl:p.2.1.length<=90:=hr.1;have hk:k<=p.2.1.length:=hk;have aFy:rest.length<=k:=aFy;by_cases h:k < p.2.1.length
 ·left;have n1:nth dh p.2.1 k=p.2.1[k]:=da (t:=dh) h;have hd:p.2.1.drop k=p.2.1[k]::p.2.1.drop (k+1):=aC h;have tn:=aV h;obtain⟨w,hw,hv,iO,hlen⟩:=hr.2 _ tn;rw[hw]at n1 hd tn;have hf:=(jg iO).1;refine⟨(t,rest.length+1,p.2.1,(p.2.1.length:Int),((k+1:Nat):Int),p,n,a,s,x,[],rest++ [ao w]),⟨⟨hu,hr,hn,ha⟩,rfl,rfl,by simp,rfl,k+1,h,rfl,by rw[ak];show rest.length+1<=_;omega⟩,by simp only[aa];omega,?_,λkn kx=> ?_⟩
  ·simp only[ng,rP,aa,hd,aH,aO,dQ];rw[show rest.length+1+(bV (k+1) p.2.1).length=rest.length+((bV (k+1) p.2.1).length+1) from au]
  ·rw[Ik,bm au,aj,bz au au,aj,aa,n1,Rk (d:=t) hu];simp only[ae,bG,Hs];rw[QX (d:=(w.2.1,dK t)) ⟨by show w.2.1.1.length<=_;omega,by have:=aBF t;show(dK t).length<=_;omega⟩];simp only[ae,bG,ZJ,hn w tn,al];rw[DI (d:=(p.2.1,w.2.1)) ⟨hr.some,by show p.2.1.length<=_;omega,ha w tn⟩];simp only[ae,bG,FM];rw[acm (d:=(t,rest.length,ao w,p.2.1,(p.2.1.length:Int),(k:Int),p,n,a,s,x,[],l9 p.2.1 w.2.1,l9 p.2.1 w.2.1,rest)) rfl];simp only[ae,nh,rQ];rw[show(cd dh (ao w) ([]:Mk)).getD aR=aR from rfl,eY,aj,ba (aF _),aj,eW au au,aj,N.nV au,cJ]
 ·right;obtain rfl:k=p.2.1.length:=au;intro T kn kx;rw[Ik,bh au,al];simp only[ng,rP,aa,aU,bP,bB,cX]
theorem agJ:QS:=by
 refine MI (λ_=>0) ?_
 rintro⟨rL,jI,least,p,n,a,s,x,g,row,gone⟩ rfl;right;refine⟨yz ((rL,jI,p,n,a,s,x,row),least),rfl,λkn kx=> ?_⟩;rw[XK,show decide (0 < ([]:Mk).length)=aR from rfl,al]
theorem awZ:awX:=by
 rintro⟨t,p,n,a,s⟩ hA k hk;obtain⟨hv,iO,hr,Co,aGJ,aHN,⟨d,hd,aL7⟩,hg,ayM,aL9⟩:=hA;have hl:p.2.1.length<=90:=hr.1;have hm:(jn (yE p.2.1) 3 t []).isSome=aT:=by
  by_cases hm:(jn (yE p.2.1) 3 t []).isSome=aT
  ·exact hm
  ·unfold tj at hd;rw[if_neg hm]at hd;cases hd
 rw[awY,nq (d:=t) hv.1];simp only[ae,bG,pt,iO,cG,al];rw[ZD (d:=t) ⟨hv,iO⟩,A6 (d:=t) hv,Rl (d:=t) hv];simp only[ae,bG,Sk,bG,Nu,bG,Ht];rw[awS (d:=(sP t,p,n,a,s)) ⟨hr.some,by show p.2.1.length<=_;omega⟩];simp only[ae,bG,akn,Co,ru,al];rw[ack (d:=(t,0,p.2.1,(p.2.1.length:Int),0,p,n,a,s,(t,(sP t,(0,(kE t,())))),[],[])) ⟨⟨hv.1,hr,aGJ,aHN⟩,rfl,rfl,rfl,rfl,0,aN _,rfl,aN _⟩];simp only[ae,ng,rP,bo,aQ,bg,aY];rw[eT au,al,ba ⟨trivial,aF _⟩,aj,fA rfl];rw[aqJ (d:=(p.2.1,t)) ⟨⟨hr.some,by show p.2.1.length<=_;omega,eZ⟩,by rw[hd];rfl⟩];simp only[ae,yY,AR,Tu (show 3<=10 by decide) hd,dz];rw[du au,al,akh (d:=(p.2.1,t,p,n,a,s)) ⟨hr,hm,hv,hg⟩];simp only[ae,bG,U8,ayM];rw[eU rfl,al,acn (d:=(p.2.1.length,(EL p.1 p.2.1 t n a s).1,kE t,p,n,a,s,(t,(sP t,((EL p.1 p.2.1 t n a s).1,(kE t,())))),[],p.2.1,[])) rfl];simp only[ae,tF,zR,dS,al,dg];rw[bh au,al];obtain⟨b,hb⟩:=Of (p.2.1.flatMap (hJ dh));refine aa4 ⟨b,λhm=>absurd (hb b hm) (gv b)⟩ λy hy=> ?_
 rw[ba (aF _),aj,ba trivial,aj,eW au au,aj,cJ];have e1:(p.2.1++ [(ao (y,(t,(sP t,((EL p.1 p.2.1 t n a s).1,(kE t,()))))):eA)]).length=p.2.1.length+1:=by rw[ak];rfl
 rw[fA e1,e1,ba ⟨trivial,au⟩,aj];exact hk _ ⟨y,hy,rfl⟩
def ane:=Entry.Xy [aJ,ao ee] Vr ON CB J1 nM
def OO:MD->aco->Prop:=aHp ane Vr
theorem ZE:ayX OO ON CB J1:=aHn (afG [.d ee,.d (.pair ti (.pair (.slice dh) .unit)),.n,.d (.slice (.pair bM eO)),.d (.slice cC)] λ_=>cM)
def aw0:SG Tryz.prog:=⟨21,qN,ane,.aLO (.fn 3 cM awZ (And.intro (.gA agH cM) (And.intro (.gA agI cM) (And.intro (.gA agJ cM) trivial)))) (by rfl)⟩
abbrev Vy:=Int×(List cw)×Nat×(Int×((List eA)×Unit))×Nat×(List (cw×eS))×(List cZ)×(List (eA×Bool))×(List dM)
abbrev Vz:=Int×(List cw)×Nat×(List eA)×Int×Int×(Int×((List eA)×Unit))×Nat×(List (cw×eS))×(List cZ)×(eA×((List eA)×(Int×(Int×Unit))))×(List (eA×Bool))×(List dM)
abbrev J3:=Int×(List cw)×Nat×eA×Bool×(List eA)×Int×Int×(List eA)×Int×Int×(Int×((List eA)×Unit))×Nat×(List (cw×eS))×(List cZ)×(eA×((List eA)×(Int×(Int×Unit))))×eA×Nat×(Int×(Int×Unit))×(List (eA×Bool))×(List (eA×Bool))×(List eA)×(List dM)
abbrev VA:=Bool×Nat×(Int×(Int×Unit))×(List eA)
def pV:J3->VA->((Int×(List cw)×Nat×(List eA)×Int×Int×(Int×((List eA)×Unit))×Nat×(List (cw×eS))×(List cZ)×(eA×((List eA)×(Int×(Int×Unit))))×eA×(List (eA×Bool))×(List dM))×(Bool×Nat×(Int×(Int×Unit))×(List eA))):=λ(wM,Al,wE,x,fits,Ew,Ex,Ey,t46,t47,t48,yh,nZ,qB,yi,uA,n13,nD,mE,Ct,n40,aqf,wD) y=>((wM,Al,wE,Ew,Ex,Ey,yh,nZ,qB,yi,uA,n13,Ct,wD),y)
abbrev J4:=Int×(List cw)×Nat×(List eA)×Int×Int×(Int×((List eA)×Unit))×Nat×(List (cw×eS))×(List cZ)×(eA×((List eA)×(Int×(Int×Unit))))×(List (eA×Bool))×(List dM)
abbrev VB:=Nat×(List (eA×Bool))×(List dM)
def yC:J4->VB->((Int×(List cw)×(Int×((List eA)×Unit))×Nat×(List (cw×eS))×(List cZ)×(eA×((List eA)×(Int×(Int×Unit)))))×(Nat×(List (eA×Bool))×(List dM))):=λ(Ka,SC,DH,t123,t124,t125,aj4,UY,aj6,aj7,JS,Zn,JQ) y=>((Ka,SC,aj4,UY,aj6,aj7,JS),y)
abbrev anl:=Int×(List cw)×(Int×((List eA)×Unit))×Nat×(List (cw×eS))×(List cZ)
abbrev Bt:=Bool×Nat×(Int×(Int×Unit))×(List eA)
def anU(l:List eA):Prop:=∀y∈l,∃w,y=ao w/\asA w
def EJ(bar:List cw)(pk mk:Mk)(x:eA)(S:Bt)(y:eA):Bt:=
 if iP pk y=aT then S else if Ty.beq dh y x=aR/\iP mk y=aR then S else match y with
 |none=>S
 |some w=>(S.1 && !jo w.2.1 bar,S.2.1+1,(bT .i64 S.2.2.1.1 w.2.2.2.1,(bT .i64 S.2.2.1.2.1 w.2.2.2.2.1,S.2.2.1.2.2)),S.2.2.2++ [y])
def mU(bar:List cw)(row:List eA)(pk:Mk)(w:Nat×y4):Bt:=row.foldl (EJ bar pk (l9 row w.2.1) (ao w)) (aT,0,(0,(0,())),[])
def Ao(room:Int)(bar:List cw)(row:List eA)(pk:Mk)(B:ayW)(x:eA):ayW:=
 if iP pk x=aT then B else match x with
 |none=>B
 |some w=>if(mU bar row pk w).1=aT then(if(mU bar row pk w).2.2.1.2.1<=room then(if B.1.isNone=aT then(ao w,((mU bar row pk w).2.2.2,(mU bar row pk w).2.2.1)) else
   if YS (ao w,((mU bar row pk w).2.2.2,(mU bar row pk w).2.2.1)) B=aT then(ao w,((mU bar row pk w).2.2.2,(mU bar row pk w).2.2.1)) else B) else B) else B
def ja(room:Int)(bar:List cw)(row:List eA)(pk:Mk):ayW:=row.foldl (Ao room bar row pk) (aJ,([],(0,(0,()))))
def Wv(S:Nat×Mk×List dM)(x:eA):Nat×Mk×List dM:=match x with | none=>S | some w=>(S.1+1,e7 dh (ao w) aT S.2.1,S.2.2++ [w.2.1])
def z6(l:List eA)(pk:Mk)(out:List dM):Nat×Mk×List dM:=l.foldl Wv (out.length,pk,out)
def jK(bar:List cw)(row:List eA):Nat->Int->Mk->List dM->Option (List dM)
 | 0,_,_,_=>aJ
 |f+1,room,pk,out=>match(ja room bar row pk).1 with
  |none=>ao out
  |some _=>jK bar row f (dL .i64 room (ja room bar row pk).2.2.2.1) (z6 (ja room bar row pk).2.1 pk out).2.1 (z6 (ja room bar row pk).2.1 pk out).2.2
def FR(bar:List cw)(row:List eA):Nat->Int->Mk->List dM->Nat
 | 0,_,_,_=>0
 |f+1,room,pk,out=>match(ja room bar row pk).1 with
  |none=>0
  |some _=>FR bar row f (dL .i64 room (ja room bar row pk).2.2.2.1) (z6 (ja room bar row pk).2.1 pk out).2.1 (z6 (ja room bar row pk).2.1 pk out).2.2+1
theorem MA{bar:List cw}{row:List eA}:∀ {f:Nat} {room:Int} {pk:Mk} {out r:List dM},jK bar row f room pk out=ao r->jK bar row (f+1) room pk out=ao r/\FR bar row (f+1) room pk out=FR bar row f room pk out
 | 0,_,_,_,_,h=>by cases h
 |f+1,room,pk,out,r,h=>by
  rw[jK]at h;rw[jK,FR]
  conv=>rhs;rhs;rw[FR]
  cases hb:(ja room bar row pk).1 with
  |none=>rw[hb]at h;exact⟨h,rfl⟩
  |some w=>
   rw[hb]at h;have:=MA h;exact⟨this.1,by simp only[this.2]⟩
theorem agD{bar:List cw}{row:List eA}{f g:Nat}{room:Int}{pk:Mk}{out r:List dM}(hk:f<=g)(h:jK bar row f room pk out=ao r):jK bar row g room pk out=ao r/\FR bar row g room pk out=FR bar row f room pk out:=by
 induction hk with
 |refl=>exact⟨h,rfl⟩
 |step _ ih=>exact⟨(MA ih.1).1,(MA ih.1).2.trans ih.2⟩
theorem aCc{bar:List cw}{pk mk:Mk}{x:eA}:∀(l:List eA) (S:Bt),anU S.2.2.2->anU l->S.2.1=S.2.2.2.length->
  (l.foldl (EJ bar pk mk x) S).2.1=(l.foldl (EJ bar pk mk x) S).2.2.2.length/\(l.foldl (EJ bar pk mk x) S).2.2.2.length<=S.2.2.2.length+l.length/\anU (l.foldl (EJ bar pk mk x) S).2.2.2
 |[],S,h1,_,h3=>⟨h3,aF _,h1⟩
 |y::l,S,h1,h2,h3=>by
  have hl:anU l:=λz hz=>h2 z (aL _ hz)
  obtain⟨w,rfl,hw⟩:=h2 y aK;have key:(EJ bar pk mk x S (ao w)).2.1=(EJ bar pk mk x S (ao w)).2.2.2.length/\(EJ bar pk mk x S (ao w)).2.2.2.length<=S.2.2.2.length+1/\anU (EJ bar pk mk x S (ao w)).2.2.2:=by
   unfold EJ;split
   ·exact⟨h3,au,h1⟩
   split
   ·exact⟨h3,au,h1⟩
   refine⟨by show S.2.1+1=_;rw[ak,h3];rfl,by show(S.2.2.2++ [ao w]).length<=_;rw[ak];exact aF _,λz hz=> ?_⟩;rcases bC.1 hz with hz | hz
   ·exact h1 z hz
   ·rw[bw.1 hz];exact⟨w,rfl,hw⟩
  have:=aCc (bar:=bar) (pk:=pk) (mk:=mk) (x:=x) l _ key.2.2 hl key.1;rw[aX,aH];exact⟨this.1,au,this.2.2⟩
theorem atl{bar:List cw}{row:List eA}{pk:Mk}{w:Nat×y4}(h:ES row):(mU bar row pk w).2.1=(mU bar row pk w).2.2.2.length/\ES (mU bar row pk w).2.2.2:=by have:=aCc (bar:=bar) (pk:=pk) (mk:=l9 row w.2.1) (x:=ao w) row (aT,0,(0,(0,())),[]) (λy hy=>by cases hy) h.2 rfl;have h0:=h.1;exact⟨this.1,by have:=this.2.1;show(mU bar row pk w).2.2.2.length<=90;unfold mU;simp only[bB]at this;omega,this.2.2⟩
def ah9(B:ayW):Prop:=(B.1=aJ\/∃w,B.1=ao w/\w.2.2.1.length=32)/\ES B.2.1
theorem alR{room:Int}{bar:List cw}{row:List eA}{pk:Mk}{B:ayW}{x:eA}(h:ES row)(hx:x∈row)(hB:ah9 B):ah9 (Ao room bar row pk B x):=by
 obtain⟨w,rfl,hw⟩:=h.2 x hx;have hn:ah9 (ao w,((mU bar row pk w).2.2.2,(mU bar row pk w).2.2.1)):=⟨.inr ⟨w,rfl,hw.2.2⟩,(atl h).2⟩;unfold Ao;split
 ·exact hB
 ·simp only;split
  ·split
   ·split
    ·exact hn
    ·split
     ·exact hn
     ·exact hB
   ·exact hB
  ·exact hB
theorem asT{room:Int}{bar:List cw}{row:List eA}{pk:Mk}(h:ES row):∀(l:List eA) (B:ayW),(∀x∈l,x∈row)->ah9 B->ah9 (l.foldl (Ao room bar row pk) B)
 |[],B,_,hB=>hB
 |x::l,B,hl,hB=>asT h l _ (λy hy=>hl y (aL _ hy)) (alR h (hl x aK) hB)
theorem ay9{room:Int}{bar:List cw}{row:List eA}{pk:Mk}(h:ES row):ah9 (ja room bar row pk):=asT h row _ (λx hx=>hx) ⟨.inl rfl,aN _,λx hx=>by cases hx⟩
theorem ayc:∀(l:List eA) (S:Nat×Mk×List dM),anU l->S.1=S.2.2.length->(l.foldl Wv S).1=(l.foldl Wv S).2.2.length/\(l.foldl Wv S).2.2.length=S.2.2.length+l.length
 |[],S,_,h=>⟨h,rfl⟩
 |y::l,S,h2,h=>by obtain⟨w,rfl,hw⟩:=h2 y aK;have:=ayc l (Wv S (ao w)) (λz hz=>h2 z (aL _ hz)) (by show S.1+1=(S.2.2++ [w.2.1]).length;rw[ak,h];rfl);rw[aX,aH];refine⟨this.1,?_⟩;rw[this.2];show(S.2.2++ [w.2.1]).length+l.length=_;rw[ak];show S.2.2.length+1+l.length=_;omega
def Yn(bar:List cw)(row:List eA):Prop:=ES row/\bar.length<=1000/\∀w,ao w∈row->(jn (yE row) 3 w.2.1 []).isSome=aT
def acx:J3->Prop:=λ(_,bar,_,_,_,_,_,_,l,n,i,_,_,_,_,_,_,bL,_,_,_,all,_)=>(ES l/\bar.length<=1000)/\n=(l.length:Int)/\∃k:Nat,k<=l.length/\i=k/\bL=all.length/\all.length<=k
def uD:J3->VA:=λ(_,bar,_,x,fits,_,_,_,l,_,i,_,_,_,_,_,_,bL,fw,pk,mk,all,_)=>(l.drop i.toNat).foldl (EJ bar pk mk x) (fits,bL,fw,all)
def acz:J4->Prop:=λ(_,_,oL,l,n,i,_,_,_,_,_,_,out)=>ES l/\n=(l.length:Int)/\∃k:Nat,k<=l.length/\i=k/\oL=out.length/\out.length<=100000+k
def DP:J4->VB:=λ(_,_,oL,l,_,i,_,_,_,_,_,pk,out)=>(l.drop i.toNat).foldl Wv (oL,pk,out)
def acv:Vz->Prop:=λ(_,bar,_,l,n,i,p,_,_,_,B,_,_)=>Yn bar p.2.1/\l=p.2.1/\n=(l.length:Int)/\(∃k:Nat,k<=l.length/\i=k)/\ah9 B
def DO:Vz->(Int×(List cw)×Nat×(Int×((List eA)×Unit))×Nat×(List (cw×eS))×(List cZ)×(eA×((List eA)×(Int×(Int×Unit))))×(List (eA×Bool))×(List dM)):=λ(room,bar,oL,l,_,i,p,c,a,s,B,pk,out)=>(room,bar,oL,p,c,a,s,(l.drop i.toNat).foldl (Ao room bar p.2.1 pk) B,pk,out)
def acs:Vy->Prop:=λ(room,bar,oL,p,_,_,_,pk,out)=>Yn bar p.2.1/\oL=out.length/\∃f:Nat,f<=100/\(jK bar p.2.1 f room pk out).isSome=aT/\out.length+90*f<=100000
def J2:Vy->(Nat×(Int×((List eA)×Unit))×Nat×(List (cw×eS))×(List cZ)×(List dM)):=λ(room,bar,_,p,c,a,s,pk,out)=>(((jK bar p.2.1 100 room pk out).getD []).length,p,c,a,s,(jK bar p.2.1 100 room pk out).getD [])
def aqY:anl->Prop:=λ(room,bar,p,_)=>Yn bar p.2.1/\(jK bar p.2.1 100 room [] []).isSome=aT
def anm:anl->(Nat×(Int×((List eA)×Unit))×Nat×(List (cw×eS))×(List cZ)×(List dM)):=λ(room,bar,p,n,a,s)=>(((jK bar p.2.1 100 room [] []).getD []).length,p,n,a,s,(jK bar p.2.1 100 room [] []).getD [])
def tJ:Ls acs bG J2:=yg (λ(acI,alM,outL,o0,o1L,di,oY,n19,n138)=>⟨([.ptr (.bF 0) 0 [] 0,.d ti acI,.d (.slice bM) alM]++bf 4 ([.cO (.new 19 0) 0,oa 138 outL]++bf 135 [])),[dC (.pr (.ptr (.bF 1) 0 [] 0) (.d (.pair ti (.pair (.slice dh) .unit)) o0)),dC (.pr (.cO (.bF 2) 0) (.pr (.b8 (.bF 3) 0 [] 0 0 o1L) kK)),dC (.mp bM eO di),dC (.vec 139 cC oY)],(bI 19 ([dG (.mp dh .bool n19)]++bI 118 ([dG (.vec 56 ee n138)]++bI 5 [])))⟩) (λx=>(.ret,⟨(bf 6 ([oa 138 x.1]++bf 137 [])),[dC (.pr (.ptr (.bF 1) 0 [] 0) (.d (.pair ti (.pair (.slice dh) .unit)) x.2.1)),dC (.pr (.cO (.bF 2) 0) (.pr (.b8 (.bF 3) 0 [] 0 0 x.2.2.1) kK)),dC (.mp bM eO x.2.2.2.1),dC (.vec 139 cC x.2.2.2.2.1)],(bI 138 ([dG (.vec 56 ee x.2.2.2.2.2)]++bI 5 []))⟩))
def lC:Ls acv bG DO:=yg (λ(O4,Yt,OI,t23,t24,t25,qm,w5,kD,HC,n9,zF,OG)=>⟨([.ptr (.bF 0) 0 [] 0,.d ti O4,.d (.slice bM) Yt]++bf 4 ([.cO (.new 19 0) 0,oa 138 OI,fu 9]++bf 13 ([.d (.slice dh) t23,.d ti t24,.d ti t25]++bf 118 []))),[dC (.pr (.ptr (.bF 1) 0 [] 0) (.d (.pair ti (.pair (.slice dh) .unit)) qm)),dC (.pr (.cO (.bF 2) 0) (.pr (.b8 (.bF 3) 0 [] 0 0 w5) kK)),dC (.mp bM eO kD),dC (.vec 139 cC HC)],(bI 9 ([dG (.d (.pair dh (.pair (.slice dh) (.pair ti (.pair ti .unit)))) n9)]++bI 9 ([dG (.mp dh .bool zF)]++bI 118 ([dG (.vec 56 ee OG)]++bI 5 []))))⟩) (λx=>(.exit 2,⟨([.ptr (.bF 0) 0 [] 0,.d ti x.1,.d (.slice bM) x.2.1]++bf 4 ([.cO (.new 19 0) 0,oa 138 x.2.2.1,fu 9]++bf 134 [])),[dC (.pr (.ptr (.bF 1) 0 [] 0) (.d (.pair ti (.pair (.slice dh) .unit)) x.2.2.2.1)),dC (.pr (.cO (.bF 2) 0) (.pr (.b8 (.bF 3) 0 [] 0 0 x.2.2.2.2.1) kK)),dC (.mp bM eO x.2.2.2.2.2.1),dC (.vec 139 cC x.2.2.2.2.2.2.1)],(bI 9 ([dG (.d (.pair dh (.pair (.slice dh) (.pair ti (.pair ti .unit)))) x.2.2.2.2.2.2.2.1)]++bI 9 ([dG (.mp dh .bool x.2.2.2.2.2.2.2.2.1)]++bI 118 ([dG (.vec 56 ee x.2.2.2.2.2.2.2.2.2)]++bI 5 []))))⟩))
def lD:Ls acx pV uD:=yg (λ(wM,Al,wE,x,fits,Ew,Ex,Ey,t46,t47,t48,yh,nZ,qB,yi,uA,n13,nD,mE,Ct,n40,aqf,wD)=>⟨([.ptr (.bF 0) 0 [] 0,.d ti wM,.d (.slice bM) Al]++bf 4 ([.cO (.new 19 0) 0,oa 138 wE,fu 9,cq,.d dh x,.cO (.new 40 0) 0,fu 13,.d .bool fits]++bf 8 ([.d (.slice dh) Ew,.d ti Ex,.d ti Ey]++bf 20 ([.d (.slice dh) t46,.d ti t47,.d ti t48]++bf 95 [])))),[dC (.pr (.ptr (.bF 1) 0 [] 0) (.d (.pair ti (.pair (.slice dh) .unit)) yh)),dC (.pr (.cO (.bF 2) 0) (.pr (.b8 (.bF 3) 0 [] 0 0 nZ) kK)),dC (.mp bM eO qB),dC (.vec 139 cC yi)],(bI 9 ([dG (.d (.pair dh (.pair (.slice dh) (.pair ti (.pair ti .unit)))) uA),[],[],[],dG (.pr (.d dh n13) (.pr (oa 70 nD) (.d (.pair ti (.pair ti .unit)) mE)))]++bI 5 ([dG (.mp dh .bool Ct)]++bI 20 ([dG (.mp dh .bool n40)]++bI 29 ([dG (.vec 104 dh aqf)]++bI 67 ([dG (.vec 56 ee wD)]++bI 5 []))))))⟩) (λx=>(.exit 4,⟨([.ptr (.bF 0) 0 [] 0,.d ti x.1.1,.d (.slice bM) x.1.2.1]++bf 4 ([.cO (.new 19 0) 0,oa 138 x.1.2.2.1,fu 9,cq,cq,cq,fu 13,.d .bool x.2.1]++bf 8 ([.d (.slice dh) x.1.2.2.2.1,.d ti x.1.2.2.2.2.1,.d ti x.1.2.2.2.2.2.1]++bf 118 []))),[dC (.pr (.ptr (.bF 1) 0 [] 0) (.d (.pair ti (.pair (.slice dh) .unit)) x.1.2.2.2.2.2.2.1)),dC (.pr (.cO (.bF 2) 0) (.pr (.b8 (.bF 3) 0 [] 0 0 x.1.2.2.2.2.2.2.2.1) kK)),dC (.mp bM eO x.1.2.2.2.2.2.2.2.2.1),dC (.vec 139 cC x.1.2.2.2.2.2.2.2.2.2.1)],(bI 9 ([dG (.d (.pair dh (.pair (.slice dh) (.pair ti (.pair ti .unit)))) x.1.2.2.2.2.2.2.2.2.2.2.1),[],[],[],dG (.pr (.d dh x.1.2.2.2.2.2.2.2.2.2.2.2.1) (.pr (oa 70 x.2.2.1) (.d (.pair ti (.pair ti .unit)) x.2.2.2.1)))]++bI 5 ([dG (.mp dh .bool x.1.2.2.2.2.2.2.2.2.2.2.2.2.1)]++bI 50 ([dG (.vec 104 dh x.2.2.2.2)]++bI 67 ([dG (.vec 56 ee x.1.2.2.2.2.2.2.2.2.2.2.2.2.2)]++bI 5 [])))))⟩))
def tK:Ls acz yC DP:=yg (λ(Ka,SC,DH,t123,t124,t125,aj4,UY,aj6,aj7,JS,Zn,JQ)=>⟨([.ptr (.bF 0) 0 [] 0,.d ti Ka,.d (.slice bM) SC]++bf 4 ([.cO (.new 19 0) 0,oa 138 DH,fu 9]++bf 113 ([.d (.slice dh) t123,.d ti t124,.d ti t125]++bf 18 []))),[dC (.pr (.ptr (.bF 1) 0 [] 0) (.d (.pair ti (.pair (.slice dh) .unit)) aj4)),dC (.pr (.cO (.bF 2) 0) (.pr (.b8 (.bF 3) 0 [] 0 0 UY) kK)),dC (.mp bM eO aj6),dC (.vec 139 cC aj7)],(bI 9 ([dG (.d (.pair dh (.pair (.slice dh) (.pair ti (.pair ti .unit)))) JS)]++bI 9 ([dG (.mp dh .bool Zn)]++bI 118 ([dG (.vec 56 ee JQ)]++bI 5 []))))⟩) (λx=>(.exit 6,⟨([.ptr (.bF 0) 0 [] 0,.d ti x.1.1,.d (.slice bM) x.1.2.1]++bf 4 ([.cO (.new 19 0) 0,oa 138 x.2.1,fu 9]++bf 134 [])),[dC (.pr (.ptr (.bF 1) 0 [] 0) (.d (.pair ti (.pair (.slice dh) .unit)) x.1.2.2.1)),dC (.pr (.cO (.bF 2) 0) (.pr (.b8 (.bF 3) 0 [] 0 0 x.1.2.2.2.1) kK)),dC (.mp bM eO x.1.2.2.2.2.1),dC (.vec 139 cC x.1.2.2.2.2.2.1)],(bI 9 ([dG (.d (.pair dh (.pair (.slice dh) (.pair ti (.pair ti .unit)))) x.1.2.2.2.2.2.2)]++bI 9 ([dG (.mp dh .bool x.2.2.1)]++bI 118 ([dG (.vec 56 ee x.2.2.2)]++bI 5 []))))⟩))
def tI:Fs Tryz.prog aqY bG anm:=fV 53 Tryz.f53 (λ(room,bar,o0b,o1baL,o2,o3)=>([.ptr (.bF 0) 0 [] 0,.d ti room,.d (.slice bM) bar],[.obj 0 aR (.pr (.ptr (.bF 1) 0 [] 0) (.d (.pair ti (.pair (.slice dh) .unit)) o0b)),.obj 0 aR (.pr (.cO (.bF 2) 0) (.pr (.b8 (.bF 3) 0 [] 0 0 o1baL) (.d .unit ()))),.obj 0 aR (.mp bM eO o2),.obj 0 aR (.vec 139 cC o3)])) (λx=>⟨.b8 (.new 0 0) 0 [] 0 0 x.1,[.obj 0 aR (.pr (.ptr (.bF 1) 0 [] 0) (.d (.pair ti (.pair (.slice dh) .unit)) x.2.1)),.obj 0 aR (.pr (.cO (.bF 2) 0) (.pr (.b8 (.bF 3) 0 [] 0 0 x.2.2.1) (.d .unit ()))),.obj 0 aR (.mp bM eO x.2.2.2.1),.obj 0 aR (.vec 139 cC x.2.2.2.2.1)],[.obj 0 aR (.vec 56 ee x.2.2.2.2.2)]⟩) [aJ,ao ti,ao (.slice bM)] [Cx,VE,awG,agG] {loops:=so [(3,{bp:=[0,1,2,7,8],sites:=[19,138],owns:=[⟨8,[],138,25⟩]}),(5,{bp:=[0,1,2,7,8,9,23,24,25],sites:=[9,19,138],Lu:=[⟨9,[.arr],(.pair dh (.pair (.slice dh) (.pair ti (.pair ti .unit))))⟩]}),(11,{bp:=[0,1,2,7,8,9,11,12,13,14,23,24,25,46,47,48],sites:=[9,13,19,40,70,138],owns:=[⟨13,[.snd,.fst],70,96⟩]}),(25,{bp:=[0,1,2,7,8,9,123,124,125],sites:=[9,19,138],owns:=[⟨8,[],138,25⟩]})],outs:=sm [(3,{bp:=[6]},{bp:=[6],sites:=[138]}),(5,{bp:=[0,1,2,6,7,8,9],sites:=[9,19,138]},{bp:=[6]}),(11,{bp:=[0,1,2,6,7,8,9,13,14,23,24,25],sites:=[9,13,19,70,138]},{bp:=[6]}),(25,{bp:=[0,1,2,6,7,8,9],sites:=[9,19,138]},{bp:=[6]})],gS:=tt [(3,tJ.E),(5,lC.E),(11,lD.E),(25,tK.E)]}
theorem acu:tJ.RS:=rL [.d ti,.d (.slice bM),.n,.d (.pair ti (.pair (.slice dh) .unit)),.n,.d (.slice (.pair bM eO)),.d (.slice cC),.d (.slice (.pair dh .bool)),.d (.slice ee)] tJ
theorem Io(acI alM outL o0 o1L di oY n19 n138)(kn:K2 R)(kx:K3 R):tI.R 0 tJ (acI,alM,outL,o0,o1L,di,oY,n19,n138) kn kx=aq (lC.call (acI,alM,outL,o0.2.1,(o0.2.1.length:Int),0,o0,o1L,di,oY,(aJ,(([]:List eA),(0,(0,())))),n19,n138)) λx1=>aS (Option.isNone x1.2.2.2.2.2.2.2.1.1) (tJ.go kx (x1.2.2.1,x1.2.2.2.1,x1.2.2.2.2.1,x1.2.2.2.2.2.1,x1.2.2.2.2.2.2.1,x1.2.2.2.2.2.2.2.2.2)) (aq (tK.call (x1.1,x1.2.1,x1.2.2.1,x1.2.2.2.2.2.2.2.1.2.1,(x1.2.2.2.2.2.2.2.1.2.1.length:Int),0,x1.2.2.2.1,x1.2.2.2.2.1,x1.2.2.2.2.2.1,x1.2.2.2.2.2.2.1,x1.2.2.2.2.2.2.2.1,x1.2.2.2.2.2.2.2.2.1,x1.2.2.2.2.2.2.2.2.2)) λx2=>kn (tJ.st ((dL .i64 x2.1.1 x2.1.2.2.2.2.2.2.2.2.2.1),x2.1.2.1,x2.2.1,x2.1.2.2.1,x2.1.2.2.2.1,x2.1.2.2.2.2.1,x2.1.2.2.2.2.2.1,x2.2.2.1,x2.2.2.2))):=cM
theorem acw:lC.RS:=rL [.d ti,.d (.slice bM),.n,.d (.slice dh),.d ti,.d ti,.d (.pair ti (.pair (.slice dh) .unit)),.n,.d (.slice (.pair bM eO)),.d (.slice cC),.d (.pair dh (.pair (.slice dh) (.pair ti (.pair ti .unit)))),.d (.slice (.pair dh .bool)),.d (.slice ee)] lC
theorem Ip(O4 Yt OI t23 t24 t25 qm w5 kD HC n9 zF OG)(kn:K2 R)(kx:K3 R):tI.R 1 lC (O4,Yt,OI,t23,t24,t25,qm,w5,kD,HC,n9,zF,OG) kn kx=aS (gY t25 t24) (aS (gI t25 (t23.length:Int)) (aS ((cd dh (nth dh t23 (ab t25)) zF).getD aR) (kn (lC.st (O4,Yt,OI,t23,t24,(bT .i64 t25 1),qm,w5,kD,HC,n9,zF,OG))) (aq ((nth dh t23 (ab t25))) λx1=>aq (tC.call (qm.2.1,x1.2.1)) λx2=>aq (lD.call (O4,Yt,OI,(nth dh t23 (ab t25)),aT,t23,t24,t25,qm.2.1,(qm.2.1.length:Int),0,qm,w5,kD,HC,n9,(nth dh t23 (ab t25)),0,(0,(0,())),zF,x2,([]:List eA),OG)) λx3=>aS (x3.2.1) (aS (adB x3.2.2.2.1.2.1 x3.1.1) (aS (Option.isNone x3.1.2.2.2.2.2.2.2.2.2.2.1.1) (aS (decide (0=0/\(0+x3.2.2.1)<=(ag x3.2.2.2.2))) (kn (lC.st (x3.1.1,x3.1.2.1,x3.1.2.2.1,x3.1.2.2.2.1,x3.1.2.2.2.2.1,(bT .i64 x3.1.2.2.2.2.2.1 1),x3.1.2.2.2.2.2.2.1,x3.1.2.2.2.2.2.2.2.1,x3.1.2.2.2.2.2.2.2.2.1,x3.1.2.2.2.2.2.2.2.2.2.1,(x3.1.2.2.2.2.2.2.2.2.2.2.2.1,((cut x3.2.2.2.2 0 x3.2.2.1),x3.2.2.2.1)),x3.1.2.2.2.2.2.2.2.2.2.2.2.2.1,x3.1.2.2.2.2.2.2.2.2.2.2.2.2.2))) aJ) (aS (decide (0=0/\(0+x3.2.2.1)<=(ag x3.2.2.2.2))) (aq (Mv.call ((x3.1.2.2.2.2.2.2.2.2.2.2.2.1,((cut x3.2.2.2.2 0 x3.2.2.1),x3.2.2.2.1)),x3.1.2.2.2.2.2.2.2.2.2.2.1)) λx4=>aS (x4) (aS (decide (0=0/\(0+x3.2.2.1)<=(ag x3.2.2.2.2))) (kn (lC.st (x3.1.1,x3.1.2.1,x3.1.2.2.1,x3.1.2.2.2.1,x3.1.2.2.2.2.1,(bT .i64 x3.1.2.2.2.2.2.1 1),x3.1.2.2.2.2.2.2.1,x3.1.2.2.2.2.2.2.2.1,x3.1.2.2.2.2.2.2.2.2.1,x3.1.2.2.2.2.2.2.2.2.2.1,(x3.1.2.2.2.2.2.2.2.2.2.2.2.1,((cut x3.2.2.2.2 0 x3.2.2.1),x3.2.2.2.1)),x3.1.2.2.2.2.2.2.2.2.2.2.2.2.1,x3.1.2.2.2.2.2.2.2.2.2.2.2.2.2))) aJ) (kn (lC.st (x3.1.1,x3.1.2.1,x3.1.2.2.1,x3.1.2.2.2.1,x3.1.2.2.2.2.1,(bT .i64 x3.1.2.2.2.2.2.1 1),x3.1.2.2.2.2.2.2.1,x3.1.2.2.2.2.2.2.2.1,x3.1.2.2.2.2.2.2.2.2.1,x3.1.2.2.2.2.2.2.2.2.2.1,x3.1.2.2.2.2.2.2.2.2.2.2.1,x3.1.2.2.2.2.2.2.2.2.2.2.2.2.1,x3.1.2.2.2.2.2.2.2.2.2.2.2.2.2)))) aJ)) (kn (lC.st (x3.1.1,x3.1.2.1,x3.1.2.2.1,x3.1.2.2.2.1,x3.1.2.2.2.2.1,(bT .i64 x3.1.2.2.2.2.2.1 1),x3.1.2.2.2.2.2.2.1,x3.1.2.2.2.2.2.2.2.1,x3.1.2.2.2.2.2.2.2.2.1,x3.1.2.2.2.2.2.2.2.2.2.1,x3.1.2.2.2.2.2.2.2.2.2.2.1,x3.1.2.2.2.2.2.2.2.2.2.2.2.2.1,x3.1.2.2.2.2.2.2.2.2.2.2.2.2.2)))) (kn (lC.st (x3.1.1,x3.1.2.1,x3.1.2.2.1,x3.1.2.2.2.1,x3.1.2.2.2.2.1,(bT .i64 x3.1.2.2.2.2.2.1 1),x3.1.2.2.2.2.2.2.1,x3.1.2.2.2.2.2.2.2.1,x3.1.2.2.2.2.2.2.2.2.1,x3.1.2.2.2.2.2.2.2.2.2.1,x3.1.2.2.2.2.2.2.2.2.2.2.1,x3.1.2.2.2.2.2.2.2.2.2.2.2.2.1,x3.1.2.2.2.2.2.2.2.2.2.2.2.2.2))))) aJ) (lC.go kx (O4,Yt,OI,qm,w5,kD,HC,n9,zF,OG)):=cM
theorem acy:lD.RS:=rL [.d ti,.d (.slice bM),.n,.d dh,.d .bool,.d (.slice dh),.d ti,.d ti,.d (.slice dh),.d ti,.d ti,.d (.pair ti (.pair (.slice dh) .unit)),.n,.d (.slice (.pair bM eO)),.d (.slice cC),.d (.pair dh (.pair (.slice dh) (.pair ti (.pair ti .unit)))),.d dh,.n,.d (.pair ti (.pair ti .unit)),.d (.slice (.pair dh .bool)),.d (.slice (.pair dh .bool)),.d (.slice dh),.d (.slice ee)] lD
theorem vk(wM Al wE x fits Ew Ex Ey t46 t47 t48 yh nZ qB yi uA n13 nD mE Ct n40 aqf wD)(kn:K2 R)(kx:K3 R):tI.R 2 lD (wM,Al,wE,x,fits,Ew,Ex,Ey,t46,t47,t48,yh,nZ,qB,yi,uA,n13,nD,mE,Ct,n40,aqf,wD) kn kx=aS (gY t48 t47) (aS (gI t48 (t46.length:Int)) (aS ((cd dh (nth dh t46 (ab t48)) Ct).getD aR) (kn (lD.st (wM,Al,wE,x,fits,Ew,Ex,Ey,t46,t47,(bT .i64 t48 1),yh,nZ,qB,yi,uA,n13,nD,mE,Ct,n40,aqf,wD))) (aS (!(Ty.beq dh (nth dh t46 (ab t48)) x)) (aS (!((cd dh (nth dh t46 (ab t48)) n40).getD aR)) (kn (lD.st (wM,Al,wE,x,fits,Ew,Ex,Ey,t46,t47,(bT .i64 t48 1),yh,nZ,qB,yi,uA,n13,nD,mE,Ct,n40,aqf,wD))) (aS (decide (nD<=(ag aqf))) (aS (ea (nD+1) 8) (aq ((nth dh t46 (ab t48))) λx1=>aq ((nth dh t46 (ab t48))) λx2=>aS (fits) (aq ((nth dh t46 (ab t48))) λx3=>aq (vm.call (x3.2.1,Al)) λx4=>kn (lD.st (wM,Al,wE,x,(!x4),Ew,Ex,Ey,t46,t47,(bT .i64 t48 1),yh,nZ,qB,yi,uA,n13,(nD+1),((bT .i64 mE.1 x1.2.2.2.1),((bT .i64 mE.2.1 x2.2.2.2.2.1),mE.2.2)),Ct,n40,((bn nD aqf)++ [(nth dh t46 (ab t48))]),wD))) (kn (lD.st (wM,Al,wE,x,aR,Ew,Ex,Ey,t46,t47,(bT .i64 t48 1),yh,nZ,qB,yi,uA,n13,(nD+1),((bT .i64 mE.1 x1.2.2.2.1),((bT .i64 mE.2.1 x2.2.2.2.2.1),mE.2.2)),Ct,n40,((bn nD aqf)++ [(nth dh t46 (ab t48))]),wD)))) aJ) aJ)) (aS (decide (nD<=(ag aqf))) (aS (ea (nD+1) 8) (aq ((nth dh t46 (ab t48))) λx5=>aq ((nth dh t46 (ab t48))) λx6=>aS (fits) (aq ((nth dh t46 (ab t48))) λx7=>aq (vm.call (x7.2.1,Al)) λx8=>kn (lD.st (wM,Al,wE,x,(!x8),Ew,Ex,Ey,t46,t47,(bT .i64 t48 1),yh,nZ,qB,yi,uA,n13,(nD+1),((bT .i64 mE.1 x5.2.2.2.1),((bT .i64 mE.2.1 x6.2.2.2.2.1),mE.2.2)),Ct,n40,((bn nD aqf)++ [(nth dh t46 (ab t48))]),wD))) (kn (lD.st (wM,Al,wE,x,aR,Ew,Ex,Ey,t46,t47,(bT .i64 t48 1),yh,nZ,qB,yi,uA,n13,(nD+1),((bT .i64 mE.1 x5.2.2.2.1),((bT .i64 mE.2.1 x6.2.2.2.2.1),mE.2.2)),Ct,n40,((bn nD aqf)++ [(nth dh t46 (ab t48))]),wD)))) aJ) aJ))) aJ) (lD.go kx ((wM,Al,wE,Ew,Ex,Ey,yh,nZ,qB,yi,uA,n13,Ct,wD),(fits,nD,mE,aqf))):=cM
theorem acA:tK.RS:=rL [.d ti,.d (.slice bM),.n,.d (.slice dh),.d ti,.d ti,.d (.pair ti (.pair (.slice dh) .unit)),.n,.d (.slice (.pair bM eO)),.d (.slice cC),.d (.pair dh (.pair (.slice dh) (.pair ti (.pair ti .unit)))),.d (.slice (.pair dh .bool)),.d (.slice ee)] tK
theorem Iq(Ka SC DH t123 t124 t125 aj4 UY aj6 aj7 JS Zn JQ)(kn:K2 R)(kx:K3 R):tI.R 3 tK (Ka,SC,DH,t123,t124,t125,aj4,UY,aj6,aj7,JS,Zn,JQ) kn kx=aS (gY t125 t124) (aS (gI t125 (t123.length:Int)) (aq ((nth dh t123 (ab t125))) λx1=>aq (QP.call x1.2.1) λx2=>aS (decide (DH<=(ag JQ))) (aS (ea (DH+1) 56) (kn (tK.st (Ka,SC,(DH+1),t123,t124,(bT .i64 t125 1),aj4,UY,aj6,aj7,JS,(e7 dh (nth dh t123 (ab t125)) aT Zn),((bn DH JQ)++ [x2])))) aJ) aJ) aJ) (tK.go kx ((Ka,SC,aj4,UY,aj6,aj7,JS),(DH,Zn,JQ))):=cM
theorem axd(room bar o0b o1baL o2 o3)(k:K1 R):tI.A (room,bar,o0b,o1baL,o2,o3) k=aq (tJ.call (room,bar,0,o0b,o1baL,o2,o3,([]:List (eA×Bool)),([]:List dM))) λaCW=>k (tI.out (aCW.1,aCW.2.1,aCW.2.2.1,aCW.2.2.2.1,aCW.2.2.2.2.1,aCW.2.2.2.2.2)):=cM
theorem agO:(tI.mM 2 lD):=by
 refine(tI.qG 2 lD) (λ(_,_,_,_,_,_,_,_,l,_,i,_)=>l.length - i.toNat) ?_
 rintro⟨room,bar,oL,x,fits,t23,t24,t25,l,n,i,p,c,a,s,B,x0,bL,fw,pk,mk,all,out⟩ ⟨⟨hr,Hy⟩,rfl,k,hk,rfl,rfl,vS⟩;have hl:l.length<=90:=hr.1;have hk:k<=l.length:=hk;have vS:all.length<=k:=vS;have Hy:bar.length<=1000:=Hy;by_cases h:k < l.length
 ·left;have n1:nth dh l k=l[k]:=da (t:=dh) h;have hd:l.drop k=l[k]::l.drop (k+1):=aC h;obtain⟨w,hw,hv,iO,hlen⟩:=hr.2 _ (aV h);rw[hw]at n1 hd;have hf:=(jg iO).1;cases hm:iP pk (ao w) with
  |true=>
   refine⟨(room,bar,oL,x,fits,t23,t24,t25,l,(l.length:Int),((k+1:Nat):Int),p,c,a,s,B,x0,all.length,fw,pk,mk,all,out),⟨⟨hr,Hy⟩,rfl,k+1,h,rfl,rfl,by show all.length<=k+1;omega⟩,by simp only[aa];omega,?_,λkn kx=> ?_⟩
   ·simp only[pV,uD,aa,hd,aX];rw[show EJ bar pk mk x (fits,all.length,fw,all) (ao w)=(fits,all.length,fw,all) from if_pos hm]
   ·rw[vk,bm au,aj,bz au au,aj,aa,n1,show(cd dh (ao w) pk).getD aR=aT from hm,aj,N.nV au]
  |false=>
   have hm':¬iP pk (ao w)=aT:=by rw[hm];decide
   by_cases hb:Ty.beq dh (ao w) x=aR/\iP mk (ao w)=aR
   ·refine⟨(room,bar,oL,x,fits,t23,t24,t25,l,(l.length:Int),((k+1:Nat):Int),p,c,a,s,B,x0,all.length,fw,pk,mk,all,out),⟨⟨hr,Hy⟩,rfl,k+1,h,rfl,rfl,by show all.length<=k+1;omega⟩,by simp only[aa];omega,?_,λkn kx=> ?_⟩
    ·simp only[pV,uD,aa,hd,aX];rw[show EJ bar pk mk x (fits,all.length,fw,all) (ao w)=(fits,all.length,fw,all) from(if_neg hm').trans (if_pos hb)]
    ·rw[vk,bm au,aj,bz au au,aj,aa,n1,show(cd dh (ao w) pk).getD aR=aR from hm,al,hb.1,eY,aj,show(cd dh (ao w) mk).getD aR=aR from hb.2,eY,aj,N.nV au]
   ·refine⟨(room,bar,oL,x,fits && !jo w.2.1 bar,t23,t24,t25,l,(l.length:Int),((k+1:Nat):Int),p,c,a,s,B,x0,all.length+1,(bT .i64 fw.1 w.2.2.2.1,(bT .i64 fw.2.1 w.2.2.2.2.1,fw.2.2)),pk,mk,all++ [ao w],out),⟨⟨hr,Hy⟩,rfl,k+1,h,rfl,by rw[ak];rfl,by rw[ak];show all.length+1<=k+1;omega⟩,by simp only[aa];omega,?_,λkn kx=> ?_⟩
    ·simp only[pV,uD,aa,hd,aX];rw[show EJ bar pk mk x (fits,all.length,fw,all) (ao w)=(fits && !jo w.2.1 bar,all.length+1,(bT .i64 fw.1 w.2.2.2.1,(bT .i64 fw.2.1 w.2.2.2.2.1,fw.2.2)),all++ [ao w]) from(if_neg hm').trans (if_neg hb)]
    ·have ajr:vm.call (w.2.1,bar)=ao (jo w.2.1 bar):=QX (d:=(w.2.1,bar)) ⟨by show w.2.1.1.length<=_;omega,by show bar.length<=_;omega⟩;rw[vk,bm au,aj,bz au au,aj,aa,n1,show(cd dh (ao w) pk).getD aR=aR from hm,al,ba (aF _),eW au au];simp only[ae,aj,ajr,cJ];cases hq:Ty.beq dh (ao w) x with
     |true=>
      rw[cG,al];cases fits with
      |true=>rw[aj,cD,N.nV au]
      |false=>rw[al,ff,N.nV au]
     |false=>
      have au2:iP mk (ao w)=aT:=by
       cases hx:iP mk (ao w) with
       |true=>rfl
       |false=>exact absurd ⟨hq,hx⟩ hb
      rw[eY,aj,show(cd dh (ao w) mk).getD aR=aT from au2,cG,al];cases fits with
      |true=>rw[aj,cD,N.nV au]
      |false=>rw[al,ff,N.nV au]
 ·right;obtain rfl:k=l.length:=au;intro T kn kx;rw[vk,bh au,al];simp only[pV,uD,aa,aU,db]
theorem agP:(tI.mM 3 tK):=by
 refine(tI.qG 3 tK) (λ(_,_,_,l,_,i,_)=>l.length - i.toNat) ?_
 rintro⟨room,bar,oL,l,n,i,p,c,a,s,B,pk,out⟩ ⟨hr,rfl,k,hk,rfl,rfl,Ru⟩;have hl:l.length<=90:=hr.1;have hk:k<=l.length:=hk;have Ru:out.length<=100000+k:=Ru;by_cases h:k < l.length
 ·left;have n1:nth dh l k=l[k]:=da (t:=dh) h;have hd:l.drop k=l[k]::l.drop (k+1):=aC h;obtain⟨w,hw,hv,iO,hlen⟩:=hr.2 _ (aV h);rw[hw]at n1 hd;refine⟨(room,bar,out.length+1,l,(l.length:Int),((k+1:Nat):Int),p,c,a,s,B,e7 dh (ao w) aT pk,out++ [w.2.1]),⟨hr,rfl,k+1,h,rfl,by rw[ak];rfl,by rw[ak];show out.length+1<=_;omega⟩,by simp only[aa];omega,?_,λkn kx=> ?_⟩
  ·simp only[yC,DP,aa,hd,aX,Wv]
  ·rw[Iq,bm au,aj,bz au au,aj,aa,n1,ae,ZD (d:=w.2.1) ⟨hv,iO⟩];simp only[ae,bG,Sk];rw[ba (aF _),aj,eW au au,aj,N.nV au,cJ]
 ·right;obtain rfl:k=l.length:=au;intro T kn kx;rw[Iq,bh au,al];simp only[yC,DP,aa,aU,db]
theorem agN:(tI.mM 1 lC):=by
 refine(tI.qG 1 lC) (λ(_,_,_,l,_,i,_)=>l.length - i.toNat) ?_
 rintro⟨room,bar,oL,l,n,i,p,c,a,s,B,pk,out⟩ ⟨⟨hr,Hy,aHN⟩,rfl,rfl,⟨k,hk,rfl⟩,hB⟩;have hl:p.2.1.length<=90:=hr.1;have hk:k<=p.2.1.length:=hk;by_cases h:k < p.2.1.length
 ·left;have n1:nth dh p.2.1 k=p.2.1[k]:=da (t:=dh) h;have hd:p.2.1.drop k=p.2.1[k]::p.2.1.drop (k+1):=aC h;have tn:=aV h;obtain⟨w,hw,hv,iO,hlen⟩:=hr.2 _ tn;rw[hw]at n1 hd tn;refine⟨(room,bar,oL,p.2.1,(p.2.1.length:Int),((k+1:Nat):Int),p,c,a,s,Ao room bar p.2.1 pk B (ao w),pk,out),⟨⟨hr,Hy,aHN⟩,rfl,rfl,⟨k+1,h,rfl⟩,alR hr tn hB⟩,by simp only[aa];omega,?_,λkn kx=> ?_⟩
  ·simp only[bG,DO,aa,hd,aX]
  ·rw[Ip,bm au,aj,bz au au,aj,aa,n1];cases hm:iP pk (ao w) with
   |true=>rw[show(cd dh (ao w) pk).getD aR=aT from hm,aj,show Ao room bar p.2.1 pk B (ao w)=B from if_pos hm,N.nV au]
   |false=>
    have hm':¬iP pk (ao w)=aT:=by rw[hm];decide
    rw[show(cd dh (ao w) pk).getD aR=aR from hm,al,ae,DI (d:=(p.2.1,w.2.1)) ⟨hr.some,by show p.2.1.length<=_;omega,aHN w tn⟩];simp only[ae,bG,FM];rw[acy (d:=(room,bar,oL,ao w,aT,p.2.1,(p.2.1.length:Int),(k:Int),p.2.1,(p.2.1.length:Int),0,p,c,a,s,B,ao w,0,(0,(0,())),pk,l9 p.2.1 w.2.1,[],out)) ⟨⟨hr,Hy⟩,rfl,0,aN _,rfl,rfl,aF _⟩];simp only[ae,pV,uD,bo,aQ];rw[show List.foldl (EJ bar pk (l9 p.2.1 w.2.1) (ao w)) (aT,0,(0,(0,())),[]) p.2.1=mU bar p.2.1 pk w from rfl];have hg:=atl (bar:=bar) (pk:=pk) (w:=w) hr
    have aGb:Ao room bar p.2.1 pk B (ao w)=if(mU bar p.2.1 pk w).1=aT then(if(mU bar p.2.1 pk w).2.2.1.2.1<=room then(if B.1.isNone=aT then(ao w,((mU bar p.2.1 pk w).2.2.2,(mU bar p.2.1 pk w).2.2.1)) else
      if YS (ao w,((mU bar p.2.1 pk w).2.2.2,(mU bar p.2.1 pk w).2.2.1)) B=aT then(ao w,((mU bar p.2.1 pk w).2.2.2,(mU bar p.2.1 pk w).2.2.1)) else B) else B) else B:=if_neg hm'
    rw[aGb];generalize mU bar p.2.1 pk w=S at hg;obtain⟨f,bL,fw,all⟩:=S;have e1:bL=all.length:=hg.1;subst e1;simp only[bg,aF,kf,cV,aj,fA];rw[N.nV au];cases f with
    |false=>rw[al,if_neg eZ]
    |true=>
     rw[aj,if_pos rfl];by_cases aFz:fw.2.1<=room
     ·rw[oO aFz,aj,if_pos aFz];rcases hB.1 with hn | ⟨v,ayO,NJ⟩
      ·rw[hn,Option.isNone_none,aj,if_pos rfl]
      ·rw[ayO,Option.isNone_some,al,if_neg eZ,aqI (d:=((ao w,(all,fw)),B)) ⟨⟨w,rfl,hlen⟩,v,ayO,NJ⟩];simp only[ae,bG,ace];cases aL8:YS (ao w,(all,fw)) B with
       |true=>rw[aj,if_pos rfl]
       |false=>rw[al,if_neg eZ]
     ·rw[mg aFz,al,if_neg aFz]
 ·right;obtain rfl:k=p.2.1.length:=au;intro T kn kx;rw[Ip,bh au,al];simp only[bG,DO,aa,aU,db]
theorem agM:(tI.mM 0 tJ):=by
 refine(tI.qG 0 tJ) (λ(room,bar,_,p,_,_,_,pk,out)=>FR bar p.2.1 100 room pk out) ?_
 rintro⟨room,bar,oL,p,c,a,s,pk,out⟩ ⟨hp,rfl,f,hf,hs,hlen⟩;have hf:f<=100:=hf;have hlen:out.length+90*f<=100000:=hlen;obtain⟨r,hr⟩:=bA.1 hs;have hF:=agD hf hr;have hB:=ay9 (room:=room) (bar:=bar) (pk:=pk) hp.1;have h1:=acw (d:=(room,bar,out.length,p.2.1,(p.2.1.length:Int),0,p,c,a,s,(aJ,([],(0,(0,())))),pk,out)) ⟨hp,rfl,rfl,⟨0,aN _,rfl⟩,.inl rfl,aN _,λx hx=>by cases hx⟩;simp only[bG,DO,bo,aQ]at h1;rw[show List.foldl (Ao room bar p.2.1 pk) (aJ,([],(0,(0,())))) p.2.1=ja room bar p.2.1 pk from rfl]at h1
 match f,hr,hlen with
 |f+1,hr,hlen=>
  rw[jK]at hr;cases hb:(ja room bar p.2.1 pk).1 with
  |none=>
   right;rw[hb]at hr;obtain rfl:=aP hr;intro T kn kx;rw[Io,h1];simp only[ae,hb,Option.isNone_none,aj,bG,J2,hF.1,dz]
  |some w=>
   left;rw[hb]at hr;have hr:jK bar p.2.1 f (dL .i64 room (ja room bar p.2.1 pk).2.2.2.1) (z6 (ja room bar p.2.1 pk).2.1 pk out).2.1 (z6 (ja room bar p.2.1 pk).2.1 pk out).2.2=ao r:=hr;have ht:=ayc (ja room bar p.2.1 pk).2.1 (out.length,pk,out) hB.2.2 rfl;have aDQ:(ja room bar p.2.1 pk).2.1.length<=90:=hB.2.1;have aLC:(z6 (ja room bar p.2.1 pk).2.1 pk out).2.2.length=out.length+(ja room bar p.2.1 pk).2.1.length:=ht.2;have hF2:=agD (show f<=99 by omega) hr;have hF3:=MA hF2.1;refine⟨(dL .i64 room (ja room bar p.2.1 pk).2.2.2.1,bar,(z6 (ja room bar p.2.1 pk).2.1 pk out).1,p,c,a,s,(z6 (ja room bar p.2.1 pk).2.1 pk out).2.1,(z6 (ja room bar p.2.1 pk).2.1 pk out).2.2),⟨hp,ht.1,f,au,by rw[hr];rfl,by rw[aLC];omega⟩,?_,?_,λkn kx=> ?_⟩
   ·show FR bar p.2.1 (99+1) _ _ _ < FR bar p.2.1 (99+1) room pk out
    conv=>rhs;rw[FR,hb]
    rw[hF3.2];exact Nat.lt_succ_self _
   ·simp only[bG,J2,hF.1,hF3.1,show jK bar p.2.1 100 (dL .i64 room (ja room bar p.2.1 pk).2.2.2.1) (z6 (ja room bar p.2.1 pk).2.1 pk out).2.1 (z6 (ja room bar p.2.1 pk).2.1 pk out).2.2=ao r from hF3.1]
   ·rw[Io,h1];simp only[ae,hb,Option.isNone_some,al];rw[acA (d:=(room,bar,out.length,(ja room bar p.2.1 pk).2.1,((ja room bar p.2.1 pk).2.1.length:Int),0,p,c,a,s,ja room bar p.2.1 pk,pk,out)) ⟨hB.2,rfl,0,aN _,rfl,rfl,by show out.length<=_;omega⟩];simp only[ae,yC,DP,bo,aQ];rfl
theorem axe:tI.Ok:=by rintro⟨room,bar,p,n,a,s⟩ ⟨hp,hs⟩;rw[axd,acu (d:=(room,bar,0,p,n,a,s,[],[])) ⟨hp,rfl,100,aF _,hs,eZ⟩];rfl
theorem aqZ:tI.RS:=rE [.d ti,.d (.slice bM),.d (.pair ti (.pair (.slice dh) .unit)),.n,.d (.slice (.pair bM eO)),.d (.slice cC)] tI
def axf:=tI.gf axe 4 ⟨.gA agM,⟨.gA agN,⟨.gA agO,⟨.gA agP,trivial⟩⟩⟩⟩
end Go.Ab
end
