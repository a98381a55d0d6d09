/-
  Made short by a program of mine (wip/tools/mini.py).
-/
import Derived.Test.YtipnkibclflleaaGreatS34x5
set_option linter.unusedVariables false
set_option linter.unusedSimpArgs false
set_option maxRecDepth 100000
set_option synthInstance.maxSize 5000
open List renaming replicate->ai,length->ae,take->bk
open Go renaming Program->aL
open BitVec renaming ofInt->aX
open Int renaming toNat_natCast->aa,toNat->ab
open Option renaming some->au,none->aH
open Bool renaming true->aO,false->aV
noncomputable section
variable {R:Type}
namespace Go.Ab
open Go.Proofs
def aA5(l:List eK):Prop:=∀x∈l,0<=x.2.1.1/\x.2.1.1<=1099511627776
theorem aEk{k:Int}:(decide (k≠0/\k < 2305843009213688669))= !zq k:=by
 unfold zq;by_cases h:k < 2305843009213688669/\k≠0
 ·rw[eC (⟨h.2,h.1⟩:k≠0/\k < 2305843009213688669),eY (λe=>e h)];rfl
 ·rw[eY (λe=>h ⟨e.2,e.1⟩),eC h];rfl
theorem akX:∀(l:List eK) (ks:List Int) (s:Int) (ins:List gU),l.length=ks.length->0<=s->s+wb l<=1125899906842624->aA5 l->(ins.map (·.1)++l.map (·.1)).Nodup->yE s ins l ks=if ks.any zq=aO then aH else au (s+wb l,ins++l.map F9)
 |[],[],s,ins,_,_,_,_,_=>by
  rw[yE];show au (s,ins)=au (s+0,ins++ []);rw[rN,bo]
  all_goals (intros;simp at*)
 |[],_::_,_,_,h,_,_,_,_=>by cases h
 |_::_,[],_,_,h,_,_,_,_=>by cases h
 |x::l,k::ks,s,ins,hl,h0,h1,ha,hn=>by
  have hx:=ha x aG;have hp:=adl (l:=l) λy hy=>ha y (aD _ hy)
  rw[tr]at h1;have hf:ins.any (sw x)=aV:=by rw[fg];intro i hi e;rw[km]at hn;exact hn.2.2 i.1 (dV hi) x.1 (by rw[bn];exact aG) ((ahM x i).1 e)
  have aBQ:rU s x.2.1.1=aO:=by unfold rU pN;rw[eC ⟨h0,aq⟩,eC ⟨hx.1,aq⟩,eC aq];rfl
  have ata:aey s ins x k= !zq k:=by unfold aey;rw[aBQ,hf,aEk];rfl
  rw[yE,ata,tZ];cases hb:zq k with
  |true=>rfl
  |false=>
   have hn':((ins++ [F9 x]).map (·.1)++l.map (·.1)).Nodup:=by rw[ji,aK];exact hn
   rw[dA,if_pos rfl,akX l ks (s+x.2.1.1) (ins++ [F9 x]) (Nat.succ.inj hl) aq aq (λy hy=>ha y (aD _ hy)) hn',Bool.false_or,tr,bn,aK,cC,Int.add_assoc]
theorem SQ{x y:dC}{v:Bool}(h:¬y=x):∀l:List (dC×Bool),cE cV y (eM cV x v l)=cE cV y l
 |[]=>by rw[M9,eE,if_neg (λe=>h ((Bb _ _).1 e)),xY]
 |p::l=>by
  rw[yN];split
  ·next e=>
   have e:=(Bb _ _).1 e;rw[eE,eE,if_neg (λe=>h ((Bb _ _).1 e)),if_neg (λe2=>h (((Bb _ _).1 e2).trans e.symm))]
  ·rw[eE,eE,SQ h l]
theorem alg:∀(l:List gU) (m:List (dC×Bool)),(∀x∈l,MW x=aO/\cE cV x.1 m=aH)->(l.map λx=>x.1).Nodup->By m l=aO
 |[],_,_,_=>rfl
 |x::l,m,h,hn=>by
  rw[bn,df]at hn;have hx:=h x aG;have e:GW m x=aV:=by unfold GW;rw[hx.2];rfl
  rw[By,e,hx.1,alg l _ (λy hy=>⟨(h y (aD _ hy)).1,?_⟩) hn.2]
  ·rfl
  ·rw[SQ (λe=>hn.1 (by rw[<-e];exact dV hy))];exact(h y (aD _ hy)).2
def aDi(x:gU):Int:=10+8*x.2.1.2.1.length+(if x.2.1.2.2.1=0 then 0 else 4)
theorem ap1{t:fN}{i:Nat}{k:Int}(iS:iF t=aO)(hi:i < t.1.length)(hk:0 < k/\k < 2305843009213688669):tV t i 0 [k]=aO:=by unfold tV;rw[iS,aM ⟨aq,aq,eR,eR,gE rfl⟩];simp only[tZ,List.any_nil,zq];rw[cz aq];rfl
theorem awF{t:fN}(h:iF t=aO)(hw:∀x∈t.1,aDi x=18):jY t=10+8*t.2.1.length+18*t.1.length:=by
 unfold jY;rw[if_pos h];have:∀(l:List gU) (n:Int),(∀x∈l,aDi x=18)->l.foldl sV n=n+18*l.length:=by
  intro l
  induction l with
  |nil=>intro n _;simp
  |cons x l ih=>
   intro n h;have hx:=h x aG;unfold aDi at hx;rw[bJ,ih _ λy hy=>h y (aD _ hy),aB];unfold sV;omega
 exact this _ _ hw
def nJ(x:eK):Int:=x.1.2.1+2
structure awN(x:eK):Prop where
 z:x.1.1=GB
 n0:0<=x.1.2.1
 n1:x.1.2.1<=7
 lk:x.2.1.2.1=iy [eQ (nJ x)]
 br:x.2.2.1=0
 sc:x.2.2.2.1=0
 a0:0<=x.2.1.1
 a1:x.2.1.1<=65535
theorem awN.key{x:eK}(h:awN x):0 < nJ x/\nJ x < 2305843009213688669:=by have:=h.n0;have:=h.n1;unfold nJ;omega
def aAX(id:Bs)(x:gU):Prop:=x.2.1=((0:Int),([nG (x.1.2.1+2) id],((0:Int),())))
theorem azJ{id:Bs}{x:gU}(h:aAX id x):aDi x=18:=by unfold aAX at h;unfold aDi;rw[h];rfl
theorem YE:∀(l:List eK) (t:fN) (i:Nat),iF t=aO->A7 t->(t.1.map (·.1)).drop i=l.map (·.1)->(∀x∈l,awN x)->(∀(j:Nat) (h:j < t.1.length),j < i->aAX (tl t) t.1[j])->
  ∃t',BP t i l (l.map nJ)= .inl t'/\iF t'=aO/\A7 t'/\t'.2=t.2/\tl t'=tl t/\t'.1.map (·.1)=t.1.map (·.1)/\∀x∈t'.1,aAX (tl t) x
 |[],t,i,iS,hv,hm,_,hs=>⟨t,by first | rfl | simp[BP],iS,hv,rfl,rfl,rfl,λx hx=>by
   obtain⟨j,hj,rfl⟩:=List.getElem_of_mem hx;have hl:=bK ae hm;rw[cv,bg]at hl;exact hs j hj (by simp at hl;omega)⟩
 |x::l,t,i,iS,hv,hm,hk,hs=>by
  have hl:=bK ae hm;rw[cv,bg,bg,aB]at hl;have hi:i < t.1.length:=aq;have hi':i < (t.1.map (·.1)).length:=by rw[bg];exact hi
  have hx:=hk x aG;rw[aA hi',List.getElem_map,bn]at hm;obtain⟨aF5,awS⟩:=List.cons.inj hm;have aIC:=ap1 iS hi hx.key;have ha:=afO (sc:=0) hv aIC agm;rw[aa]at ha;have e:vQ t i x.2.2.1 [nJ x] x.2.2.2.1=(DB t i (DC t 0 [nJ x] 0),0):=by rw[hx.br,hx.sc,Us,if_pos aIC,aa]
  have aES:(DB t i (DC t 0 [nJ x] 0)).1.map (·.1)=t.1.map (·.1):=(Fk t.1 i _ hi).symm;obtain⟨t',h1,h2,h3,h4,h5,h6,h7⟩:=YE l (DB t i (DC t 0 [nJ x] 0)) (i+1) ha.1 ha.2.1 (by rw[aES];exact awS) (λy hy=>hk y (aD _ hy)) (λj hj aKe=>by
   have hj':j < t.1.length:=by rw[afI]at hj;exact hj
   have aJe:j < (t.1.set i ((nth gB t.1 i).1,(DC t 0 [nJ x] 0,()))).length:=hj;rw[ha.2.2.1];show aAX (tl t) ((t.1.set i ((nth gB t.1 i).1,(DC t 0 [nJ x] 0,())))[j]'aJe);rw[List.getElem_set];split
   ·have n1:nth gB t.1 i=t.1[i]:=db (t:=gB) hi;show DC t 0 [nJ x] 0=_;rw[n1,aF5];rfl
   ·exact hs j hj' aq)
  refine⟨t',?_,h2,h3,h4,h5.trans ha.2.2.1,h6.trans aES,by rw[<-ha.2.2.1];exact h7⟩;rw[bn,BP,e,if_pos rfl];exact h1
theorem aA3:Sm GB:=⟨cq,λx hx=>by rw[(mi.1 (show x∈ai 32 (0:Int) from hx)).2];exact⟨eR,eR⟩⟩
structure aAi(l:List eK)(to:Lk)(dL:Int)(t:fN):Prop where
 ok:iF t=aO
 v:A7 t
 outs:t.2=([(wb l - dL,(to,()))],((0:Int),()))
 ins:t.1.map (·.1)=l.map (·.1)
 sg:∀x∈t.1,aAX (tl t) x
def aw2(l:List eK):Prop:=(1<=l.length/\l.length<=8)/\(∀x∈l,awN x)/\(l.map (·.1)).Nodup
theorem aw2.aIR{l:List eK}(h:aw2 l):aA5 l/\0<=wb l/\wb l<=524280:=by
 have h1:aA5 l:=λx hx=>by have:=(h.2.1 x hx).a0;have:=(h.2.1 x hx).a1;exact⟨aq,aq⟩
 have key:∀l:List eK,(∀x∈l,awN x)->0<=wb l/\wb l<=65535*(l.length:Int):=by
  intro l
  induction l with
  |nil=>intro _;exact⟨dp 0,dp 0⟩
  |cons x l ih=>
   intro hx;have h1:=ih λy hy=>hx y (aD _ hy)
   have h2:=hx x aG;have:=h2.a0;have:=h2.a1;rw[tr,aB];omega
 have:=key l h.2.1;have:=h.1.2;exact⟨h1,aq,aq⟩
theorem az2{l:List eK}{to:Lk}{n:Int}(h:aw2 l)(I8:ju to=aO)(h0:0<=n/\n<=1125899906842624):iF (l.map F9,([(n,(to,()))],((0:Int),())))=aO:=by
 have e1:By [] (l.map F9)=aO:=by refine alg _ _ (λx hx=> ?_) (by rw[oT];exact h.2.2);obtain⟨y,hy,rfl⟩:=cr.1 hx;have:=(h.2.1 y hy).n0;have:=(h.2.1 y hy).n1;refine⟨?_,rfl⟩;unfold MW;show(decide (0<=y.1.2.1/\y.1.2.1 < 64) && _)=aO;rw[aM ⟨aq,aq⟩];rfl
 have e2:yV 0 [(n,(to,()))]=((rU 0 n && ju to) && aO):=rfl;have e3:rU 0 n=aO:=by unfold rU pN;rw[aM ⟨eR,eR⟩,aM h0,aM aq];rfl
 unfold iF NP;show(_ && (By [] (l.map F9) && yV 0 [(n,(to,()))]))=aO;have h8:=h.1;rw[e1,e2,e3,I8,aM ⟨by show 1<=(l.map F9).length;rw[bg];omega,by show(l.map F9).length<=64;rw[bg];omega,by show 1<=64;decide,by show(0:Int)<=0;decide⟩];rfl
theorem aDc{l:List eK}{to:Lk}{n:Int}(h:aw2 l)(I8:agE to):A7 (l.map F9,([(n,(to,()))],((0:Int),()))):=by
 have h8:=h.1;refine⟨⟨λo ho=> ?_,by show(l.map F9).length<=_;rw[bg];omega,by show 1<=_;decide⟩,λy hy=> ?_,by show(0:Int)<=_;decide⟩
 ·rw[bf.1 (show o∈ [(n,(to,()))] from ho)];exact I8
 ·obtain⟨x,hx,rfl⟩:=cr.1 (show y∈l.map F9 from hy);refine⟨?_,⟨λs hs=>(by cases hs),agm⟩,aS _⟩;show Sm x.1.1;rw[(h.2.1 x hx).z];exact aA3
theorem at3{l:List eK}{to:Lk}{dL:Int}(h:aw2 l)(I8:agE to)(hl:ju to=aO)(h0:0<=dL)(h1:dL<=wb l):∃t,Gw l (l.map nJ) to dL=(t,0)/\aAi l to dL t:=by
 obtain⟨ha,c0,c1⟩:=h.aIR;have h8:=h.1;have hb:(l.map nJ).any zq=aV:=by rw[fg];intro k hk;obtain⟨x,hx,rfl⟩:=cr.1 hk;have:=(h.2.1 x hx).key;unfold zq;rw[cz aq];decide
 have hg:=akX l (l.map nJ) 0 [] (by rw[bg]) (dp 0) aq ha (by rw[eF,aT];exact h.2.2);rw[if_neg (by rw[hb];decide)]at hg;have iS:=az2 (n:=wb l - dL) h hl ⟨aq,aq⟩;have hv:=aDc (n:=wb l - dL) h I8;obtain⟨t,e1,e2,e3,e4,e5,e6,e7⟩:=YE l _ 0 iS hv (by show((l.map F9).map (·.1)).drop 0=_;rw[aN,oT];rfl) h.2.1 (λj _ hj=>absurd hj (Nat.not_lt_zero _));refine⟨t,?_,e2,e3,e4,by rw[e6];show(l.map F9).map (·.1)=_;rw[oT];rfl,by rw[e5];exact e7⟩;unfold Gw;rw[if_pos ⟨h8.1,aq,by rw[bg],hl⟩,hg];simp only[Int.zero_add,aT];rw[if_neg aq,e1]
theorem awG{l:List eK}(h:1<=l.length)(hk:∀x∈l,awN x):sX l=18+18*(l.length:Int):=by
 have key:∀(l:List eK) (n:Int),(∀x∈l,awN x)->l.foldl abZ n=n+18*(l.length:Int):=by
  intro l
  induction l with
  |nil=>intro n _;simp
  |cons x l ih=>
   intro n hx;have e:abZ n x=n+18:=by unfold abZ;rw[if_neg (λe=>e (hx x aG).sc)]
   rw[bJ,e,ih _ λy hy=>hx y (aD _ hy),aB];omega
 unfold sX;rw[if_neg aq,key l 18 hk]
theorem aAi.aDi{l:List eK}{to:Lk}{dL:Int}{t:fN}(h:aAi l to dL t)(hl:aw2 l):jY t=sX l:=by have e:=bK ae h.ins;rw[bg,bg]at e;rw[awG hl.1.1 hl.2.1,awF h.ok λx hx=>azJ (h.sg x hx),h.outs,e];show 10+8*((1:Nat):Int)+_=_;omega
def aDp(l:List eK)(A:At):Prop:=(∀x∈l,cE cV x.1 A=au (x.2.1,((0:Int),())))/\∀o:dC,¬o.1=GB->cE cV o A=aH
theorem aDp.eqv{l:List eK}{A A':At}(h:aDp l A)(e:C4 A' A):aDp l A':=⟨λx hx=>(e _).trans (h.1 x hx),λo ho=>(e _).trans (h.2 o ho)⟩
theorem aHB{k:Int}(hk:0 < k/\k < 2305843009213688669)(m:List Int):zX (iy [eQ k]) ((0:Int),([nG k m],((0:Int),()))) m 1 (1 - 0)=0:=by
 have hl:ju (iy [eQ k])=aO:=by rw[Kn [eQ k] (by show 1<=12;decide)];simp only[mY,List.all_nil,Kg,jx]
 have s1:=aaO [k] (aFr hk) 0 0 0 0 m 1 (1 - 0) (.inl rfl);rw[if_neg eR]at s1;exact(ayZ (l:=iy [eQ k]) (i:=0) (b:=([k].map eQ,0,0,0,())) hl (by show 0 < 1;decide) rfl _ _ _ _ _).trans s1
theorem alf{id:List Int}{A:At}:∀(ins:List gU) (l:List eK) (f0:Int),ins.map (·.1)=l.map (·.1)->(∀x∈ins,aAX id x)->(∀x∈l,awN x/\cE cV x.1 A=au (x.2.1,((0:Int),())))->wg 1 id A ins f0= .inr (f0+wb l)
 |[],[],f0,_,_,_=>by show Sum.inr f0=Sum.inr (f0+0);rw[rN]
 |[],_::_,_,h,_,_=>by cases h
 |_::_,[],_,h,_,_=>by cases h
 |i::ins,x::l,f0,h,hs,hx=>by
  rw[bn,bn]at h;obtain⟨h1,h2⟩:=List.cons.inj h;obtain⟨hk,hg⟩:=hx x aG;have aID:=hs i aG;unfold aAX at aID;have ho:zX x.2.1.2.1 i.2.1 id 1 (1 - 0)=0:=by rw[hk.lk,aID,h1];exact aHB hk.key id
  rw[wg,h1,hg];show(if zX x.2.1.2.1 i.2.1 id 1 (1 - 0)≠0 then _ else wg 1 id A ins (f0+x.2.1.1))=_;rw[if_neg (λe=>e ho),alf ins l _ h2 (λy hy=>hs y (aD _ hy)) (λy hy=>hx y (aD _ hy)),tr,Int.add_assoc]
theorem aAi.si{l:List eK}{to:Lk}{dL:Int}{t:fN}(h:aAi l to dL t)(hl:aw2 l){A:At}(hA:aDp l A)(hz:¬tl t=GB)(h0:0<=dL):fy t 1 A=(dL,0):=by
 unfold fy;rw[if_pos ⟨h.ok,eR,eR⟩,alf t.1 l 0 h.ins h.sg λx hx=>⟨hl.2.1 x hx,hA.1 x hx⟩];have n1:(iK t).any (pc A)=aV:=by rw[fg];intro o ho;unfold iK at ho;rw[if_pos h.ok]at ho;unfold BC at ho;obtain⟨i,_,rfl⟩:=cr.1 ho;unfold pc;rw[hA.2 _ hz];decide
 have n2:kV t.2.1=wb l - dL:=by rw[h.outs];show wb l - dL+0=_;omega
 simp only[n1,n2,cd,cK];rw[if_neg aq];refine bK (λz:Int=>(z,(0:Int))) ?_
 omega
def aH9(g:iI):Prop:=aA9 g/\aw2 g.1/\g.2.1=sX g.1/\g.2.2.1<=wb g.1
theorem aub{g:iI}{to:Lk}{h bF:Int}{b:vY}(hg:aH9 g)(I8:agE to)(hl:ju to=aO)(h0:0<=bF):
  (0 < bF/\∃e:Int,(e=4\/e=13)/\vA g (g.1.map nJ) to h b bF=(agC,0,e))\/
  ∃t dL,vA g (g.1.map nJ) to h b bF=(t,dL,0)/\bF < dL/\dL<=g.2.2.1/\sX g.1<=dL/\(0 < bF->bF+sX g.1<=dL)/\aAi g.1 to dL t:=by
 obtain⟨hG,hc,e1,e2⟩:=hg;have hf:=ahG (h:=h) (b:=b) hG;have hw:=awG hc.1.1 hc.2.1;have h8:=hc.1;have go:∀dL:Int,dL=(if bF > 0 then imax (so g h b) (bF+sX g.1) else so g h b)->¬(bF > 0/\so g h b<=bF)->¬dL > g.2.2.1->∃t,vA g (g.1.map nJ) to h b bF=(t,dL,0)/\aAi g.1 to dL t:=by
  intro dL aBV n1 n2;have p0:0<=dL:=by
   rw[aBV];split
   ·unfold imax;split <;> omega
   ·omega
  obtain⟨t,m1,m2⟩:=at3 hc I8 hl p0 (by omega:dL<=wb g.1);refine⟨t,?_,m2⟩;unfold vA;rw[if_neg n1,<-aBV,if_neg n2,m1,if_neg (λe=>e rfl)]
 by_cases n1:bF > 0/\so g h b<=bF
 ·left;refine⟨n1.1,4,.inl rfl,?_⟩;unfold vA;rw[if_pos n1]
 by_cases n0:bF > 0
 ·obtain⟨dL,aBV⟩:∃dL,dL=(if bF > 0 then imax (so g h b) (bF+sX g.1) else so g h b):=⟨_,rfl⟩;have h3:dL=imax (so g h b) (bF+sX g.1):=by rw[aBV,if_pos n0]
  by_cases n2:dL > g.2.2.1
  ·left;refine⟨n0,13,.inr rfl,?_⟩;unfold vA;rw[if_neg n1,<-aBV,if_pos n2]
  ·right;obtain⟨t,m1,m2⟩:=go dL aBV n1 n2;have h4:so g h b<=dL/\bF+sX g.1<=dL:=by rw[h3];unfold imax;split <;> omega
   exact⟨t,dL,m1,aq,aq,aq,λ_=>h4.2,m2⟩
 ·right;obtain⟨t,m1,m2⟩:=go (so g h b) (by rw[if_neg n0]) n1 aq;exact⟨t,_,m1,aq,hf.2,aq,λx=>absurd x aq,m2⟩
theorem aes{P:aL}{G:qh}{an:zp}{N:Nat}{fn:Func}{i:Nat}{D X Y:Type}{st:D->AS}{fS:D->Prop}{add:D->Y->X}{Post:D->Y->Prop}{out:X->Out (Exit×AS)}(μ:D->Nat)
  (h:∀d,fS d->∀(kn:AS->Option Unit) (kx:Exit->AS->Option Unit),(∀d',fS d'->μ d' < μ d->(∀y,Post d' y->∃y',Post d y'/\add d' y=add d y')->kn (st d')=au ())->(∀y e s,Post d y->(out (add d y)).eval=au (e,s)->kx e s=au ())->gw P G an N fn i st d kn kx=au ()):
  akl P G an N fn i st fS add Post out:=by
 have key:∀M d,fS d->μ d < M->∀k:Exit->AS->Option Unit,(∀y e s,Post d y->(out (add d y)).eval=au (e,s)->k e s=au ())->M6 P G an N fn i M (st d) k=au ():=by
  intro M
  induction M with
  |zero=>intro d _ hm;omega
  |succ M ih=>
   intro d hp hm k hk;rw[BA];refine h d hp _ k (λd' h1 h2 h3=>ih d' h1 aq k λy e s h4 h5=> ?_) hk;obtain⟨y',h6,h7⟩:=h3 y h4;rw[h7]at h5;exact hk y' e s h6 h5
 exact λd hp=>⟨μ d+1,key _ d hp (Nat.lt_succ_self _)⟩
def EN(g:iI):List dC:=g.1.map (·.1)
def Br(gs:List iI):List dC:=(JZ gs).map (·.1)
def Vl(gs:List iI)(j:Nat)(L:List gG):Prop:=(∀x∈L,∃w,x=au w/\amn w/\∀i∈w.2.1.1,i.1 ∉ Br (gs.drop j))/\L.length<=j
def YZ(L:List gG)(id:Bs):Prop:=∀w,au w∈L->¬w.2.2.1=id
def Md(gs:List iI)(j:Nat)(row:List gG)(bF:Int)(last:Bs):Prop:=∃Lr o,row=Lr++o/\Vl gs j Lr/\((bF=0/\o=[])\/(0 < bF/\bF<=1125899906842624/\∃w,o=[au w]/\amn w/\w.2.2.1=last/\w.2.2.2.1=bF/\w.2.2.2.2.1=sX (nth ir gs j).1/\w.2.1.1.map (·.1)=EN (nth ir gs j)/\YZ Lr last))
def aFO(gs:List iI)(n:Nat)(a:At)(s:List eT):Prop:=(∀g∈gs,aH9 g/\aDp g.1 (fK a))/\(Br gs).Nodup/\gs.length<=16/\QP 300 n a s
theorem Cl(g:iI)(gs:List iI):Br (g::gs)=EN g++Br gs:=by unfold Br;rw[ML,ji];rfl
theorem Vl.aCT{gs:List iI}{j:Nat}{L:List gG}(h:Vl gs j L)(hj:j<=17):Me L:=⟨by have:=h.2;omega,λx hx=>by
 obtain⟨w,e,h1,_⟩:=h.1 x hx;exact⟨w,e,h1⟩⟩
theorem ajP{t:fN}:∀(L R:List gG),Y0 L->(∀w,au w∈L->nH w.2.1 (dJ t)=aV)->L.foldl (NL t) ([],R)=([],R++L)
 |[],R,_,_=>by rw[eB,bo]
 |x::L,R,hs,h=>by
  obtain⟨w,rfl⟩:=bD.1 (hs x aG);have e:NL t ([],R) (au w)=([],R++ [au w]):=by show(if nH w.2.1 (dJ t)=aO then _ else(([]:Mk),if Dc [] (au w)=aO then R else R++ [au w]))=_;rw[if_neg (by rw[h w aG];decide),if_neg (by show ¬(aV=aO);decide)]
  rw[bJ,e,ajP L _ (λy hy=>hs y (aD _ hy)) λv hv=>h v (aD _ hv),aK];rfl
theorem azU{t:fN}{w:Nat×Mc}{R:List gG}(h:nH w.2.1 (dJ t)=aO):NL t ([],R) (au w)=([(au w,aO)],R):=by
 have e:Dc [((au w:gG),aO)] (au w)=aO:=by unfold Dc;rw[eE,if_pos (beq_refl fk _ rfl)];rfl
 show(if nH w.2.1 (dJ t)=aO then((eM fk (au w) aO []:Mk),if Dc (eM fk (au w) aO []) (au w)=aO then R else R++ [au w]) else _)=_;rw[if_pos h,show(eM fk (au w) aO []:Mk)=[(au w,aO)] from rfl,if_pos e]
theorem ap9{t:fN}{l:List dC}(h:∀i∈t.1,i.1 ∉ l):nH t l=aV:=by unfold nH;rw[fg];intro i hi;unfold ap8;rw[jL];rintro⟨o,ho,e⟩;have:i.1=o:=(Bb _ _).1 e;exact h i hi (by rw[this];exact ho)
theorem av1{t:fN}{l:List dC}{i:gU}(hi:i∈t.1)(h:i.1∈l):nH t l=aO:=by unfold nH;rw[jL];refine⟨i,hi,?_⟩;unfold ap8;rw[jL];exact⟨i.1,h,(Bb _ _).2 rfl⟩
theorem axz{a c W:Int}(h0:0<=c)(h1:c < a)(h2:a<=1125899906842624)(w0:0 < W)(w1:W<=1000):axy a W c W > 0:=by
 have u:∀x:Int,0<=x->x<=1125899906842624->dP .u64 x=x:=λx hx hy=>by rw[En];omega
 have p1:a*W<=1125899906842624*1000:=Int.mul_le_mul h2 w1 (rO w0) eR;have p2:c*W < a*W:=Int.mul_lt_mul_of_pos_right h1 w0;have p3:0<=c*W:=nQ h0 (rO w0);unfold axy;rw[u a aq h2,u W aq aq,u c h0 aq];generalize a*W=x at p1 p2;generalize c*W=y at p2 p3;rw[show x / 18446744073709551616=0 by omega,show y / 18446744073709551616=0 by omega,show x%18446744073709551616=x by omega,show y%18446744073709551616=y by omega];have e1:v7 0 0=0:=rfl;have e2:v7 x y=1:=by unfold v7;rw[if_neg aq,if_pos aq]
 rw[e1,e2];decide
theorem anz{L:List gG}{w:Nat×Mc}(id:Bs)(h:w.2.2.1=id):(tc id (L++ [au w])).isSome=aO:=by unfold tc;rw[List.find?_isSome];exact⟨au w,j3 _ aG,by show decide _=aO;exact aM h⟩
theorem ZW{L:List gG}{id:Bs}(hs:Y0 L):tc id L=aH↔YZ L id:=by
 unfold tc YZ;rw[List.find?_eq_none];constructor
 ·intro h w hw e;exact h _ hw (by show decide _=aO;exact aM e)
 ·intro h x hx;obtain⟨w,rfl⟩:=bD.1 (hs x hx);show ¬decide (w.2.2.1=id)=aO;rw[cz (h w hx)];decide
def aDa:Lk:=iy [4]
theorem aDb:agE aDa/\ju aDa=aO:=by
 refine⟨⟨λb hb=> ?_,by show 1<=_;decide⟩,?_⟩
 ·rw[bf.1 (show b∈ [([4],(0,(0,(0,()))))] from hb)];exact⟨Sn ⟨eR,eR⟩ XS,agm⟩
 ·show ju (iy [4])=aO;rw[Kn [4] (by show 1<=12;decide)];simp only[mY,List.all_nil,ays,jx]
theorem Md.add{gs:List iI}{j:Nat}{row:List gG}{bF:Int}{last:Bs}{n:Nat}{a:At}{s:List eT}{t:fN}{dL:Int}(hP:aFO gs n a s)(hj:j < gs.length)(hR:Md gs j row bF last)(hT:aAi (nth ir gs j).1 aDa dL t)
  (hf:bF < dL) (hm:dL<=1125899906842624) (hw:sX (nth ir gs j).1<=dL) (ho:0 < bF->bF+sX (nth ir gs j).1<=dL) (hn:tc (tl t) row=aH) (hz:¬tl t=GB):
  ∃G L,aA4 t (1,(row,())) n a s G L/\Md gs j (L++ [au ((0:Nat),Tp (1,(row,())) t a)]) dL (tl t)/\Vl gs j L/\(0 < bF->YZ L last/\¬tl t=last)/\(fy t 1 (fK a)).1=dL/\jY t=sX (nth ir gs j).1/\t.1.map (·.1)=EN (nth ir gs j)/\YZ L (tl t):=by
 obtain⟨hg,aET,aDv,nw⟩:=hP;have rD:nth ir gs j∈gs:=by rw[db (t:=ir) hj];exact aZ hj
 obtain⟨⟨hG,hC,_,_⟩,hA⟩:=hg _ rD;obtain⟨Lr,o,rfl,hI,hO⟩:=hR;have adU:dJ t=EN (nth ir gs j):=by unfold dJ;rw[if_pos hT.ok];exact hT.ins
 have aFW:gs.drop j=nth ir gs j::gs.drop (j+1):=by rw[db (t:=ir) hj];exact aA hj
 have agu:=hT.si hC hA hz (by omega:0<=dL);have aFb:=hT.aDi hC;have OE:WU t:=by
  have e:=bK ae hT.ins;rw[bg,bg]at e;refine⟨by have:=hC.1.2;omega,λi hi=> ?_⟩;have:i.1∈(nth ir gs j).1.map (·.1):=by rw[<-hT.ins];exact dV hi
  obtain⟨x,hx,e⟩:=cr.1 this;rw[<-show x.1=i.1 from e];exact(hC.2.1 x hx).z
 have hRL:=hI.aCT aq;have aIx:∀w,au w∈Lr->nH w.2.1 (dJ t)=aV:=λw hw=>by
  obtain⟨v,e,_,hv⟩:=hI.1 _ hw;obtain rfl:=aQ e;refine ap9 λi hi hx=>hv i hi ?_
  rw[aFW,Cl];rw[adU]at hx;exact fV _ hx
 have aKl:=awG hC.1.1 hC.2.1;have h8:=hC.1;have Z4:amn ((0:Nat),Tp (1,(Lr++o,())) t a):=⟨hT.v,OE.1,OE,hz⟩
 have base:∀(G:Mk),(Lr++o).foldl (NL t) ([],[])=(G,Lr)->Me (Lr++o)->G.length<=1->(∀y∈G,aaN t dL y.1)->jY t+(G.map λy=>axR y.1).sum<=dL->YZ Lr (tl t)->(0 < bF->YZ Lr last/\¬tl t=last)->
   ∃G L,aA4 t (1,(Lr++o,())) n a s G L/\Md gs j (L++ [au ((0:Nat),Tp (1,(Lr++o,())) t a)]) dL (tl t)/\Vl gs j L/\(0 < bF->YZ L last/\¬tl t=last)/\(fy t 1 (fK a)).1=dL/\jY t=sX (nth ir gs j).1/\t.1.map (·.1)=EN (nth ir gs j)/\YZ L (tl t):=by
  intro G hG1 hG2 hG3 hG4 hG5 hG6 hG7;refine⟨G,Lr,⟨hT.v,hT.ok,OE,hG2,hn,hG1,hRL,hG3,?_,nw,?_,?_⟩,⟨Lr,_,rfl,hI,.inr ⟨aq,hm,_,rfl,Z4,rfl,?_,aFb,hT.ins,hG6⟩⟩,hI,hG7,by rw[agu],aFb,hT.ins,hG6⟩
  ·show ∀y∈G,aaN t (fy t 1 (fK a)).1 y.1;rw[agu];exact hG4
  ·show(fy t 1 (fK a)).2=0;rw[agu]
  ·show _<=(fy t 1 (fK a)).1;rw[agu];exact hG5
  ·show(fy t 1 (fK a)).1=dL;rw[agu]
 rcases hO with⟨h0,rfl⟩ | ⟨h0,hold,w,rfl,aFa,ak7,aJI,aJJ,aF9,aJK⟩
 ·rw[bo]at hn;refine base [] (by rw[bo,ajP Lr [] hRL.some aIx];rfl) (by rw[bo];exact hRL) (aS _) (λy hy=>by cases hy) (by show jY t+0<=dL;omega) ((ZW hRL.some).1 hn) λh=>aq
 ·have aJE:nH w.2.1 (dJ t)=aO:=by
   have e:=bK ae aF9;unfold EN at e;rw[bg,bg]at e;have og:0 < w.2.1.1.length:=aq;refine av1 (aZ og) ?_
   rw[adU,<-aF9];exact dV (aZ og)
  have pP:Me (Lr++ [au w]):=⟨by rw[ak];have:=hI.2;show _+1<=90;omega,λx hx=>by
   rcases bp.1 hx with hx | hx
   ·exact hRL.2 x hx
   ·exact⟨w,bf.1 hx,aFa⟩⟩
  have ax9:=(ZW pP.some).1 hn;refine base [(au w,aO)] ?_ pP (aC 1) (λy hy=> ?_) ?_ (λv hv=>ax9 v (fV _ hv)) λ_=>⟨aJK,λe=>ax9 w (j3 _ aG) (ak7.trans e.symm)⟩
  ·rw[List.foldl_append,ajP Lr [] hRL.some aIx,aT,bJ,eB,azU aJE]
  ·rw[bf.1 hy];refine⟨w,rfl,?_,aq,aq⟩;rw[aJI,aJJ,aFb];exact axz aq hf hm aq aq
  ·have:=ho h0;show jY t+(w.2.2.2.1+0)<=dL;omega
abbrev DS:=(List Int)×Int×Int×(List Int)×vY×Bool×Nat×Nat×Int×(List eK)×(List jo)
abbrev N0:=Nat×Nat×(List eK)×(List jo)
def ud:DS->N0->((Int×(List Int)×vY×Bool)×(Nat×Nat×(List eK)×(List jo))):=λ(oX,zk,ij,rb,yh,head,lL,outsL,i,n59,aaG) y=>((ij,rb,yh,head),y)
abbrev vd:=(List Int)×vY×Bool×(List iI)×Int×(Int×((List gG)×Unit))×Nat×(List (dC×gZ))×(List eT)
def rZ:vd->AS:=λ(Bv,Qk,H7,g,ak8,aFl,at7,aeD,aeE)=>⟨(ba 4 ([.d (.slice ti) Bv,cj,cj,cj,.eG yc Qk,cj,cj,.d .bool H7]++ba 5 ([.d (.slice ir) g,cj,fa 86,.d ti ak8]++ba 197 []))),[],(bC 86 ([[eL (.pr (.ptr (.new 86 1) 0 [] 0) (.d (.pair ti (.pair (.slice fk) .unit)) aFl)),eL (.pr (.dM (.new 86 2) 0) (.pr (.cM (.new 86 3) 0 [] 0 0 at7) oc)),eL (.mp cV jn aeD),eL (.vec 134 eP aeE)]]++bC 131 []))⟩
def Ao:Bool->Exit×AS:=λx=>(.ret,⟨(ba 10 ([.d .bool x]++ba 207 [])),[],(ai 218 [])⟩)
def Ap:Bool->Exit×AS:=λx=>(.exit 2,⟨(ba 11 ([.d .bool x]++ba 206 [])),[],(ai 218 [])⟩)
abbrev DU:=(Bool)⊕(Bool)
abbrev N4:=(Bool)⊕(Bool)
def GD:DU->Out (Exit×AS):=λx=> .br x.isLeft (.get x.getLeft? λa=> .ok (Ao a)) (.get x.getRight? λb=> .ok (Ap b))
def uf:vd->N4->DU:=λ(Bv,Qk,H7,g,ak8,aFl,at7,aeD,aeE) y=>match y with | .inl y=> .inl y | .inr z=> .inr (z)
abbrev DX:=(List Int)×vY×Bool×(List iI)×Int×Nat×Int×(Int×((List gG)×Unit))×Nat×(List (dC×gZ))×(List eT)×(List Int)
abbrev N5:=Nat×(List Int)
def ug:DX->N5->(((List Int)×vY×Bool×(List iI)×Int×(Int×((List gG)×Unit))×Nat×(List (dC×gZ))×(List eT))×(Nat×(List Int))):=λ(tx,aBh,H8,aqS,aqY,keysL,kv,Tf,Ir,Tg,Th,n119) y=>((tx,aBh,H8,aqS,aqY,Tf,Ir,Tg,Th),y)
abbrev vf:=(List Int)×vY×Bool×(List iI)×Int×Nat×Int×Int×Bs×(Int×((List gG)×Unit))×Nat×(List (dC×gZ))×(List eT)×(List Int)
def jq:vf->AS:=λ(gF,aqQ,mz,ahQ,ah6,uv,bF,Ie,n24,KB,Cy,KC,KD,AJ)=>⟨(ba 4 ([.d (.slice ti) gF,cj,cj,cj,.eG yc aqQ,cj,cj,.d .bool mz]++ba 5 ([.d (.slice ir) ahQ,cj,fa 86,.d ti ah6,lq 119 uv,cj,.d ti bF,fa 24,.d ti Ie]++ba 192 []))),[],(bC 24 ([dz (.d tH n24)]++bC 61 ([[eL (.pr (.ptr (.new 86 1) 0 [] 0) (.d (.pair ti (.pair (.slice fk) .unit)) KB)),eL (.pr (.dM (.new 86 2) 0) (.pr (.cM (.new 86 3) 0 [] 0 0 Cy) oc)),eL (.mp cV jn KC),eL (.vec 134 eP KD)]]++bC 32 ([[.obj 0 aO (.vec 38 tu AJ)]]++bC 98 []))))⟩
def c9:Bool->Exit×AS:=λx=>(.ret,⟨(ba 10 ([.d .bool x]++ba 207 [])),[],(ai 218 [])⟩)
abbrev Jp:=((List Int)×vY×Bool×(List iI)×Int)×((Int×((List gG)×Unit))×Nat×(List (dC×gZ))×(List eT))
def Aq:Jp->Exit×AS:=λ((a,b,c,e,f),g,h,i,j)=>(.exit 6,⟨(ba 4 ([.d (.slice ti) a,cj,cj,cj,.eG yc b,cj,cj,.d .bool c]++ba 5 ([.d (.slice ir) e,cj,fa 86,.d ti f]++ba 197 []))),[],(bC 86 ([[eL (.pr (.ptr (.new 86 1) 0 [] 0) (.d (.pair ti (.pair (.slice fk) .unit)) g)),eL (.pr (.dM (.new 86 2) 0) (.pr (.cM (.new 86 3) 0 [] 0 0 h) oc)),eL (.mp cV jn i),eL (.vec 134 eP j)]]++bC 131 []))⟩)
abbrev DZ:=(Bool)⊕(Jp)
abbrev N7:=(Bool)⊕(((Int×((List gG)×Unit))×Nat×(List (dC×gZ))×(List eT)))
def GG:DZ->Out (Exit×AS):=λx=> .br x.isLeft (.get x.getLeft? λa=> .ok (c9 a)) (.get x.getRight? λb=> .ok (Aq b))
def nb:vf->N7->DZ:=λ(gF,aqQ,mz,ahQ,ah6,uv,bF,Ie,n24,KB,Cy,KC,KD,AJ) y=>match y with | .inl y=> .inl y | .inr z=> .inr (((gF,aqQ,mz,ahQ,ah6),z))
abbrev acH:=(List Int)×Int×Int×vY×(List Int)
def Qp(u:Int):Nat->List Int->List eK
 |_,[]=> []
 |k,a::xs=>oC k (di .and .i64 a 65535) (if k=0 then u else 0)::Qp u (k+1) xs
def Vs:DS->Prop:=λ(xs,_,_,_,_,_,lL,oL,i,l,outs)=>xs.length<=8/\lL=l.length/\oL=outs.length/\∃k:Nat,k<=xs.length/\i=k/\l.length=k/\outs.length=k
def zx:DS->N0:=λ(xs,u,_,_,_,_,_,_,i,l,outs)=>((l++Qp u i.toNat (xs.drop i.toNat)).length,(outs++(Qp u i.toNat (xs.drop i.toNat)).map (·.2.1)).length,l++Qp u i.toNat (xs.drop i.toNat),outs++(Qp u i.toNat (xs.drop i.toNat)).map (·.2.1))
def Vv:DX->Prop:=λ(_,_,_,gs,i,kL,kv,_,_,_,_,ks)=>(∃j:Nat,j < gs.length/\i=j/\aw2 (nth ir gs j).1/\∃k:Nat,k<=(nth ir gs j).1.length/\kv=k/\ks.length=k)/\kL=ks.length
def zy:DX->N5:=λ(_,_,_,gs,i,_,kv,_,_,_,_,ks)=>((ks++((nth ir gs i.toNat).1.drop kv.toNat).map nJ).length,ks++((nth ir gs i.toNat).1.drop kv.toNat).map nJ)
def uh:vf->Prop:=λ(hs,_,hd,gs,i,kL,bF,kv,last,p,n,a,s,ks)=>(hd=aO/\hs.length<=6)/\aFO gs n a s/\(kL=ks.length/\p.1=1)/\∃j k:Nat,j < gs.length/\i=j/\k<=hs.length/\kv=k/\ks=(nth ir gs j).1.map nJ/\Md gs j p.2.1 bF last/\0<=bF
def r9:vf->N7->Prop:=λ(_,_,_,gs,i,_,_,_,_,_,n,a,s,_) y=>match y with
 | .inl v=>v=aO
 | .inr z=>z.2=(n,a,s)/\z.1.1=1/\Vl gs (i.toNat+1) z.1.2.1
def ue:vd->Prop:=λ(hs,_,hd,gs,i,p,n,a,s)=>(hd=aO/\hs.length<=6)/\aFO gs n a s/\p.1=1/\∃j:Nat,j<=gs.length/\i=j/\Vl gs j p.2.1
def rY:vd->N4->Prop:=λ_ y=>match y with
 | .inl v=>v=aO
 | .inr v=>v=aO
def ag6:acH->Prop:=λ(_,u,_,_,_)=>u<=9223372036854775807
def acI:acH->Bool:=λ_=>aO
def na:Ls Vs ud zx:=wh (λ(oX,zk,ij,rb,yh,head,lL,outsL,i,n59,aaG)=>⟨([.d (.slice ti) oX,.d ti zk,.d ti ij,cj,.d (.slice ti) rb,cj,cj,cj,.eG yc yh,cj,cj,.d .bool head,lq 59 lL,lq 64 outsL,.d ti i]++ba 203 []),[],(bC 59 ([dz (.vec 40 fp n59)]++bC 4 ([dz (.vec 36 nu aaG)]++bC 153 [])))⟩) (λx=>(.exit 0,⟨([cj,cj,.d ti x.1.1,cj,.d (.slice ti) x.1.2.1,cj,cj,cj,.eG yc x.1.2.2.1,cj,cj,.d .bool x.1.2.2.2,lq 59 x.2.1,lq 64 x.2.2.1]++ba 204 []),[],(bC 59 ([dz (.vec 40 fp x.2.2.2.1)]++bC 4 ([dz (.vec 36 nu x.2.2.2.2)]++bC 153 [])))⟩))
def acJ:=eA.Qc rZ ue uf rY GD
def GF:vd->DU->Prop:=aCV rZ ue uf rY
def o7:Ls Vv ug zy:=wh (λ(tx,aBh,H8,aqS,aqY,keysL,kv,Tf,Ir,Tg,Th,n119)=>⟨(ba 4 ([.d (.slice ti) tx,cj,cj,cj,.eG yc aBh,cj,cj,.d .bool H8]++ba 5 ([.d (.slice ir) aqS,cj,fa 86,.d ti aqY,lq 119 keysL,.d ti kv]++ba 195 []))),[],(bC 86 ([[eL (.pr (.ptr (.new 86 1) 0 [] 0) (.d (.pair ti (.pair (.slice fk) .unit)) Tf)),eL (.pr (.dM (.new 86 2) 0) (.pr (.cM (.new 86 3) 0 [] 0 0 Ir) oc)),eL (.mp cV jn Tg),eL (.vec 134 eP Th)]]++bC 32 ([dz (.vec 38 tu n119)]++bC 98 [])))⟩) (λx=>(.exit 4,⟨(ba 4 ([.d (.slice ti) x.1.1,cj,cj,cj,.eG yc x.1.2.1,cj,cj,.d .bool x.1.2.2.1]++ba 5 ([.d (.slice ir) x.1.2.2.2.1,cj,fa 86,.d ti x.1.2.2.2.2.1,lq 119 x.2.1]++ba 196 []))),[],(bC 86 ([[eL (.pr (.ptr (.new 86 1) 0 [] 0) (.d (.pair ti (.pair (.slice fk) .unit)) x.1.2.2.2.2.2.1)),eL (.pr (.dM (.new 86 2) 0) (.pr (.cM (.new 86 3) 0 [] 0 0 x.1.2.2.2.2.2.2.1) oc)),eL (.mp cV jn x.1.2.2.2.2.2.2.2.1),eL (.vec 134 eP x.1.2.2.2.2.2.2.2.2)]]++bC 32 ([dz (.vec 38 tu x.2.2)]++bC 98 [])))⟩))
def acK:=eA.Qc jq uh nb r9 GG
def GH:vf->DZ->Prop:=aCV jq uh nb r9
def iA:Fs Tryz.prog ag6 bG acI:=gf 3 Tryz.f3 (λ(amounts,untilv,budget,b,heights)=>([.d (.slice ti) amounts,.d ti untilv,.d ti budget,.d yc b,.d (.slice ti) heights],[])) (λx=>⟨.d .bool x,[],[]⟩) [au (.slice ti),au ti,au ti,au yc,au (.slice ti)] [ajI,aeS,asu,Gj,azs,aao,DP,US,alM,au2] {loops:=th [(7,{bz:=[0,1,2,4,8,11,12,13,14],sites:=[59,64],owns:=[⟨12,[],59,26⟩,⟨13,[],64,27⟩]}),(22,{bz:=[4,8,11,17,19,20],sites:=[86]}),(26,{bz:=[4,8,11,17,19,20,21,22],sites:=[86,119],owns:=[⟨21,[],119,50⟩]}),(32,{bz:=[4,8,11,17,19,20,21,23,24,25],sites:=[24,86,119],agt:=[(.new 119 0)]})],outs:=tg [(7,{bz:=[2,4,8,11,12,13],sites:=[59,64]},{bz:=[10]}),(22,{bz:=[11]},{bz:=[10]}),(26,{bz:=[4,8,11,17,19,20,21],sites:=[86,119]},{bz:=[10]}),(32,{bz:=[4,8,11,17,19,20],sites:=[86]},{bz:=[10]})],iE:=uA [(7,na.E),(22,acJ),(26,o7.E),(32,acK)]}
def N3:= @gw Tryz.prog (pS iA.G) iA.an 0 Tryz.f3 1 _ rZ
abbrev Zd:=akl Tryz.prog (pS iA.G) iA.an 0 Tryz.f3 1 rZ ue uf rY GD
def N6:= @gw Tryz.prog (pS iA.G) iA.an 0 Tryz.f3 3 _ jq
abbrev Zg:=akl Tryz.prog (pS iA.G) iA.an 0 Tryz.f3 3 jq uh nb r9 GG
theorem Vt:na.RS:=rL [.d (.slice ti),.d ti,.d ti,.d (.slice ti),.d yc,.d .bool,.n,.n,.d ti,.d (.slice fp),.d (.slice nu)] na
theorem DT(oX zk ij rb yh head lL outsL i n59 aaG)(kn:K2 R)(kx:K3 R):iA.R 0 na (oX,zk,ij,rb,yh,head,lL,outsL,i,n59,aaG) kn kx=aP (iG i (oX.length:Int)) (aP (iO i (oX.length:Int)) (ax (BG.call (i,(di .and .i64 (nth ti oX (ab i)) 65535),0)) λx8=>aP (Qw i 0) (aP (decide (lL<=(ae n59))) (aP (dI (lL+1) 104) (aP (decide (outsL<=(ae aaG))) (aP (dI (outsL+1) 32) (kn (na.st (oX,zk,ij,rb,yh,head,(lL+1),(outsL+1),(bT .i64 i 1),((bk lL n59)++ [(x8.1,(x8.2.1,(x8.2.2.1,(x8.2.2.2.1,(x8.2.2.2.2.1,(zk,x8.2.2.2.2.2.2))))))]),((bk outsL aaG)++ [x8.2.1])))) aH) aH) aH) aH) (aP (decide (lL<=(ae n59))) (aP (dI (lL+1) 104) (aP (decide (outsL<=(ae aaG))) (aP (dI (outsL+1) 32) (kn (na.st (oX,zk,ij,rb,yh,head,(lL+1),(outsL+1),(bT .i64 i 1),((bk lL n59)++ [x8]),((bk outsL aaG)++ [x8.2.1])))) aH) aH) aH) aH)) aH) (na.go kx ((ij,rb,yh,head),(lL,outsL,n59,aaG))):=cW
theorem Vu:aq6 GF ue uf rY:=aFv (sy [.d (.slice ti),.d yc,.d .bool,.d (.slice ir),.d ti,.d (.pair ti (.pair (.slice fk) .unit)),.n,.d (.slice (.pair cV jn)),.d (.slice eP)] λ_=>cW)
theorem DW(Bv Qk H7 g ak8 aFl at7 aeD aeE)(kn:K2 R)(kx:K3 R):N3 (Bv,Qk,H7,g,ak8,aFl,at7,aeD,aeE) kn kx=aP (iG ak8 (((ae g):Nat):Int)) (ax (o7.call (Bv,Qk,H7,g,ak8,0,(0:Int),aFl,at7,aeD,aeE,([]:List Int))) λx7=>P2 (GH (x7.1.1,x7.1.2.1,x7.1.2.2.1,x7.1.2.2.2.1,x7.1.2.2.2.2.1,x7.2.1,(0:Int),(0:Int),(ai 32 (0:Int)),x7.1.2.2.2.2.2.1,x7.1.2.2.2.2.2.2.1,x7.1.2.2.2.2.2.2.2.1,x7.1.2.2.2.2.2.2.2.2,x7.2.2)) λx8=>aP x8.isLeft (ax x8.getLeft? λa9=>kx (Ao a9).1 (Ao a9).2) (ax x8.getRight? λb10=>kn (rZ (b10.1.1,b10.1.2.1,b10.1.2.2.1,b10.1.2.2.2.1,(bT .i64 b10.1.2.2.2.2 (1:Int)),b10.2.1,b10.2.2.1,b10.2.2.2.1,b10.2.2.2.2)))) (kx (Ap H7).1 (Ap H7).2):=cW
theorem Vw:o7.RS:=rL [.d (.slice ti),.d yc,.d .bool,.d (.slice ir),.d ti,.n,.d ti,.d (.pair ti (.pair (.slice fk) .unit)),.n,.d (.slice (.pair cV jn)),.d (.slice eP),.d tU] o7
theorem DY(tx aBh H8 aqS aqY keysL kv Tf Ir Tg Th n119)(kn:K2 R)(kx:K3 R):iA.R 2 o7 (tx,aBh,H8,aqS,aqY,keysL,kv,Tf,Ir,Tg,Th,n119) kn kx=aP (iO aqY (aqS.length:Int)) (aP (iG kv (((ae (nth ir aqS (ab aqY)).1):Nat):Int)) (aP (iO aqY (aqS.length:Int)) (aP (iO kv (((ae (nth ir aqS (ab aqY)).1):Nat):Int)) (aP (decide (keysL<=(ae n119))) (aP (dI (keysL+1) 8) (kn (o7.st (tx,aBh,H8,aqS,aqY,(keysL+1),(bT .i64 kv 1),Tf,Ir,Tg,Th,((bk keysL n119)++ [(dP .u64 (bT .i64 (nth fp (nth ir aqS (ab aqY)).1 (ab kv)).1.2.1 2))])))) aH) aH) aH) aH) (o7.go kx ((tx,aBh,H8,aqS,aqY,Tf,Ir,Tg,Th),(keysL,n119)))) aH:=cW
theorem Vx:aq6 GH uh nb r9:=aFv (sy [.d (.slice ti),.d yc,.d .bool,.d (.slice ir),.d ti,.n,.d ti,.d ti,.d tB,.d (.pair ti (.pair (.slice fk) .unit)),.n,.d (.slice (.pair cV jn)),.d (.slice eP),.d tU] λ_=>cW)
theorem D0(gF aqQ mz ahQ ah6 uv bF Ie n24 KB Cy KC KD AJ)(kn:K2 R)(kx:K3 R):N6 (gF,aqQ,mz,ahQ,ah6,uv,bF,Ie,n24,KB,Cy,KC,KD,AJ) kn kx=aP (iG Ie (((ae gF):Nat):Int)) (aP (iO Ie (((ae gF):Nat):Int)) (aP (iG (nth ti gF (ab Ie)) (0:Int)) (kx (c9 mz).1 (c9 mz).2) (aP (iO Ie (((ae gF):Nat):Int)) (aP (wC (nth ti gF (ab Ie)) (1073741824:Int)) (kx (c9 mz).1 (c9 mz).2) (aP (iO ah6 (((ae ahQ):Nat):Int)) (ax (M4.call (4:Int)) λaJ3=>aP (iO Ie (((ae gF):Nat):Int)) (aP (decide (0=0/\(0+uv)<=(ae AJ))) (ax (jg.call ((nth ir ahQ (ab ah6)),(cut AJ 0 uv),aJ3,(nth ti gF (ab Ie)),aqQ,bF)) λaqN=>aP (DF aqN.2.2 (0:Int)) (aP (Qw bF (0:Int)) (kx (c9 aV).1 (c9 aV).2) (aP (DF aqN.2.2 (4:Int)) (aP (DF aqN.2.2 (13:Int)) (kx (c9 aV).1 (c9 aV).2) (kn (jq (gF,aqQ,mz,ahQ,ah6,uv,bF,(bT .i64 Ie (1:Int)),n24,KB,Cy,KC,KD,AJ)))) (kn (jq (gF,aqQ,mz,ahQ,ah6,uv,bF,(bT .i64 Ie (1:Int)),n24,KB,Cy,KC,KD,AJ))))) (ax (tid.call aqN.1) λaJ5=>ax (TH.call (aJ5,KB,Cy,KC,KD)) λaDn=>aP (aDn.1) (kx (c9 mz).1 (c9 mz).2) (ax (tid.call aqN.1) λaIN=>aP (Ty.beq tH aIN (ai 32 (0:Int))) (kx (c9 mz).1 (c9 mz).2) (aP (aad aqN.2.1 bF) (kx (c9 aV).1 (c9 aV).2) (aP (iO ah6 (((ae ahQ):Nat):Int)) (aP (wC aqN.2.1 (nth ir ahQ (ab ah6)).2.2.1) (kx (c9 aV).1 (c9 aV).2) (P2 (Yi (aqN.1,aDn.2.1,aDn.2.2.1,aDn.2.2.2.1,aDn.2.2.2.2)) λaFJ=>aP (DF aFJ.1 (0:Int)) (kx (c9 aV).1 (c9 aV).2) (ax (tid.call aqN.1) λaJ8=>ax (TH.call (aJ8,aFJ.2.1,aFJ.2.2.1,aFJ.2.2.2.1,aFJ.2.2.2.2)) λaAf=>aP (!aAf.1) (kx (c9 aV).1 (c9 aV).2) (aP (wC bF (0:Int)) (ax (TH.call (n24,aAf.2.1,aAf.2.2.1,aAf.2.2.2.1,aAf.2.2.2.2)) λaFK=>aP (aFK.1) (kx (c9 aV).1 (c9 aV).2) (ax (tid.call aqN.1) λaJ9=>kn (jq (gF,aqQ,mz,ahQ,ah6,uv,aqN.2.1,(bT .i64 Ie (1:Int)),aJ9,aFK.2.1,aFK.2.2.1,aFK.2.2.2.1,aFK.2.2.2.2,AJ)))) (ax (tid.call aqN.1) λaKa=>kn (jq (gF,aqQ,mz,ahQ,ah6,uv,aqN.2.1,(bT .i64 Ie (1:Int)),aKa,aAf.2.1,aAf.2.2.1,aAf.2.2.2.1,aAf.2.2.2.2,AJ))))))) aH))))) aH) aH) aH)) aH)) aH) (kx (Aq ((gF,aqQ,mz,ahQ,ah6),(KB,Cy,KC,KD))).1 (Aq ((gF,aqQ,mz,ahQ,ah6),(KB,Cy,KC,KD))).2):=cW
theorem amS(amounts untilv budget b heights)(k:K1 R):iA.A (amounts,untilv,budget,b,heights) k=ax (xH.call ()) λx4=>aP (wC (amounts.length:Int) 8) (k (iA.out x4)) (aP (wC (heights.length:Int) 6) (k (iA.out x4)) (ax (na.call (amounts,untilv,budget,heights,b,x4,0,0,0,([]:List eK),([]:List jo))) λu5=>aP (decide (0=0/\(0+u5.2.2.1)<=(ae u5.2.2.2.2))) (ax (HS (cut u5.2.2.2.2 0 u5.2.2.1)) λagB=>aP agB.isLeft (ax agB.getLeft? λaJ0=>aP (decide (0=0/\(0+u5.2.1)<=(ae u5.2.2.2.1))) (ax (fB.call ((cut u5.2.2.2.1 0 u5.2.1),u5.1.1,u5.1.2.2.1,1)) λaA1=>aP (u5.1.2.2.2) (k (iA.out aV)) (k (iA.out aV))) aH) (ax agB.getRight? λaFH=>aP (decide (0=0/\(0+u5.2.1)<=(ae u5.2.2.2.1))) (ax (fB.call ((cut u5.2.2.2.1 0 u5.2.1),u5.1.1,u5.1.2.2.1,1)) λaFI=>aP (DF aFI.2 0) (aP (u5.1.2.2.2) (k (iA.out aO)) (k (iA.out aV))) (ax (Yj (1,0,aFH.1,aFH.2)) λaH5=>aP aH5.isLeft (ax aH5.getLeft? λaJ1=>k (iA.out aV)) (ax aH5.getRight? λaAe=>P2 (GF (u5.1.2.1,u5.1.2.2.1,u5.1.2.2.2,aFI.1,0,aAe.2.2.2.1,aAe.2.2.2.2.1,aAe.2.2.2.2.2.1,aAe.2.2.2.2.2.2)) λaDm=>aP aDm.isLeft (ax aDm.getLeft? λa178=>k (iA.out a178)) (ax aDm.getRight? λb179=>k (iA.out b179))))) aH)) aH)):=cW
theorem Zc:(iA.mN 0 na):=by
 refine(iA.px 0 na) (λ(xs,_,_,_,_,_,_,_,i,_,_)=>xs.length - i.toNat) ?_
 rintro⟨xs,u,bu,hs,b,hd,lL,oL,i,l,outs⟩ ⟨h8,rfl,rfl,k,hk,rfl,hl,ho⟩;have h8:xs.length<=8:=h8;have hk:k<=xs.length:=hk;have hl:l.length=k:=hl;have ho:outs.length=k:=ho;by_cases h:k < xs.length
 ·left;have n1:nth ti xs k=xs[k]:=db (t:=ti) h;have hd':xs.drop k=xs[k]::xs.drop (k+1):=aA h;have hc:Qp u k (xs.drop k)=oC k (di .and .i64 xs[k] 65535) (if k=0 then u else 0)::Qp u (k+1) (xs.drop (k+1)):=by rw[hd'];rfl
  refine⟨(xs,u,bu,hs,b,hd,l.length+1,outs.length+1,((k+1:Nat):Int),l++ [oC k (di .and .i64 xs[k] 65535) (if k=0 then u else 0)],outs++ [(oC k (di .and .i64 xs[k] 65535) (if k=0 then u else 0)).2.1]),⟨h8,by rw[ak];rfl,by rw[ak];rfl,k+1,h,rfl,by rw[ak];show l.length+1=_;omega,by rw[ak];show outs.length+1=_;omega⟩,by simp only[aa];omega,?_,λkn kx=> ?_⟩
  ·simp only[ud,zx,aa,hc,aK,cC,bn]
  ·rw[DT,bh aq,aj,bB aq aq,aj,aa,n1,Ye (d:=((k:Int),di .and .i64 xs[k] 65535,0)) ⟨aq,aq⟩];simp only[ag,bG,alC];rw[aM (aC _),aj,dN aq aq,aj,aM (aC _),aj,dN aq aq,aj,N.pV aq,bU,bU];by_cases h0:k=0
   ·subst h0;rw[jV (by rfl),aj];rfl
   ·rw[gQ aq,ao,if_neg h0];rfl
 ·right;obtain rfl:k=xs.length:=aq;intro R kn kx;rw[DT,aW aq,ao];simp only[ud,zx,aa,bj,Qp,eF,bo]
theorem Zf:(iA.mN 2 o7):=by
 refine(iA.px 2 o7) (λ(_,_,_,gs,i,_,kv,_)=>(nth ir gs i.toNat).1.length - kv.toNat) ?_
 rintro⟨hs,b,hd,gs,i,kL,kv,p,n,a,s,ks⟩ ⟨⟨j,hj,rfl,hC,k,hk,rfl,aB6⟩,rfl⟩;have hj:j < gs.length:=hj;have hk:k<=(nth ir gs j).1.length:=hk;have aB6:ks.length=k:=aB6;have h8:=hC.1;have c1:((j:Int)).toNat=j:=aa j;by_cases h:k < (nth ir gs j).1.length
 ·left;have n1:nth fp (nth ir gs j).1 k=(nth ir gs j).1[k]:=db (t:=fp) h;have hd':(nth ir gs j).1.drop k=(nth ir gs j).1[k]::(nth ir gs j).1.drop (k+1):=aA h;have hx:=hC.2.1 _ (aZ h);have e:dP .u64 (bT .i64 (nth ir gs j).1[k].1.2.1 2)=nJ (nth ir gs j).1[k]:=by have:=hx.n0;have:=hx.n1;unfold nJ;rw[eU aq aq,En];omega
  refine⟨(hs,b,hd,gs,(j:Int),ks.length+1,((k+1:Nat):Int),p,n,a,s,ks++ [nJ (nth ir gs j).1[k]]),⟨⟨j,hj,rfl,hC,k+1,h,rfl,by rw[ak];show ks.length+1=_;omega⟩,by rw[ak];rfl⟩,by simp only[aa];omega,?_,λkn kx=> ?_⟩
  ·simp only[ug,zy,aa,hd',bn,aK,cC]
  ·rw[DY,bB aq aq,aj,c1,bh aq,aj,aj,bB aq aq,aj,aM (aC _),aj,dN aq aq,aj,aa,n1,e,N.pV aq,bU]
 ·right;obtain rfl:k=(nth ir gs j).1.length:=aq;intro R kn kx;rw[DY,bB aq aq,aj,c1,aW aq,ao];simp only[ug,zy,aa,bj,eF,bo]
theorem Md.rows{gs:List iI}{j:Nat}{row:List gG}{bF:Int}{last:Bs}(h:Md gs j row bF last)(hj:j<=16):Y0 row/\row.length<=1000:=by
 obtain⟨L,o,rfl,hI,hO⟩:=h;have hR:=hI.aCT aq;have hl:=hI.2;rcases hO with⟨_,rfl⟩ | ⟨_,_,w,rfl,_⟩
 ·rw[bo];exact⟨hR.some,aq⟩
 ·refine⟨λx hx=> ?_,by rw[ak];show _+1<=1000;omega⟩;rcases bp.1 hx with hx | hx
  ·exact hR.some x hx
  ·rw[bf.1 hx];rfl
theorem Md.last{gs:List iI}{j:Nat}{row:List gG}{bF:Int}{last:Bs}(h:Md gs j row bF last)(hj:j < gs.length)(hn:(Br gs).Nodup):Vl gs (j+1) row:=by
 obtain⟨L,o,rfl,hI,hO⟩:=h;have aFW:gs.drop j=nth ir gs j::gs.drop (j+1):=by rw[db (t:=ir) hj];exact aA hj
 have sub:∀x∈L,∃w,x=au w/\amn w/\∀i∈w.2.1.1,i.1 ∉ Br (gs.drop (j+1)):=λx hx=>by obtain⟨w,e,h1,h2⟩:=hI.1 x hx;refine⟨w,e,h1,λi hi hm=>h2 i hi ?_⟩;rw[aFW,Cl];exact j3 _ hm
 have hl:=hI.2;rcases hO with⟨_,rfl⟩ | ⟨_,_,w,rfl,aFa,_,_,_,aF9,_⟩
 ·rw[bo];exact⟨sub,aq⟩
 ·refine⟨λx hx=> ?_,by rw[ak];show _+1<=j+1;omega⟩;rcases bp.1 hx with hx | hx
  ·exact sub x hx
  ·refine⟨w,bf.1 hx,aFa,λi hi hm=> ?_⟩;have h1:i.1∈EN (nth ir gs j):=by rw[<-aF9];exact dV hi
   have h2:(Br (gs.drop j)).Nodup:=by
    have e:Br gs=Br (gs.take j)++Br (gs.drop j):=by unfold Br;rw[<-ji,<-OC,da]
    rw[e]at hn;exact(km.1 hn).2.1
   rw[aFW,Cl,km]at h2;exact h2.2.2 _ h1 _ hm rfl
theorem Zh:Zg:=by
 refine aes (λ(hs,_,_,_,_,_,_,kv,_)=>hs.length - kv.toNat) ?_
 rintro⟨hs,b,hd,gs,i,kL,bF,kv,last,⟨p1,row,⟨⟩⟩,n,a,s,ks⟩ ⟨⟨rfl,h6⟩,hP,⟨rfl,awT⟩,j,k,hj,rfl,hk,rfl,rfl,hR,ho⟩ kn kx hN hX;obtain rfl:p1=1:=awT;have h6:hs.length<=6:=h6;have hj:j < gs.length:=hj;have hk:k<=hs.length:=hk;have hR:Md gs j row bF last:=hR;have ho:0<=bF:=ho;have aDv:=hP.2.2.1;obtain⟨aJB,aJw⟩:=hR.rows aq;have c1:((j:Int)).toNat=j:=aa j;have c2:((k:Int)).toNat=k:=aa k;have xT:∀v,v=aO->kx (c9 v).1 (c9 v).2=au ():=λv hv=>hX (.inl v) _ _ hv rfl
 show N6 (hs,b,aO,gs,(j:Int),((nth ir gs j).1.map nJ).length,bF,(k:Int),last,(1,row,()),n,a,s,(nth ir gs j).1.map nJ) kn kx=_;by_cases iJ:k < hs.length
 case neg=>
  obtain rfl:k=hs.length:=aq;rw[D0,aW aq,ao];refine hX (.inr ((1,row,()),n,a,s)) _ _ ⟨rfl,rfl,?_⟩ rfl;rw[c1];exact hR.last hj hP.2.1
 have rD:nth ir gs j∈gs:=by rw[db (t:=ir) hj];exact aZ hj
 obtain⟨hGK,hA⟩:=hP.1 _ rD;have hC:=hGK.2.1;have h8:=hC.1;have hG3:=hGK.1.1.2.2;have hold:bF<=1125899906842624:=by
  obtain⟨_,_,_,_,h | h⟩:=hR
  ·omega
  ·omega
 obtain⟨to1,to2⟩:=aDb;have go:∀(old':Int) (last':Bs) (row':List gG),Md gs j row' old' last'->0<=old'->kn (jq (hs,b,aO,gs,(j:Int),((nth ir gs j).1.map nJ).length,old',((k+1:Nat):Int),last',(1,row',()),n,a,s,(nth ir gs j).1.map nJ))=au ():=by
  intro old' last' row' h1 h2;refine hN (hs,b,aO,gs,(j:Int),((nth ir gs j).1.map nJ).length,old',((k+1:Nat):Int),last',(1,row',()),n,a,s,(nth ir gs j).1.map nJ) ⟨⟨rfl,h6⟩,hP,⟨rfl,rfl⟩,j,k+1,hj,rfl,iJ,rfl,rfl,h1,h2⟩ (by simp only[aa];omega) λy hy=>⟨y,hy,?_⟩
  cases y <;> rfl
 rw[D0,bh aq,aj,bB aq aq,aj,c2];obtain⟨h,eh⟩:∃h:Int,nth ti hs k=h:=⟨_,rfl⟩;rw[eh];by_cases h0:h < 0
 ·rw[bh h0,aj];exact xT _ rfl
 rw[aW h0,ao,aj];by_cases h1:h > 1073741824
 ·rw[dy h1,aj];exact xT _ rfl
 rw[cY h1,ao,bB aq aq,aj,Sv (d:=4) trivial];simp only[ag,bG,atI];rw[aj,c1,aM ⟨trivial,aq⟩,aj,fA rfl];have aIY:jg.call (nth ir gs j,(nth ir gs j).1.map nJ,aDa,h,b,bF)=au (vA (nth ir gs j) ((nth ir gs j).1.map nJ) aDa h b bF):=Bd (d:=(nth ir gs j,(nth ir gs j).1.map nJ,aDa,h,b,bF)) ⟨hGK.1,⟨aq,aq⟩,λx hx=>⟨by rw[(hC.2.1 x hx).z];exact aA3,by rw[(hC.2.1 x hx).sc];exact agm⟩,λq hq=>by
  obtain⟨x,hx,rfl⟩:=cr.1 hq;have:=(hC.2.1 x hx).key;exact⟨aq,aq⟩,to1,by show(nth ir gs j).1.length<=_;omega,by show((nth ir gs j).1.map nJ).length<=_;rw[bg];omega,hold⟩
 rw[show iy [4]=aDa from rfl,aIY,ag];rcases aub (h:=h) (b:=b) hGK to1 to2 ho with⟨og,e,he,hx⟩ | ⟨t,dL,hx,f1,f2,f3,f4,hT⟩
 ·rw[hx];dsimp only;have gV:¬e=0:=by rcases he with rfl | rfl <;> decide
  rw[fY gV,aj,gQ aq,ao,N.pV aq];have:=go bF last row hR ho;rcases he with rfl | rfl
  ·rw[dX rfl,ao];exact this
  ·rw[fY eR,aj,dX rfl,ao];exact this
 ·rw[hx];dsimp only;rw[dX rfl,ao,LQ (d:=t) hT.v];simp only[ag,bG,UR];rw[KS (d:=(tl t,(1,row,()),n,a,s)) ⟨aJB,aJw⟩];simp only[ag,bG,Nj];cases aDC:tc (tl t) row with
  |some x=>exact xT _ rfl
  |none=>
   rw[ml,ao,axM];by_cases hz:tl t=ai 32 (0:Int)
   ·rw[aM hz,aj];exact xT _ rfl
   ·rw[cz hz,ao,jO aq,ao,aj,cY aq,ao];obtain⟨G,Lr,hAdd,hR2,hI,aEO,aGR,aFb,aG0,ax9⟩:=Md.add hP hj hR hT f1 aq f3 f4 aDC hz;refine apg (d:=(t,(1,row,()),n,a,s)) ⟨G,Lr,hAdd⟩ ⟨_,0,rfl⟩ ?_
    rintro y ⟨q,rfl⟩;have egl:=hAdd.gl;have egl:row.foldl (NL t) ([],[])=(G,Lr):=egl;simp only[Gi,egl];have Z4:amn (q,Tp (1,(row,())) t a):=⟨hT.v,hAdd.root.1,hAdd.root,hz⟩;have hRL:=hI.aCT aq;have hR3:Md gs j (Lr++ [au (q,Tp (1,(row,())) t a)]) dL (tl t):=⟨Lr,_,rfl,hI,.inr ⟨aq,aq,_,rfl,Z4,rfl,aGR,aFb,aG0,ax9⟩⟩;obtain⟨aCg,aE2⟩:=hR3.rows aq;rw[dX rfl,ao,KS (d:=(tl t,(1,Lr++ [au (q,Tp (1,(row,())) t a)],()),n,a,s)) ⟨aCg,aE2⟩];simp only[ag,bG,Nj];rw[anz (L:=Lr) (w:=(q,Tp (1,(row,())) t a)) (tl t) rfl,bR,ao];have fin:=go dL (tl t) (Lr++ [au (q,Tp (1,(row,())) t a)]) hR3 aq;rw[N.pV aq];by_cases hp:bF > 0
    ·rw[dy hp,aj,KS (d:=(last,(1,Lr++ [au (q,Tp (1,(row,())) t a)],()),n,a,s)) ⟨aCg,aE2⟩];simp only[ag,bG,Nj];obtain⟨g1,g2⟩:=aEO hp;have atc:tc last (Lr++ [au (q,Tp (1,(row,())) t a)])=aH:=(ZW aCg).2 λv hv=>by
      rcases bp.1 hv with hv | hv
      ·exact g1 v hv
      ·obtain rfl:=aQ (bf.1 hv);exact g2
     rw[atc,ml,ao];exact fin
    ·rw[cY hp,ao];exact fin
theorem Ze:Zd:=by
 refine aes (λ(_,_,_,gs,i,_)=>gs.length - i.toNat) ?_
 rintro⟨hs,b,hd,gs,i,⟨p1,row,⟨⟩⟩,n,a,s⟩ ⟨⟨rfl,h6⟩,hP,awT,j,hj,rfl,hI⟩ kn kx hN hX;obtain rfl:p1=1:=awT;have hj:j<=gs.length:=hj;have hI:Vl gs j row:=hI;have aDv:=hP.2.2.1;have c1:((j:Int)).toNat=j:=aa j;have z1:((0:Int)).toNat=0:=rfl;show N3 (hs,b,aO,gs,(j:Int),(1,row,()),n,a,s) kn kx=_;by_cases iJ:j < gs.length
 case neg=>
  obtain rfl:j=gs.length:=aq;rw[DW,aW aq,ao];exact hX (.inr aO) _ _ rfl rfl
 have rD:nth ir gs j∈gs:=by rw[db (t:=ir) iJ];exact aZ iJ
 have hC:=(hP.1 _ rD).1.2.1;rw[DW,bh aq,aj,Vw (d:=(hs,b,aO,gs,(j:Int),0,0,(1,row,()),n,a,s,[])) ⟨⟨j,iJ,rfl,hC,0,aS _,rfl,rfl⟩,rfl⟩];simp only[ag,ug,zy,c1,z1,aN,aT];refine Vx (d:=(hs,b,aO,gs,(j:Int),((nth ir gs j).1.map nJ).length,0,0,ai 32 (0:Int),(1,row,()),n,a,s,(nth ir gs j).1.map nJ)) ⟨⟨rfl,h6⟩,hP,⟨rfl,rfl⟩,j,0,iJ,rfl,aS _,rfl,rfl,⟨row,[],(bo row).symm,hI,.inl ⟨rfl,rfl⟩⟩,dp 0⟩ ⟨.inl aO,rfl⟩ ?_
 rintro y hy;cases y with
 |inl v=>
  obtain rfl:v=aO:=hy;simp only[nb,Sum.isLeft_inl,aj,Sum.getLeft?_inl,ag];exact hX (.inl aO) _ _ rfl rfl
 |inr z=>
  obtain⟨⟨q1,row',⟨⟩⟩,n',a',s'⟩:=z;obtain⟨e1,e2,hI2⟩:=hy;have e1:(n',a',s')=(n,a,s):=e1;obtain⟨e3,e4⟩:=Prod.mk.inj e1;obtain⟨e5,e6⟩:=Prod.mk.inj e4;subst e3 e5 e6;obtain rfl:q1=1:=e2;have hI2:Vl gs (((j:Int)).toNat+1) row':=hI2;rw[c1]at hI2;simp only[nb,ig,ao,fP,ag];rw[N.pV aq];exact hN (hs,b,aO,gs,((j+1:Nat):Int),(1,row',()),n',a',s') ⟨⟨rfl,h6⟩,hP,rfl,j+1,iJ,rfl,hI2⟩ (by simp only[aa];omega) λy hy=>⟨y,hy,by cases y <;> rfl⟩
theorem aAk(a:Int):0<=di .and .i64 a 65535/\di .and .i64 a 65535<=65535:=by
 have e:di .and .i64 a 65535=IntKind.i64.wrap (((aX 64 a &&& aX 64 65535).toNat:Nat):Int):=rfl;have h:(aX 64 a &&& aX 64 65535).toNat<=65535:=by rw[BitVec.toNat_and];exact ko Nat.and_le_right eR
 rw[e,pZ aq aq];omega
theorem akB{u:Int}:∀(xs:List Int) (k:Nat),∀x∈Qp u k xs,∃n a v:Int,x=oC n a v/\(k:Int)<=n/\n < k+xs.length/\(0<=a/\a<=65535)/\(v=u\/v=0)
 |[],_,x,hx=>by cases hx
 |a::xs,k,x,hx=>by
  rcases bA.1 (show x∈oC k (di .and .i64 a 65535) (if k=0 then u else 0)::Qp u (k+1) xs from hx) with rfl | hx
  ·refine⟨k,_,_,rfl,dp _,by rw[aB];omega,aAk a,?_⟩;split
   ·exact .inl rfl
   ·exact .inr rfl
  ·obtain⟨n,b,v,e,h1,h2,h3,h4⟩:=akB xs (k+1) x hx;exact⟨n,b,v,e,aq,by rw[aB];omega,h3,h4⟩
theorem aCu(k:Int):ju (iy [eQ k])=aO:=by rw[Kn [eQ k] (by show 1<=12;decide)];simp only[mY,List.all_nil,Kg,jx]
theorem alw{u:Int}:∀(xs:List Int) (k:Nat) (sum:Int),0<=sum->sum+65535*(xs.length:Int)<=1000000->∃A,It sum k ((Qp u k xs).map (·.2.1))=au A/\(∀x∈Qp u k xs,cE cV x.1 A=au (x.2.1,((0:Int),())))/\∀p∈A,p.1.1=GB/\(k:Int)<=p.1.2.1
 |[],k,sum,_,_=>⟨[],rfl,λx hx=>(by cases hx),λp hp=>(by cases hp)⟩
 |a::xs,k,sum,h0,h1=>by
  rw[aB]at h1;have ha:=aAk a;obtain⟨A,i1,i2,i3⟩:=alw (u:=u) xs (k+1) (sum+di .and .i64 a 65535) aq aq;have e0:CC sum (oC k (di .and .i64 a 65535) (if k=0 then u else 0)).2.1=aO:=by unfold CC;show(ju (iy [eQ ((k:Int)+2)]) && decide (0<=di .and .i64 a 65535/\di .and .i64 a 65535<=1125899906842624 - sum))=aO;rw[aCu,aM ⟨ha.1,aq⟩];rfl
  refine⟨GI k (oC k (di .and .i64 a 65535) (if k=0 then u else 0)).2.1::A,?_,?_,?_⟩
  ·show It sum k ((oC k (di .and .i64 a 65535) (if k=0 then u else 0)).2.1::(Qp u (k+1) xs).map (·.2.1))=_;rw[It,e0];show Option.map _ (It (sum+di .and .i64 a 65535) (k+1) ((Qp u (k+1) xs).map (·.2.1)))=_;rw[i1];rfl
  ·intro x hx;rcases bA.1 (show x∈oC k (di .and .i64 a 65535) (if k=0 then u else 0)::Qp u (k+1) xs from hx) with rfl | hx
   ·unfold GI;rw[eE];exact if_pos ((Bb _ _).2 rfl)
   ·have gV:¬Ty.beq cV x.1 (GI k (oC k (di .and .i64 a 65535) (if k=0 then u else 0)).2.1).1=aO:=by obtain⟨n,b,v,rfl,g1,_⟩:=akB xs (k+1) x hx;intro e;have:=bK (λo:dC=>o.2.1) ((Bb _ _).1 e);have this:n=(k:Int):=this;omega
    have:=i2 x hx;unfold GI at gV ⊢;rw[eE,if_neg gV];exact this
  ·intro p hp;rcases bA.1 hp with rfl | hp
   ·exact⟨rfl,dp _⟩
   ·have:=i3 p hp;exact⟨this.1,aq⟩
theorem aHA{n a v:Int}(h0:0<=n)(h1:n<=7)(ha:0<=a/\a<=65535):awN (oC n a v):=⟨rfl,h0,h1,rfl,rfl,rfl,ha.1,ha.2⟩
theorem aFq(n a v:Int)(hv:v<=9223372036854775807):WT (oC n a v):=⟨⟨cq,aki⟩,⟨by show 1<=_;decide,λb hb=>by
 rw[bf.1 (show b∈ [([eQ (n+2)],(0,(0,(0,()))))] from hb)];show 1<=_;decide⟩,hv⟩
theorem XH{g:iI}:∀ {gs:List iI},g∈gs->(EN g).Sublist (Br gs)
 |[],h=>by cases h
 |x::gs,h=>by
  rw[Cl];rcases bA.1 h with rfl | h
  ·exact List.sublist_append_left _ _
  ·exact(XH h).trans (List.sublist_append_right _ _)
theorem au6{l:List eK}{bu:Int}{b:vY}{h:Int}(hx:∀x∈l,WT x)(hl:l.length<=8):(rr l bu b h).length<=16:=by
 have h1:=(Bn (b:=b) (h:=h) hx).1.length_eq;have h2:=(Gk (b:=b) (h:=h) hx).1.length_eq;have h3:=(B0 _ (kM l b h) (aC _)).1;have h4:=j2 (Bq b h) l;have h5:=j2 (BN b h) l;have h6:(pX bu (qv l b h)).2.length<=(qv l b h).length:=by
  have:∀(L:List iI) (c:Int),(pX c L).2.length<=L.length:=by
   intro L
   induction L with
   |nil=>exact λc=>aC _
   |cons g L ih=>
    intro c;unfold pX;split
    ·exact aS _
    ·show((pX (c - g.2.1) L).2).length+1<=L.length+1;have:=ih (c - g.2.1);omega
  exact this _ _
 unfold rr;rw[M8];unfold qv at h6;rw[ak,bg,bg]at h6;unfold qv;omega
theorem akC{u:Int}:∀(xs:List Int) (k:Nat),(Qp u k xs).length=xs.length
 |[],_=>rfl
 |_::xs,k=>bK (· +1) (akC xs (k+1))
theorem amT:iA.Ok:=by
 rintro⟨xs,u,bu,b,hs⟩ hu;have hu:u<=9223372036854775807:=hu;have z1:((0:Int)).toNat=0:=rfl;rw[amS,afU (d:=()) trivial];simp only[ag,bG,YG,bG,acI];by_cases h8:(xs.length:Int) > 8
 ·rw[dy h8,aj]
 rw[cY h8,ao];by_cases h6:(hs.length:Int) > 6
 ·rw[dy h6,aj]
 rw[cY h6,ao,Vt (d:=(xs,u,bu,hs,b,aO,0,0,0,[],[])) ⟨aq,rfl,rfl,0,aS _,rfl,rfl,rfl⟩];simp only[ag,ud,zx,z1,aN,aT];have hk:∀x∈Qp u 0 xs,awN x/\WT x:=λx hx=>by
  obtain⟨n,a,v,rfl,g1,g2,g3,g4⟩:=akB xs 0 x hx;refine⟨aHA aq aq g3,aFq _ _ _ ?_⟩;rcases g4 with rfl | rfl
  ·exact hu
  ·decide
 obtain⟨A,n1,n2,n3⟩:=alw (u:=u) xs 0 0 (dp 0) aq;have hl:=akC (u:=u) xs 0;have hF:aeH ((Qp u 0 xs).map (·.2.1))=au A:=by unfold aeH;rw[if_pos (by rw[bg];omega)];exact n1
 have hO:∀o∈(Qp u 0 xs).map (·.2.1),amo o:=λo ho=>by obtain⟨x,hx,rfl⟩:=cr.1 ho;obtain⟨n,a,v,rfl,_,_,g3,_⟩:=akB xs 0 x hx;refine⟨λc hc=> ?_,by show 1<=_;decide,by show a<=_;omega⟩;rw[bf.1 (show c∈ [([eQ (n+2)],(0,(0,(0,()))))] from hc)];exact⟨Sn (akr _) XS,agm⟩
 obtain⟨hg,_⟩:=aoD hO hF;rw[aM ⟨trivial,aq⟩,aj,aU,fA rfl,ayR hO,hF];simp only[ag,ig,ao,fP];rw[aM ⟨trivial,aq⟩,aj,fA rfl,CI (d:=(Qp u 0 xs,bu,b,1)) λx hx=>(hk x hx).2];simp only[ag,bG,TU];unfold K7;by_cases hp:oD (Qp u 0 xs) bu b 1=aO
 case neg=>
  rw[if_neg hp];dsimp only;rw[fY eR,aj,aj]
 rw[if_pos hp];dsimp only;rw[dX rfl,ao,avj (d:=(1,0,A,[])) (hg.mono eR)];have e1:Nl (1,0,A,[])= .inr (0,A,[],(1,([],())),0,fK A,[]):=by unfold Nl;exact if_pos ⟨eR,eR⟩
 simp only[ag,E7,e1,ig,ao,fP];have hx:∀x∈Qp u 0 xs,WT x:=λx h=>(hk x h).2
 obtain⟨q1,_,q3,_⟩:=ai0 hx hp;have aET:=hg.RW.1;have aGN:C4 (fK A) A:=adv aET (vi A);have aIp:=hg.canon;have aG9:(jB (fK A)).Nodup:=aIp.1.RW.1;have aEx:C4 (fK (fK A)) A:=(adv aG9 (vi (fK A))).trans aGN;have hPl:aFO (rr (Qp u 0 xs) bu b 1) 0 (fK A) []:=by
  refine⟨λg aDD=> ?_,q3,au6 hx aq,aIp.1.mono eR⟩;obtain⟨⟨g1,g2⟩,g3,g4,g5,g6,_⟩:=q1 g aDD;refine⟨⟨au7 hx hp g aDD,⟨⟨g1,g2⟩,λx h=>(hk x (g6 x h).1).1,q3.sublist (XH aDD)⟩,g3,g5⟩,?_⟩;refine aDp.eqv ⟨λx h=>n2 x (g6 x h).1,λo ho=> ?_⟩ aEx;cases hm:cE cV o A with
  |none=>rfl
  |some c=>
   have:=(kf iM aET).1 hm;exact absurd (n3 _ this).1 ho
 refine Vu (d:=(hs,b,aO,rr (Qp u 0 xs) bu b 1,0,(1,[],()),0,fK A,[])) ⟨⟨rfl,aq⟩,hPl,rfl,0,aS _,rfl,⟨λx h=>(by cases h),aC 0⟩⟩ ⟨.inl aO,rfl⟩ ?_
 rintro y hy;cases y with
 |inl v=>
  obtain rfl:v=aO:=hy;rfl
 |inr v=>
  obtain rfl:v=aO:=hy;rfl
theorem ag7:iA.RS:=rE [.d (.slice ti),.d ti,.d ti,.d yc,.d (.slice ti)] iA
def amU:=iA.gr amT 4 ⟨.iB Zc,⟨.Qc Ze cW,⟨.iB Zf,⟨.Qc Zh cW,trivial⟩⟩⟩⟩
end Go.Ab
end
