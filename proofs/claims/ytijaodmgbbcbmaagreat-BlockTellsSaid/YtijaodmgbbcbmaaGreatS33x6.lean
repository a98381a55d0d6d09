/-
  Made short by a program of mine (wip/tools/mini.py).
-/
import Derived.Test.YtijaodmgbbcbmaaGreatS33x5
set_option linter.unusedVariables false
set_option linter.unusedSimpArgs false
set_option maxRecDepth 100000
set_option synthInstance.maxSize 5000
open List renaming replicate->ai,length->ae,take->aM,drop->bD
open Int renaming toNat_natCast->aa,toNat->ab,toNat_zero->aT
open Option renaming some->av,none->aH
open Bool renaming true->bm,false->aZ
noncomputable section
variable {R:Type}
namespace Go.Ab
open Go.Proofs
abbrev Ia:=Int×dM×Int×Int×(List ei)×Nat×(List (List ei))×Bs
def vC:Ia->AS:=λ(dj,fP,gB,i,o0,o0L,cP,n9)=>⟨([.ptr (.bP 0) 0 [] 0,bE,.d ti dj,bE,.dz dU fP]++aW 4 ([eP 9,.d ti gB,.d ti i]++aW 97 [])),[dq (.pr (.d (.slice ez) o0) (.pr (.bU (.bP 1) 0 [] 0 0 o0L) gR)),dq (.vec 104 (.slice ez) cP)],(bw 9 ([dm (.d tH n9)]++bw 99 []))⟩
abbrev aga:=((List ei)×Nat×(List (List ei)))×(Int)
def nA:aga->Exit×AS:=λ((a,b,c),e)=>(.ret,⟨(aW 6 ([.d ti (0:Int),.d ti e]++aW 101 [])),[dq (.pr (.d (.slice ez) a) (.pr (.bU (.bP 1) 0 [] 0 0 b) gR)),dq (.vec 104 (.slice ez) c)],(ai 109 [])⟩)
abbrev agb:=(dM×(List ei)×Nat×(List (List ei))×Bs)×(Int)
def FF:agb->Exit×AS:=λ((a,b,c,e,f),g)=>(.exit 0,⟨([.ptr (.bP 0) 0 [] 0,bE,bE,bE,.dz dU a]++aW 4 ([eP 9,.d ti g]++aW 98 [])),[dq (.pr (.d (.slice ez) b) (.pr (.bU (.bP 1) 0 [] 0 0 c) gR)),dq (.vec 104 (.slice ez) e)],(bw 9 ([dm (.d tH f)]++bw 99 []))⟩)
abbrev XE:=(aga)⊕(agb)
abbrev ali:=(Int)⊕(Int)
def M1:XE->Out (Exit×AS):=λx=> .br x.isLeft (.get x.getLeft? λa=> .ok (nA a)) (.get x.getRight? λb=> .ok (FF b))
def nw:Ia->ali->XE:=λ(dj,fP,gB,i,o0,o0L,cP,n9) y=>match y with | .inl y=> .inl ((o0,o0L,cP),y) | .inr z=> .inr (((fP,o0,o0L,cP,n9),z))
abbrev Ib:=dM×Int×Int×(List ei)×Nat×(List (List ei))×Bs
def yH:Ib->AS:=λ(lS,Bk,fk,jq,gr,lp,sD)=>⟨([.ptr (.bP 0) 0 [] 0,bE,bE,bE,.dz dU lS]++aW 4 ([eP 9,.d ti Bk]++aW 4 ([.d ti fk]++aW 93 []))),[dq (.pr (.d (.slice ez) jq) (.pr (.bU (.bP 1) 0 [] 0 0 gr) gR)),dq (.vec 104 (.slice ez) lp)],(bw 9 ([dm (.d tH sD)]++bw 99 []))⟩
abbrev agd:=(List ei)×Nat×(List (List ei))
def FH:agd->Exit×AS:=λ(a,b,c)=>(.ret,⟨(aW 6 ([.d ti (0:Int),.d ti (4:Int)]++aW 101 [])),[dq (.pr (.d (.slice ez) a) (.pr (.bU (.bP 1) 0 [] 0 0 b) gR)),dq (.vec 104 (.slice ez) c)],(ai 109 [])⟩)
abbrev agf:=((List ei)×Nat×(List (List ei)))×(Int)
def FI:agf->Exit×AS:=λ((a,b,c),e)=>(.exit 2,⟨(aW 10 ([.d ti e]++aW 98 [])),[dq (.pr (.d (.slice ez) a) (.pr (.bU (.bP 1) 0 [] 0 0 b) gR)),dq (.vec 104 (.slice ez) c)],(ai 109 [])⟩)
abbrev XG:=(agd)⊕(agf)
abbrev alm:=(Unit)⊕(Int)
def M3:XG->Out (Exit×AS):=λx=> .br x.isLeft (.get x.getLeft? λa=> .ok (FH a)) (.get x.getRight? λb=> .ok (FI b))
def oV:Ib->alm->XG:=λ(lS,Bk,fk,jq,gr,lp,sD) y=>match y with | .inl y=> .inl (jq,gr,lp) | .inr z=> .inr (((jq,gr,lp),z))
abbrev aNe:=dM×Int×(List ei)×Nat×(List (List ei))
def FE:Ia->Prop:=λ(h,t,gB,i,l,_,_,id)=>(0<=h/\h<=1048576)/\Sm id/\t.1.length<=64/\(∀x∈t.1,aY4 x)/\Wf (jF l)/\l.length<=1000000/\∃k:Nat,k<=t.1.length/\i=k/\0<=gB/\gB<=(k:Int)*1125899906842624
def sV:Ia->ali:=λ(h,t,gB,i,l,_,_,id)=>rh h id (jF l) (t.1.drop i.toNat) gB
def FG:Ib->Prop:=λ(t,gB,i,l,_,_,_)=>l.length<=1000000/\t.2.1.length<=64/\(∀o∈t.2.1,0<=o.1/\o.1<=1125899906842624)/\∃k:Nat,k<=t.2.1.length/\i=k/\ -((k:Int)*1125899906842624)<=gB/\gB<=1000000000000000000
def wm:Ib->alm:=λ(t,gB,i,l,_,_,id)=>if(xc id i.toNat (t.2.1.length - i.toNat)).any (l5 (jF l))=bm then .inl () else .inr (gB - gH (t.2.1.drop i.toNat))
def aNf:aNe->Prop:=λ(t,_,l,_,_)=>th t/\Wf (jF l)/\l.length<=1000000
def ao6:aNe->(Int×Int×(List ei)×Nat×(List (List ei))):=λ(t,h,l,n,w)=>((cK t h (jF l)).1,(cK t h (jF l)).2,l,n,w)
def alh:=dB.e7 vC FE nw sV M1
def U7:Ia->Option XE:=fS alh vC
def alj:=dB.e7 yH FG oV wm M3
def U8:Ib->Option XG:=fS alj yH
def Bc:Fs Tryz.prog aNf bq ao6:=eV 68 Tryz.f68 (λ(t,height,o0a,o0baL,o1)=>([.ptr (.bP 0) 0 [] 0,.d dU t,.d ti height],[.obj 0 aZ (.pr (.d (.slice ez) o0a) (.pr (.bU (.bP 1) 0 [] 0 0 o0baL) (.d .unit ()))),.obj 0 aZ (.vec 104 (.slice ez) o1)])) (λx=>⟨.cons (.d ti x.1) (.cons (.d ti x.2.1) (.nil)),[.obj 0 aZ (.pr (.d (.slice ez) x.2.2.1) (.pr (.bU (.bP 1) 0 [] 0 0 x.2.2.2.1) (.d .unit ()))),.obj 0 aZ (.vec 104 (.slice ez) x.2.2.2.2)],[]⟩) [aH,av dU,av ti] [Mt,afn,alG,ayj] {loops:=lz [(7,{bg:=[0,2,4,9,10,11],sites:=[9]}),(18,{bg:=[0,4,9,10,15],sites:=[9]})],outs:=lu [(7,{bg:=[0,4,9,10],sites:=[9]},{bg:=[6,7]}),(18,{bg:=[10]},{bg:=[6,7]})],fa:=mc [(7,alh),(18,alj)]}
def XD:= @ej Tryz.prog (jr Bc.G) Bc.an 0 Tryz.f68 0 _ vC
abbrev af9:=jj Tryz.prog (jr Bc.G) Bc.an 0 Tryz.f68 0 vC FE nw sV M1
def alk:= @ej Tryz.prog (jr Bc.G) Bc.an 0 Tryz.f68 1 _ yH
abbrev agc:=jj Tryz.prog (jr Bc.G) Bc.an 0 Tryz.f68 1 yH FG oV wm M3
theorem aui:ik U7 FE nw sV:=jX (jA [.d ti,.d dU,.d ti,.d ti,.d (.slice ez),.n,.d (.slice (.slice ez)),.d tB] λ_=>cd)
theorem XF:ma @XD vC FE nw sV M1 af9:=mJ
theorem Ju(dj fP gB i o0 o0L cP n9)(kn:K2 R)(kx:K3 R):XD (dj,fP,gB,i,o0,o0L,cP,n9) kn kx=aJ (fv i (((ae fP.1):Nat):Int)) (aJ (eA i (((ae fP.1):Nat):Int)) (ao (rK.call (o0,(nth fo fP.1 (ab i)).1)) λx1=>aJ (fv x1 (0:Int)) (kx (nA ((o0,o0L,cP),(5:Int))).1 (nA ((o0,o0L,cP),(5:Int))).2) (aJ (eA x1 (((ae o0):Nat):Int)) (aJ (eA i (((ae fP.1):Nat):Int)) (ao (gT.call ((nth ez o0 (ab x1)).2.1.1.2.1,(nth fo fP.1 (ab i)).2.1,n9,dj,(df .i64 dj (nth ez o0 (ab x1)).2.1.2.1))) λx2=>aJ (C3 x2 (0:Int)) (kx (nA ((o0,o0L,cP),x2)).1 (nA ((o0,o0L,cP),x2)).2) (kn (vC (dj,fP,(bz .i64 gB (nth ez o0 (ab x1)).2.1.1.1),(bz .i64 i (1:Int)),o0,o0L,cP,n9)))) aH) aH)) aH) (kx (FF ((fP,o0,o0L,cP,n9),gB)).1 (FF ((fP,o0,o0L,cP,n9),gB)).2):=cd
theorem auj:ik U8 FG oV wm:=jX (jA [.d dU,.d ti,.d ti,.d (.slice ez),.n,.d (.slice (.slice ez)),.d tB] λ_=>cd)
theorem XH:ma @alk yH FG oV wm M3 agc:=mJ
theorem Jv(lS Bk fk jq gr lp sD)(kn:K2 R)(kx:K3 R):alk (lS,Bk,fk,jq,gr,lp,sD) kn kx=aJ (fv fk (((ae lS.2.1):Nat):Int)) (ao (rK.call (jq,(sD,(fk,())))) λx1=>aJ (AM x1 (0:Int)) (kx (FH (jq,gr,lp)).1 (FH (jq,gr,lp)).2) (aJ (eA fk (((ae lS.2.1):Nat):Int)) (kn (yH (lS,(df .i64 Bk (nth fi lS.2.1 (ab fk)).1),(bz .i64 fk (1:Int)),jq,gr,lp,sD))) aH)) (kx (FI ((jq,gr,lp),Bk)).1 (FI ((jq,gr,lp),Bk)).2):=cd
theorem aRR(t height o0a o0baL o1)(k:K1 R):Bc.A (t,height,o0a,o0baL,o1) k=ao (fN.call t) λx1=>aJ (!x1) (k (Bc.out (0,1,o0a,o0baL,o1))) (aJ (fv height 1) (k (Bc.out (0,1,o0a,o0baL,o1))) (aJ (xW height 1048576) (k (Bc.out (0,1,o0a,o0baL,o1))) (ao (PN.call t) λx2=>ao (U7 (height,t,0,0,o0a,o0baL,o1,x2)) λx5=>aJ x5.isLeft (ao x5.getLeft? λa6=>k (Bc.out (0,a6.2,a6.1.1,a6.1.2.1,a6.1.2.2))) (ao x5.getRight? λb7=>ao (U8 (b7.1.1,b7.2,0,b7.1.2.1,b7.1.2.2.1,b7.1.2.2.2.1,b7.1.2.2.2.2)) λx9=>aJ x9.isLeft (ao x9.getLeft? λa10=>k (Bc.out (0,4,a10.1,a10.2.1,a10.2.2))) (ao x9.getRight? λb11=>aJ (fv b11.2 0) (k (Bc.out (0,8,b11.1.1,b11.1.2.1,b11.1.2.2))) (k (Bc.out (b11.2,0,b11.1.1,b11.1.2.1,b11.1.2.2)))))))):=cd
theorem aze:af9:=by
 refine XF (λ(_,t,_,i,_,_,_,_)=>t.1.length - i.toNat) ?_
 rintro⟨h,t,gB,i,l,n,w,id⟩ ⟨⟨aUL,aTk⟩,dL,wZ,hu,ha,hl,k,hk,rfl,aKk,aA8⟩;have aUL:0<=h:=aUL;have aTk:h<=1048576:=aTk;have wZ:t.1.length<=64:=wZ;have hl:l.length<=1000000:=hl;have aKk:0<=gB:=aKk;have aA8:gB<=(k:Int)*1125899906842624:=aA8;have hk:k<=t.1.length:=hk;by_cases fF:k < t.1.length
 ·have hx:=hu _ (aK fF);have n1:nth fo t.1 k=t.1[k]:=bY (t:=fo) fF;have hd:t.1.drop k=t.1[k]::t.1.drop (k+1):=au fF;rcases Xe hl t.1[k].1 with⟨h1,h2⟩ | ⟨m,hm,h1,hg,_,h4⟩
  ·right;refine⟨nA ((l,n,w),5),?_,λkn kx=> ?_⟩;rotate_left
   ·rw[Ju,aS aq,aj,ba aq aq,aj,aa,n1,h1,ag,aS eX,aj]
   ·simp only[nw,sV,aa,hd,rh,h2];rfl
  ·generalize l[m]=c at hg h4;have hc:=ha.get hg;obtain⟨c1,c2,c3,c4,c5,c6⟩:=hc
   have xZ:∀ {R:Type} (kn:AS->Option R) (kx:Exit->AS->Option R),XD (h,t,gB,(k:Int),l,n,w,id) kn kx=
     aJ (C3 (v8 c.2.1.1.2.1 t.1[k].2.1 id h (h - c.2.1.2.1)) 0) (kx (nA ((l,n,w),v8 c.2.1.1.2.1 t.1[k].2.1 id h (h - c.2.1.2.1))).1 (nA ((l,n,w),v8 c.2.1.1.2.1 t.1[k].2.1 id h (h - c.2.1.2.1))).2)
      (kn (vC (h,t,gB+c.2.1.1.1,((k+1:Nat):Int),l,n,w,id))):=λkn kx=>by
    rw[Ju,aS aq,aj,ba aq aq,aj,aa,n1,h1,ag,aQ aq,al,ba aq aq,aj,aj,aa,h4];rw[fI aq aq,atA (d:=(c.2.1.1.2.1,t.1[k].2.1,id,h,h - c.2.1.2.1)) ⟨c2,hx.2.1,dL⟩];simp only[ag,bq,Xm];rw[fA aq aq,N.jL aq]
   by_cases he:v8 c.2.1.1.2.1 t.1[k].2.1 id h (h - c.2.1.2.1)=0
   ·left;refine⟨(h,t,gB+c.2.1.1.1,((k+1:Nat):Int),l,n,w,id),⟨⟨aUL,aTk⟩,dL,wZ,hu,ha,hl,k+1,aq,rfl,by show 0<=gB+c.2.1.1.1;omega,by show gB+c.2.1.1.1<=_;omega⟩,by simp only[aa];omega,?_,λkn kx=> ?_⟩
    ·simp only[nw,sV,aa,hd,rh,hg,he,ne_eq,qA,bC]
    ·rw[xZ,dN he,al]
   ·right;refine⟨nA ((l,n,w),v8 c.2.1.1.2.1 t.1[k].2.1 id h (h - c.2.1.2.1)),?_,λkn kx=> ?_⟩;rotate_left
    ·rw[xZ,fH he,aj]
    ·simp only[nw,sV,aa,hd,rh,hg];rw[if_pos he];rfl
 ·right;obtain rfl:k=t.1.length:=aq;refine⟨FF ((t,l,n,w,id),gB),?_,λkn kx=> ?_⟩;rotate_left
  ·rw[Ju,aQ aq,al]
  ·simp only[nw,sV,aa,aI,rh];rfl
theorem azf:agc:=by
 refine XH (λ(t,_,i,_,_,_,_)=>t.2.1.length - i.toNat) ?_
 rintro⟨t,gB,i,l,n,w,id⟩ ⟨hl,wZ,hp,k,hk,rfl,aKk,aA8⟩;have hl:l.length<=1000000:=hl;have wZ:t.2.1.length<=64:=wZ;have hk:k<=t.2.1.length:=hk;have aKk: -((k:Int)*1125899906842624)<=gB:=aKk;have aA8:gB<=1000000000000000000:=aA8;by_cases fF:k < t.2.1.length
 ·have n1:nth fi t.2.1 k=t.2.1[k]:=bY (t:=fi) fF;have hx:=hp _ (aK fF);have hd:t.2.1.drop k=t.2.1[k]::t.2.1.drop (k+1):=au fF;have hm:(xc id k (t.2.1.length - k)).any (l5 (jF l))=((cw bQ (id,((k:Int),())) (jF l)).isSome || (xc id (k+1) (t.2.1.length - (k+1))).any (l5 (jF l))):=by rw[show t.2.1.length - k=(t.2.1.length - (k+1))+1 by omega,Ri,eM];rfl
  rcases Xe hl (id,((k:Int),())) with⟨h1,h2⟩ | ⟨m,bb7,h1,h2,_,_⟩
  ·left;rw[h2,ph,tC]at hm;refine⟨(t,gB - t.2.1[k].1,((k+1:Nat):Int),l,n,w,id),⟨hl,wZ,hp,k+1,aq,rfl,by show -(((k+1:Nat):Int)*1125899906842624)<=gB - t.2.1[k].1;omega,by show gB - t.2.1[k].1<=_;omega⟩,by simp only[aa];omega,?_,λkn kx=> ?_⟩
   ·simp only[oV,wm,aa,hm,hd,rz];rw[show gB - t.2.1[k].1 - gH (t.2.1.drop (k+1))=gB - (t.2.1[k].1+gH (t.2.1.drop (k+1))) by omega]
   ·rw[Jv,aS aq,aj,h1,ag,eg eX,al,ba aq aq,aj,aa,n1,fI aq aq,N.jL aq]
  ·right;rw[h2,Option.isSome_some,Bool.true_or]at hm;refine⟨FH (l,n,w),?_,λkn kx=> ?_⟩
   ·simp only[oV,wm,aa,hm,bO];rfl
   ·rw[Jv,aS aq,aj,h1,ag,fG aq,aj]
 ·right;obtain rfl:k=t.2.1.length:=aq;refine⟨FI ((l,n,w),gB),?_,λkn kx=> ?_⟩
  ·simp only[oV,wm,aa,aI,Nat.sub_self];rw[show gB - gH ([]:List jV)=gB by show gB - 0=gB;omega];rfl
  ·rw[Jv,aQ aq,al]
theorem aRS:Bc.Ok:=by
 rintro⟨t,h,l,n,w⟩ ⟨hv,ha,hl⟩;have hv:th t:=hv;have ha:Wf (jF l):=ha;have hl:l.length<=1000000:=hl;rw[aRR,Jl (d:=t) hv.1];simp only[ag,bq,Ed,bq,ao6];by_cases gX:hP t=bm;rotate_left
 ·have hok':hP t=aZ:=by simpa using gX
  have e:cK t h (jF l)=(0,1):=by unfold cK;rw[if_neg (λx=>gX x.1)]
  rw[hok',e,dX,aj]
 ·rw[gX,bT,al];by_cases h1:h < 1
  ·have e:cK t h (jF l)=(0,1):=by unfold cK;rw[if_neg aq]
   rw[aS h1,aj,e]
  by_cases h2:h > 1048576
  ·have e:cK t h (jF l)=(0,1):=by unfold cK;rw[if_neg aq]
   rw[aQ h1,al,dw h2,aj,e]
  have hcF:cK t h (jF l)=match rh h (wz t) (jF l) t.1 0 with
    | .inl e=>(0,e)
    | .inr gB=>if(fY t).any (l5 (jF l))=bm then(0,4) else if gB - gH t.2.1 < 0 then(0,8) else(gB - gH t.2.1,0):=by
   unfold cK;refine(if_pos ⟨gX,aq,aq⟩).trans ?_
   cases rh h (wz t) (jF l) t.1 0 <;> rfl
  rw[hcF,aQ h1,al,cI h2,al,Xn (d:=t) hv];simp only[ag,bq,UJ];have arZ:=(iq gX).1;rw[aui (d:=(h,t,0,0,l,n,w,wz t)) ⟨⟨by show 0<=h;omega,by show h<=1048576;omega⟩,xT,arZ.2.1,hv.2.1,ha,hl,0,aL _,rfl,eF 0,by show(0:Int)<=((0:Nat):Int)*_;omega⟩];simp only[ag,nw,sV,aT,ay];cases hi:rh h (wz t) (jF l) t.1 0 with
  |inl e=>rfl
  |inr f=>
   simp only[db,al,cC,ag];have hb:=Q8 ha t.1 0 f hi;have aQu:=kc _ _ (iq gX).2.2;rw[auj (d:=(t,f,0,l,n,w,wz t)) ⟨hl,arZ.2.2.1,λo ho=>⟨(aQu o ho).1.1,(aQu o ho).1.2⟩,0,aL _,rfl,by show -(((0:Nat):Int)*_)<=f;omega,by show f<=_;omega⟩];have aWj:fY t=xc (wz t) 0 t.2.1.length:=by unfold fY;rw[if_pos gX]
   simp only[ag,oV,wm,aT,ay,kr,aWj];cases(xc (wz t) 0 t.2.1.length).any (l5 (jF l)) with
   |true=>rfl
   |false=>
    simp only[bG,bC,db,al,cC,ag];by_cases h3:f - gH t.2.1 < 0
    ·rw[aS h3,aj,if_pos h3]
    ·rw[aQ h3,al,if_neg h3]
theorem auk:Bc.RS:=rE [.d dU,.d ti,.d (.slice ez),.n,.d (.slice (.slice ez))] Bc
def aB5:=Bc.eY aRS 2 ⟨.e7 aze,⟨.e7 azf,trivial⟩⟩
abbrev H6:=Int×dM×Nat×Int×(List ei)×Nat×(List (List ei))×(List ei)
def yC:H6->AS:=λ(dj,fP,lL,i,o0,o0L,cP,n39)=>⟨([.ptr (.bP 0) 0 [] 0,bE,.d ti dj,bE,.dz dU fP]++aW 4 ([jl 39 lL,.d ti i]++aW 88 [])),[dq (.pr (.d (.slice ez) o0) (.pr (.bU (.bP 1) 1 [] 0 0 o0L) gR)),.obj 1 aZ (.vec 104 (.slice ez) cP)],(bw 39 ([dm (.vec 113 ez n39)]++bw 59 []))⟩
abbrev Jr:=(Int×dM×(List ei)×Nat×(List (List ei)))×(Nat×(List ei))
def Fx:Jr->Exit×AS:=λ((a,b,c,e,f),g,h)=>(.exit 0,⟨([.ptr (.bP 0) 0 [] 0,bE,.d ti a,bE,.dz dU b]++aW 4 ([jl 39 g]++aW 89 [])),[dq (.pr (.d (.slice ez) c) (.pr (.bU (.bP 1) 1 [] 0 0 e) gR)),.obj 1 aZ (.vec 104 (.slice ez) f)],(bw 39 ([dm (.vec 113 ez h)]++bw 59 []))⟩)
def Z9:Jr->Out (Exit×AS):=λx=> .ok (Fx x)
def rF:H6->(Nat×(List ei))->Jr:=λ(dj,fP,lL,i,o0,o0L,cP,n39) y=>((dj,fP,o0,o0L,cP),y)
abbrev H7:=Int×(List ei)×Nat×Int×(List ei)×Nat×(List (List ei))×Bs×(List ji)×(List jV)
def yE:H7->AS:=λ(oh,l,ownL,fk,jq,gr,lp,n13,aXS,ael)=>⟨([.ptr (.bP 0) 0 [] 0,bE,.d ti oh]++aW 6 ([.d (.slice ez) l,bE,bE,bE,eP 13,.bU (.new 75 1) 0 [] 0 0 ownL,.d ti fk]++aW 83 [])),[dq (.pr (.d (.slice ez) jq) (.pr (.bU (.bP 1) 1 [] 0 0 gr) gR)),.obj 1 aZ (.vec 104 (.slice ez) lp)],(bw 13 ([dm (.d tH n13)]++bw 61 ([[dq (.vec 140 fo aXS),dq (.vec 87 fi ael)]]++bw 23 [])))⟩
abbrev Js:=((List ei)×Nat×(List (List ei)))×((List ei))
def Fz:Js->Exit×AS:=λ((a,b,c),e)=>(.exit 2,⟨([.ptr (.bP 0) 0 [] 0]++aW 8 ([.d (.slice ez) e]++aW 89 [])),[dq (.pr (.d (.slice ez) a) (.pr (.bU (.bP 1) 1 [] 0 0 b) gR)),.obj 1 aZ (.vec 104 (.slice ez) c)],(ai 99 [])⟩)
def aaa:Js->Out (Exit×AS):=λx=> .ok (Fz x)
def rG:H7->(List ei)->Js:=λ(oh,l,ownL,fk,jq,gr,lp,n13,aXS,ael) y=>((jq,gr,lp),y)
abbrev afZ:=dM×Int×(List ei)×Nat×(List (List ei))
def ao3:afZ->SA:=λ(t,height,o0a,o0baL,o1)=>([.ptr (.bP 0) 0 [] 0,.d dU t,.d ti height],[dq (.pr (.d (.slice ez) o0a) (.pr (.bU (.bP 1) 0 [] 0 0 o0baL) gR)),dq (.vec 104 (.slice ez) o1)])
abbrev aM9:=(Int×(List ei)×Nat×(List (List ei)))⊕(Int×(List ei)×Nat×(List (List ei)))
abbrev ay9:=(Int×(List ei)×Nat×(List (List ei)))⊕(Int×(List ei)×Nat×(List (List ei)))
def U5:ay9->jf:=λx=>match x with | .inl x=>⟨.d ti x.1,[dq (.pr (.d (.slice ez) x.2.1) (.pr (.bU (.bP 1) 0 [] 0 0 x.2.2.1) gR)),dq (.vec 104 (.slice ez) x.2.2.2)],[]⟩ | .inr x=>⟨.d ti x.1,[dq (.pr (.d (.slice ez) x.2.1) (.pr (.bU (.bP 1) 1 [] 0 0 x.2.2.1) gR)),.obj 1 aZ (.vec 104 (.slice ez) x.2.2.2)],[]⟩
def MT:afZ->aM9->ay9:=λ(t,height,o0a,o0baL,o1) y=>match y with | .inl y=> .inl y | .inr y=> .inr y
def aqe(h:Int):List cz->List jV->List ei->List ei
 |o::os,x::xs,l=>aqe h os xs (yi l (o,((x,(h,())),())))
 |_,_,l=>l
def Sp(t:dM)(h:Int)(l:List ei):List ei:=aqe h (fY t) t.2.1 ((dP t).foldl AQ l)
def Fw:H6->Prop:=λ(_,t,m,i,_,_,_,r)=>t.1.length<=64/\m=r.length/\r.length<=1000000/\(eH (jF r)).Nodup/\∃k:Nat,k<=t.1.length/\i=k/\((t.1.drop k).map (·.1)).Nodup/\∀o∈(t.1.drop k).map (·.1),(cw bQ o (jF r)).isSome=bm
def yA:H6->(Nat×(List ei)):=λ(_,t,_,i,_,_,_,r)=>((((t.1.drop i.toNat).map (·.1)).foldl AQ r).length,((t.1.drop i.toNat).map (·.1)).foldl AQ r)
def Fy:H7->Prop:=λ(_,l,m,i,_,_,_,id,_,outs)=>m=outs.length/\outs.length<=64/\id.length=32/\(∀e∈l,e.1.1.length=32)/\∃k:Nat,k<=outs.length/\i=k/\l.length<=500000+k
def yD:H7->(List ei):=λ(h,l,_,i,_,_,_,id,_,outs)=>aqe h (xc id i.toNat (outs.length - i.toNat)) (outs.drop i.toNat) l
def af4:afZ->Prop:=λ(t,_,l,n,w)=>th t/\Wf (jF l)/\l.length<=500000/\n<=w.length/\w.length<=1000000
def af0:afZ->aM9:=λ(t,h,l,n,w)=>if(cK t h (jF l)).2≠0 then .inl ((cK t h (jF l)).2,l,n,w) else .inr (0,Sp t h l,n+1,w.take n++ [l])
def af1:tg:=jr (P:=Tryz.prog) [aB5,alG,afn,aym,aN0]
def ala:=dB.e7 yC Fw rF yA Z9
def U0:H6->Option Jr:=fS ala yC
def alc:=dB.e7 yE Fy rG yD aaa
def U2:H7->Option Js:=fS alc yE
def U4:Da:= {cg:=[39,60],loops:=lz [(7,{bg:=[0,2,4,9,10],sites:=[39,60],owns:=[⟨9,[],39,0⟩]}),(16,{bg:=[0,2,9,13,14,15],sites:=[13,75],data:=[(9,(.slice ez))]})],outs:=lu [(7,{bg:=[0,2,4,9],sites:=[39]},{bg:=[6]}),(16,{bg:=[0,9]},{bg:=[6]})],fa:=mc [(7,ala),(16,alc)]}
def aM7:= @Si Tryz.prog af1 U4 0 Tryz.f69 _ ao3
abbrev aRL:=avN @aM7 af4 MT af0 U5
def alb:= @ej Tryz.prog af1 U4 0 Tryz.f69 0 _ yC
abbrev af2:=jj Tryz.prog af1 U4 0 Tryz.f69 0 yC Fw rF yA Z9
def ald:= @ej Tryz.prog af1 U4 0 Tryz.f69 1 _ yE
abbrev af3:=jj Tryz.prog af1 U4 0 Tryz.f69 1 yE Fy rG yD aaa
theorem auf:ik U0 Fw rF yA:=jX (jA [.d ti,.d dU,.n,.d ti,.d (.slice ez),.n,.d (.slice (.slice ez)),.d (.slice ez)] λ_=>cd)
theorem Xy:aqa @alb yC Fw rF yA Fx af2:=aDg
theorem U1(dj fP lL i o0 o0L cP n39)(kn:K2 R)(kx:K3 R):alb (dj,fP,lL,i,o0,o0L,cP,n39) kn kx=aJ (fv i (((ae fP.1):Nat):Int)) (aJ (eA i (((ae fP.1):Nat):Int)) (aJ (decide (0=0/\(0+lL)<=(ae n39))) (ao (rK.call ((cut n39 0 lL),(nth fo fP.1 (ab i)).1)) λx1=>aJ (inc x1 ((lL:Nat):Int)) (aJ (decide (0=0/\(0+((ab x1) - 0))<=(ae n39))) (aJ (cZ (0+(ae (cut n39 0 ((ab x1) - 0)))) 80) (aJ (inc (bz .i64 x1 (1:Int)) ((lL:Nat):Int)) (aJ (decide ((0+((0+(ab (bz .i64 x1 (1:Int))))*36))=(0+((ab (bz .i64 x1 (1:Int)))*36))/\((0+(ab (bz .i64 x1 (1:Int))))+(lL - (ab (bz .i64 x1 (1:Int)))))<=(ae n39))) (aJ (decide ((0+(ae (cut n39 0 ((ab x1) - 0))))<=(ae ((aM 0 (ai 0 (((ai 32 (0:Int)),((0:Int),())),((((0:Int),((([]:List nR),()),())),((0:Int),())),()))))++(cut n39 0 ((ab x1) - 0)))))) (aJ (cZ ((0+(ae (cut n39 0 ((ab x1) - 0))))+(ae (cut n39 (0+(ab (bz .i64 x1 (1:Int)))) (lL - (ab (bz .i64 x1 (1:Int))))))) 80) (kn (yC (dj,fP,((0+(ae (cut n39 0 ((ab x1) - 0))))+(ae (cut n39 (0+(ab (bz .i64 x1 (1:Int)))) (lL - (ab (bz .i64 x1 (1:Int))))))),(bz .i64 i (1:Int)),o0,o0L,cP,((aM (0+(ae (cut n39 0 ((ab x1) - 0)))) ((aM 0 (ai 0 (((ai 32 (0:Int)),((0:Int),())),((((0:Int),((([]:List nR),()),())),((0:Int),())),()))))++(cut n39 0 ((ab x1) - 0))))++(cut n39 (0+(ab (bz .i64 x1 (1:Int)))) (lL - (ab (bz .i64 x1 (1:Int))))))))) aH) aH) aH) aH) aH) aH) aH) aH) aH) (kx (Fx ((dj,fP,o0,o0L,cP),(lL,n39))).1 (Fx ((dj,fP,o0,o0L,cP),(lL,n39))).2):=cd
theorem aug:ik U2 Fy rG yD:=jX (jA [.d ti,.d (.slice ez),.n,.d ti,.d (.slice ez),.n,.d (.slice (.slice ez)),.d tB,.d (.slice fo),.d (.slice fi)] λ_=>cd)
theorem Xz:aqa @ald yE Fy rG yD Fz af3:=aDg
theorem U3(oh l ownL fk jq gr lp n13 aXS ael)(kn:K2 R)(kx:K3 R):ald (oh,l,ownL,fk,jq,gr,lp,n13,aXS,ael) kn kx=aJ (fv fk ((ownL:Nat):Int)) (aJ (eA fk ((ownL:Nat):Int)) (aJ (decide ((0+(ab fk)) < (ae ael))) (aJ (decide ((((0+(ab fk))*2)+0)=(0+((ab fk)*2)))) (ao (Nh.call (l,((n13,(fk,())),(((nth fi ael (0+(ab fk))),(oh,())),())))) λx1=>kn (yE (oh,x1,ownL,(bz .i64 fk (1:Int)),jq,gr,lp,n13,aXS,ael))) aH) aH) aH) (kx (Fz ((jq,gr,lp),l)).1 (Fz ((jq,gr,lp),l)).2):=cd
theorem aRM(t height o0a o0baL o1)(k:K1 R):aM7 (t,height,o0a,o0baL,o1) k=ao (Bc.call (t,height,o0a,o0baL,o1)) λx1=>aJ (C3 x1.2.1 (0:Int)) (k (U5 (.inl (x1.2.1,x1.2.2.1,x1.2.2.2.1,x1.2.2.2.2)))) (aJ (decide (x1.2.2.2.1<=(ae x1.2.2.2.2))) (aJ (cZ (x1.2.2.2.1+1) 24) (aJ (cZ (0+(ae x1.2.2.1)) 80) (ao (U0 (height,t,(0+(ae x1.2.2.1)),(0:Int),x1.2.2.1,(x1.2.2.2.1+1),((aM x1.2.2.2.1 x1.2.2.2.2)++ [x1.2.2.1]),((aM 0 (ai 0 (((ai 32 (0:Int)),((0:Int),())),((((0:Int),((([]:List nR),()),())),((0:Int),())),()))))++x1.2.2.1))) λx4=>ao (PN.call x4.1.2.1) λx5=>ao (nW.call x4.1.2.1) λx6=>aJ (decide (0=0/\(0+x4.2.1)<=(ae x4.2.2))) (ao (U2 (x4.1.1,(cut x4.2.2 0 x4.2.1),x6.2.1,(0:Int),x4.1.2.2.1,x4.1.2.2.2.1,x4.1.2.2.2.2,x5,x6.2.2.2.1,x6.2.2.2.2)) λx9=>k (U5 (.inr ((0:Int),x9.2,x9.1.2.1,x9.1.2.2)))) aH) aH) aH) aH):=cd
theorem ay7:af2:=by
 refine Xy (λ(_,t,_,i,_,_,_,_)=>t.1.length - i.toNat) ?_
 rintro⟨h,t,m,i,l,n,w,r⟩ ⟨wZ,rfl,hr,hn,k,hk,rfl,hd,ht⟩;have wZ:t.1.length<=64:=wZ;have hr:r.length<=1000000:=hr;have hk:k<=t.1.length:=hk;by_cases fF:k < t.1.length
 ·left;have n1:nth fo t.1 k=t.1[k]:=bY (t:=fo) fF;have ba8:(t.1.drop k).map (·.1)=t.1[k].1::(t.1.drop (k+1)).map (·.1):=by rw[au fF,cj]
  rw[ba8]at hd ht;have hd':=dx.1 hd;have aWp:=ht _ aU;rcases Xe hr t.1[k].1 with⟨h1,h2⟩ | ⟨j,hj,h1,h2,h3,_⟩
  ·rw[h2]at aWp;cases aWp
  have e1:cut r 0 r.length=r:=QM rfl;have e2:cut r 0 j=r.take j:=by simp[cut]
  have e3:cut r (j+1) (r.length - (j+1))=r.drop (j+1):=by unfold cut;rw[bu (by rw[du];omega)]
  have l1:(r.take j).length=j:=by rw[bV];omega
  have l2:(r.drop (j+1)).length=r.length - (j+1):=du;have l3:(r.take j++r.drop (j+1)).length=j+(r.length - (j+1)):=by rw[ak,l1,l2]
  have t1:aM j (r.take j)=r.take j:=bu aq;refine⟨(h,t,(AQ r t.1[k].1).length,((k+1:Nat):Int),l,n,w,AQ r t.1[k].1),⟨wZ,rfl,by show(AQ r t.1[k].1).length<=_;have:=aJD r t.1[k].1;omega,by rw[abZ];exact vh hn,k+1,aq,rfl,hd'.2,λo ho=> ?_⟩,by simp only[aa];omega,?_,λkn kx=> ?_⟩
  ·rw[abZ,awT o _ hn,if_neg (λe=>hd'.1 (by rw[<-e];exact ho))];exact ht o (aP _ ho)
  ·simp only[rF,yA,aa,ba8,bn]
  ·rw[U1,aS aq,aj,ba aq aq,aj];simp only[aV,lT,az,b8,aj,aa,n1,e1];rw[h1,ag,N.jL aq];simp only[aa,kr,e2,e3,l1,l2,dD,aY,t1,lT,az,b8,aj];rw[oo aq aq,aj,aX (show j<=r.length by omega),aj,cM aq aq,aj,oo aq aq,aj,aX (show j+1+(r.length - (j+1))<=r.length by omega),aj,cM aq aq,aj,N.jL aq,h3,l3]
 ·right;obtain rfl:k=t.1.length:=aq;intro T kn kx;rw[U1,aQ aq,al];simp only[rF,yA,aa,aI,fK,ct]
theorem aHE(l:List ei)(c:ei):(yi l c).length=l.length+1:=(yT l c).length_eq
theorem ay8:af3:=by
 refine Xz (λ(_,_,_,i,_,_,_,_,_,outs)=>outs.length - i.toNat) ?_
 rintro⟨h,l,m,i,o,n,w,id,ins,outs⟩ ⟨rfl,wZ,dL,hq,k,hk,rfl,hl⟩;have wZ:outs.length<=64:=wZ;have hk:k<=outs.length:=hk;have hl:l.length<=500000+k:=hl;by_cases fF:k < outs.length
 ·left;have n1:nth fi outs k=outs[k]:=bY (t:=fi) fF;have hw:Nh.call (l,((id,((k:Int),())),((outs[k],(h,())),())))=av (yi l ((id,((k:Int),())),((outs[k],(h,())),()))):=aGX (d:=(l,((id,((k:Int),())),((outs[k],(h,())),())))) ⟨by show l.length<=1000000;omega,hq,dL⟩;refine⟨(h,yi l ((id,((k:Int),())),((outs[k],(h,())),())),outs.length,((k+1:Nat):Int),o,n,w,id,ins,outs),⟨rfl,wZ,dL,λe he=> ?_,k+1,aq,rfl,by show(yi l _).length<=_;rw[aHE];omega⟩,by simp only[aa];omega,?_,λkn kx=> ?_⟩
  ·rcases cq.1 ((yT l _).mem_iff.1 he) with rfl | he
   ·exact dL
   ·exact hq e he
  ·simp only[rG,yD,aa];rw[au fF,show outs.length - k=(outs.length - (k+1))+1 by omega,Ri,aqe]
  ·rw[U3,aS aq,aj,ba aq aq,aj,aa];simp only[aV,cD,b8,aj,n1];rw[aX fF,aj,hw,ag,N.jL aq]
 ·right;obtain rfl:k=outs.length:=aq;intro T kn kx;rw[U3,aQ aq,al];simp only[rG,yD,aa,aI,Nat.sub_self];rfl
theorem aI9{t:dM}(gX:hP t=bm):aS2 t:=by
 obtain⟨⟨_,a2,a3,_⟩,b1,b2⟩:=iq gX;refine⟨⟨aq,λx hx=> ?_⟩,aq,λx hx=> ?_⟩
 ·have:=mS _ _ b1 x hx;unfold Kz Bn at this;simp only[aw,bt]at this;omega
 ·have:=W0 (kc _ _ b2 x hx).2;exact⟨aq,λb hb=>by have:=this.2 b hb;omega⟩
theorem Ln:∀(os:List cz) (l:List ei),(os.foldl AQ l).Sublist l
 |[],l=>List.Sublist.refl _
 |o::os,l=>(Ln os (AQ l o)).trans (aJE l o)
theorem aRN:aRL:=by
 rintro⟨t,h,l,n,w⟩ ⟨hv,ha,hl,hn,hw⟩;have hv:th t:=hv;have ha:Wf (jF l):=ha;have hl:l.length<=500000:=hl;have hn:n<=w.length:=hn;have hw:w.length<=1000000:=hw;rw[aRM,auk (d:=(t,h,l,n,w)) ⟨hv,ha,by show l.length<=1000000;omega⟩];simp only[ag,bq,ao6,MT,af0];by_cases he:(cK t h (jF l)).2=0
 ·have hc:=y3 he;have arZ:=(iq hc.ok).1;have hs:dP t=t.1.map (·.1):=by unfold dP;rw[if_pos hc.ok]
  have hq:∀e∈l,e.1.1.length=32:=λe hm=>((ha.2 (e.1,e.2.1) (dy.2 ⟨e,hm,rfl⟩)).1).1
  rw[dN he,al,aX hn,aj,cM aq aq,aj,cM aq aq,aj];simp only[aV,dD,aY];rw[auf (d:=(h,t,l.length,0,l,n+1,w.take n++ [l],l)) ⟨arZ.2.1,rfl,by show l.length<=1000000;omega,ha.1,0,aL _,rfl,by rw[ay,<-hs];exact JG t,by rw[ay,<-hs];exact hc.there⟩];have awZ:=Ln (t.1.map (·.1)) l;simp only[ag,rF,yA,aT,ay];rw[Xn (d:=t) hv,atE (d:=t) (aI9 hc.ok)];simp only[ag,bq,UJ,bq,akV,aV,lT,az,b8,aj];rw[QM rfl,aug (d:=(h,(t.1.map (·.1)).foldl AQ l,t.2.1.length,0,l,n+1,w.take n++ [l],wz t,t.1,t.2.1)) ⟨rfl,arZ.2.2.1,(xT (t:=t)).1,λe hm=>hq e (awZ.mem hm),0,aL _,rfl,by have:=awZ.length_le;show((t.1.map (·.1)).foldl AQ l).length<=_;omega⟩];have aWj:fY t=xc (wz t) 0 t.2.1.length:=by unfold fY;rw[if_pos hc.ok]
  simp only[ag,rG,yD,aT,ay,kr,he,ne_eq,qA,bC,Sp,aWj,hs]
 ·rw[fH he,aj];simp only[ne_eq,he,qz,bO]
def aM8:=Entry.asE [aH,av dU,av ti] ao3 af4 MT af0 U5
def H8:afZ->Option ay9:=K6 aM8 ao3
theorem aNa:ik H8 af4 MT af0:=alJ (adv [.d dU,.d ti,.d (.slice ez),.n,.d (.slice (.slice ez))] λ_=>cd)
def ao2:SG Tryz.prog:=⟨69,nV,aM8,.of (.aWA (.fn 2 cd aRN (And.intro (.e7 ay7 cd) (And.intro (.e7 ay8 cd) trivial)))) (by rfl)⟩
abbrev Ic:=(List jV)×Int×Int×Nat×(List ei)
def yJ:Ic->AS:=λ(tw,sum,i,axt,n109)=>⟨([.d (.slice fi) tw,bE,.jW,.d ti sum,eP 14,.d ti i]++aW 107 []),[],(bw 14 ([dm (.pr (jl 109 axt) (.pr (.dJ) gR))]++bw 94 [dm (.vec 113 ez n109),[],[],[]]))⟩
def oX:Unit->Exit×AS:=λx=>(.ret,⟨([bE,bE,.jW]++aW 110 []),[],(ai 113 [])⟩)
abbrev agr:=Nat×(List ei)
def FL:agr->Exit×AS:=λx=>(.exit 0,⟨([bE,bE,.jW,bE,eP 14]++aW 108 []),[],(bw 14 ([dm (.pr (jl 109 x.1) (.pr (.dJ) gR))]++bw 94 [dm (.vec 113 ez x.2),[],[],[]]))⟩)
abbrev XM:=(Unit)⊕(agr)
abbrev alw:=(Unit)⊕((Nat×(List ei)))
def M6:XM->Out (Exit×AS):=λx=> .br x.isLeft (.get x.getLeft? λa=> .ok (oX a)) (.get x.getRight? λb=> .ok (FL b))
def oW:Ic->alw->XM:=λ(tw,sum,i,axt,n109) y=>match y with | .inl y=> .inl y | .inr z=> .inr (z)
abbrev Ie:=(List jV)×Int×Int×Int×Int×Nat×Nat×(List nR)×(List ei)
def yL:Ie->AS:=λ(ov,aau,fk,kv,n7,akC,LP,aTD,LO)=>⟨([.d (.slice fi) ov,bE,.jW,.d ti aau,eP 14,.d ti fk,bE,eP 7,.d ti kv]++aW 104 []),[],(bw 7 ([dm (.pr (.d ti n7) (.pr (.pr (jl 95 akC) gR) gR))]++bw 6 ([dm (.pr (jl 109 LP) (.pr (.dJ) gR))]++bw 80 ([dm (.vec 111 jE aTD)]++bw 13 [dm (.vec 113 ez LO),[],[],[]]))))⟩
abbrev JA:=((List jV)×Int×Int×Int×Nat×(List ei))×(Nat×(List nR))
def FN:JA->Exit×AS:=λ((a,b,c,e,f,g),h,i)=>(.exit 2,⟨([.d (.slice fi) a,bE,.jW,.d ti b,eP 14,.d ti c,bE,eP 7]++aW 105 []),[],(bw 7 ([dm (.pr (.d ti e) (.pr (.pr (jl 95 h) gR) gR))]++bw 6 ([dm (.pr (jl 109 f) (.pr (.dJ) gR))]++bw 80 ([dm (.vec 111 jE i)]++bw 13 [dm (.vec 113 ez g),[],[],[]]))))⟩)
def aae:JA->Out (Exit×AS):=λx=> .ok (FN x)
def rH:Ie->(Nat×(List nR))->JA:=λ(ov,aau,fk,kv,n7,akC,LP,aTD,LO) y=>((ov,aau,fk,n7,LP,LO),y)
abbrev agn:=(List jV)
def apa:agn->SA:=λouts=>([.d (.slice fi) outs],[])
abbrev aNz:=(Unit)⊕((List ei)×(List (List ei)))
abbrev azo:=(Unit)⊕((List ei)×(List (List ei)))
def M8:azo->jf:=λx=>match x with | .inl x=>⟨.jW,[],[]⟩ | .inr x=>⟨eP 0,[],[dq (.pr (.d (.slice ez) x.1) (.pr (.bU (.new 0 1) 0 [] 0 0 0) gR)),dq (.vec 104 (.slice ez) x.2)]⟩
def M7:agn->aNz->azo:=λouts y=>match y with | .inl y=> .inl y | .inr y=> .inr y
def JM(p:cz×fj):ei:=(p.1,(p.2,()))
def FM:Ie->Prop:=λ(outs,_,i,j,_,m,_,r,_)=>m=r.length/\∃(n k:Nat) (h:n < outs.length),i=n/\j=k/\k<=outs[n].2.1.1.length/\outs[n].2.1.1.length<=4/\(∀b∈outs[n].2.1.1,b.1.length<=12)/\r.length=k
def yK:Ie->(Nat×(List nR)):=λ(outs,_,i,j,_,m,_,r,_)=>((r++(nth fi outs i.toNat).2.1.1.drop j.toNat).length,r++(nth fi outs i.toNat).2.1.1.drop j.toNat)
def FK:Ic->Prop:=λ(outs,sum,i,m,r)=>(∀o∈outs,Wi o)/\outs.length<=256/\0<=sum/\sum<=1125899906842624/\m=r.length/\∃k:Nat,k<=outs.length/\i=k/\r.length=k
def wq:Ic->alw:=λ(outs,sum,i,m,r)=>match DQ sum i.toNat (outs.drop i.toNat) with | none=> .inl () | some a=> .inr ((r++a.map JM).length,r++a.map JM)
def agt:agn->Prop:=λouts=>∀o∈outs,Wi o
def ago:agn->aNz:=λouts=>match Rp outs with | none=> .inl () | some a=> .inr (a.map JM,[])
def agp:tg:=jr (P:=Tryz.prog) [Fg]
def alu:=dB.e7 yJ FK oW wq M6
def Vj:Ic->Option XM:=fS alu yJ
def alx:=dB.e7 yL FM rH yK aae
def Vk:Ie->Option JA:=fS alx yL
def Vm:Da:= {cg:=[14,83],loops:=lz [(6,{bg:=[0,2,3,4,5],sites:=[14,109],owns:=[⟨4,[.fst],109,104⟩]}),(14,{bg:=[0,2,3,4,5,7,8],sites:=[7,14,95,109],owns:=[⟨7,[.snd,.fst,.fst],95,80⟩]})],outs:=lu [(6,{bg:=[2,4],sites:=[14,109]},{bg:=[2]}),(14,{bg:=[0,2,3,4,5,7],sites:=[7,14,95,109]},{bg:=[2]})],fa:=mc [(6,alu),(14,alx)],owns:=[⟨2,[.snd,.fst],10,105⟩],QN:=[⟨2,[.fst],(.slice ez)⟩]}
def aNx:= @Si Tryz.prog agp Vm 0 Tryz.f9 _ apa
abbrev aRX:=avN @aNx agt M7 ago M8
def alv:= @ej Tryz.prog agp Vm 0 Tryz.f9 0 _ yJ
abbrev agq:=jj Tryz.prog agp Vm 0 Tryz.f9 0 yJ FK oW wq M6
def aly:= @ej Tryz.prog agp Vm 0 Tryz.f9 1 _ yL
abbrev ags:=jj Tryz.prog agp Vm 0 Tryz.f9 1 yL FM rH yK aae
theorem aus:ik Vj FK oW wq:=jX (jA [.d (.slice fi),.d ti,.d ti,.n,.d (.slice ez)] λ_=>cd)
theorem XN:ma @alv yJ FK oW wq M6 agq:=mJ
theorem Jz(tw sum i axt n109)(kn:K2 R)(kx:K3 R):alv (tw,sum,i,axt,n109) kn kx=aJ (fv i (((ae tw):Nat):Int)) (aJ (eA i (((ae tw):Nat):Int)) (ao (jS.call (nth fi tw (ab i)).2.1) λx1=>aJ (!x1) (kx (oX ()).1 (oX ()).2) (aJ (eA i (((ae tw):Nat):Int)) (aJ (fv (nth fi tw (ab i)).1 (0:Int)) (kx (oX ()).1 (oX ()).2) (aJ (eA i (((ae tw):Nat):Int)) (aJ (xW (nth fi tw (ab i)).1 (df .i64 (1125899906842624:Int) sum)) (kx (oX ()).1 (oX ()).2) (aJ (eA i (((ae tw):Nat):Int)) (aJ (eA i (((ae tw):Nat):Int)) (ao (Vk (tw,(bz .i64 sum (nth fi tw (ab i)).1),i,(0:Int),(nth fi tw (ab i)).1,0,axt,([]:List nR),n109)) λx2=>aJ (decide (0=0/\(0+x2.2.1)<=(ae x2.2.2))) (aJ (decide (x2.1.2.2.2.2.1<=(ae x2.1.2.2.2.2.2))) (aJ (cZ (x2.1.2.2.2.2.1+1) 80) (kn (yJ (x2.1.1,x2.1.2.1,(bz .i64 x2.1.2.2.1 (1:Int)),(x2.1.2.2.2.2.1+1),((aM x2.1.2.2.2.2.1 x2.1.2.2.2.2.2)++ [(((ai 32 (0:Int)),(x2.1.2.2.1,())),(((x2.1.2.2.2.1,(((cut x2.2.2 0 x2.2.1),()),())),((0:Int),())),()))])))) aH) aH) aH) aH) aH)) aH)) aH)) aH) (kx (FL (axt,n109)).1 (FL (axt,n109)).2):=cd
theorem aut:ik Vk FM rH yK:=jX (jA [.d (.slice fi),.d ti,.d ti,.d ti,.d ti,.n,.n,.d (.slice jE),.d (.slice ez)] λ_=>cd)
theorem XO:aqa @aly yL FM rH yK FN ags:=aDg
theorem Vl(ov aau fk kv n7 akC LP aTD LO)(kn:K2 R)(kx:K3 R):aly (ov,aau,fk,kv,n7,akC,LP,aTD,LO) kn kx=aJ (eA fk (((ae ov):Nat):Int)) (aJ (fv kv (((ae (nth fi ov (ab fk)).2.1.1):Nat):Int)) (aJ (eA fk (((ae ov):Nat):Int)) (aJ (eA kv (((ae (nth fi ov (ab fk)).2.1.1):Nat):Int)) (aJ (cZ (0+(ae (nth jE (nth fi ov (ab fk)).2.1.1 (ab kv)).1)) 8) (aJ (decide (0=0/\(0+(0+(ae (nth jE (nth fi ov (ab fk)).2.1.1 (ab kv)).1)))<=(ae ((aM 0 (ai 0 (0:Int)))++(nth jE (nth fi ov (ab fk)).2.1.1 (ab kv)).1)))) (aJ (decide (akC<=(ae aTD))) (aJ (cZ (akC+1) 48) (kn (yL (ov,aau,fk,(bz .i64 kv (1:Int)),n7,(akC+1),LP,((aM akC aTD)++ [((cut ((aM 0 (ai 0 (0:Int)))++(nth jE (nth fi ov (ab fk)).2.1.1 (ab kv)).1) 0 (0+(ae (nth jE (nth fi ov (ab fk)).2.1.1 (ab kv)).1))),((nth jE (nth fi ov (ab fk)).2.1.1 (ab kv)).2.1,((nth jE (nth fi ov (ab fk)).2.1.1 (ab kv)).2.2.1,((nth jE (nth fi ov (ab fk)).2.1.1 (ab kv)).2.2.2.1,()))))]),LO))) aH) aH) aH) aH) aH) aH) (kx (FN ((ov,aau,fk,n7,LP,LO),(akC,aTD))).1 (FN ((ov,aau,fk,n7,LP,LO),(akC,aTD))).2)) aH:=cd
theorem aRY(outs)(k:K1 R):aNx outs k=aJ (xW (((ae outs):Nat):Int) (256:Int)) (k (M8 (.inl ()))) (ao (Vj (outs,(0:Int),(0:Int),0,([]:List ei))) λx5=>aJ x5.isLeft (ao x5.getLeft? λa6=>k (M8 (.inl ()))) (ao x5.getRight? λb7=>aJ (decide (0=0/\(0+b7.1)<=(ae b7.2))) (k (M8 (.inr ((cut b7.2 0 b7.1),([]:List (List ei)))))) aH)):=cd
theorem azn:ags:=by
 refine XO (λ(outs,_,i,j,_,_,_,_,_)=>(nth fi outs i.toNat).2.1.1.length - j.toNat) ?_
 rintro⟨outs,sum,i,j,u,m,m2,r,r2⟩ ⟨rfl,n,k,hn,rfl,rfl,hk,h4,wD,hr⟩;have hr:r.length=k:=hr;have n1:nth fi outs n=outs[n]:=bY (t:=fi) hn;generalize hB:outs[n].2.1.1=B at hk h4 wD;have n2:(nth fi outs n).2.1.1=B:=by rw[n1,hB]
 by_cases fF:k < B.length
 ·left;have n3:nth jE B k=B[k]:=bY (t:=jE) fF;have hb:=wD _ (aK fF);have el:(r++ [B[k]]).length=r.length+1:=by rw[ak];rfl
  refine⟨(outs,sum,(n:Int),((k+1:Nat):Int),u,r.length+1,m2,r++ [B[k]],r2),⟨el.symm,n,k+1,hn,rfl,rfl,by rw[hB];omega,by rw[hB];exact h4,by rw[hB];exact wD,by show(r++ [B[k]]).length=_;omega⟩,by simp only[aa,n2];omega,?_,λkn kx=> ?_⟩
  ·simp only[rH,yK,aa,n2];rw[au fF,aO,cE]
  ·rw[Vl,ba aq aq,aj];simp only[aa,n2,n3];rw[aS aq,aj,aj,ba aq aq,aj];simp only[aV,dD,aY,lT,az,b8,aj,bN,ea];rw[cM aq aq,aj,cM aq aq,aj,N.jL aq]
 ·right;obtain rfl:k=B.length:=aq;intro T kn kx;rw[Vl,ba aq aq,aj];simp only[aa,n2];rw[aQ aq,al];simp only[rH,yK,aa,n2,aI,bK]
theorem azm:agq:=by
 refine XN (λ(outs,_,i,_,_)=>outs.length - i.toNat) ?_
 rintro⟨outs,sum,i,m,r⟩ ⟨hg,hl,h0,h1,rfl,k,hk,rfl,hr⟩;have h0:0<=sum:=h0;have h1:sum<=1125899906842624:=h1;have hl:outs.length<=256:=hl;have hk:k<=outs.length:=hk;have hr:r.length=k:=hr;by_cases h:k < outs.length
 ·obtain⟨g1,g2,g3⟩:=hg _ (aK h);have n1:nth fi outs k=outs[k]:=bY (t:=fi) h;have hd:outs.drop k=outs[k]::outs.drop (k+1):=au h;by_cases gX:rv sum outs[k]=bm
  ·left;have hok':=gX;unfold rv at hok';simp only[aw,bt]at hok';obtain⟨k1,k2,k3⟩:=hok';have ahU:=W0 k1;have el:(r++ [JM (wO k outs[k])]).length=r.length+1:=by rw[ak];rfl
   refine⟨(outs,sum+outs[k].1,((k+1:Nat):Int),r.length+1,r++ [JM (wO k outs[k])]),⟨hg,hl,by show 0<=sum+outs[k].1;omega,by show sum+outs[k].1<=_;omega,el.symm,k+1,aq,rfl,by show(r++ [JM (wO k outs[k])]).length=_;omega⟩,by simp only[aa];omega,?_,λkn kx=> ?_⟩
   ·simp only[oW,wq,aa,hd,DQ,gX];cases DQ (sum+outs[k].1) (k+1) (outs.drop (k+1)) with
    |none=>rfl
    |some a=>simp only[eN,cj,aO,cE]
   ·rw[Jz,aS aq,aj,ba aq aq,aj,aa,n1,xu (d:=outs[k].2.1) g1];simp only[ag,bq,vB,k1,bT,al,aj];rw[aQ aq,al,fI aq aq,cI aq,al,fA aq aq,aut (d:=(outs,sum+outs[k].1,(k:Int),0,outs[k].1,0,r.length,[],r)) ⟨rfl,k,0,h,rfl,rfl,aL _,ahU.1,ahU.2,rfl⟩];simp only[ag,rH,yK,aa,aT,ay,aY,n1,aV,lT,az,b8,aj,bN,ea];rw[cM aq aq,aj,N.jL aq];rfl
  ·right;have anm:rv sum outs[k]=aZ:=by simpa using gX
   refine⟨oX (),?_,λkn kx=> ?_⟩;rotate_left
   ·rw[Jz,aS aq,aj,ba aq aq,aj,aa,n1,xu (d:=outs[k].2.1) g1,fI aq aq];simp only[ag,bq,vB,aj];unfold rv at anm;cases k1:lI outs[k].2.1 with
    |false=>rw[dX,aj]
    |true=>
     rw[k1]at anm;simp only[bM,gA]at anm;rw[bT,al];by_cases k2:outs[k].1 < 0
     ·rw[aS k2,aj]
     ·rw[aQ k2,al,dw aq,aj]
   ·simp only[oW,wq,aa,hd,DQ,anm];rfl
 ·right;obtain rfl:k=outs.length:=aq;refine⟨FL (r.length,r),?_,λkn kx=> ?_⟩
  ·simp only[oW,wq,aa,aI,DQ,fK,bK];rfl
  ·rw[Jz,aQ aq,al]
theorem aRZ:aRX:=by
 intro outs hg;rw[aRY];simp only[M7,ago,Rp];by_cases hl:outs.length<=256
 ·rw[cI aq,al,aus (d:=(outs,0,0,0,[])) ⟨hg,hl,eF 0,by show(0:Int)<=_;decide,rfl,0,aL _,rfl,rfl⟩];simp only[ag,oW,wq,aT,ay,aY,hl,bO];cases DQ 0 0 outs with
  |none=>rfl
  |some a=>
   simp only[db,al,cC,ag,aV,lT,az,b8,aj,ea]
 ·rw[dw aq,aj];simp only[hl,bC]
def aNy:=Entry.asE [av (.slice fi)] apa agt M7 ago M8
def OA:agn->Option azo:=K6 aNy apa
theorem aNA:ik OA agt M7 ago:=alJ (adv [.d (.slice fi)] λ_=>cd)
def aR0:SG Tryz.prog:=⟨9,nV,aNy,.of (.aWA (.fn 2 cd aRZ (And.intro (.e7 azm cd) (And.intro (.e7 azn cd) trivial)))) (by rfl)⟩
section
theorem aHp{l:List ei}(hn:(eH (jF l)).Nodup){o:cz}{c:fj}(ho:cw bQ o (jF l)=aH):
  (eH (jF (yi l (o,(c,()))))).Nodup/\uY (jF (yi l (o,(c,())))) (fp bQ o c (jF l)):=by
 have hp:(jF (yi l (o,(c,())))).Perm ((o,c)::jF l):=(yT l (o,(c,()))).map _;have hk:o ∉ eH (jF l):=(get_none iF hn).1 ho;have aQq:(eH ((o,c)::jF l)).Nodup:=dx.2 ⟨hk,hn⟩;refine⟨((hp.map _).nodup_iff).2 aQq,?_⟩;have e:fp bQ o c (jF l)=jF l++ [(o,c)]:=Al iF hk;rw[e];have YT:(jF (yi l (o,(c,())))).Perm (jF l++ [(o,c)]):=hp.trans (List.perm_append_singleton (o,c) (jF l)).symm;exact arI ((YT.map (·.1)).nodup_iff.1 (((hp.map _).nodup_iff).2 aQq)) YT
theorem aAq(h:Int):∀(os:List cz) (xs:List jV) {l:List ei},aTW l->(∀e∈l,KD e.1)->(eH (jF l)).Nodup->os.Nodup->(∀o∈os,KD o/\cw bQ o (jF l)=aH)->
  aTW (aqe h os xs l)/\(eH (jF (aqe h os xs l))).Nodup/\uY (jF (aqe h os xs l)) (OL h os xs (jF l))
 |[],[],_,hs,_,hn,_,_=>⟨hs,hn,uY.refl _⟩
 |[],_::_,_,hs,_,hn,_,_=>⟨hs,hn,uY.refl _⟩
 |_::_,[],_,hs,_,hn,_,_=>⟨hs,hn,uY.refl _⟩
 |o::os,x::xs,l,hs,hq,hn,hd,ho=>by
  have hd':=dx.1 hd;obtain⟨q1,q2⟩:=ho o aU;obtain⟨w1,w2⟩:=aHp (c:=(x,(h,()))) hn q2;obtain⟨i1,i2,i3⟩:=aAq h os xs (l:=yi l (o,((x,(h,())),()))) (al4 l _ hq q1 hs) (λe he=>by
   rcases cq.1 ((yT l _).mem_iff.1 he) with rfl | he
   ·exact q1
   ·exact hq e he) w1 hd'.2 (λy hy=>⟨(ho y (aP _ hy)).1,by
    rw[w2 y,awU,if_neg (λe=>hd'.1 (by rw[<-e];exact hy))];exact(ho y (aP _ hy)).2⟩)
  rw[aqe,yj];exact⟨i1,i2,i3.trans (uY.add h os xs w2)⟩
theorem aaw:∀(os:List cz) (l:List ei),jF (os.foldl AQ l)=DA os (jF l)
 |[],_=>rfl
 |o::os,l=>by rw[bn,aaw os,abZ,N6]
theorem Rl.apply{a:At}{l:List ei}{t:dM}{h gB:Int}(hr:Rl a l)(hc:qI t h a gB)(hv:th t):Rl (cG t h a) (Sp t h l):=by
 have hn:=hr.nd;have hd:jF ((dP t).foldl AQ l)=DA (dP t) (jF l):=aaw _ _;have awZ:=Ln (dP t) l;have ha:=hc.nT hr.nT hv;have hlen:=vY hc.ok;obtain⟨i1,i2,i3⟩:=aAq h (fY t) t.2.1 (l:=(dP t).foldl AQ l) (List.Pairwise.sublist awZ hr.baC) (λe he=>hr.q e (awZ.mem he)) (by rw[hd];exact DB _ hn) (Rj t) (λo ho=>by
  refine⟨?_,?_⟩
  ·obtain⟨k,hk,e⟩:=List.getElem_of_mem ho;have hg:=hc.new hk aq;have hm:=(mq iF ha.1).1 hg;rw[e]at hm;exact(ha.2 _ hm).1
  ·rw[hd,YR o _ hn];split
   ·rfl
   ·rw[hr.eqv o];exact hc.made o ho)
 refine⟨ha,i1,i2,?_⟩;unfold Sp;refine i3.trans ?_
 rw[hd];exact hr.eqv.apply hn hr.nT.1 t h
theorem Rl.check{a:At}{l:List ei}(hr:Rl a l)(t:dM)(h:Int):cK t h (jF l)=cK t h a:=hr.eqv.check t h
theorem asM:∀(outs:List jV) (sum:Int) (k:Nat) {a:At},0<=sum->sum<=1125899906842624->(∀o∈outs,Wi o)->DQ sum k outs=av a->aTW (a.map JM)
 |[],sum,k,a,_,_,_,e=>by obtain rfl:=bf e;exact List.Pairwise.nil
 |o::outs,sum,k,a,h0,h1,hg,e=>by
  rw[DQ]at e;cases ho:rv sum o with
  |false=>rw[ho]at e;cases e
  |true=>
   rw[ho]at e;simp only at e;cases hr:DQ (sum+o.1) (k+1) outs with
   |none=>rw[hr]at e;cases e
   |some r=>
    rw[hr]at e;obtain rfl:=bf e;have ho':=ho;unfold rv at ho';simp only[aw,bt]at ho';obtain⟨_,k2,k3⟩:=ho';have bbe:∀x∈outs,Wi x:=λx hx=>hg x (aP _ hx)
    obtain⟨_,_,_,_,i5,_⟩:=W9 outs (sum+o.1) (k+1) aq aq bbe hr;rw[cj];refine lF.2 ⟨λy hy=> ?_,asM outs (sum+o.1) (k+1) aq aq bbe hr⟩;obtain⟨p,hp,rfl⟩:=dy.1 hy;obtain⟨q1,_,q3⟩:=i5 p hp;have q0:KD (wO k o).1:=by refine⟨by show(ai 32 (0:Int)).length=32;rw[dd],λx hx=> ?_⟩;have hx:x∈ai 32 (0:Int):=hx;obtain rfl:=(pc.1 hx).2;exact⟨eX,eX⟩
    show ¬xY p.1 (wO k o).1 < 0;refine ajO q0 q1 ?_
    have hz:(wO k o).1.1=ai 32 (0:Int):=rfl;rw[sk q0 q1];unfold AW;rw[abM _ _ (q0.1.trans q1.1.symm),hz];have hN:(wO k o).1.2.1=(k:Int):=rfl;rw[hN];have key:∀(n:Nat) (b:List Int),b.length=n->(∀x∈b,0<=x)->lx (ai n (0:Int)) b<=0:=by
     intro n
     induction n with
     |zero=>intro b _ _;cases b <;> exact eF 0
     |succ n ih=>
      intro b hb hx;cases b with
      |nil=>exact eF 0
      |cons y b=>
       rw[tn,lx];have hy:=hx y aU;by_cases e:(0:Int)=y
       ·rw[if_neg (λx=>x e)];exact ih b (by simpa using hb) λz hz=>hx z (aP _ hz)
       ·rw[if_pos e,if_pos aq];decide
    have hle:=key 32 p.1.1 q1.1 λx hx=>(q1.2 x hx).1
    unfold aWy;by_cases h2:lx (ai 32 (0:Int)) p.1.1=0
    ·rw[if_pos h2];unfold Qy;rw[if_pos aq];decide
    ·rw[if_neg h2];omega
theorem avi(a:At):jF (a.map JM)=a:=by unfold jF;rw[wG];exact List.map_id' a
theorem aVz{outs:List jV}{a:At}(hg:∀o∈outs,Wi o)(e:Rp outs=av a):Rl a (a.map JM):=by
 obtain⟨g0,_⟩:=akD hg e;have hs:aTW (a.map JM):=by
  unfold Rp at e;by_cases hl:outs.length<=256
  ·rw[if_pos hl]at e;exact asM outs 0 0 eX eX hg e
  ·rw[if_neg hl]at e;cases e
 exact⟨g0.nT,hs,by rw[avi];exact g0.nT.1,by rw[avi];exact uY.refl a⟩
def tE(m:Nat):Nat->At->List cV->List (List ei)->Prop
 | 0,_,_,_=>True
 |n+1,a,s,w=>Rl (yh a (nth cH s n)) (nth (.slice ez) w n)/\gM (yh a (nth cH s n))<=1125899906842624/\(yh a (nth cH s n)).length<=256+64*m/\tE m n (yh a (nth cH s n)) s w
theorem tE.mono{m m':Nat}(h:m<=m'):∀(n:Nat) {a:At} {s:List cV} {w:List (List ei)},tE m n a s w->tE m' n a s w
 | 0,_,_,_,_=>trivial
 |n+1,_,_,_,hh=>⟨hh.1,hh.2.1,by have:=hh.2.2.1;omega,tE.mono h n hh.2.2.2⟩
theorem tE.eqv{m:Nat}:∀(n:Nat) {a b:At} {s:List cV} {w:List (List ei)},tE m n a s w->uY a b->(eH a).Nodup->(eH b).Nodup->tE m n b s w
 | 0,_,_,_,_,_,_,_,_=>trivial
 |n+1,a,b,s,w,hh,e,ha,hb=>by have e2:=e.aSK ha hb (nth cH s n);have n1:=F0 ha (nth cH s n);have n2:=F0 hb (nth cH s n);have hp:=e2.perm n1 n2;exact⟨hh.1.aWS (hh.1.nT.perm hp) e2,by rw[<-vI hp];exact hh.2.1,by rw[<-hp.length_eq];exact hh.2.2.1,tE.eqv n hh.2.2.2 e2 n1 n2⟩
theorem tE.same{m:Nat}:∀(n:Nat) {a:At} {s s':List cV} {w w':List (List ei)},tE m n a s w->(∀k,k < n->nth cH s k=nth cH s' k)->(∀k,k < n->nth (.slice ez) w k=nth (.slice ez) w' k)->tE m n a s' w'
 | 0,_,_,_,_,_,_,_,_=>trivial
 |n+1,a,s,s',w,w',hh,hs,hw=>by unfold tE at hh ⊢;rw[<-hs n (sa n),<-hw n (sa n)];exact⟨hh.1,hh.2.1,hh.2.2.1,tE.same n hh.2.2.2 (λk hk=>hs k (Nat.lt_succ_of_lt hk)) λk hk=>hw k (Nat.lt_succ_of_lt hk)⟩
theorem aE3{w:List (List ei)}{x:List ei}{n k:Nat}(hn:n<=w.length)(hk:k < n):nth (.slice ez) (w.take n++ [x]) k=nth (.slice ez) w k:=by
 have h1:k < (w.take n++ [x]).length:=by rw[ak,bV];omega
 rw[bY (t:= .slice ez) h1,bY (t:= .slice ez) (show k < w.length by omega)];show(aM n w++ [x])[k]=w[k];rw[List.getElem_append_left (by rw[bV];omega),List.getElem_take]
theorem aE2{w:List (List ei)}{x:List ei}{n:Nat}(hn:n<=w.length):nth (.slice ez) (w.take n++ [x]) n=x:=by
 have e:(w.take n).length=n:=by rw[bV];omega
 have h1:n < (w.take n++ [x]).length:=by rw[ak,e];exact sa n
 rw[bY (t:= .slice ez) h1];show(aM n w++ [x])[n]=x;rw[List.getElem_append_right aq];simp[e]
structure gQ(m n:Nat)(a:At)(s:List cV)(l:List ei)(n':Nat)(w:List (List ei)):Prop where
 st:xV m n a s
 rl:Rl a l
 eq:n'=n
 le:n<=w.length
 len:w.length<=m
 aKm:tE m n a s w
section
variable {m n n':Nat} {a:At} {s:List cV} {l:List ei} {w:List (List ei)}
theorem gQ.apply{t:dM}{h:Int}(hb:gQ m n a s l n' w)(hc:qI t h a (cK t h a).1)(hv:th t):gQ (m+1) (n+1) (cG t h a) (s.take n++ [stepOf t a]) (Sp t h l) (n'+1) (w.take n'++ [l]):=by
 obtain rfl:=hb.eq;have h1:=hb.le;have h2:=hb.len;have ha:=hb.st.nT;have xZ:=hb.st.app hc hv;have e:(w.take n').length=n':=by rw[bV];omega
 have eu:=ahz hc ha.1;have nu:(eH (yh (cG t h a) (stepOf t a))).Nodup:=F0 (gZ ha.1) _;have hp:=eu.perm nu ha.1;refine⟨xZ,hb.rl.apply hc hv,rfl,by rw[ak,e];exact az _,by rw[ak,e];show n'+1<=_;omega,?_⟩;unfold tE;rw[aLt hb.st.le,aE2 h1];refine⟨hb.rl.aWS (ha.perm hp.symm) eu.symm,by rw[vI hp];exact hb.st.sum,by rw[hp.length_eq];have:=hb.st.aI8;omega,?_⟩;refine tE.mono (vH m) n' (tE.eqv n' (tE.same n' hb.aKm ?_ ?_) eu.symm ha.1 nu)
 ·exact λk hk=>(aLu hb.st.le hk).symm
 ·exact λk hk=>(aE3 h1 hk).symm
theorem gQ.mono(hb:gQ m n a s l n' w):gQ (m+1) n a s l n' w:=⟨hb.st.mono (vH _),hb.rl,hb.eq,hb.le,Nat.le_succ_of_le hb.len,hb.aKm.mono (vH m) n⟩
theorem gQ.aSK(hb:gQ m (n+1) a s l n' w):gQ m n (yh a (nth cH s n)) s (nth (.slice ez) w n) n w:=by have hh:=hb.aKm;unfold tE at hh;have h1:=hb.le;exact⟨⟨hh.1.nT,by have:=hb.st.le;omega,hb.st.len,hb.st.aVS,hh.2.1,hh.2.2.1⟩,hh.1,rfl,aq,hb.len,hh.2.2.2⟩
end
theorem aVy{m n n':Nat}{a:At}{s:List cV}{l:List ei}{w:List (List ei)}(hb:gQ m n a s l n' w)(hm:m<=100){t:dM}{h:Int}(hv:th t):Bc.call (t,h,l,n',w)=av ((cK t h a).1,(cK t h a).2,l,n',w):=by have h1:=hb.rl.len;have h2:=hb.st.aI8;rw[auk (d:=(t,h,l,n',w)) ⟨hv,hb.rl.aYs,by show l.length<=1000000;omega⟩];simp only[bq,ao6,hb.rl.check]
theorem ay6{m n n':Nat}{a:At}{s:List cV}{l:List ei}{w:List (List ei)}(hb:gQ m n a s l n' w)(hm:m<=100){t:dM}{h:Int}(hv:th t):H8 (t,h,l,n',w)=av (if(cK t h a).2≠0 then .inl ((cK t h a).2,l,n',w) else .inr (0,Sp t h l,n'+1,w.take n'++ [l])):=by
 have h1:=hb.rl.len;have h2:=hb.st.aI8;have h3:=hb.len;rw[aNa (d:=(t,h,l,n',w)) ⟨hv,hb.rl.aYs,by show l.length<=500000;omega,by rw[hb.eq];exact hb.le,by show w.length<=1000000;omega⟩];simp only[MT,af0,hb.rl.check];by_cases e:(cK t h a).2≠0
 ·rw[if_pos e]
 ·rw[if_neg e]
end
abbrev iP:Ty:=(.pair ti (.pair tH (.pair (.slice dU) (.pair ti (.pair (.slice bQ) .unit)))))
abbrev kE:=(Int×(Bs×((List dM)×(Int×((List cz)×Unit)))))
theorem ahT(x y:List Int):Ty.beq tH x y=decide (x=y):=by
 by_cases h:x=y
 ·rw[h,lH rfl];exact beq_refl tH y rfl
 ·rw[hJ h];cases hb:Ty.beq tH x y with
  |false=>rfl
  |true=>exact absurd (beq_eq tH x y rfl hb) h
def al7(o:cz):Prop:=o.1.length=32/\o.2.1<=9223372036854775807
def aTR(b:kE):Prop:=(b.2.2.1.length<=1000/\∀t∈b.2.2.1,th t)/\(b.1<=9223372036854775807/\b.2.1.length=32/\b.2.2.2.1<=9223372036854775807)/\b.2.2.2.2.1.length<=1000/\∀o∈b.2.2.2.2.1,al7 o
def aBd(x:Bs)(t:dM):Bs:=x++wz t
def aQH(x:Bs)(o:cz):Bs:=cQ (x++o.1) o.2.1
def aS5(b:kE):Bs:=b.2.2.2.2.1.foldl aQH (cQ (cQ (b.2.2.1.foldl aBd (cQ (cQ [] b.1++b.2.1) b.2.2.1.length)) b.2.2.2.1) b.2.2.2.2.1.length)
def aS6(b:kE):Bs:=tag (bS (⟨#[98,108,111,99,107]⟩:ByteArray)) [aS5 b]
theorem abH:∀(l:List dM) (x:Bs),(l.foldl aBd x).length=x.length+32*l.length
 |[],x=>rfl
 |t::l,x=>by rw[bn,abH l,aBd,ak,xT.1,aF];omega
theorem Of:∀(l:List cz) (x:Bs),(∀o∈l,al7 o)->(l.foldl aQH x).length<=x.length+43*l.length
 |[],x,_=>az _
 |o::l,x,h=>by
  have h1:=Of l (aQH x o) λy hy=>h y (aP _ hy)
  have h2:=dT (x++o.1) o.2.1;have h3:=(h o (aU ..)).1;rw[ak]at h2;rw[bn,aF];unfold aQH at h1 ⊢;omega
abbrev Wr:=kE×Bs×(List dM)×Int×Int×Bs
def EJ:Wr->Bs->((kE×Bs)×(Bs)):=λ(eU,x,t19,t20,t21,n2) y=>((eU,n2),y)
abbrev Ws:=Bs×(List cz)×Int×Int×Bs
def EK:Ws->Bs->((Bs)×(Bs)):=λ(aHV,t39,t40,t41,mW) y=>(mW,y)
def aqB:Wr->Prop:=λ(b,x,l,n,i,z)=>(l).length<=1000000000/\∃k:Nat,k<=(l).length/\i=k/\n=(l).length/\(l.length<=1000)/\(∀t∈l,th t)/\(x.length<=1000+32*k)
def NU:Wr->Bs:=λ(b,x,l,n,i,z)=>(bD (ab i) l).foldl aBd x
def aqD:Ws->Prop:=λ(x,l,n,i,z)=>(l).length<=1000000000/\∃k:Nat,k<=(l).length/\i=k/\n=(l).length/\(l.length<=1000)/\(∀o∈l,al7 o)/\(x.length<=100000+43*k)
def NV:Ws->Bs:=λ(x,l,n,i,z)=>(bD (ab i) l).foldl aQH x
def aIr:kE->Prop:=λb=>aTR b
def av8:kE->Bs:=λb=>aS6 b
def Bz:Ls aqB EJ NU:=pD (λ(eU,x,t19,t20,t21,n2)=>⟨([bE,.dz iP eU,eP 2,.d tB x]++aW 15 ([.d (.slice dU) t19,.d ti t20,.d ti t21]++aW 34 [])),[],([[],[],dm (.d tH n2)]++bw 53 [])⟩) (λx=>(.exit 0,⟨([bE,.dz iP x.1.1,eP 2,.d tB x.2]++aW 52 []),[],([[],[],dm (.d tH x.1.2)]++bw 53 [])⟩))
def BA:Ls aqD EK NV:=pD (λ(aHV,t39,t40,t41,mW)=>⟨([bE,bE,eP 2,.d tB aHV]++aW 35 ([.d (.slice bQ) t39,.d ti t40,.d ti t41]++aW 14 [])),[],([[],[],dm (.d tH mW)]++bw 53 [])⟩) (λx=>(.exit 2,⟨([bE,bE,eP 2,.d tB x.2]++aW 52 []),[],([[],[],dm (.d tH x.1)]++bw 53 [])⟩))
def OM:Fs Tryz.prog aIr bq av8:=eV 10 Tryz.f10 (λb=>([.d iP b],[])) (λx=>⟨.d tH x,[],[]⟩) [av iP] [abA,ard,X9,abG] {loops:=lz [(3,{bg:=[1,2,3,19,20,21],sites:=[2]}),(9,{bg:=[2,3,39,40,41],sites:=[2]})],outs:=lu [(3,{bg:=[1,2,3],sites:=[2]},{bg:=[2]}),(9,{bg:=[2,3],sites:=[2]},{bg:=[2]})],fa:=mc [(3,Bz.E),(9,BA.E)]}
theorem aqC:Bz.RS:=rL [.d iP,.d tB,.d (.slice dU),.d ti,.d ti,.d tB] Bz
theorem SD(eU x t19 t20 t21 n2)(kn:K2 R)(kx:K3 R):OM.R 0 Bz (eU,x,t19,t20,t21,n2) kn kx=aJ (fv t21 t20) (aJ (eA t21 (t19.length:Int)) (ao (tid.call (nth dU t19 (ab t21))) λx1=>ao (O5.call (x,x1)) λx2=>kn (Bz.st (eU,x2,t19,t20,(bz .i64 t21 1),n2))) aH) (Bz.go kx ((eU,n2),x)):=cd
theorem aqE:BA.RS:=rL [.d tB,.d (.slice bQ),.d ti,.d ti,.d tB] BA
theorem SE(aHV t39 t40 t41 mW)(kn:K2 R)(kx:K3 R):OM.R 1 BA (aHV,t39,t40,t41,mW) kn kx=aJ (fv t41 t40) (aJ (eA t41 (t39.length:Int)) (ao (O5.call (aHV,(nth bQ t39 (ab t41)).1)) λx1=>ao (Dr.call (x1,(nth bQ t39 (ab t41)).2.1)) λx2=>kn (BA.st (x2,t39,t40,(bz .i64 t41 1),mW))) aH) (BA.go kx (mW,aHV)):=cd
theorem aPt(b)(k:K1 R):OM.A b k=ao (Dr.call (([]:List Int),b.1)) λx1=>ao (O5.call (x1,b.2.1)) λx2=>ao (Dr.call (x2,(b.2.2.1.length:Int))) λx3=>ao (Bz.call (b,x3,b.2.2.1,(b.2.2.1.length:Int),0,(ai 32 0))) λx6=>ao (Dr.call (x6.2,x6.1.1.2.2.2.1)) λx7=>ao (Dr.call (x7,(x6.1.1.2.2.2.2.1.length:Int))) λx8=>ao (BA.call (x8,x6.1.1.2.2.2.2.1,(x6.1.1.2.2.2.2.1.length:Int),0,x6.1.2)) λavK=>ao (WQ.call ((⟨#[98,108,111,99,107]⟩:ByteArray),[avK.2])) λaAj=>k (OM.out aAj):=cd
theorem av9:(OM.jx 0 Bz):=by
 refine(OM.mf 0 Bz) (λ(b,x,l,n,i,z)=>(l).length - ab i) ?_
 rintro⟨b,x,l,n,i,z⟩ ⟨hlen,k,hk,rfl,rfl,h3,hx,hb⟩;have hlen:(l).length<=1000000000:=hlen;have hk:k<=(l).length:=hk;have h3:l.length<=1000:=h3;have hx:∀t∈l,th t:=hx;have hb:x.length<=1000+32*k:=hb;by_cases h:k < (l).length
 ·left;have n1:nth dU l k=l[k]:=bY (t:=dU) h;have hd:bD k l=l[k]::bD (k+1) l:=au h;refine⟨(b,(aBd x l[k]),l,((l).length:Int),((k+1:Nat):Int),z),⟨hlen,k+1,aq,rfl,rfl,h3,hx,by unfold aBd;rw[ak,xT.1];omega⟩,by simp only[aa];omega,?_,λkn kx=> ?_⟩
  ·simp only[EJ,NU,aa,hd,bn]
  ·rw[SD,aS aq,ba aq aq,aa,n1];simp only[aj];rw[OG (d:=l[k]) (hx _ (aK h))];simp only[ag,bq,ahc];rw[NY (d:=(x,wz l[k])) ⟨by show x.length+(wz l[k]).length<=_;rw[xT.1];omega,xT.1⟩];simp only[ag,bq,S0];rw[N.jL aq];rfl
 ·right;obtain rfl:k=(l).length:=aq;intro R kn kx;rw[SD,aQ aq,al];simp only[EJ,NU,aa,aI,ct]
theorem awa:(OM.jx 1 BA):=by
 refine(OM.mf 1 BA) (λ(x,l,n,i,z)=>(l).length - ab i) ?_
 rintro⟨x,l,n,i,z⟩ ⟨hlen,k,hk,rfl,rfl,h3,hx,hb⟩;have hlen:(l).length<=1000000000:=hlen;have hk:k<=(l).length:=hk;have h3:l.length<=1000:=h3;have hx:∀o∈l,al7 o:=hx;have hb:x.length<=100000+43*k:=hb;by_cases h:k < (l).length
 ·left;have n1:nth bQ l k=l[k]:=bY (t:=bQ) h;have hd:bD k l=l[k]::bD (k+1) l:=au h;refine⟨((aQH x l[k]),l,((l).length:Int),((k+1:Nat):Int),z),⟨hlen,k+1,aq,rfl,rfl,h3,hx,by have:=Of [l[k]] x (λo ho=>by rw[bB]at ho;subst ho;exact hx _ (aK h));simp only[bn,ct,aF,bp]at this;omega⟩,by simp only[aa];omega,?_,λkn kx=> ?_⟩
  ·simp only[EK,NV,aa,hd,bn]
  ·rw[SE,aS aq,ba aq aq,aa,n1];simp only[aj];obtain⟨e1,e2⟩:=hx _ (aK h);rw[NY (d:=(x,l[k].1)) ⟨by show x.length+l[k].1.length<=_;rw[e1];omega,e1⟩];simp only[ag,bq,S0];rw[ki (d:=(x++l[k].1,l[k].2.1)) ⟨by show(x++l[k].1).length<=_;rw[ak,e1];omega,e2⟩];simp only[ag,bq,qT];rw[N.jL aq];rfl
 ·right;obtain rfl:k=(l).length:=aq;intro R kn kx;rw[SE,aQ aq,al];simp only[EK,NV,aa,aI,ct]
theorem aPu:OM.Ok:=by rintro b ⟨⟨h1,h2⟩,⟨h3,h4,h5⟩,h6,h7⟩;have z1:((0:Int)).toNat=0:=rfl;have p1:=dT [] b.1;have p2:=dT (cQ [] b.1++b.2.1) b.2.2.1.length;rw[ak,h4]at p2;have l0:([]:Bs).length=0:=rfl;rw[l0]at p1;have q1:=abH b.2.2.1 (cQ (cQ [] b.1++b.2.1) b.2.2.1.length);obtain⟨x3,e3⟩:∃x,cQ (cQ [] b.1++b.2.1) b.2.2.1.length=x:=⟨_,rfl⟩;rw[e3]at p2 q1;obtain⟨x6,e6⟩:∃x,b.2.2.1.foldl aBd x3=x:=⟨_,rfl⟩;rw[e6]at q1;have p7:=dT x6 b.2.2.2.1;have p8:=dT (cQ x6 b.2.2.2.1) b.2.2.2.2.1.length;obtain⟨x8,e8⟩:∃x,cQ (cQ x6 b.2.2.2.1) b.2.2.2.2.1.length=x:=⟨_,rfl⟩;have q2:=Of b.2.2.2.2.1 x8 h7;rw[e8]at p8;rw[aPt,ki (d:=(([]:List Int),b.1)) ⟨by show(0:Nat)<=_;omega,h3⟩];simp only[ag,bq,qT];rw[NY (d:=(cQ [] b.1,b.2.1)) ⟨by show(cQ [] b.1).length+b.2.1.length<=_;rw[h4];omega,h4⟩];simp only[ag,bq,S0];rw[ki (d:=(cQ [] b.1++b.2.1,(b.2.2.1.length:Int))) ⟨by show(cQ [] b.1++b.2.1).length<=_;rw[ak,h4];omega,by show(b.2.2.1.length:Int)<=_;omega⟩];simp only[ag,bq,qT];rw[e3,aqC (d:=(b,x3,b.2.2.1,(b.2.2.1.length:Int),0,ai 32 0)) ⟨by show b.2.2.1.length<=_;omega,0,aL _,rfl,rfl,h1,h2,aq⟩];simp only[ag,EJ,NU,z1,ay];rw[e6,ki (d:=(x6,b.2.2.2.1)) ⟨by show x6.length<=_;omega,h5⟩];simp only[ag,bq,qT];rw[ki (d:=(cQ x6 b.2.2.2.1,(b.2.2.2.2.1.length:Int))) ⟨by show(cQ x6 b.2.2.2.1).length<=_;omega,by show(b.2.2.2.2.1.length:Int)<=_;omega⟩];simp only[ag,bq,qT];rw[e8,aqE (d:=(x8,b.2.2.2.2.1,(b.2.2.2.2.1.length:Int),0,ai 32 0)) ⟨by show b.2.2.2.2.1.length<=_;omega,0,aL _,rfl,rfl,h6,h7,aq⟩];simp only[ag,EK,NV,z1,ay];rw[TJ (d:=((⟨#[98,108,111,99,107]⟩:ByteArray),[b.2.2.2.2.1.foldl aQH x8])) (VQ eX aq)];simp only[ag,bq,av8,aS6,aS5,e3,e6,e8];rfl
theorem aqF:OM.RS:=rE [.d iP] OM
def aAA:=OM.eY aPu 2 ⟨.e7 av9,⟨.e7 awa,trivial⟩⟩
abbrev aqK:=Int×(List dM)×Int×Int
theorem al2:∀(l:List ji) (n:Int),(∀x∈l,x.2.1.2.1.length<=12)->n<=l.foldl vF n/\l.foldl vF n<=n+110*l.length
 |[],n,_=>by simp
 |x::l,n,h=>by
  have h1:=al2 l (vF n x) λy hy=>h y (aP _ hy)
  have h2:=h x (aU ..);have h3:n<=vF n x/\vF n x<=n+110:=by unfold vF;split <;> omega
  rw[bn,aF];omega
theorem C8(t:dM):0<=kD t/\kD t<=8000:=by
 unfold kD;split
 ·rename_i gX;obtain⟨⟨_,a2,a3,_⟩,b1,b2⟩:=iq gX;have:=al2 t.1 (10+8*t.2.1.length) λx hx=>(DH (mS _ _ b1 x hx)).2.2.2.2
  omega
 ·omega
def apZ(n:Int)(t:dM):Int:=n+kD t
def aIm(b:kE):Int:=b.2.2.1.foldl apZ b.2.2.2.1
def awc:aqK->Prop:=λ(n,l,m,i)=>(l).length<=1000000000/\∃k:Nat,k<=(l).length/\i=k/\m=(l).length/\(l.length<=1000)/\(∀t∈l,th t)/\(0<=n)/\(n<=1000000+8000*(k:Int))
def SH:aqK->Int:=λ(n,l,m,i)=>(bD (ab i) l).foldl apZ n
def aPv:kE->Prop:=λb=>aTR b/\0<=b.2.2.2.1/\b.2.2.2.1<=1000000
def aqJ:kE->Int:=λb=>aIm b
def Is:Ls awc bq SH:=pD (λ(n,t9,t10,t11)=>⟨([bE,bE,bE,.d ti n]++aW 5 ([.d (.slice dU) t9,.d ti t10,.d ti t11]++aW 9 [])),[],(ai 21 [])⟩) (λx=>(.exit 0,⟨([bE,bE,bE,.d ti x]++aW 17 []),[],(ai 21 [])⟩))
def ami:Fs Tryz.prog aPv bq aqJ:=eV 12 Tryz.f12 (λb=>([.d iP b],[])) (λx=>⟨.d ti x,[],[]⟩) [av iP] [ahs] {loops:=lz [(3,{bg:=[3,9,10,11]})],outs:=lu [(3,{bg:=[3]},{bg:=[2]})],fa:=mc [(3,Is.E)]}
theorem awd:Is.RS:=rL [.d ti,.d (.slice dU),.d ti,.d ti] Is
theorem Yq(n t9 t10 t11)(kn:K2 R)(kx:K3 R):ami.R 0 Is (n,t9,t10,t11) kn kx=aJ (fv t11 t10) (aJ (eA t11 (t9.length:Int)) (ao (uW.call (nth dU t9 (ab t11))) λx1=>kn (Is.st ((bz .i64 n x1),t9,t10,(bz .i64 t11 1)))) aH) (Is.go kx n):=cd
theorem aT7(b)(k:K1 R):ami.A b k=ao (Is.call (b.2.2.2.1,b.2.2.1,(b.2.2.1.length:Int),0)) λx2=>k (ami.out x2):=cd
theorem aC3:(ami.jx 0 Is):=by
 refine(ami.mf 0 Is) (λ(n,l,m,i)=>(l).length - ab i) ?_
 rintro⟨n,l,m,i⟩ ⟨hlen,k,hk,rfl,rfl,h3,hx,h0,h1⟩;have hlen:(l).length<=1000000000:=hlen;have hk:k<=(l).length:=hk;have h3:l.length<=1000:=h3;have hx:∀t∈l,th t:=hx;have h0:0<=n:=h0;have h1:n<=1000000+8000*(k:Int):=h1;by_cases h:k < (l).length
 ·left;have n1:nth dU l k=l[k]:=bY (t:=dU) h;have hd:bD k l=l[k]::bD (k+1) l:=au h;refine⟨((apZ n l[k]),l,((l).length:Int),((k+1:Nat):Int)),⟨hlen,k+1,aq,rfl,rfl,h3,hx,by have:=C8 l[k];unfold apZ;omega,by have:=C8 l[k];unfold apZ;omega⟩,by simp only[aa];omega,?_,λkn kx=> ?_⟩
  ·simp only[bq,SH,aa,hd,bn]
  ·rw[Yq,aS aq,ba aq aq,aa,n1];simp only[aj];have e:=C8 l[k];rw[aaH (d:=l[k]) (hx _ (aK h))];simp only[ag,bq,OJ];rw[fA (x:=n) aq aq,N.jL aq];rfl
 ·right;obtain rfl:k=(l).length:=aq;intro R kn kx;rw[Yq,aQ aq,al];simp only[bq,SH,aa,aI,ct]
theorem aT8:ami.Ok:=by rintro b ⟨⟨⟨h1,h2⟩,_⟩,h3,h4⟩;have z1:((0:Int)).toNat=0:=rfl;rw[aT7,awd (d:=(b.2.2.2.1,b.2.2.1,(b.2.2.1.length:Int),0)) ⟨by show b.2.2.1.length<=_;omega,0,aL _,rfl,rfl,h1,h2,h3,by show b.2.2.2.1<=_;omega⟩];simp only[ag,bq,SH,z1,ay,bq,aqJ,aIm]
theorem amj:ami.RS:=rE [.d iP] ami
def awe:=ami.eY aT8 1 ⟨.e7 aC3,trivial⟩
def wY(h f:Int):Bool:=decide (1<=h/\h<=1048576/\0<=f/\f<=4000)
def av7:(Int×Int)->Prop:=λ_=>True
def SC:(Int×Int)->Bool:=λ(h,f)=>wY h f
def Dk:Fs Tryz.prog av7 bq SC:=eV 118 Tryz.f118 (λ(height,fill)=>([.d ti height,.d ti fill],[])) (λx=>⟨.d .bool x,[],[]⟩) [av ti,av ti]
theorem aCY(height fill)(k:K1 R):Dk.A (height,fill) k=aJ (AM height 1) (aJ (ahY height 1048576) (aJ (AM fill 0) (k (Dk.out (ahY fill 4000))) (k (Dk.out aZ))) (k (Dk.out aZ))) (k (Dk.out aZ)):=cd
theorem aCZ:Dk.Ok:=by
 rintro⟨h,f⟩ _;rw[aCY];simp only[bq,SC,wY];by_cases a1:1<=h
 ·rw[fG a1,aj];by_cases a2:h<=1048576
  ·rw[om a2,aj];by_cases a3:0<=f
   ·rw[fG a3,aj];by_cases a4:f<=4000
    ·rw[om a4,lH ⟨a1,a2,a3,a4⟩]
    ·rw[j4 aq,hJ aq]
   ·rw[eg aq,al,hJ aq]
  ·rw[j4 aq,al,hJ aq]
 ·rw[eg aq,al,hJ aq]
theorem acj:Dk.RS:=rE [.d ti,.d ti] Dk
def ajF:=Dk.eY aCZ
def aaT(v o:cz):Bool:=Ty.beq bQ v o
def Wl(b:kE)(x:ji):Bool:=b.2.2.2.2.1.any (aaT x.1)
def Br(b:kE)(t:dM):Bool:=t.1.any (Wl b)
abbrev DT:=(List cz)×cz×Int×Int
def ru:DT->AS:=λ(ko,aWB,t7,t8)=>⟨([.d (.slice bQ) ko,bE,bE,.dz bQ aWB,bE,bE,bE,.d ti t7,.d ti t8]++aW 10 []),[],(ai 19 [])⟩
def sF:Int->Exit×AS:=λx=>(.ret,⟨(aW 4 ([.d ti x]++aW 14 [])),[],(ai 19 [])⟩)
def Cm:Unit->Exit×AS:=λx=>(.exit 0,⟨(aW 19 []),[],(ai 19 [])⟩)
abbrev Rs:=(Int)⊕(Unit)
abbrev aev:=(Int)⊕(Unit)
def I6:Rs->Out (Exit×AS):=λx=> .br x.isLeft (.get x.getLeft? λa=> .ok (sF a)) (.get x.getRight? λb=> .ok (Cm b))
def mY:DT->aev->Rs:=λ(ko,aWB,t7,t8) y=>match y with | .inl y=> .inl y | .inr z=> .inr (z)
abbrev aBz:=(List cz)×cz
def Cl:DT->Prop:=λ(l,v,n,i)=>l.length<=1000000000/\(True)/\n=l.length/\∃k:Nat,k<=l.length/\i=k
def rr:DT->aev:=λ(l,v,n,i)=>Gh (aaT v) (l.drop i.toNat) i
def aE9:aBz->Prop:=λ(l,v)=>l.length<=1000000000/\(True)
def an1:aBz->Int:=λ(l,v)=>ahX (aaT v) l
def aeu:=dB.e7 ru Cl mY rr I6
def Pz:DT->Option Rs:=fS aeu ru
def J1:Fs Tryz.prog aE9 bq an1:=eV 200 Tryz.f200 (λ(sv,v)=>([.d (.slice bQ) sv,.d bQ v],[])) (λx=>⟨.d ti x,[],[]⟩) [av (.slice bQ),av bQ] [] {loops:=lz [(2,{bg:=[0,3,7,8]})],outs:=lu [(2,{},{bg:=[4]})],fa:=mc [(2,aeu)]}
def Rr:= @ej Tryz.prog (jr J1.G) J1.an 0 Tryz.f200 0 _ ru
abbrev Zq:=jj Tryz.prog (jr J1.G) J1.an 0 Tryz.f200 0 ru Cl mY rr I6
theorem an2:ik Pz Cl mY rr:=jX (jA [.d (.slice bQ),.d bQ,.d ti,.d ti] λ_=>cd)
theorem Ub:ma @Rr ru Cl mY rr I6 Zq:=mJ
theorem PA(ko aWB t7 t8)(kn:K2 R)(kx:K3 R):Rr (ko,aWB,t7,t8) kn kx=aJ (fv t8 t7) (aJ (eA t8 (((ae ko):Nat):Int)) (aJ (Ty.beq bQ aWB (nth bQ ko (ab t8))) (kx (sF t8).1 (sF t8).2) (kn (ru (ko,aWB,t7,(bz .i64 t8 (1:Int)))))) aH) (kx (Cm ()).1 (Cm ()).2):=cd
theorem aLI(sv v)(k:K1 R):J1.A (sv,v) k=ao (Pz (sv,v,(sv.length:Int),0)) λx1=>aJ x1.isLeft (ao x1.getLeft? λa2=>k (J1.out a2)) (ao x1.getRight? λb3=>k (J1.out (-1))):=cd
theorem asY:Zq:=by
 refine Ub (λ(l,v,n,i)=>l.length - i.toNat) ?_
 rintro⟨l,v,n,i⟩ ⟨hb,hv,rfl,k,hk,rfl⟩;have hb:l.length<=1000000000:=hb;have hk:k<=l.length:=hk;by_cases h:k < l.length
 ·have n1:nth bQ l k=l[k]:=bY (t:=bQ) h;have hd:Gh (aaT v) (l.drop k) k=if aaT v l[k] then .inl (k:Int) else Gh (aaT v) (l.drop (k+1)) ((k+1:Nat):Int):=by rw[au h];rfl
  have step:∀ {R:Type} (kn:AS->Option R) (kx:Exit->AS->Option R),Rr (l,v,(l.length:Int),(k:Int)) kn kx=aJ (aaT v l[k]) (kx (sF (k:Int)).1 (sF (k:Int)).2) (kn (ru (l,v,(l.length:Int),((k+1:Nat):Int)))):=by intro R kn kx;rw[PA,aS aq,ba aq aq,aa,n1,N.jL aq];rfl
  cases hp:aaT v l[k]
  ·left;refine⟨(l,v,l.length,((k+1:Nat):Int)),⟨hb,hv,rfl,k+1,aq,rfl⟩,by simp only[aa];omega,?_,λkn kx=> ?_⟩
   ·simp only[mY,rr,aa,hd,hp,bG,bC]
   ·rw[step,hp,al]
  ·right;refine⟨sF (k:Int),?_,λkn kx=> ?_⟩
   ·simp only[mY,rr,aa,hd,hp,bO];rfl
   ·rw[step,hp,aj]
 ·right;obtain rfl:k=l.length:=aq;refine⟨Cm (),?_,λkn kx=> ?_⟩
  ·simp only[mY,rr,aa,aI];rfl
  ·rw[PA,aQ aq,al]
theorem aLJ:J1.Ok:=by rintro⟨l,v⟩ ⟨hb,hv⟩;rw[aLI,an2 (d:=(l,v,l.length,0)) ⟨hb,hv,rfl,0,aq,rfl⟩];simp only[ag,mY,rr,aT,ay,bq,an1,ahX];cases Gh (aaT v) l 0 <;> rfl
theorem aFa:J1.RS:=rE [.d (.slice bQ),.d bQ] J1
def aLK:=J1.eY aLJ 1 ⟨.e7 asY,trivial⟩
abbrev aBy:=(List cz)×cz
def aE8:aBy->Prop:=λ(l,_)=>l.length<=1000000000
def aRe:aBy->Bool:=λ(l,v)=>l.any (aaT v)
def Zp:Fs Tryz.prog aE8 bq aRe:=eV 142 Tryz.f142 (λ(sv,v)=>([.d (.slice bQ) sv,.d bQ v],[])) (λx=>⟨.d .bool x,[],[]⟩) [av (.slice bQ),av bQ] [aLK]
theorem aLF(sv v)(k:K1 R):Zp.A (sv,v) k=ao (J1.call (sv,v)) λx1=>k (Zp.out (AM x1 0)):=cd
theorem aLG:Zp.Ok:=by rintro⟨l,v⟩ hb;rw[aLF,aFa (d:=(l,v)) ⟨hb,trivial⟩];simp only[ag,bq,an1,TM];rfl
theorem akF:Zp.RS:=rE [.d (.slice bQ),.d bQ] Zp
def asX:=Zp.eY aLG
def aCJ:(ji×kE)->Prop:=λ(_,b)=>b.2.2.2.2.1.length<=1000
def aPg:(ji×kE)->Bool:=λ(x,b)=>Wl b x
def ab6:Fs Tryz.prog aCJ bq aPg:=eV 141 Tryz.f141 (λ(x,t1)=>([.d fo x,.dz iP t1],[])) (λx=>⟨.d .bool x,[],[]⟩) [av fo,aH] [asX]
theorem aH8(x t1)(k:K1 R):ab6.A (x,t1) k=ao (Zp.call (t1.2.2.2.2.1,x.1)) λx1=>k (ab6.out x1):=cd
theorem aH9:ab6.Ok:=by rintro⟨x,b⟩ hb;have hb:b.2.2.2.2.1.length<=1000:=hb;rw[aH8,akF (d:=(b.2.2.2.2.1,x.1)) (by show b.2.2.2.2.1.length<=_;omega)];rfl
theorem aCK:ab6.RS:=rE [.d fo,.d iP] ab6
def aIa:=ab6.eY aH9
abbrev DI:=(List ji)×kE×Int×Int
def re:DI->AS:=λ(ko,f,t7,t8)=>⟨([.d (.slice fo) ko,.fn 141 (.cons (.dz iP f) (.nil))]++aW 5 ([.d ti t7,.d ti t8]++aW 10 [])),[],(ai 19 [])⟩
def sx:Int->Exit×AS:=λx=>(.ret,⟨(aW 4 ([.d ti x]++aW 14 [])),[],(ai 19 [])⟩)
def Cc:Unit->Exit×AS:=λx=>(.exit 0,⟨(aW 19 []),[],(ai 19 [])⟩)
abbrev Q7:=(Int)⊕(Unit)
abbrev adu:=(Int)⊕(Unit)
def IU:Q7->Out (Exit×AS):=λx=> .br x.isLeft (.get x.getLeft? λa=> .ok (sx a)) (.get x.getRight? λb=> .ok (Cc b))
def mR:DI->adu->Q7:=λ(ko,f,t7,t8) y=>match y with | .inl y=> .inl y | .inr z=> .inr (z)
abbrev aBh:=(List ji)×kE
def Cb:DI->Prop:=λ(l,v,n,i)=>l.length<=1000000000/\(v.2.2.2.2.1.length<=1000)/\n=l.length/\∃k:Nat,k<=l.length/\i=k
def rb:DI->adu:=λ(l,v,n,i)=>Gh (Wl v) (l.drop i.toNat) i
def aEq:aBh->Prop:=λ(l,v)=>l.length<=1000000000/\(v.2.2.2.2.1.length<=1000)
def anv:aBh->Int:=λ(l,v)=>ahX (Wl v) l
def adt:=dB.e7 re Cb mR rb IU
def Ps:DI->Option Q7:=fS adt re
def J0:Fs Tryz.prog aEq bq anv:=eV 199 Tryz.f199 (λ(sv,fc)=>([.d (.slice fo) sv,.fn 141 (.cons (.dz iP fc) (.nil))],[])) (λx=>⟨.d ti x,[],[]⟩) [av (.slice fo),aH] [aIa] {loops:=lz [(2,{bg:=[0,1,7,8]})],outs:=lu [(2,{},{bg:=[4]})],fa:=mc [(2,adt)]}
def Q6:= @ej Tryz.prog (jr J0.G) J0.an 0 Tryz.f199 0 _ re
abbrev Y0:=jj Tryz.prog (jr J0.G) J0.an 0 Tryz.f199 0 re Cb mR rb IU
theorem anw:ik Ps Cb mR rb:=jX (jA [.d (.slice fo),.d iP,.d ti,.d ti] λ_=>cd)
theorem TN:ma @Q6 re Cb mR rb IU Y0:=mJ
theorem Pt(ko f t7 t8)(kn:K2 R)(kx:K3 R):Q6 (ko,f,t7,t8) kn kx=aJ (fv t8 t7) (aJ (eA t8 (((ae ko):Nat):Int)) (ao (ab6.call ((nth fo ko (ab t8)),f)) λx1=>aJ (x1) (kx (sx t8).1 (sx t8).2) (kn (re (ko,f,t7,(bz .i64 t8 (1:Int)))))) aH) (kx (Cc ()).1 (Cc ()).2):=cd
theorem aKD(sv fc)(k:K1 R):J0.A (sv,fc) k=ao (Ps (sv,fc,(sv.length:Int),0)) λx2=>aJ x2.isLeft (ao x2.getLeft? λa3=>k (J0.out a3)) (ao x2.getRight? λb4=>k (J0.out (-1))):=cd
theorem asd:Y0:=by
 refine TN (λ(l,v,n,i)=>l.length - i.toNat) ?_
 rintro⟨l,v,n,i⟩ ⟨hb,hv,rfl,k,hk,rfl⟩;have hb:l.length<=1000000000:=hb;have hk:k<=l.length:=hk;by_cases h:k < l.length
 ·have n1:nth fo l k=l[k]:=bY (t:=fo) h;have hd:Gh (Wl v) (l.drop k) k=if Wl v l[k] then .inl (k:Int) else Gh (Wl v) (l.drop (k+1)) ((k+1:Nat):Int):=by rw[au h];rfl
  have step:∀ {R:Type} (kn:AS->Option R) (kx:Exit->AS->Option R),Q6 (l,v,(l.length:Int),(k:Int)) kn kx=aJ (Wl v l[k]) (kx (sx (k:Int)).1 (sx (k:Int)).2) (kn (re (l,v,(l.length:Int),((k+1:Nat):Int)))):=by intro R kn kx;rw[Pt,aS aq,ba aq aq,aa,n1,aCK (d:=(l[k],v)) hv,N.jL aq];rfl
  cases hp:Wl v l[k]
  ·left;refine⟨(l,v,l.length,((k+1:Nat):Int)),⟨hb,hv,rfl,k+1,aq,rfl⟩,by simp only[aa];omega,?_,λkn kx=> ?_⟩
   ·simp only[mR,rb,aa,hd,hp,bG,bC]
   ·rw[step,hp,al]
  ·right;refine⟨sx (k:Int),?_,λkn kx=> ?_⟩
   ·simp only[mR,rb,aa,hd,hp,bO];rfl
   ·rw[step,hp,aj]
 ·right;obtain rfl:k=l.length:=aq;refine⟨Cc (),?_,λkn kx=> ?_⟩
  ·simp only[mR,rb,aa,aI];rfl
  ·rw[Pt,aQ aq,al]
theorem aKE:J0.Ok:=by rintro⟨l,v⟩ ⟨hb,hv⟩;rw[aKD,anw (d:=(l,v,l.length,0)) ⟨hb,hv,rfl,0,aq,rfl⟩];simp only[ag,mR,rb,aT,ay,bq,anv,ahX];cases Gh (Wl v) l 0 <;> rfl
theorem aEr:J0.RS:=rE [.d (.slice fo),.d iP] J0
def aKF:=J0.eY aKE 1 ⟨.e7 asd,trivial⟩
abbrev aBf:=(List ji)×kE
def aEo:aBf->Prop:=λ(l,b)=>l.length<=1000000000/\b.2.2.2.2.1.length<=1000
def aQM:aBf->Bool:=λ(l,b)=>l.any (Wl b)
def adr:Fs Tryz.prog aEo bq aQM:=eV 140 Tryz.f140 (λ(sv,fc)=>([.d (.slice fo) sv,.fn 141 (.cons (.dz iP fc) (.nil))],[])) (λx=>⟨.d .bool x,[],[]⟩) [av (.slice fo),aH] [aKF]
theorem aKA(sv fc)(k:K1 R):adr.A (sv,fc) k=ao (J0.call (sv,fc)) λx1=>k (adr.out (AM x1 0)):=cd
theorem aKB:adr.Ok:=by rintro⟨l,v⟩ ⟨hb,hv⟩;rw[aKA,aEr (d:=(l,v)) ⟨hb,hv⟩];simp only[ag,bq,anv,TM];rfl
theorem aEp:adr.RS:=rE [.d (.slice fo),.d iP] adr
def aKC:=adr.eY aKB
def avW:(dM×kE)->Prop:=λ(t,b)=>th t/\t.1.length<=1000000000/\b.2.2.2.2.1.length<=1000
def Su:(dM×kE)->Bool:=λ(t,b)=>Br b t
def Qp:Fs Tryz.prog avW bq Su:=eV 139 Tryz.f139 (λ(t,t1)=>([.d dU t,.dz iP t1],[])) (λx=>⟨.d .bool x,[],[]⟩) [av dU,aH] [aKC]
theorem aCL(t t1)(k:K1 R):Qp.A (t,t1) k=ao (adr.call (t.1,t1)) λx1=>k (Qp.out x1):=cd
theorem aCM:Qp.Ok:=by rintro⟨t,b⟩ ⟨_,hl,hb⟩;rw[aCL,aEp (d:=(t.1,b)) ⟨hl,hb⟩];rfl
theorem avX:Qp.RS:=rE [.d dU,.d iP] Qp
def aCN:=Qp.eY aCM
abbrev Aa:=(List dM)×Int×kE×Int×(List dM)×Int×Int×Nat×(List (cz×fj))×(List cV)×Nat×(List (cz×fj))×(List cV)
def pt:Aa->AS:=λ(tl,dj,endv,fees,t18,t19,t20,o0L,cP,dH,ad4,n17,LQ)=>⟨([bE,.d (.slice dU) tl,.d ti dj,.fn 139 (.cons (.dz iP endv) (.nil))]++aW 5 ([.d ti fees,bE,eP 17]++aW 6 ([.d (.slice dU) t18,.d ti t19,.d ti t20]++aW 32 []))),[dq (.pr (.c7 (.bP 1) 0) (.pr (.bU (.bP 2) 0 [] 0 0 o0L) gR)),dq (.mp bQ ff cP),dq (.vec 212 cH dH)],(bw 17 ([[dq (.pr (.c7 (.new 17 1) 0) (.pr (.bU (.new 17 2) 0 [] 0 0 ad4) gR)),dq (.mp bQ ff n17),dq (.vec 212 cH LQ)]]++bw 35 []))⟩
abbrev SJ:=(Nat×(List (cz×fj))×(List cV))×(Int×Int×Int)
def nF:SJ->Exit×AS:=λ((a,b,c),e,f,g)=>(.ret,⟨(aW 8 ([.d ti e,.d ti f,.d ti g]++aW 42 [])),[dq (.pr (.c7 (.bP 1) 0) (.pr (.bU (.bP 2) 0 [] 0 0 a) gR)),dq (.mp bQ ff b),dq (.vec 212 cH c)],(ai 53 [])⟩)
abbrev SK:=((List dM)×Nat×(List (cz×fj))×(List cV))×(Int)
def yX:SK->Exit×AS:=λ((a,b,c,e),f)=>(.exit 0,⟨([bE,.d (.slice dU) a]++aW 7 ([.d ti f]++aW 43 [])),[dq (.pr (.c7 (.bP 1) 0) (.pr (.bU (.bP 2) 0 [] 0 0 b) gR)),dq (.mp bQ ff c),dq (.vec 212 cH e)],(ai 53 [])⟩)
abbrev KR:=(SJ)⊕(SK)
abbrev Yt:=((Int×Int×Int))⊕(Int)
def F6:KR->Out (Exit×AS):=λx=> .br x.isLeft (.get x.getLeft? λa=> .ok (nF a)) (.get x.getRight? λb=> .ok (yX b))
def jz:Aa->Yt->KR:=λ(tl,dj,endv,fees,t18,t19,t20,o0L,cP,dH,ad4,n17,LQ) y=>match y with | .inl y=> .inl ((o0L,cP,dH),y) | .inr z=> .inr (((tl,o0L,cP,dH),z))
abbrev aqL:=(List dM)×Int×kE×Nat×(List (cz×fj))×(List cV)
def jv(b:kE)(h:Int):List dM->Int->Int->At->(Int×Int×Int)⊕Int
 |[],_,fees,_=> .inr fees
 |t::l,k,fees,a=>if Br b t then .inl (k,fees,14) else if(cK t h a).2≠0 then .inl (k,fees,(cK t h a).2) else jv b h l (k+1) (fees+(cK t h a).1) (cG t h a)
def aH2(l:List dM)(b:kE):Prop:=l.length<=100/\(∀t∈l,th t/\t.1.length<=1000000)/\b.2.2.2.2.1.length<=1000
def yW:Aa->Prop:=λ(_,_,b,fees,l,n',i,_,_,_,n,a,s)=>aH2 l b/\n'=(l.length:Int)/\∃k:Nat,k<=l.length/\i=k/\xV (500+k) n a s/\0<=fees/\fees+gM a<=1125899906842624
def mI:Aa->Yt:=λ(_,h,b,fees,l,_,i,_,_,_,_,a,_)=>jv b h (l.drop i.toNat) i fees a
def qD(b:kE)(h:Int)(l:List dM)(a:At):Int×Int×Int:=match jv b h l 0 0 (fC a) with
 | .inl x=>x
 | .inr f=>((l.length:Int),f,0)
def awf:aqL->Prop:=λ(l,_,b,n,a,s)=>aH2 l b/\xV 500 n a s
def aqM:aqL->(Int×Int×Int×Nat×(List (cz×fj))×(List cV)):=λ(l,h,b,n,a,s)=>((qD b h l a).1,(qD b h l a).2.1,(qD b h l a).2.2,n,a,s)
def Yr:=dB.e7 pt yW jz mI F6
def KS:Aa->Option KR:=fS Yr pt
def AN:Fs Tryz.prog awf bq aqM:=eV 120 Tryz.f120 (λ(l,height,endc,o0baL,o1,o2)=>([.ptr (.bP 0) 0 [] 0,.d (.slice dU) l,.d ti height,.fn 139 (.cons (.dz iP endc) (.nil))],[.obj 0 aZ (.pr (.c7 (.bP 1) 0) (.pr (.bU (.bP 2) 0 [] 0 0 o0baL) (.d .unit ()))),.obj 0 aZ (.mp bQ ff o1),.obj 0 aZ (.vec 212 cH o2)])) (λx=>⟨.cons (.d ti x.1) (.cons (.d ti x.2.1) (.cons (.d ti x.2.2.1) (.nil))),[.obj 0 aZ (.pr (.c7 (.bP 1) 0) (.pr (.bU (.bP 2) 0 [] 0 0 x.2.2.2.1) (.d .unit ()))),.obj 0 aZ (.mp bQ ff x.2.2.2.2.1),.obj 0 aZ (.vec 212 cH x.2.2.2.2.2)],[]⟩) [aH,av (.slice dU),av ti,aH] [N4,aCN,Tj,Tg] {loops:=lz [(3,{bg:=[1,2,3,9,11,18,19,20],sites:=[17],owns:=[⟨11,[.snd,.fst],17,32⟩]})],outs:=lu [(3,{bg:=[1,9]},{bg:=[8,9,10]})],fa:=mc [(3,Yr)]}
def Ys:= @ej Tryz.prog (jr AN.G) AN.an 0 Tryz.f120 0 _ pt
abbrev SI:=jj Tryz.prog (jr AN.G) AN.an 0 Tryz.f120 0 pt yW jz mI F6
theorem ahK:ik KS yW jz mI:=jX (jA [.d (.slice dU),.d ti,.d iP,.d ti,.d (.slice dU),.d ti,.d ti,.n,.d (.slice (.pair bQ ff)),.d (.slice cH),.n,.d (.slice (.pair bQ ff)),.d (.slice cH)] λ_=>cd)
theorem Qs:ma @Ys pt yW jz mI F6 SI:=mJ
theorem wM(tl dj endv fees t18 t19 t20 o0L cP dH ad4 n17 LQ)(kn:K2 R)(kx:K3 R):Ys (tl,dj,endv,fees,t18,t19,t20,o0L,cP,dH,ad4,n17,LQ) kn kx=aJ (fv t20 t19) (aJ (eA t20 (((ae t18):Nat):Int)) (ao (Qp.call ((nth dU t18 (ab t20)),endv)) λx1=>aJ (x1) (kx (nF ((o0L,cP,dH),(t20,fees,(14:Int)))).1 (nF ((o0L,cP,dH),(t20,fees,(14:Int)))).2) (ao (nP.call ((nth dU t18 (ab t20)),dj,ad4,n17,LQ)) λx2=>aJ (C3 x2.2.1 (0:Int)) (kx (nF ((o0L,cP,dH),(t20,fees,x2.2.1))).1 (nF ((o0L,cP,dH),(t20,fees,x2.2.1))).2) (ao (vc ((nth dU t18 (ab t20)),dj,x2.2.2.1,x2.2.2.2.1,x2.2.2.2.2)) λx3=>aJ x3.isLeft (ao x3.getLeft? λaV5=>kn (pt (tl,dj,endv,(bz .i64 fees x2.1),t18,t19,(bz .i64 t20 (1:Int)),o0L,cP,dH,aV5.2.1,aV5.2.2.1,aV5.2.2.2))) (ao x3.getRight? λaV6=>kn (pt (tl,dj,endv,(bz .i64 fees x2.1),t18,t19,(bz .i64 t20 (1:Int)),o0L,cP,dH,aV6.2.1,aV6.2.2.1,aV6.2.2.2)))))) aH) (kx (yX ((tl,o0L,cP,dH),fees)).1 (yX ((tl,o0L,cP,dH),fees)).2):=cd
theorem aC4(l height endc o0baL o1 o2)(k:K1 R):AN.A (l,height,endc,o0baL,o1,o2) k=ao (wR.call (o0baL,o1,o2)) λx1=>ao (KS (l,height,endc,0,l,(l.length:Int),0,x1.1,x1.2.1,x1.2.2.1,x1.2.2.2.1,x1.2.2.2.2.1,x1.2.2.2.2.2)) λx8=>aJ x8.isLeft (ao x8.getLeft? λa9=>k (AN.out (a9.2.1,a9.2.2.1,a9.2.2.2,a9.1.1,a9.1.2.1,a9.1.2.2))) (ao x8.getRight? λb10=>k (AN.out ((b10.1.1.length:Int),b10.2,0,b10.1.2.1,b10.1.2.2.1,b10.1.2.2.2))):=cd
theorem amk:SI:=by
 refine Qs (λ(_,_,_,_,l,_,i,_)=>l.length - i.toNat) ?_
 rintro⟨l0,h,b,fees,l,n',i,nS,a0,s0,n,a,s⟩ ⟨⟨h1,h2,h3⟩,rfl,k,hk,rfl,hg,f0,f1⟩;have h1:l.length<=100:=h1;have hk:k<=l.length:=hk;have f0:0<=fees:=f0;have f1:fees+gM a<=1125899906842624:=f1;have hg:xV (500+k) n a s:=hg;by_cases fF:k < l.length
 ·have n1:nth dU l k=l[k]:=bY (t:=dU) fF;have hd:l.drop k=l[k]::l.drop (k+1):=au fF;obtain⟨hv,hi⟩:=h2 _ (aK fF);have Ht:=avX (d:=(l[k],b)) ⟨hv,jy hi eX,h3⟩;by_cases hb:Br b l[k]=bm
  ·right;refine⟨nF ((nS,a0,s0),((k:Int),fees,14)),?_,λkn kx=> ?_⟩;rotate_left
   ·rw[wM,aS aq,aj,ba aq aq,aj,aa,n1,Ht];simp only[ag,bq,Su,hb,aj]
   ·simp only[jz,mI,aa,hd,jv,if_pos hb];rfl
  ·have hb':Br b l[k]=aZ:=by simpa using hb
   have hc:=hg.check (t:=l[k]) (h:=h) hv;rcases hg.apply (t:=l[k]) (h:=h) aq hv with⟨he,_⟩ | ⟨aQl,he,ha,hg'⟩
   ·right;refine⟨nF ((nS,a0,s0),((k:Int),fees,(cK l[k] h a).2)),?_,λkn kx=> ?_⟩;rotate_left
    ·rw[wM,aS aq,aj,ba aq aq,aj,aa,n1,Ht];simp only[ag,bq,Su,hb',al];rw[hc];simp only[ag];rw[fH he,aj]
    ·simp only[jz,mI,aa,hd,jv,if_neg hb,if_pos he];rfl
   ·left;have B5:=(aQl.sum hg.nT.1).1;have aXe:0<=(cK l[k] h a).1:=by obtain⟨_,_,_,f,_,_,hp,aTg⟩:=NW he;rw[aTg];exact hp
    have vi:=Sn λp hp=>(hg'.nT.2 p hp).2.2.2.1
    refine⟨(l0,h,b,fees+(cK l[k] h a).1,l,(l.length:Int),((k+1:Nat):Int),nS,a0,s0,n+1,cG l[k] h a,s.take n++ [stepOf l[k] a]),⟨⟨h1,h2,h3⟩,rfl,k+1,aq,rfl,hg',by show(0:Int)<=fees+(cK l[k] h a).1;omega,by show fees+(cK l[k] h a).1+gM (cG l[k] h a)<=_;omega⟩,by simp only[aa];omega,?_,λkn kx=> ?_⟩
    ·simp only[jz,mI,aa,hd,jv,if_neg hb,if_neg (λe=>e he:¬(cK l[k] h a).2≠0)];rfl
    ·rw[wM,aS aq,aj,ba aq aq,aj,aa,n1,Ht];simp only[ag,bq,Su,hb',al];rw[hc];simp only[ag];rw[dN he,al,ha];simp only[ag,db,al,cC];rw[fA (x:=fees) aq aq,N.jL aq]
 ·right;obtain rfl:k=l.length:=aq;refine⟨yX ((l0,nS,a0,s0),fees),?_,λkn kx=> ?_⟩;rotate_left
  ·rw[wM,aQ aq,al]
  ·simp only[jz,mI,aa,aI,jv];rfl
theorem aC5:AN.Ok:=by
 rintro⟨l,h,b,n,a,s⟩ ⟨hw,hg⟩;have hg:xV 500 n a s:=hg;obtain⟨hc,hl⟩:=hg.canon;have z1:((0:Int)).toNat=0:=rfl;rw[aC4,hg.copy aq];simp only[ag];rw[hl,ahK (d:=(l,h,b,0,l,(l.length:Int),0,n,a,s,n,fC a,s.take n)) ⟨hw,rfl,0,aL _,rfl,hc,eF 0,by show(0:Int)+gM (fC a)<=_;have:=hc.sum;omega⟩];simp only[ag,jz,mI,z1,ay,bq,aqM,qD];cases jv b h l 0 0 (fC a) with
 |inl x=>rfl
 |inr f=>rfl
theorem awg:AN.RS:=rE [.d (.slice dU),.d ti,.d iP,.n,.d (.slice (.pair bQ ff)),.d (.slice cH)] AN
def aC6:=AN.eY aC5 1 ⟨.e7 amk,trivial⟩
abbrev aqG:=kE×Nat×(List (cz×fj))×(List cV)
def ju(b:kE)(a:At):Int×Int:=if wY b.1 b.2.2.2.1 then(if 4000 < aIm b then(0,3) else(qD b b.1 b.2.2.1 a).2) else(0,1)
def Sj(b:kE):Prop:=aTR b/\b.2.2.1.length<=100/\∀t∈b.2.2.1,t.1.length<=1000000
theorem Sj.walk{b:kE}(h:Sj b):aH2 b.2.2.1 b:=⟨h.2.1,λt ht=>⟨h.1.1.2 t ht,h.2.2 t ht⟩,h.1.2.2.1⟩
def awb:aqG->Prop:=λ(b,n,a,s)=>Sj b/\xV 500 n a s
def ack:aqG->(Int×Int×Nat×(List (cz×fj))×(List cV)):=λ(b,n,a,s)=>((ju b a).1,(ju b a).2,n,a,s)
def Dl:Fs Tryz.prog awb bq ack:=eV 66 Tryz.f66 (λ(b,o0baL,o1,o2)=>([.ptr (.bP 0) 0 [] 0,.d iP b],[.obj 0 aZ (.pr (.c7 (.bP 1) 0) (.pr (.bU (.bP 2) 0 [] 0 0 o0baL) (.d .unit ()))),.obj 0 aZ (.mp bQ ff o1),.obj 0 aZ (.vec 212 cH o2)])) (λx=>⟨.cons (.d ti x.1) (.cons (.d ti x.2.1) (.nil)),[.obj 0 aZ (.pr (.c7 (.bP 1) 0) (.pr (.bU (.bP 2) 0 [] 0 0 x.2.2.1) (.d .unit ()))),.obj 0 aZ (.mp bQ ff x.2.2.2.1),.obj 0 aZ (.vec 212 cH x.2.2.2.2)],[]⟩) [aH,av iP] [ajF,awe,aC6]
theorem aC0(b o0baL o1 o2)(k:K1 R):Dl.A (b,o0baL,o1,o2) k=ao (Dk.call (b.1,b.2.2.2.1)) λx1=>aJ (!x1) (k (Dl.out (0,1,o0baL,o1,o2))) (aJ (xW (b.2.2.1.length:Int) 200) (k (Dl.out (0,3,o0baL,o1,o2))) (ao (ami.call b) λx2=>aJ (xW x2 4000) (k (Dl.out (0,3,o0baL,o1,o2))) (ao (AN.call (b.2.2.1,b.1,b,o0baL,o1,o2)) λx3=>k (Dl.out (x3.2.1,x3.2.2.1,x3.2.2.2.1,x3.2.2.2.2.1,x3.2.2.2.2.2))))):=cd
theorem aC1:Dl.Ok:=by
 rintro⟨b,n,a,s⟩ ⟨hb,hg⟩;have hb:Sj b:=hb;have hl:b.2.2.1.length<=100:=hb.2.1;rw[aC0,acj (d:=(b.1,b.2.2.2.1)) trivial];simp only[ag,bq,SC,bq,ack,ju];cases hf:wY b.1 b.2.2.2.1 with
 |false=>rfl
 |true=>
  have aA8:=hf;simp only[wY,bt]at aA8;rw[bT,al,cI aq,al,amj (d:=b) ⟨hb.1,aA8.2.2.1,by show b.2.2.2.1<=_;omega⟩];simp only[ag,bq,aqJ,bO];by_cases hw:4000 < aIm b
  ·rw[dw aq,aj,if_pos hw]
  ·rw[cI aq,al,if_neg hw,awg (d:=(b.2.2.1,b.1,b,n,a,s)) ⟨hb.walk,hg⟩];rfl
theorem acm:Dl.RS:=rE [.d iP,.n,.d (.slice (.pair bQ ff)),.d (.slice cH)] Dl
def ajG:=Dl.eY aC1
abbrev aAz:=kE×Nat×(List (cz×fj))×(List cV)
def aCV:aAz->Prop:=λ(b,n,a,s)=>Sj b/\xV 500 n a s
def Sz:aAz->(Int×Nat×(List (cz×fj))×(List cV)):=λ(b,n,a,s)=>((ju b a).2,n,a,s)
def Di:Fs Tryz.prog aCV bq Sz:=eV 16 Tryz.f16 (λ(b,o0baL,o1,o2)=>([.ptr (.bP 0) 0 [] 0,.d iP b],[.obj 0 aZ (.pr (.c7 (.bP 1) 0) (.pr (.bU (.bP 2) 0 [] 0 0 o0baL) (.d .unit ()))),.obj 0 aZ (.mp bQ ff o1),.obj 0 aZ (.vec 212 cH o2)])) (λx=>⟨.d ti x.1,[.obj 0 aZ (.pr (.c7 (.bP 1) 0) (.pr (.bU (.bP 2) 0 [] 0 0 x.2.1) (.d .unit ()))),.obj 0 aZ (.mp bQ ff x.2.2.1),.obj 0 aZ (.vec 212 cH x.2.2.2)],[]⟩) [aH,av iP] [ajG]
theorem aIp(b o0baL o1 o2)(k:K1 R):Di.A (b,o0baL,o1,o2) k=ao (Dl.call (b,o0baL,o1,o2)) λx1=>k (Di.out (x1.2.1,x1.2.2.1,x1.2.2.2.1,x1.2.2.2.2)):=cd
theorem aIq:Di.Ok:=by rintro⟨b,n,a,s⟩ h;rw[aIp,acm (d:=(b,n,a,s)) h];rfl
theorem Hh:Di.RS:=rE [.d iP,.n,.d (.slice (.pair bQ ff)),.d (.slice cH)] Di
def ach:=Di.eY aIq
abbrev Dh:=kE×Int×(List dM)×Int×Int×Nat×(List (cz×fj))×(List cV)
def qN:Dh->AS:=λ(eU,err,t12,t13,t14,o0L,cP,dH)=>⟨([.ptr (.bP 0) 0 [] 0,bE,bE,.dz iP eU,bE,.d ti err]++aW 6 ([.d (.slice dU) t12,.d ti t13,.d ti t14]++aW 13 [])),[dq (.pr (.c7 (.bP 1) 0) (.pr (.bU (.bP 2) 1 [] 0 0 o0L) gR)),dq (.mp bQ ff cP),.obj 1 aZ (.vec 212 cH dH)],(ai 28 [])⟩
abbrev Yl:=(Int)×(Nat×(List (cz×fj))×(List cV))
def Bx:Yl->Exit×AS:=λ(a,b,c,e)=>(.ret,⟨(aW 4 ([.d ti a]++aW 23 [])),[dq (.pr (.c7 (.bP 1) 0) (.pr (.bU (.bP 2) 1 [] 0 0 b) gR)),dq (.mp bQ ff c),.obj 1 aZ (.vec 212 cH e)],(ai 28 [])⟩)
abbrev Ym:=(Int)×(Nat×(List (cz×fj))×(List cV))
def By:Ym->Exit×AS:=λ(a,b,c,e)=>(.exit 0,⟨(aW 5 ([.d ti a]++aW 22 [])),[dq (.pr (.c7 (.bP 1) 0) (.pr (.bU (.bP 2) 1 [] 0 0 b) gR)),dq (.mp bQ ff c),.obj 1 aZ (.vec 212 cH e)],(ai 28 [])⟩)
abbrev Qq:=(Yl)⊕(Ym)
abbrev acg:=((Nat×(List (cz×fj))×(List cV)))⊕((Nat×(List (cz×fj))×(List cV)))
def Iq:Qq->Out (Exit×AS):=λx=> .br x.isLeft (.get x.getLeft? λa=> .ok (Bx a)) (.get x.getRight? λb=> .ok (By b))
def ky:Dh->acg->Qq:=λ(eU,err,t12,t13,t14,o0L,cP,dH) y=>match y with | .inl y=> .inl (err,y) | .inr z=> .inr ((err,z))
abbrev aAy:=kE×Nat×(List (cz×fj))×(List cV)
abbrev avB:=Nat×At×List cV
def F3(h:Int)(S:avB)(t:dM):avB:=if(cK t h S.2.1).2≠0 then S else(S.1+1,cG t h S.2.1,S.2.2.take S.1++ [stepOf t S.2.1])
def aT9(b:kE)(S:avB):avB:=b.2.2.1.foldl (F3 b.1) S
def Bw:Dh->Prop:=λ(_,_,l,m,i,n,a,s)=>(l.length<=100/\∀t∈l,th t)/\m=(l.length:Int)/\∃k:Nat,k<=l.length/\i=k/\xV (400+k) n a s
def po:Dh->acg:=λ(b,e,l,_,i,n,a,s)=>if e≠0/\i < (l.length:Int) then .inl (n,a,s) else .inr ((l.drop i.toNat).foldl (F3 b.1) (n,a,s))
def aCU:aAy->Prop:=λ(b,n,a,s)=>Sj b/\xV 400 n a s
def amf:aAy->(Int×Nat×(List (cz×fj))×(List cV)):=λ(b,n,a,s)=>((ju b a).2,if(ju b a).2≠0 then(n,a,s) else aT9 b (n,a,s))
def ace:=dB.e7 qN Bw ky po Iq
def OZ:Dh->Option Qq:=fS ace qN
def Dg:Fs Tryz.prog aCU bq amf:=eV 18 Tryz.f18 (λ(b,o0baL,o1,o2)=>([.ptr (.bP 0) 0 [] 0,.d iP b],[.obj 0 aZ (.pr (.c7 (.bP 1) 0) (.pr (.bU (.bP 2) 0 [] 0 0 o0baL) (.d .unit ()))),.obj 0 aZ (.mp bQ ff o1),.obj 0 aZ (.vec 212 cH o2)])) (λx=>⟨.d ti x.1,[.obj 0 aZ (.pr (.c7 (.bP 1) 0) (.pr (.bU (.bP 2) 1 [] 0 0 x.2.1) (.d .unit ()))),.obj 0 aZ (.mp bQ ff x.2.2.1),.obj 1 aZ (.vec 212 cH x.2.2.2)],[]⟩) [aH,av iP] [ach,Tg] {loops:=lz [(3,{bg:=[0,3,5,12,13,14],aIz:=[(2,1)]})],outs:=lu [(3,{bg:=[5],aIz:=[(2,1)]},{bg:=[4],aIz:=[(2,1)]})],fa:=mc [(3,ace)],aIz:=[(2,1)]}
def acf:= @ej Tryz.prog (jr Dg.G) Dg.an 0 Tryz.f18 0 _ qN
abbrev Yk:=jj Tryz.prog (jr Dg.G) Dg.an 0 Tryz.f18 0 qN Bw ky po Iq
theorem amg:ik OZ Bw ky po:=jX (jA [.d iP,.d ti,.d (.slice dU),.d ti,.d ti,.n,.d (.slice (.pair bQ ff)),.d (.slice cH)] λ_=>cd)
theorem Sy:ma @acf qN Bw ky po Iq Yk:=mJ
theorem yV(eU err t12 t13 t14 o0L cP dH)(kn:K2 R)(kx:K3 R):acf (eU,err,t12,t13,t14,o0L,cP,dH) kn kx=aJ (fv t14 t13) (aJ (eA t14 (((ae t12):Nat):Int)) (aJ (C3 err (0:Int)) (kx (Bx (err,(o0L,cP,dH))).1 (Bx (err,(o0L,cP,dH))).2) (ao (vc ((nth dU t12 (ab t14)),eU.1,o0L,cP,dH)) λx1=>aJ x1.isLeft (ao x1.getLeft? λaHH=>kn (qN (eU,err,t12,t13,(bz .i64 t14 (1:Int)),aHH.2.1,aHH.2.2.1,aHH.2.2.2))) (ao x1.getRight? λaHU=>kn (qN (eU,err,t12,t13,(bz .i64 t14 (1:Int)),aHU.2.1,aHU.2.2.1,aHU.2.2.2))))) aH) (kx (By (err,(o0L,cP,dH))).1 (By (err,(o0L,cP,dH))).2):=cd
theorem aIn(b o0baL o1 o2)(k:K1 R):Dg.A (b,o0baL,o1,o2) k=ao (Di.call (b,o0baL,o1,o2)) λx1=>ao (OZ (b,x1.1,b.2.2.1,(b.2.2.1.length:Int),0,x1.2.1,x1.2.2.1,x1.2.2.2)) λx3=>aJ x3.isLeft (ao x3.getLeft? λa4=>k (Dg.out (a4.1,a4.2.1,a4.2.2.1,a4.2.2.2))) (ao x3.getRight? λb5=>k (Dg.out (b5.1,b5.2.1,b5.2.2.1,b5.2.2.2))):=cd
theorem aqy:Yk:=by
 refine Sy (λ(_,_,l,_,i,_,_,_)=>l.length - i.toNat) ?_
 rintro⟨b,e,l,m,i,n,a,s⟩ ⟨⟨hl,hv⟩,rfl,k,hk,rfl,hg⟩;have hl:l.length<=100:=hl;have hk:k<=l.length:=hk;by_cases h:k < l.length
 ·have n1:nth dU l k=l[k]:=bY (t:=dU) h;have hd:l.drop k=l[k]::l.drop (k+1):=au h;have bbq:=hv _ (aK h);generalize l[k]=t at n1 hd bbq;by_cases h0:e=0
  ·left;have ne:¬(e≠0/\(k:Int) < (l.length:Int)):=λx=>x.1 h0
   have ne2:¬(e≠0/\((k+1:Nat):Int) < (l.length:Int)):=λx=>x.1 h0
   rcases hg.apply (t:=t) (h:=b.1) aq bbq with⟨hc,ha⟩ | ⟨_,hc,ha,aTj⟩
   ·refine⟨(b,e,l,(l.length:Int),((k+1:Nat):Int),n,a,s),⟨⟨hl,hv⟩,rfl,k+1,h,rfl,hg.mono aq⟩,by simp only[aa];omega,?_,λkn kx=> ?_⟩
    ·simp only[ky,po,if_neg ne,if_neg ne2,aa,hd,bn];rw[show F3 b.1 (n,a,s) t=(n,a,s) from if_pos hc]
    ·rw[yV,aS aq,aj,ba aq aq,aj,dN h0,al,aa,n1,ha];simp only[ag,jK,aj,ir];rw[N.jL aq]
   ·refine⟨(b,e,l,(l.length:Int),((k+1:Nat):Int),n+1,cG t b.1 a,s.take n++ [stepOf t a]),⟨⟨hl,hv⟩,rfl,k+1,h,rfl,aTj⟩,by simp only[aa];omega,?_,λkn kx=> ?_⟩
    ·simp only[ky,po,if_neg ne,if_neg ne2,aa,hd,bn];rw[show F3 b.1 (n,a,s) t=(n+1,cG t b.1 a,s.take n++ [stepOf t a]) from if_neg (λx=>x hc)]
    ·rw[yV,aS aq,aj,ba aq aq,aj,dN h0,al,aa,n1,ha];simp only[ag,db,al,cC];rw[N.jL aq]
  ·right;refine⟨Bx (e,(n,a,s)),?_,λkn kx=> ?_⟩
   ·have pe:e≠0/\(k:Int) < (l.length:Int):=⟨h0,aq⟩;simp only[ky,po,if_pos pe];rfl
   ·rw[yV,aS aq,aj,ba aq aq,aj,fH h0,aj]
 ·right;obtain rfl:k=l.length:=aq;refine⟨By (e,(n,a,s)),?_,λkn kx=> ?_⟩
  ·have ne:¬(e≠0/\(l.length:Int) < (l.length:Int)):=λx=>aq
   simp only[ky,po,if_neg ne,aa,aI,ct];rfl
  ·rw[yV,aQ aq,al]
theorem aIo:Dg.Ok:=by
 rintro⟨b,n,a,s⟩ ⟨hb,hg⟩;have hg:xV 400 n a s:=hg;rw[aIn,Hh (d:=(b,n,a,s)) ⟨hb,hg.mono eX⟩];simp only[ag,bq,Sz,bq,amf];rw[amg (d:=(b,(ju b a).2,b.2.2.1,(b.2.2.1.length:Int),0,n,a,s)) ⟨⟨hb.2.1,hb.1.1.2⟩,rfl,0,aL _,rfl,hg⟩];simp only[ag,ky,po,aT,ay];by_cases h0:(ju b a).2=0
 ·rw[if_neg (λx=>x.1 h0),if_neg (λx=>x h0)];rfl
 ·rw[if_pos h0];by_cases hl:(0:Int) < (b.2.2.1.length:Int)
  ·rw[if_pos ⟨h0,hl⟩];rfl
  ·rw[if_neg (λx=>hl x.2),bJ (by omega:b.2.2.1.length=0)];rfl
theorem ajD:Dg.RS:=rE [.d iP,.n,.d (.slice (.pair bQ ff)),.d (.slice cH)] Dg
def aqz:=Dg.eY aIo 1 ⟨.e7 aqy,trivial⟩
def aIW:(List cz)->Prop:=λl=>l.length<=1000000
def aws:(List cz)->(List cz):=λl=>l
def amx:Fs Tryz.prog aIW bq aws:=eV 122 Tryz.f122 (λsv=>([.d (.slice bQ) sv],[])) (λx=>⟨.d (.slice bQ) x,[],[]⟩) [av (.slice bQ)] [] {cg:=[5],res:=[av (.slice bQ)]}
theorem aPL(sv)(k:K1 R):amx.A sv k=aJ (decide (0 < (ae sv))) (aJ (cZ (0+(ae sv)) 40) (aJ (decide (0=0/\(0+(0+(ae sv)))<=(ae ((aM 0 (ai 0 ((ai 32 0),(0,()))))++sv)))) (k (amx.out (cut ((aM 0 (ai 0 ((ai 32 0),(0,()))))++sv) 0 (0+(ae sv))))) aH) aH) (nd (k (amx.out ([]:List cz))) (aJ (cZ (0+(ae sv)) 40) (aJ (decide (0=0/\(0+(0+(ae sv)))<=(ae ((aM 0 (ai 0 ((ai 32 0),(0,()))))++sv)))) (k (amx.out (cut ((aM 0 (ai 0 ((ai 32 0),(0,()))))++sv) 0 (0+(ae sv))))) aH) aH)):=cd
theorem aPM:amx.Ok:=by
 intro l hl;have hl:l.length<=1000000:=hl;have hr:cZ l.length 40=bm:=cM aq aq;rw[aPL];simp only[aV,hr,aj,dD,aY,az,gm,b8,ea,bq,aws];by_cases h:0 < l.length
 ·simp only[aX h,aj]
 ·have:l=[]:=bJ aq;subst this;simp only[bp,E3,bo (iI 0),al]
theorem aIX:amx.RS:=rE [.d (.slice bQ)] amx
def aPN:=amx.eY aPM
abbrev Dm:=Int×Int×Nat×(List (cz×fj))×(List cV)
def vO:Dm->AS:=λ(t7,t8,o0L,cP,dH)=>⟨([.ptr (.bP 0) 0 [] 0]++aW 6 ([.d ti t7,.d ti t8]++aW 5 [])),[dq (.pr (.c7 (.bP 1) 0) (.pr (.bU (.bP 2) 0 [] 0 0 o0L) gR)),dq (.mp bQ ff cP),dq (.vec 212 cH dH)],(ai 14 [])⟩
abbrev Yo:=Nat×(List (cz×fj))×(List cV)
def BC:Yo->Exit×AS:=λ(a,b,c)=>(.ret,⟨(aW 4 ([.d .bool aZ]++aW 9 [])),[dq (.pr (.c7 (.bP 1) 0) (.pr (.bU (.bP 2) 0 [] 0 0 a) gR)),dq (.mp bQ ff b),dq (.vec 212 cH c)],(ai 14 [])⟩)
abbrev Yp:=Nat×(List (cz×fj))×(List cV)
def BD:Yp->Exit×AS:=λ(a,b,c)=>(.exit 0,⟨(aW 14 []),[dq (.pr (.c7 (.bP 1) 0) (.pr (.bU (.bP 2) 0 [] 0 0 a) gR)),dq (.mp bQ ff b),dq (.vec 212 cH c)],(ai 14 [])⟩)
abbrev Qr:=(Yo)⊕(Yp)
abbrev acp:=((Nat×(List (cz×fj))×(List cV)))⊕((Nat×(List (cz×fj))×(List cV)))
def Ir:Qr->Out (Exit×AS):=λx=> .br x.isLeft (.get x.getLeft? λa=> .ok (BC a)) (.get x.getRight? λb=> .ok (BD b))
def pq:Dm->acp->Qr:=λ(t7,t8,o0L,cP,dH) y=>match y with | .inl y=> .inl y | .inr z=> .inr (z)
abbrev aAB:=kE×Nat×(List (cz×fj))×(List cV)
def KC:Nat->avB->Bool×avB
 | 0,S=>(bm,S)
 |k+1,S=>if S.1=0 then(aZ,S) else KC k (S.1 - 1,yh S.2.1 (nth cH S.2.2 (S.1 - 1)),S.2.2)
def aTY(n:Nat)(s:List cV):Prop:=n<=s.length/\s.length<=1000000/\∀st∈s,avO st
def BB:Dm->Prop:=λ(d,i,n,_,s)=>aTY n s/\∃m k:Nat,d=m/\i=k/\k<=m/\m<=1000
def qO:Dm->acp:=λ(d,i,n,a,s)=>if(KC (d - i).toNat (n,a,s)).1=bm then .inr (KC (d - i).toNat (n,a,s)).2 else .inl (KC (d - i).toNat (n,a,s)).2
def aC2:aAB->Prop:=λ(b,n,_,s)=>b.2.2.1.length<=1000/\aTY n s
def abw:aAB->(Bool×Nat×(List (cz×fj))×(List cV)):=λ(b,n,a,s)=>KC b.2.2.1.length (n,a,s)
def acn:=dB.e7 vO BB pq qO Ir
def O0:Dm->Option Qr:=fS acn vO
def Bj:Fs Tryz.prog aC2 bq abw:=eV 25 Tryz.f25 (λ(b,o0baL,o1,o2)=>([.ptr (.bP 0) 0 [] 0,.d iP b],[.obj 0 aZ (.pr (.c7 (.bP 1) 0) (.pr (.bU (.bP 2) 0 [] 0 0 o0baL) (.d .unit ()))),.obj 0 aZ (.mp bQ ff o1),.obj 0 aZ (.vec 212 cH o2)])) (λx=>⟨.d .bool x.1,[.obj 0 aZ (.pr (.c7 (.bP 1) 0) (.pr (.bU (.bP 2) 0 [] 0 0 x.2.1) (.d .unit ()))),.obj 0 aZ (.mp bQ ff x.2.2.1),.obj 0 aZ (.vec 212 cH x.2.2.2)],[]⟩) [aH,av iP] [aJB] {loops:=lz [(2,{bg:=[0,7,8]})],outs:=lu [(2,{},{bg:=[4]})],fa:=mc [(2,acn)]}
def aco:= @ej Tryz.prog (jr Bj.G) Bj.an 0 Tryz.f25 0 _ vO
abbrev Yn:=jj Tryz.prog (jr Bj.G) Bj.an 0 Tryz.f25 0 vO BB pq qO Ir
theorem amh:ik O0 BB pq qO:=jX (jA [.d ti,.d ti,.n,.d (.slice (.pair bQ ff)),.d (.slice cH)] λ_=>cd)
theorem SF:ma @aco vO BB pq qO Ir Yn:=mJ
theorem F5(t7 t8 o0L cP dH)(kn:K2 R)(kx:K3 R):aco (t7,t8,o0L,cP,dH) kn kx=aJ (fv t8 t7) (ao (ES.call (o0L,cP,dH)) λx1=>aJ (!x1.1) (kx (BC (x1.2.1,x1.2.2.1,x1.2.2.2)).1 (BC (x1.2.1,x1.2.2.1,x1.2.2.2)).2) (kn (vO (t7,(bz .i64 t8 (1:Int)),x1.2.1,x1.2.2.1,x1.2.2.2)))) (kx (BD (o0L,cP,dH)).1 (BD (o0L,cP,dH)).2):=cd
theorem aIs(b o0baL o1 o2)(k:K1 R):Bj.A (b,o0baL,o1,o2) k=ao (O0 ((b.2.2.1.length:Int),0,o0baL,o1,o2)) λx2=>aJ x2.isLeft (ao x2.getLeft? λa3=>k (Bj.out (aZ,a3.1,a3.2.1,a3.2.2))) (ao x2.getRight? λb4=>k (Bj.out (bm,b4.1,b4.2.1,b4.2.2))):=cd
theorem aqH:Yn:=by
 refine SF (λ(d,i,_)=>(d - i).toNat) ?_
 rintro⟨d,i,n,a,s⟩ ⟨hg,m,k,rfl,rfl,hk,hm⟩;have hg:aTY n s:=hg;have hk:k<=m:=hk;have hm:m<=1000:=hm;by_cases fF:k < m
 ·obtain⟨j,hj⟩:∃j,m=k+1+j:=⟨m - (k+1),aq⟩;have e1:((m:Int) - (k:Int)).toNat=j+1:=aq;have e2:((m:Int) - ((k+1:Nat):Int)).toNat=j:=aq;have hc:=aDO (d:=(n,a,s)) hg;by_cases h0:n=0
  ·right;refine⟨BC (n,a,s),?_,λkn kx=> ?_⟩;rotate_left
   ·rw[F5,aS aq,aj,hc];simp only[ag,bq,abB,if_pos h0,dX,aj]
   ·simp only[pq,qO,e1,KC,if_pos h0,bG,bC];rfl
  ·left;refine⟨((m:Int),((k+1:Nat):Int),n - 1,yh a (nth cH s (n - 1)),s),⟨⟨by have:=hg.1;omega,hg.2⟩,m,k+1,rfl,rfl,aq,hm⟩,by simp only[e1,e2];omega,?_,λkn kx=> ?_⟩
   ·simp only[pq,qO,e1,e2];rw[KC,if_neg h0]
   ·rw[F5,aS aq,aj,hc];simp only[ag,bq,abB,if_neg h0,bT,al];rw[N.jL aq]
 ·right;obtain rfl:k=m:=aq;refine⟨BD (n,a,s),?_,λkn kx=> ?_⟩;rotate_left
  ·rw[F5,aQ aq,al]
  ·have e1:((k:Int) - (k:Int)).toNat=0:=aq;simp only[pq,qO,e1,KC,bO];rfl
theorem aIt:Bj.Ok:=by
 rintro⟨b,n,a,s⟩ ⟨hl,hg⟩;have hl:b.2.2.1.length<=1000:=hl;have e:((b.2.2.1.length:Int) - 0).toNat=b.2.2.1.length:=aq;rw[aIs,amh (d:=((b.2.2.1.length:Int),0,n,a,s)) ⟨hg,b.2.2.1.length,0,rfl,rfl,aL _,hl⟩];simp only[ag,qO,e,abw];cases hu:KC b.2.2.1.length (n,a,s) with
 |mk r S=>
  cases r with
  |true=>rfl
  |false=>rfl
theorem ajH:Bj.RS:=rE [.d iP,.n,.d (.slice (.pair bQ ff)),.d (.slice cH)] Bj
def aqI:=Bj.eY aIt 1 ⟨.e7 aqH,trivial⟩
section
abbrev aPd:=List (dM×Int)
def yk:At->aPd->At
 |a,[]=>a
 |a,x::l=>yk (cG x.1 x.2 a) l
def JH:At->aPd->List cV
 |_,[]=> []
 |a,x::l=>stepOf x.1 a::JH (cG x.1 x.2 a) l
def KI:At->aPd->Prop
 |_,[]=>True
 |a,x::l=>(cK x.1 x.2 a).2=0/\th x.1/\KI (cG x.1 x.2 a) l
theorem ab3:∀(l l':aPd) (a:At),yk a (l++l')=yk (yk a l) l'
 |[],_,_=>rfl
 |x::l,l',a=>ab3 l l' (cG x.1 x.2 a)
theorem agT:∀(l l':aPd) (a:At),JH a (l++l')=JH a l++JH (yk a l) l'
 |[],_,_=>rfl
 |x::l,l',a=>by show stepOf x.1 a::JH (cG x.1 x.2 a) (l++l')=_;rw[agT l l'];rfl
theorem acC:∀(l l':aPd) (a:At),KI a (l++l')↔KI a l/\KI (yk a l) l'
 |[],_,_=>⟨λh=>⟨trivial,h⟩,λh=>h.2⟩
 |x::l,l',a=>by have ih:=acC l l' (cG x.1 x.2 a);exact⟨λh=>⟨⟨h.1,h.2.1,(ih.1 h.2.2).1⟩,(ih.1 h.2.2).2⟩,λh=>⟨h.1.1,h.1.2.1,ih.2 ⟨h.1.2.2,h.2⟩⟩⟩
theorem acD:∀(l:aPd) {n:Nat} {a:At} {s:List cV},s.length=n->xV n n a s->KI a l->xV (n+l.length) (n+l.length) (yk a l) (s++JH a l)
 |[],n,a,s,_,hg,_=>by show xV n n a (s++ []);rw[bK];exact hg
 |x::l,n,a,s,hs,hg,hc=>by have h1:=hg.app (y3 hc.1) hc.2.1;rw[bu aq]at h1;have:=acD l (s:=s++ [stepOf x.1 a]) (by rw[ak,hs];rfl) h1 hc.2.2;rw[aO,show n+1+l.length=n+(l.length+1) by omega]at this;exact this
theorem Sq:∀(l:aPd) {a:At},(eH a).Nodup->(eH (yk a l)).Nodup
 |[],_,h=>h
 |_::l,_,h=>Sq l (gZ h)
theorem aHk{s q:List cV}{st:cV}{n:Nat}(hn:n<=s.length)(h:s.take n=q++ [st]):n=q.length+1/\nth cH s (n - 1)=st/\s.take (n - 1)=q:=by
 have hl:n=q.length+1:=by have:=bW ae h;rw[bV,ak]at this;simp only[aF,bp]at this;omega
 subst hl;have h1:q.length < s.length:=aq;have e:s.take (q.length+1)=s.take q.length++ [s[q.length]]:=by rw[List.take_add_one,cn h1];rfl
 rw[e]at h;obtain⟨h2,h3⟩:=List.append_inj' h rfl;refine⟨rfl,?_,h2⟩;rw[pd,bY (t:=cH) h1];exact(List.cons.inj h3).1
theorem ahy:∀(k:Nat) (l:aPd) {a0 a:At} {n:Nat} {s p:List cV},l.length=k->KI a0 l->(eH a0).Nodup->(eH a).Nodup->uY a (yk a0 l)->n<=s.length->s.take n=p++JH a0 l->
  ∃a',KC k (n,a,s)=(bm,n - k,a',s)/\uY a' a0/\(eH a').Nodup/\s.take (n - k)=p/\k<=n
 | 0,l,a0,a,n,s,p,hl,_,_,ha,he,_,hs=>by obtain rfl:=bJ hl;exact⟨a,rfl,he,ha,by rw[show JH a0 []=[] from rfl,bK]at hs;exact hs,aL _⟩
 |k+1,l,a0,a,n,s,p,hl,hc,h0,ha,he,hn,hs=>by
  have jk:l≠ []:=λe=>by rw[e]at hl;cases hl
  have el:=List.dropLast_concat_getLast jk;generalize l.getLast jk=x at el;generalize hl':l.dropLast=l' at el;have hk:l'.length=k:=by rw[<-hl',List.length_dropLast];omega
  subst el;obtain⟨c1,c2⟩:=(acC l' [x] a0).1 hc;rw[agT,<-aO]at hs;obtain⟨e1,e2,e3⟩:=aHk hn hs;rw[ab3]at he;have hn':=Sq l' h0;have e4:uY (yh a (stepOf x.1 (yk a0 l'))) (yk a0 l'):=(he.aSK ha (gZ hn') _).trans (ahz (y3 c2.1) hn');obtain⟨a',f1,f2,f3,f4,f5⟩:=ahy k l' (a:=yh a (stepOf x.1 (yk a0 l'))) (n:=n - 1) (s:=s) (p:=p) hk c1 h0 (F0 ha _) e4 aq e3;refine⟨a',?_,f2,f3,by rw[show n - (k+1)=n - 1 - k by omega];exact f4,aq⟩;have aUR:¬n=0:=aq;rw[KC,if_neg (show ¬(n,a,s).1=0 from aUR)];show KC k (n - 1,yh a (nth cH s (n - 1)),s)=_;rw[e2,f1,show n - 1 - k=n - (k+1) by omega]
theorem Hn{a:At}(ha:(eH a).Nodup):uY (fC a) a/\(eH (fC a)).Nodup:=by have hp:=Ae a;exact⟨arI ha hp,(hp.map _).nodup_iff.2 ha⟩
section
variable {A0:At} {m nb n:Nat} {a:At} {s:List cV} {bs:List kE}
end
end
abbrev ag1:Ty:=(.pair dU (.pair tH (.pair ti (.pair ti .unit))))
abbrev Db:=(dM×(Bs×(Int×(Int×Unit))))
abbrev dF:Ty:=(.iv ag1)
abbrev eO:=(Option (Nat×Db))
abbrev Mk:=List (eO×Bool)
abbrev aOU:=List (Bs×eO)
def js(m:Mk)(x:eO):Bool:=(cw dF x m).getD aZ
def abp(q:aOU)(i:ji):eO:=(cw tH i.1.1 q).getD aH
def j6(q:aOU):Nat->dM->Mk->Option Mk
 | 0,_,_=>aH
 |n+1,t,m=>match t.1 with
  |[]=>av m
  |[i]=>match abp q i with
   |none=>av m
   |some x=>if js m (av x)=bm then av m else if i.1.2.1 < 0 then av m else if(x.2.1.2.1.length:Int)<=i.1.2.1 then av m else j6 q n x.2.1 (fp dF (av x) bm m)
  |_=>aH
theorem asC{q:aOU}:∀ {n:Nat} {t:dM} {m r:Mk},j6 q n t m=av r->j6 q (n+1) t m=av r
 | 0,_,_,_,h=>by cases h
 |n+1,t,m,r,h=>by
  obtain⟨ins,o⟩:=t
  match ins,h with
  |[],h=>exact h
  |[i],h=>
   have h:(match abp q i with | none=>av m | some x=>if js m (av x)=bm then av m else if i.1.2.1 < 0 then av m else if(x.2.1.2.1.length:Int)<=i.1.2.1 then av m else j6 q n x.2.1 (fp dF (av x) bm m))=av r:=h;show(match abp q i with | none=>av m | some x=>if js m (av x)=bm then av m else if i.1.2.1 < 0 then av m else if(x.2.1.2.1.length:Int)<=i.1.2.1 then av m else j6 q (n+1) x.2.1 (fp dF (av x) bm m))=av r;cases hu:abp q i with
   |none=>rw[hu]at h;exact h
   |some x=>
    rw[hu]at h;simp only at h ⊢;by_cases h1:js m (av x)=bm
    ·rw[if_pos h1]at h ⊢;exact h
    rw[if_neg h1]at h ⊢;by_cases h2:i.1.2.1 < 0
    ·rw[if_pos h2]at h ⊢;exact h
    rw[if_neg h2]at h ⊢;by_cases h3:(x.2.1.2.1.length:Int)<=i.1.2.1
    ·rw[if_pos h3]at h ⊢;exact h
    rw[if_neg h3]at h ⊢;exact asC h
  |_::_::_,h=>cases h
theorem asB{q:aOU}{t:dM}{m r:Mk}{n k:Nat}(hk:n<=k)(h:j6 q n t m=av r):j6 q k t m=av r:=by
 induction hk with
 |refl=>exact h
 |step _ ih=>exact asC ih
abbrev Cz:=dM×(List (Bs×eO))×(List (eO×Bool))
def xm:Cz->SA:=λ(t,o1,o3)=>([.d dU t,.ptr (.bP 0) 0 [] 0,.ptr (.bP 2) 0 [] 0,.ptr (.bP 4) 0 [] 0],[dq (.c7 (.bP 1) 0),dq (.mp tH dF o1),dq (.c7 (.bP 3) 0),dq (.mp dF .bool o3),dq (.fn 183 (.cons (.ptr (.bP 0) 0 [] 0) (.cons (.ptr (.bP 2) 0 [] 0) (.cons (.ptr (.bP 4) 0 [] 0) (.nil)))))])
abbrev aBU:=(List (Bs×eO))×(List (eO×Bool))
abbrev abS:=(List (Bs×eO))×(List (eO×Bool))
def wh:abS->jf:=λx=>⟨.nil,[dq (.c7 (.bP 1) 0),dq (.mp tH dF x.1),dq (.c7 (.bP 3) 0),dq (.mp dF .bool x.2),dq (.fn 183 (.cons (.ptr (.bP 0) 0 [] 0) (.cons (.ptr (.bP 2) 0 [] 0) (.cons (.ptr (.bP 4) 0 [] 0) (.nil)))))],[]⟩
def HJ:Cz->aBU->abS:=λ(t,o1,o3) y=>y
def Ot:Nat->Cz->Prop
 | 0=>λ_=>False
 |dep+1=>λ(t,q,m)=>dep < 9/\(j6 q (dep+1) t m).isSome=bm
def Jd:Cz->aBU:=λ(t,q,m)=>(q,(j6 q 10 t m).getD m)
theorem akO:∀d d',xm d=xm d'->d=d':=adv [.d dU,.d (.slice (.pair tH dF)),.d (.slice (.pair dF .bool))] λ_=>cd
def Uw(dep:Nat):Entry:=Entry.of [av dU,aH,aH,aH] xm (Ot dep) (λd=>HJ d (Jd d)) wh
def ZK(dep:Nat):Cz->Option abS:=λd=>(Uw dep).run (xm d).1 (xm d).2
theorem ax4{dep:Nat}{d:Cz}(h:Ot dep d):ZK dep d=av (HJ d (Jd d)):=Entry.vu akO h
def aBT(dep:Nat):tg:=aj7 183 nV (Uw dep) (jr (P:=Tryz.prog) [])
def aeW:Da:= {loops:=lz [(2,{bg:=[1,2,3,9,10,11],sites:=[6,52]})],outs:=lu [(2,{sites:=[6,52]},{sites:=[6,52]})]}
def aBR(dep:Nat):= @Si Tryz.prog (aBT dep) aeW 3 Tryz.f183 _ xm
theorem aMm(dep t o1 o3)(k:K1 R):aBR dep (t,o1,o3) k=aJ (fv (0:Int) (((ae t.1):Nat):Int)) (aJ (eA (0:Int) (((ae t.1):Nat):Int)) (aJ (Option.isNone ((cw tH (nth fo t.1 0).1.1 o1).getD aH)) (aJ (fv (1:Int) (((ae t.1):Nat):Int)) (aJ (eA (1:Int) (((ae t.1):Nat):Int)) (aH) aH) (k (wh (o1,o3)))) (aJ ((cw dF ((cw tH (nth fo t.1 0).1.1 o1).getD aH) o3).getD aZ) (aJ (fv (1:Int) (((ae t.1):Nat):Int)) (aJ (eA (1:Int) (((ae t.1):Nat):Int)) (aH) aH) (k (wh (o1,o3)))) (aJ (fv (nth fo t.1 0).1.2.1 (0:Int)) (aJ (fv (1:Int) (((ae t.1):Nat):Int)) (aJ (eA (1:Int) (((ae t.1):Nat):Int)) (aH) aH) (k (wh (o1,o3)))) (ao (((cw tH (nth fo t.1 0).1.1 o1).getD aH)) λx1=>aJ (AM (nth fo t.1 0).1.2.1 (((ae x1.2.1.2.1):Nat):Int)) (aJ (fv (1:Int) (((ae t.1):Nat):Int)) (aJ (eA (1:Int) (((ae t.1):Nat):Int)) (aH) aH) (k (wh (o1,o3)))) (ao (((cw tH (nth fo t.1 0).1.1 o1).getD aH)) λx2=>ao (ZK dep (x2.2.1,o1,(fp dF ((cw tH (nth fo t.1 0).1.1 o1).getD aH) bm o3))) λx3=>aJ (fv (1:Int) (((ae t.1):Nat):Int)) (aJ (eA (1:Int) (((ae t.1):Nat):Int)) (aH) aH) (k (wh (x3.1,x3.2)))))))) aH) (k (wh (o1,o3))):=cd
theorem aMn:∀(dep:Nat) (d:Cz),Ot (dep+1) d->aBR dep d av=av (wh (HJ d (Jd d))):=by
 rintro dep ⟨⟨ins,o⟩,q,m⟩ ⟨hd,hs⟩;have hd:dep < 9:=hd;obtain⟨r,hr⟩:∃r,j6 q (dep+1) (ins,o) m=av r:=bZ.1 hs;have hF:Jd ((ins,o),q,m)=(q,r):=by simp only[Jd];rw[asB aq hr];rfl
 rw[aMm,hF]
 match ins,hr with
 |[],hr=>
  have hr:av m=av r:=hr;obtain rfl:=bf hr;rfl
 |[i],hr=>
  have a0:fv (0:Int) (((ae [i]):Nat):Int)=bm:=rfl;have a1:eA (0:Int) (((ae [i]):Nat):Int)=bm:=rfl;have a2:fv (1:Int) (((ae [i]):Nat):Int)=aZ:=rfl;have a3:nth fo [i] 0=i:=rfl;have a4:(cw tH i.1.1 q).getD aH=abp q i:=rfl;simp only[a0,a1,a2,a3,a4,aj,al];have hr:(match abp q i with | none=>av m | some x=>if js m (av x)=bm then av m else if i.1.2.1 < 0 then av m else if(x.2.1.2.1.length:Int)<=i.1.2.1 then av m else j6 q dep x.2.1 (fp dF (av x) bm m))=av r:=hr;cases hu:abp q i with
  |none=>
   rw[hu]at hr;obtain rfl:=bf hr;rfl
  |some x=>
   rw[hu]at hr;simp only at hr;have a5:(cw dF (av x) m).getD aZ=js m (av x):=rfl;simp only[Option.isNone_some,al,a5,ag];cases h1:js m (av x) with
   |true=>
    rw[if_pos h1]at hr;obtain rfl:=bf hr;rfl
   |false=>
    rw[if_neg (by rw[h1];decide)]at hr;rw[al];by_cases h2:i.1.2.1 < 0
    ·rw[if_pos h2]at hr;obtain rfl:=bf hr;rw[aS h2];rfl
    ·rw[if_neg h2]at hr;rw[aQ h2,al];by_cases h3:(x.2.1.2.1.length:Int)<=i.1.2.1
     ·rw[if_pos h3]at hr;obtain rfl:=bf hr;rw[fG h3];rfl
     ·rw[if_neg h3]at hr;rw[eg h3,al];cases dep with
      |zero=>cases hr
      |succ dep=>
       rw[ax4 (dep:=dep+1) (d:=(x.2.1,q,fp dF (av x) bm m)) ⟨aq,by rw[hr];rfl⟩];simp only[ag,HJ,Jd];rw[asB aq hr];rfl
 |_::_::_,hr=>cases hr
def aBS:Entry:=Uw 3
def aeX:Cz->Option abS:=K6 aBS xm
theorem aFD{d:Cz}(h:Ot 3 d):aeX d=av (HJ d (Jd d)):=show(Uw 3).run (xm d).1 (xm d).2=_ from Entry.vu akO h
theorem ZL:∀dep,tD Tryz.prog 183 (Uw dep)
 | 0=>tD.of (an:=aeW) (N:=0) (fn:=Tryz.f183) cd (show Sound _ aKd from Sound.nil _) cd cd cd (jx.fn 1 cd (And.intro (.none cd) trivial)) (λ_ h=>False.elim h)
 |dep+1=>tD.of (an:=aeW) (N:=3) (fn:=Tryz.f183) cd (show Sound _ (aBT dep) from Sound.cons (OW.of (ZL dep) (by rfl)) (Sound.jr (P:=Tryz.prog) [])) cd cd cd (jx.fn 1 cd (And.intro (.none cd) trivial)) (aMn dep)
def aMo:SG Tryz.prog:=⟨183,nV,aBS,.of (ZL 3) (by rfl)⟩
abbrev LV:=dM×(List eO)×Int×Int×(List (Bs×eO))
abbrev Zr:=(List (Bs×eO))
def zf:LV->Zr->((dM)×((List (Bs×eO)))):=λ(fP,t11,t12,t13,n10) y=>(fP,y)
abbrev as2:=(List eO)×dM
def aCF(row:List eO):Prop:=∀x∈row,x.isSome=bm
def aH3(m:aOU)(x:eO):aOU:=match x with | none=>m | some w=>fp tH w.2.2.1 (av w) m
def CJ(row:List eO):aOU:=row.foldl aH3 []
def oc(row:List eO)(t:dM):Mk:=(j6 (CJ row) 10 t []).getD []
def aTQ(row:List eO)(t:dM):Prop:=aCF row/\row.length<=1000/\(j6 (CJ row) 3 t []).isSome=bm
def axO:as2->Prop:=λ(row,t)=>aTQ row t
def LU:as2->((List (eO×Bool))):=λ(row,t)=>oc row t
def aie:LV->Prop:=λ(t,l,n,i,m)=>(l).length<=1000000000/\∃k:Nat,k<=(l).length/\i=k/\n=(l).length/\(∀x∈l,x.isSome=bm)
def E5:LV->Zr:=λ(t,l,n,i,m)=>(bD (ab i) l).foldl aH3 m
def sG:Ls aie zf E5:=pD (λ(fP,t11,t12,t13,n10)=>⟨([bE,bE,bE,.dz dU fP,bE,eP 5]++aW 5 ([.d (.slice dF) t11,.d ti t12,.d ti t13]++aW 16 [])),[],(bw 5 ([dm (.c7 (.new 10 0) 0)]++bw 4 ([dm (.mp tH dF n10)]++bw 19 [])))⟩) (λx=>(.exit 0,⟨([bE,bE,bE,.dz dU x.1,bE,eP 5]++aW 24 []),[],(bw 5 ([dm (.c7 (.new 10 0) 0)]++bw 4 ([dm (.mp tH dF x.2)]++bw 19 [])))⟩))
def xh:Fs Tryz.prog axO bq LU:=eV 114 Tryz.f114 (λ(row,t)=>([.d (.slice dF) row,.d dU t],[])) (λx=>⟨.c7 (.new 0 0) 0,[],[.obj 0 aZ (.mp dF .bool x)]⟩) [av (.slice dF),av dU] [aMo] {loops:=lz [(3,{bg:=[3,5,11,12,13],sites:=[5,10]})],outs:=lu [(3,{bg:=[3,5],sites:=[5,10]},{bg:=[4]})],fa:=mc [(3,sG.E)]}
theorem aif:sG.RS:=rL [.d dU,.d (.slice dF),.d ti,.d ti,.d (.slice (.pair tH dF))] sG
theorem LW(fP t11 t12 t13 n10)(kn:K2 R)(kx:K3 R):xh.R 0 sG (fP,t11,t12,t13,n10) kn kx=aJ (fv t13 t12) (aJ (eA t13 (t11.length:Int)) (ao ((nth dF t11 (ab t13))) λx1=>kn (sG.st (fP,t11,t12,(bz .i64 t13 1),(fp tH x1.2.2.1 (nth dF t11 (ab t13)) n10)))) aH) (sG.go kx (fP,n10)):=cd
theorem aFe(row t)(k:K1 R):xh.A (row,t) k=ao (sG.call (t,row,(row.length:Int),0,([]:List (Bs×eO)))) λx2=>ao (aeX (x2.1,x2.2,([]:List (eO×Bool)))) λx3=>k (xh.out x3.2):=cd
theorem an3:(xh.jx 0 sG):=by
 refine(xh.mf 0 sG) (λ(t,l,n,i,m)=>(l).length - ab i) ?_
 rintro⟨t,l,n,i,m⟩ ⟨hlen,k,hk,rfl,rfl,hs⟩;have hlen:(l).length<=1000000000:=hlen;have hk:k<=(l).length:=hk;have hs:∀x∈l,x.isSome=bm:=hs;by_cases h:k < (l).length
 ·left;have n1:nth dF l k=l[k]:=bY (t:=dF) h;have hd:bD k l=l[k]::bD (k+1) l:=au h;refine⟨(t,l,((l).length:Int),((k+1:Nat):Int),(aH3 m l[k])),⟨hlen,k+1,aq,rfl,rfl,hs⟩,by simp only[aa];omega,?_,λkn kx=> ?_⟩
  ·simp only[zf,E5,aa,hd,bn]
  ·rw[LW,aS aq,ba aq aq,aa,n1];simp only[aj];obtain⟨w,hw⟩:=bZ.1 (hs _ (aK h));simp only[hw,ag,aH3];rw[N.jL aq]
 ·right;obtain rfl:k=(l).length:=aq;intro R kn kx;rw[LW,aQ aq,al];simp only[zf,E5,aa,aI,ct]
theorem aFf:xh.Ok:=by rintro⟨row,t⟩ ⟨hs,hl,hm⟩;have hl:row.length<=1000:=hl;rw[aFe,aif (d:=(t,row,(row.length:Int),0,[])) ⟨by show row.length<=_;omega,0,aL _,rfl,rfl,hs⟩];simp only[ag,zf,E5,aT,ay];rw[show List.foldl aH3 [] row=CJ row from rfl,aFD (d:=(t,CJ row,[])) ⟨eX,hm⟩];rfl
theorem I8:xh.RS:=rE [.d (.slice dF),.d dU] xh
def HE:=xh.eY aFf 1 ⟨.e7 an3,trivial⟩
abbrev Cp:=(List eO)×dM
def xj:Cp->SA:=λ(row,t)=>([.d (.slice dF) row,.d dU t],[])
def HG:Int->jf:=λx=>⟨.d ti x,[],[]⟩
def C5:Cp->Int->Int:=λ(row,t) y=>y
def wV(row:List eO):Nat->dM->Option Int
 | 0,_=>aH
 |n+1,t=>if(j6 (CJ row) 3 t []).isSome=bm then(match oc row t with
  |[]=>av 1
  |[p]=>match p.1 with
   |none=>aH
   |some x=>match wV row n x.2.1 with
    |none=>aH
    |some d=>av (bz .i64 (imax 0 d) 1)
  |_=>aH) else aH
theorem arz{row:List eO}:∀ {n:Nat} {t:dM} {d:Int},wV row n t=av d->wV row (n+1) t=av d
 | 0,_,_,h=>by cases h
 |n+1,t,d,h=>by
  unfold wV at h ⊢;by_cases hm:(j6 (CJ row) 3 t []).isSome=bm
  case neg=>rw[if_neg hm]at h;cases h
  rw[if_pos hm]at h ⊢
  match oc row t,h with
  |[],h=>exact h
  |[(aH,b)],h=>cases h
  |[(av x,b)],h=>
   simp only at h ⊢;cases hd:wV row n x.2.1 with
   |none=>rw[hd]at h;cases h
   |some e=>rw[hd]at h;rw[arz hd];exact h
  |_::_::_,h=>cases h
theorem ac0{row:List eO}{t:dM}{d:Int}{n k:Nat}(hk:n<=k)(h:wV row n t=av d):wV row k t=av d:=by
 induction hk with
 |refl=>exact h
 |step _ ih=>exact arz ih
def Oo:Nat->Cp->Prop
 | 0=>λ_=>False
 |dep+1=>λ(row,t)=>(aCF row/\row.length<=1000/\dep < 9)/\(wV row (dep+1) t).isSome=bm
def E6:Cp->Int:=λ(row,t)=>(wV row 10 t).getD 0
theorem akK:∀d d',xj d=xj d'->d=d':=adv [.d (.slice dF),.d dU] λ_=>cd
def Uj(dep:Nat):Entry:=Entry.of [av (.slice dF),av dU] xj (Oo dep) (λd=>C5 d (E6 d)) HG
def E7(dep:Nat):Cp->Option Int:=λd=>(Uj dep).run (xj d).1 (xj d).2
theorem axU{dep:Nat}{d:Cp}(h:Oo dep d):E7 dep d=av (C5 d (E6 d)):=Entry.vu akK h
def aBI(dep:Nat):tg:=aj7 115 nV (Uj dep) (jr (P:=Tryz.prog) [HE])
def aeE:Da:= {loops:=lz [(3,{bg:=[0,5,10],sites:=[9,10,21]})],outs:=lu [(3,{bg:=[5],sites:=[9,10,21]},{bg:=[4],sites:=[9,10,21]})]}
def aBG(dep:Nat):= @Si Tryz.prog (aBI dep) aeE 3 Tryz.f115 _ xj
theorem aL2(dep row t)(k:K1 R):aBG dep (row,t) k=ao (xh.call (row,t)) λx1=>aJ (decide (0 < (ae x1))) (ap3 (ae x1) λj2=>ao ((sE dF .bool x1 j2).1) λx3=>ao (E7 dep (row,x3.2.1)) λx4=>aJ (decide (0 < (ae (List.eraseIdx x1 j2)))) (ap3 (ae (List.eraseIdx x1 j2)) λj5=>ao ((sE dF .bool (List.eraseIdx x1 j2) j5).1) λx6=>ao (E7 dep (row,x6.2.1)) λx7=>aJ (decide (0 < (ae (List.eraseIdx (List.eraseIdx x1 j2) j5)))) (ap3 (ae (List.eraseIdx (List.eraseIdx x1 j2) j5)) λj8=>ao ((sE dF .bool (List.eraseIdx (List.eraseIdx x1 j2) j5) j8).1) λx9=>ao (E7 dep (row,x9.2.1)) λal6=>aH) (k (HG (bz .i64 (imax (imax (0:Int) x4) x7) (1:Int))))) (k (HG (bz .i64 (imax (0:Int) x4) (1:Int))))) (k (HG (1:Int))):=cd
theorem aL3:∀(dep:Nat) (d:Cp),Oo (dep+1) d->aBG dep d av=av (HG (C5 d (E6 d))):=by
 rintro dep ⟨row,t⟩ ⟨⟨h1,h2,hd⟩,hs⟩;have hd:dep < 9:=hd;obtain⟨r,hr⟩:∃r,wV row (dep+1) t=av r:=bZ.1 hs;have hF:E6 (row,t)=r:=by simp only[E6];rw[ac0 aq hr];rfl
 unfold wV at hr;by_cases hm:(j6 (CJ row) 3 t []).isSome=bm
 case neg=>rw[if_neg hm]at hr;cases hr
 rw[if_pos hm]at hr;rw[aL2,hF,I8 (d:=(row,t)) ⟨h1,h2,hm⟩];simp only[ag,bq,LU]
 match oc row t,hr with
 |[],hr=>
  obtain rfl:=bf hr;rfl
 |[(aH,b)],hr=>cases hr
 |[(av x,b)],hr=>
  simp only at hr;cases aOZ:wV row dep x.2.1 with
  |none=>rw[aOZ]at hr;cases hr
  |some e=>
   rw[aOZ]at hr;obtain rfl:=bf hr;cases dep with
   |zero=>cases aOZ
   |succ dep=>
    have hc:=axU (dep:=dep+1) (d:=(row,x.2.1)) ⟨⟨h1,h2,aq⟩,by rw[aOZ];rfl⟩;simp only[C5,E6,ac0 (show dep+1<=10 by omega) aOZ,ed]at hc;rw[aX (show 0 < [((av x:eO),b)].length from Nat.one_pos),aj];refine awD Nat.one_pos λj hj=> ?_
    obtain rfl:j=0:=by have hj:j < 1:=hj;omega
    show ao (av x) _=_;rw[ag,hc,ag];rfl
 |_::_::_,hr=>cases hr
def aBH:Entry:=Uj 3
def aeF:Cp->Option Int:=K6 aBH xj
theorem aFp{d:Cp}(h:Oo 3 d):aeF d=av (C5 d (E6 d)):=show(Uj 3).run (xj d).1 (xj d).2=_ from Entry.vu akK h
theorem Zu:∀dep,tD Tryz.prog 115 (Uj dep)
 | 0=>tD.of (an:=aeE) (N:=0) (fn:=Tryz.f115) cd (show Sound _ aKd from Sound.nil _) cd cd cd (jx.fn 1 cd (And.intro (.none cd) trivial)) (λ_ h=>False.elim h)
 |dep+1=>tD.of (an:=aeE) (N:=3) (fn:=Tryz.f115) cd (show Sound _ (aBI dep) from Sound.cons (OW.of (Zu dep) (by rfl)) (Sound.jr (P:=Tryz.prog) [HE])) cd cd cd (jx.fn 1 cd (And.intro (.none cd) trivial)) (aL3 dep)
def aL4:SG Tryz.prog:=⟨115,nV,aBH,.of (Zu 3) (by rfl)⟩
def aHa(l:List cz)(x:ji):Bool:=l.any (aaT x.1)
def j9(t:dM)(l:List cz):Bool:=t.1.any (aHa l)
abbrev aBZ:=ji×(List cz)
def aFM:aBZ->Prop:=λ(_,l)=>l.length<=1000000
def aRG:aBZ->Bool:=λ(x,l)=>aHa l x
def ae7:Fs Tryz.prog aFM bq aRG:=eV 182 Tryz.f182 (λ(i,t1)=>([.d fo i,.dz (.slice bQ) t1],[])) (λx=>⟨.d .bool x,[],[]⟩) [av fo,aH] [asX]
theorem aMB(i t1)(k:K1 R):ae7.A (i,t1) k=ao (Zp.call (t1,i.1)) λx1=>k (ae7.out x1):=cd
theorem aMC:ae7.Ok:=by rintro⟨x,l⟩ hl;have hl:l.length<=1000000:=hl;rw[aMB,akF (d:=(l,x.1)) (by show l.length<=_;omega)];rfl
theorem aFN:ae7.RS:=rE [.d fo,.d (.slice bQ)] ae7
def aMD:=ae7.eY aMC
abbrev Ao:=(List ji)×(List cz)×Int×Int
def pE:Ao->AS:=λ(ko,f,t7,t8)=>⟨([.d (.slice fo) ko,.fn 182 (.cons (.dz (.slice bQ) f) (.nil))]++aW 5 ([.d ti t7,.d ti t8]++aW 10 [])),[],(ai 19 [])⟩
def qg:Int->Exit×AS:=λx=>(.ret,⟨(aW 4 ([.d ti x]++aW 14 [])),[],(ai 19 [])⟩)
def zk:Unit->Exit×AS:=λx=>(.exit 0,⟨(aW 19 []),[],(ai 19 [])⟩)
abbrev L8:=(Int)⊕(Unit)
abbrev ZD:=(Int)⊕(Unit)
def Gs:L8->Out (Exit×AS):=λx=> .br x.isLeft (.get x.getLeft? λa=> .ok (qg a)) (.get x.getRight? λb=> .ok (zk b))
def kK:Ao->ZD->L8:=λ(ko,f,t7,t8) y=>match y with | .inl y=> .inl y | .inr z=> .inr (z)
abbrev ate:=(List ji)×(List cz)
def zj:Ao->Prop:=λ(l,v,n,i)=>l.length<=1000000000/\(v.length<=1000000)/\n=l.length/\∃k:Nat,k<=l.length/\i=k
def oQ:Ao->ZD:=λ(l,v,n,i)=>Gh (aHa v) (l.drop i.toNat) i
def ax1:ate->Prop:=λ(l,v)=>l.length<=1000000000/\(v.length<=1000000)
def aeN:ate->Int:=λ(l,v)=>ahX (aHa v) l
def ZC:=dB.e7 pE zj kK oQ Gs
def L9:Ao->Option L8:=fS ZC pE
def A1:Fs Tryz.prog ax1 bq aeN:=eV 199 Tryz.f199 (λ(sv,fc)=>([.d (.slice fo) sv,.fn 182 (.cons (.dz (.slice bQ) fc) (.nil))],[])) (λx=>⟨.d ti x,[],[]⟩) [av (.slice fo),aH] [aMD] {loops:=lz [(2,{bg:=[0,1,7,8]})],outs:=lu [(2,{},{bg:=[4]})],fa:=mc [(2,ZC)]}
def L7:= @ej Tryz.prog (jr A1.G) A1.an 0 Tryz.f199 0 _ pE
abbrev Up:=jj Tryz.prog (jr A1.G) A1.an 0 Tryz.f199 0 pE zj kK oQ Gs
theorem aim:ik L9 zj kK oQ:=jX (jA [.d (.slice fo),.d (.slice bQ),.d ti,.d ti] λ_=>cd)
theorem Rw:ma @L7 pE zj kK oQ Gs Up:=mJ
theorem Ma(ko f t7 t8)(kn:K2 R)(kx:K3 R):L7 (ko,f,t7,t8) kn kx=aJ (fv t8 t7) (aJ (eA t8 (((ae ko):Nat):Int)) (ao (ae7.call ((nth fo ko (ab t8)),f)) λx1=>aJ (x1) (kx (qg t8).1 (qg t8).2) (kn (pE (ko,f,t7,(bz .i64 t8 (1:Int)))))) aH) (kx (zk ()).1 (zk ()).2):=cd
theorem aFy(sv fc)(k:K1 R):A1.A (sv,fc) k=ao (L9 (sv,fc,(sv.length:Int),0)) λx2=>aJ x2.isLeft (ao x2.getLeft? λa3=>k (A1.out a3)) (ao x2.getRight? λb4=>k (A1.out (-1))):=cd
theorem aoe:Up:=by
 refine Rw (λ(l,v,n,i)=>l.length - i.toNat) ?_
 rintro⟨l,v,n,i⟩ ⟨hb,hv,rfl,k,hk,rfl⟩;have hb:l.length<=1000000000:=hb;have hk:k<=l.length:=hk;by_cases h:k < l.length
 ·have n1:nth fo l k=l[k]:=bY (t:=fo) h;have hd:Gh (aHa v) (l.drop k) k=if aHa v l[k] then .inl (k:Int) else Gh (aHa v) (l.drop (k+1)) ((k+1:Nat):Int):=by rw[au h];rfl
  have step:∀ {R:Type} (kn:AS->Option R) (kx:Exit->AS->Option R),L7 (l,v,(l.length:Int),(k:Int)) kn kx=aJ (aHa v l[k]) (kx (qg (k:Int)).1 (qg (k:Int)).2) (kn (pE (l,v,(l.length:Int),((k+1:Nat):Int)))):=by intro R kn kx;rw[Ma,aS aq,ba aq aq,aa,n1,aFN (d:=(l[k],v)) hv,N.jL aq];rfl
  cases hp:aHa v l[k]
  ·left;refine⟨(l,v,l.length,((k+1:Nat):Int)),⟨hb,hv,rfl,k+1,aq,rfl⟩,by simp only[aa];omega,?_,λkn kx=> ?_⟩
   ·simp only[kK,oQ,aa,hd,hp,bG,bC]
   ·rw[step,hp,al]
  ·right;refine⟨qg (k:Int),?_,λkn kx=> ?_⟩
   ·simp only[kK,oQ,aa,hd,hp,bO];rfl
   ·rw[step,hp,aj]
 ·right;obtain rfl:k=l.length:=aq;refine⟨zk (),?_,λkn kx=> ?_⟩
  ·simp only[kK,oQ,aa,aI];rfl
  ·rw[Ma,aQ aq,al]
theorem aFz:A1.Ok:=by rintro⟨l,v⟩ ⟨hb,hv⟩;rw[aFy,aim (d:=(l,v,l.length,0)) ⟨hb,hv,rfl,0,aq,rfl⟩];simp only[ag,kK,oQ,aT,ay,bq,aeN,ahX];cases Gh (aHa v) l 0 <;> rfl
theorem ax2:A1.RS:=rE [.d (.slice fo),.d (.slice bQ)] A1
def aFA:=A1.eY aFz 1 ⟨.e7 aoe,trivial⟩
abbrev atd:=(List ji)×(List cz)
def axX:atd->Prop:=λ(l,v)=>l.length<=1000000000/\v.length<=1000000
def aMe:atd->Bool:=λ(l,v)=>l.any (aHa v)
def Ru:Fs Tryz.prog axX bq aMe:=eV 140 Tryz.f140 (λ(sv,fc)=>([.d (.slice fo) sv,.fn 182 (.cons (.dz (.slice bQ) fc) (.nil))],[])) (λx=>⟨.d .bool x,[],[]⟩) [av (.slice fo),aH] [aFA]
theorem aFs(sv fc)(k:K1 R):Ru.A (sv,fc) k=ao (A1.call (sv,fc)) λx1=>k (Ru.out (AM x1 0)):=cd
theorem aFt:Ru.Ok:=by rintro⟨l,v⟩ ⟨hb,hv⟩;rw[aFs,ax2 (d:=(l,v)) ⟨hb,hv⟩];simp only[ag,bq,aeN,TM];rfl
theorem axY:Ru.RS:=rE [.d (.slice fo),.d (.slice bQ)] Ru
def aFu:=Ru.eY aFt
abbrev akR:=dM×(List cz)
def ats:akR->Prop:=λ(t,l)=>t.1.length<=1000000000/\l.length<=1000000
def akS:akR->Bool:=λ(t,l)=>j9 t l
def zm:Fs Tryz.prog ats bq akS:=eV 112 Tryz.f112 (λ(t,l)=>([.d dU t,.d (.slice bQ) l],[])) (λx=>⟨.d .bool x,[],[]⟩) [av dU,av (.slice bQ)] [aFu]
theorem ayd(t l)(k:K1 R):zm.A (t,l) k=ao (Ru.call (t.1,l)) λx1=>k (zm.out x1):=cd
theorem aye:zm.Ok:=by rintro⟨t,l⟩ ⟨hb,hv⟩;rw[ayd,axY (d:=(t.1,l)) ⟨hb,hv⟩];rfl
theorem ZM:zm.RS:=rE [.d dU,.d (.slice bQ)] zm
def ae6:=zm.eY aye
def aOJ:Int->Prop:=λ_=>True
def apV:Int->Bool:=λ_=>aZ
def avu:Fs Tryz.prog aOJ bq apV:=eV 239 Tryz.f239 (λx=>([.d tu x],[])) (λx=>⟨.d .bool x,[],[]⟩) [av tu]
theorem aSH(x)(k:K1 R):avu.A x k=k (avu.out (C3 x x)):=cd
theorem aSI:avu.Ok:=by intro x _;rw[aSH];simp only[bq,apV,dN rfl]
theorem avv:avu.RS:=rE [.d tu] avu
def aSJ:=avu.eY aSI
def aOI:(Int×Int)->Prop:=λ_=>True
def apU:(Int×Int)->Int:=λ(x,y)=>Qy x y
def Yc:Fs Tryz.prog aOI bq apU:=eV 185 Tryz.f185 (λ(x,yv)=>([.d tu x,.d tu yv],[])) (λx=>⟨.d ti x,[],[]⟩) [av tu,av tu] [aSJ]
theorem aSE(x yv)(k:K1 R):Yc.A (x,yv) k=ao (avu.call x) λx1=>ao (avu.call yv) λx2=>aJ (x1) (aJ (x2) (k (Yc.out 0)) (k (Yc.out (-1)))) (aJ (x2) (k (Yc.out 1)) (aJ (fv x yv) (k (Yc.out (-1))) (aJ (xW x yv) (k (Yc.out 1)) (k (Yc.out 0))))):=cd
theorem aSF:Yc.Ok:=by
 rintro⟨x,y⟩ _;rw[aSE,avv (d:=x) trivial];simp only[ag,bq,apV];rw[avv (d:=y) trivial];simp only[ag,bq,apV,al,bq,apU,Qy];by_cases h:x < y
 ·rw[aS h,aj,if_pos h]
 ·rw[aQ h,al,if_neg h];by_cases h2:x > y
  ·rw[dw h2,aj,if_pos h2]
  ·rw[cI h2,al,if_neg h2]
theorem avt:Yc.RS:=rE [.d tu,.d tu] Yc
def aSG:=Yc.eY aSF
theorem apT(x:Int):0<=dR .u64 x/\dR .u64 x < 18446744073709551616:=by rw[TL,iH];omega
def aPP(a b c d:Int):Int:=aVq [Qy (dR .u64 a*dR .u64 b / 18446744073709551616) (dR .u64 c*dR .u64 d / 18446744073709551616),Qy (dR .u64 a*dR .u64 b%18446744073709551616) (dR .u64 c*dR .u64 d%18446744073709551616)]
abbrev aLV:=Int×Int×Int×Int
def aLX:aLV->Prop:=λ_=>True
def aLW:aLV->Int:=λ(a,b,c,d)=>aPP a b c d
def as8:Fs Tryz.prog aLX bq aLW:=eV 117 Tryz.f117 (λ(a,b,c,d)=>([.d ti a,.d ti b,.d ti c,.d ti d],[])) (λx=>⟨.d ti x,[],[]⟩) [av ti,av ti,av ti,av ti] [adY,aSG,aJb]
theorem aRp(a b c d)(k:K1 R):as8.A (a,b,c,d) k=ao (LN.call ((dR .u64 a),(dR .u64 b))) λx1=>ao (LN.call ((dR .u64 c),(dR .u64 d))) λx2=>ao (Yc.call (x1.1,x2.1)) λx3=>ao (Yc.call (x1.2,x2.2)) λx4=>ao (aDz.call [x3,x4]) λx5=>k (as8.out x5):=cd
theorem aRq:as8.Ok:=by rintro⟨a,b,c,d⟩ _;rw[aRp,On (d:=(dR .u64 a,dR .u64 b)) ⟨apT a,apT b⟩,On (d:=(dR .u64 c,dR .u64 d)) ⟨apT c,apT d⟩];simp only[ag,bq,T4];rw[avt (d:=(dR .u64 a*dR .u64 b / 18446744073709551616,dR .u64 c*dR .u64 d / 18446744073709551616)) trivial];simp only[ag,bq,apU];rw[avt (d:=(dR .u64 a*dR .u64 b%18446744073709551616,dR .u64 c*dR .u64 d%18446744073709551616)) trivial];simp only[ag,bq,apU];rw[aAL (d:=[Qy (dR .u64 a*dR .u64 b / 18446744073709551616) (dR .u64 c*dR .u64 d / 18446744073709551616),Qy (dR .u64 a*dR .u64 b%18446744073709551616) (dR .u64 c*dR .u64 d%18446744073709551616)]) (by show 2<=_;decide)];rfl
theorem aLY:as8.RS:=rE [.d ti,.d ti,.d ti,.d ti] as8
def aBE:=as8.eY aRq
abbrev aPa:=eO×((List eO)×(Int×(Int×Unit)))
def aZ6(x:eO):Bs:=match x with | none=> [] | some w=>w.2.2.1
def ajW(b o:aPa):Bool:=if aPP b.2.2.1 o.2.2.2.1 o.2.2.1 b.2.2.2.1 > 0 then bm else if aPP b.2.2.1 o.2.2.2.1 o.2.2.1 b.2.2.2.1=0 then decide (acB (aZ6 b.1) (aZ6 o.1) < 0) else aZ
abbrev aBF:=(eO×((List eO)×(Int×(Int×Unit))))×(eO×((List eO)×(Int×(Int×Unit))))
def aFn:aBF->Prop:=λ(b,o)=>(∃w,b.1=av w/\w.2.2.1.length=32)/\(∃w,o.1=av w/\w.2.2.1.length=32)
def an9:aBF->Bool:=λ(b,o)=>ajW b o
def Ui:Fs Tryz.prog aFn bq an9:=eV 186 Tryz.f186 (λ(b,o)=>([.d (.pair dF (.pair (.slice dF) (.pair ti (.pair ti .unit)))) b,.d (.pair dF (.pair (.slice dF) (.pair ti (.pair ti .unit)))) o],[])) (λx=>⟨.d .bool x,[],[]⟩) [av (.pair dF (.pair (.slice dF) (.pair ti (.pair ti .unit)))),av (.pair dF (.pair (.slice dF) (.pair ti (.pair ti .unit))))] [aBE,aAv]
theorem aLZ(b o)(k:K1 R):Ui.A (b,o) k=ao (as8.call (b.2.2.1,o.2.2.2.1,o.2.2.1,b.2.2.2.1)) λx1=>aJ (xW x1 0) (k (Ui.out bm)) (aJ (Il x1 0) (ao (b.1) λx2=>ao (o.1) λx3=>ao (aqq.call ((cut x2.2.2.1 0 32),(cut x3.2.2.1 0 32))) λx4=>k (Ui.out (fv x4 0))) (k (Ui.out aZ))):=cd
theorem aL0:Ui.Ok:=by
 rintro⟨⟨b0,b⟩,⟨o0,o⟩⟩ ⟨⟨w,hw,lw⟩,⟨v,hv,lv⟩⟩;have hw:b0=av w:=hw;have hv:o0=av v:=hv;subst hw;subst hv;rw[aLZ,aLY (d:=(b.2.1,o.2.2.1,o.2.1,b.2.2.1)) trivial];simp only[ag,bq,aLW,bq,an9,ajW,aZ6];generalize aPP b.2.1 o.2.2.1 o.2.1 b.2.2.1=n;by_cases h1:n > 0
 ·rw[dw h1,aj,if_pos h1]
 ·rw[cI h1,al,if_neg h1];by_cases h2:n=0
  ·rw[mQ h2,aj,if_pos h2,ea lw,ea lv,aqr (d:=(w.2.2.1,v.2.2.1)) trivial];simp only[ag,bq,avY,fv];rfl
  ·rw[j3 h2,al,if_neg h2]
theorem aFo:Ui.RS:=rE [.d (.pair dF (.pair (.slice dF) (.pair ti (.pair ti .unit)))),.d (.pair dF (.pair (.slice dF) (.pair ti (.pair ti .unit))))] Ui
def aL1:=Ui.eY aL0
def aFB:dM->Prop:=λt=>th t/\hP t=bm
def abR:dM->dM:=λt=>t
def ZE:Fs Tryz.prog aFB bq abR:=eV 110 Tryz.f110 (λt=>([.d dU t],[])) (λx=>⟨.d dU x,[],[]⟩) [av dU] [aHn,aOu]
theorem aMf(t)(k:K1 R):ZE.A t k=ao (xN.call t) λx1=>ao (nQ.call x1) λx2=>k (ZE.out x2.1):=cd
theorem aMg:ZE.Ok:=by rintro t ⟨hv,gX⟩;have bl:=aHC hv;rw[aMf,az5 (d:=t) hv];simp only[ag,bq,ag5];rw[aHt (d:=aSD t) ⟨bl.1,by have:=bl.2;omega⟩];simp only[ag,bq,apG,bq,abR];rw[azh hv gX]
theorem akM:ZE.RS:=rE [.d dU] ZE
def atf:=ZE.eY aMg
abbrev ax5:=Int×Nat×(List (cz×fj))×(List cV)
def aeY:ax5->Bool->((Nat×(List (cz×fj))×(List cV))×(Bool)):=λ(height,o0baL,o1,o2) y=>((o0baL,o1,o2),y)
def aMp:ax5->Prop:=λ_=>True
def ax6:ax5->Bool:=λ(h,_)=>decide (1<=h/\h<=1048576)
def atk:Fs Tryz.prog aMp aeY ax6:=eV 106 Tryz.f106 (λ(height,o0baL,o1,o2)=>([.ptr (.bP 0) 0 [] 0,.d ti height],[.obj 0 aZ (.pr (.c7 (.bP 1) 0) (.pr (.bU (.bP 2) 0 [] 0 0 o0baL) (.d .unit ()))),.obj 0 aZ (.mp bQ ff o1),.obj 0 aZ (.vec 212 cH o2)])) (λx=>⟨.d .bool x.2,[.obj 0 aZ (.pr (.c7 (.bP 1) 0) (.pr (.bU (.bP 2) 0 [] 0 0 x.1.1) (.d .unit ()))),.obj 0 aZ (.mp bQ ff x.1.2.1),.obj 0 aZ (.vec 212 cH x.1.2.2)],[]⟩) [aH,av ti]
theorem aRv(height o0baL o1 o2)(k:K1 R):atk.A (height,o0baL,o1,o2) k=aJ (AM height 1) (k (atk.out ((o0baL,o1,o2),(ahY height 1048576)))) (k (atk.out ((o0baL,o1,o2),aZ))):=cd
theorem aRw:atk.Ok:=by
 rintro⟨h,n,a,s⟩ _;rw[aRv];simp only[aeY,ax6];by_cases h1:1<=h
 ·rw[fG h1,aj];by_cases h2:h<=1048576
  ·rw[om h2,aX ⟨h1,h2⟩]
  ·rw[j4 h2,bo λe=>h2 e.2]
 ·rw[eg h1,al,bo λe=>h1 e.1]
theorem aMq:atk.RS:=rE [.d ti,.n,.d (.slice (.pair bQ ff)),.d (.slice cH)] atk
def aRx:=atk.eY aRw
abbrev aeZ:=Int×Nat×(List (cz×fj))×(List cV)
def aok:aeZ->SA:=λ(height,o0baL,o1,o2)=>([.ptr (.bP 0) 0 [] 0,.d ti height],[dq (.pr (.c7 (.bP 1) 0) (.pr (.bU (.bP 2) 0 [] 0 0 o0baL) gR)),dq (.mp bQ ff o1),dq (.vec 212 cH o2)])
abbrev aMw:=(Nat×(List (cz×fj))×(List cV))⊕(Nat×(List (cz×fj))×(List cV)×(Int×((List eO)×Unit))×Nat×(List (cz×fj))×(List cV))
abbrev ax8:=(Nat×(List (cz×fj))×(List cV))⊕(Nat×(List (cz×fj))×(List cV)×(Int×((List eO)×Unit))×Nat×(List (cz×fj))×(List cV))
def Uy:ax8->jf:=λx=>match x with | .inl x=>⟨.jW,[dq (.pr (.c7 (.bP 1) 0) (.pr (.bU (.bP 2) 0 [] 0 0 x.1) gR)),dq (.mp bQ ff x.2.1),dq (.vec 212 cH x.2.2)],[]⟩ | .inr x=>⟨eP 0,[dq (.pr (.c7 (.bP 1) 0) (.pr (.bU (.bP 2) 0 [] 0 0 x.1) gR)),dq (.mp bQ ff x.2.1),dq (.vec 212 cH x.2.2.1)],[dq (.pr (.ptr (.new 0 1) 0 [] 0) (.d (.pair ti (.pair (.slice dF) .unit)) x.2.2.2.1)),dq (.pr (.c7 (.new 0 2) 0) (.pr (.bU (.new 0 3) 0 [] 0 0 x.2.2.2.2.1) gR)),dq (.mp bQ ff x.2.2.2.2.2.1),dq (.vec 212 cH x.2.2.2.2.2.2)]⟩
def Ux:aeZ->aMw->ax8:=λ(height,o0baL,o1,o2) y=>match y with | .inl y=> .inl y | .inr y=> .inr y
abbrev aYq:=Int×((List eO)×Unit)
def ae0:aeZ->Prop:=λ(_,n,a,s)=>xV 500 n a s
def aoj:aeZ->aMw:=λ(h,n,a,s)=>if 1<=h/\h<=1048576 then .inr (n,a,s,(h,([],())),n,fC a,s.take n) else .inl (n,a,s)
def aVw:tg:=jr (P:=Tryz.prog) [aRx,N4]
def aRC:Da:= {cg:=[13],QN:=[⟨4,[.snd,.snd,.fst],(.slice dF)⟩]}
def aMu:= @Si Tryz.prog aVw aRC 0 Tryz.f50 _ aok
abbrev aRB:=avN @aMu ae0 Ux aoj Uy
theorem aRD(height o0baL o1 o2)(k:K1 R):aMu (height,o0baL,o1,o2) k=ao (atk.call (height,o0baL,o1,o2)) λx1=>aJ (!x1.2) (k (Uy (.inl (x1.1.1,x1.1.2.1,x1.1.2.2)))) (ao (wR.call (x1.1.1,x1.1.2.1,x1.1.2.2)) λx2=>k (Uy (.inr (x2.1,x2.2.1,x2.2.2.1,(height,(([]:List eO),())),x2.2.2.2.1,x2.2.2.2.2.1,x2.2.2.2.2.2)))):=cd
theorem aRE:aRB:=by
 rintro⟨h,n,a,s⟩ hg;have hg:xV 500 n a s:=hg;obtain⟨hc,hl⟩:=hg.canon;rw[aRD,aMq (d:=(h,n,a,s)) trivial];simp only[ag,aeY,ax6,Ux,aoj];by_cases hh:1<=h/\h<=1048576
 ·rw[aX hh,if_pos hh,bT,al,hg.copy aq];simp only[ag,hl]
 ·rw[bo hh,if_neg hh,dX,aj]
def aMv:=Entry.asE [aH,av ti] aok ae0 Ux aoj Uy
def Xh:aeZ->Option ax8:=K6 aMv aok
theorem aMx:ik Xh ae0 Ux aoj:=alJ (adv [.d ti,.n,.d (.slice (.pair bQ ff)),.d (.slice cH)] λ_=>cd)
def aRF:SG Tryz.prog:=⟨50,nV,aMv,.of (.aWA (.fn 0 cd aRE trivial)) (by rfl)⟩
abbrev DX:=Bs×(List eO)×Int×Int×(Int×((List eO)×Unit))×Nat×(List (cz×fj))×(List cV)
def we:DX->AS:=λ(aEn,t10,t11,t12,o0,o1L,dH,rq)=>⟨([bE,bE,bE,.dz tH aEn]++aW 6 ([.d (.slice dF) t10,.d ti t11,.d ti t12]++aW 11 [])),[dq (.pr (.ptr (.bP 1) 0 [] 0) (.d (.pair ti (.pair (.slice dF) .unit)) o0)),dq (.pr (.c7 (.bP 2) 0) (.pr (.bU (.bP 3) 0 [] 0 0 o1L) gR)),dq (.mp bQ ff dH),dq (.vec 212 cH rq)],(ai 24 [])⟩
abbrev Zw:=((Int×((List eO)×Unit))×Nat×(List (cz×fj))×(List cV))×(eO)
def Cr:Zw->Exit×AS:=λ((a,b,c,e),f)=>(.ret,⟨(aW 4 ([.d dF f]++aW 19 [])),[dq (.pr (.ptr (.bP 1) 0 [] 0) (.d (.pair ti (.pair (.slice dF) .unit)) a)),dq (.pr (.c7 (.bP 2) 0) (.pr (.bU (.bP 3) 0 [] 0 0 b) gR)),dq (.mp bQ ff c),dq (.vec 212 cH e)],(ai 24 [])⟩)
abbrev Zx:=(Int×((List eO)×Unit))×Nat×(List (cz×fj))×(List cV)
def Cs:Zx->Exit×AS:=λ(a,b,c,e)=>(.exit 0,⟨(aW 24 []),[dq (.pr (.ptr (.bP 1) 0 [] 0) (.d (.pair ti (.pair (.slice dF) .unit)) a)),dq (.pr (.c7 (.bP 2) 0) (.pr (.bU (.bP 3) 0 [] 0 0 b) gR)),dq (.mp bQ ff c),dq (.vec 212 cH e)],(ai 24 [])⟩)
abbrev Rt:=(Zw)⊕(Zx)
abbrev aeI:=(eO)⊕(Unit)
def I9:Rt->Out (Exit×AS):=λx=> .br x.isLeft (.get x.getLeft? λa=> .ok (Cr a)) (.get x.getRight? λb=> .ok (Cs b))
def mZ:DX->aeI->Rt:=λ(aEn,t10,t11,t12,o0,o1L,dH,rq) y=>match y with | .inl y=> .inl ((o0,o1L,dH,rq),y) | .inr z=> .inr ((o0,o1L,dH,rq))
abbrev Uk:=Bs×(Int×((List eO)×Unit))×Nat×(List (cz×fj))×(List cV)
def aeL:Uk->SA:=λ(id,o0b,o1baL,o2,o3)=>([.ptr (.bP 0) 0 [] 0,.d tH id],[dq (.pr (.ptr (.bP 1) 0 [] 0) (.d (.pair ti (.pair (.slice dF) .unit)) o0b)),dq (.pr (.c7 (.bP 2) 0) (.pr (.bU (.bP 3) 0 [] 0 0 o1baL) gR)),dq (.mp bQ ff o2),dq (.vec 212 cH o3)])
abbrev aBL:=(eO×(Int×((List eO)×Unit))×Nat×(List (cz×fj))×(List cV))⊕((Int×((List eO)×Unit))×Nat×(List (cz×fj))×(List cV))
abbrev aoc:=(eO×(Int×((List eO)×Unit))×Nat×(List (cz×fj))×(List cV))⊕((Int×((List eO)×Unit))×Nat×(List (cz×fj))×(List cV))
def Oq:aoc->jf:=λx=>match x with | .inl x=>⟨.d dF x.1,[dq (.pr (.ptr (.bP 1) 0 [] 0) (.d (.pair ti (.pair (.slice dF) .unit)) x.2.1)),dq (.pr (.c7 (.bP 2) 0) (.pr (.bU (.bP 3) 0 [] 0 0 x.2.2.1) gR)),dq (.mp bQ ff x.2.2.2.1),dq (.vec 212 cH x.2.2.2.2)],[]⟩ | .inr x=>⟨.jW,[dq (.pr (.ptr (.bP 1) 0 [] 0) (.d (.pair ti (.pair (.slice dF) .unit)) x.1)),dq (.pr (.c7 (.bP 2) 0) (.pr (.bU (.bP 3) 0 [] 0 0 x.2.1) gR)),dq (.mp bQ ff x.2.2.1),dq (.vec 212 cH x.2.2.2)],[]⟩
def HH:Uk->aBL->aoc:=λ(id,o0b,o1baL,o2,o3) y=>match y with | .inl y=> .inl y | .inr y=> .inr y
def aXK(id:Bs)(x:eO):Bool:=match x with | none=>aZ | some w=>decide (w.2.2.1=id)
def Ll(id:Bs)(row:List eO):Option eO:=row.find? (aXK id)
def Cq:DX->Prop:=λ(_,l,n,i,_)=>(aCF l/\l.length<=1000)/\n=(l.length:Int)/\∃k:Nat,k<=l.length/\i=k
def rA:DX->aeI:=λ(id,l,_,i,_)=>match Ll id (l.drop i.toNat) with | some x=> .inl x | none=> .inr ()
def Xc:Uk->Prop:=λ(_,p,_)=>aCF p.2.1/\p.2.1.length<=1000
def Ul:Uk->aBL:=λ(id,p,n,a,s)=>match Ll id p.2.1 with | some x=> .inl (x,p,n,a,s) | none=> .inr (p,n,a,s)
def aoa:tg:=jr (P:=Tryz.prog) []
def aeG:=dB.e7 we Cq mZ rA I9
def PC:DX->Option Rt:=fS aeG we
def aeJ:Da:= {loops:=lz [(2,{bg:=[3,10,11,12]})],outs:=lu [(2,{},{bg:=[4]})],fa:=mc [(2,aeG)]}
def aBJ:= @Si Tryz.prog aoa aeJ 0 Tryz.f181 _ aeL
abbrev aL7:=avN @aBJ Xc HH Ul Oq
def aeH:= @ej Tryz.prog aoa aeJ 0 Tryz.f181 0 _ we
abbrev Zv:=jj Tryz.prog aoa aeJ 0 Tryz.f181 0 we Cq mZ rA I9
theorem aob:ik PC Cq mZ rA:=jX (jA [.d tH,.d (.slice dF),.d ti,.d ti,.d (.pair ti (.pair (.slice dF) .unit)),.n,.d (.slice (.pair bQ ff)),.d (.slice cH)] λ_=>cd)
theorem Um:ma @aeH we Cq mZ rA I9 Zv:=mJ
theorem Gq(aEn t10 t11 t12 o0 o1L dH rq)(kn:K2 R)(kx:K3 R):aeH (aEn,t10,t11,t12,o0,o1L,dH,rq) kn kx=aJ (fv t12 t11) (aJ (eA t12 (((ae t10):Nat):Int)) (ao ((nth dF t10 (ab t12))) λx1=>aJ (Ty.beq tH x1.2.2.1 aEn) (kx (Cr ((o0,o1L,dH,rq),(nth dF t10 (ab t12)))).1 (Cr ((o0,o1L,dH,rq),(nth dF t10 (ab t12)))).2) (kn (we (aEn,t10,t11,(bz .i64 t12 (1:Int)),o0,o1L,dH,rq)))) aH) (kx (Cs (o0,o1L,dH,rq)).1 (Cs (o0,o1L,dH,rq)).2):=cd
theorem aL8(id o0b o1baL o2 o3)(k:K1 R):aBJ (id,o0b,o1baL,o2,o3) k=ao (PC (id,o0b.2.1,(((ae o0b.2.1):Nat):Int),(0:Int),o0b,o1baL,o2,o3)) λx2=>aJ x2.isLeft (ao x2.getLeft? λa3=>k (Oq (.inl (a3.2,a3.1.1,a3.1.2.1,a3.1.2.2.1,a3.1.2.2.2)))) (ao x2.getRight? λb4=>k (Oq (.inr (b4.1,b4.2.1,b4.2.2.1,b4.2.2.2)))):=cd
theorem ata:Zv:=by
 refine Um (λ(_,l,_,i,_)=>l.length - i.toNat) ?_
 rintro⟨id,l,n,i,p,c,a,s⟩ ⟨⟨hs,hl⟩,rfl,k,hk,rfl⟩;have hl:l.length<=1000:=hl;have hk:k<=l.length:=hk;by_cases h:k < l.length
 ·have n1:nth dF l k=l[k]:=bY (t:=dF) h;have hd:l.drop k=l[k]::l.drop (k+1):=au h;obtain⟨w,hw⟩:=bZ.1 (hs _ (aK h));rw[hw]at n1 hd;by_cases hi:w.2.2.1=id
  ·right;refine⟨Cr ((p,c,a,s),av w),?_,λkn kx=> ?_⟩;rotate_left
   ·rw[Gq,aS aq,aj,ba aq aq,aj,aa,n1,ag,ahT,aX hi,aj]
   ·have e:Ll id (l.drop k)=av (av w):=by rw[hd,Ll,List.find?_cons_of_pos (by show decide _=bm;exact aX hi)]
    simp only[mZ,rA,aa,e];rfl
  ·left;refine⟨(id,l,(l.length:Int),((k+1:Nat):Int),p,c,a,s),⟨⟨hs,hl⟩,rfl,k+1,h,rfl⟩,by simp only[aa];omega,?_,λkn kx=> ?_⟩
   ·have e:Ll id (l.drop k)=Ll id (l.drop (k+1)):=by rw[hd,Ll,List.find?_cons_of_neg (by show ¬decide _=bm;rw[bo hi];decide)];rfl
    simp only[mZ,rA,aa,e]
   ·rw[Gq,aS aq,aj,ba aq aq,aj,aa,n1,ag,ahT,bo hi,al,N.jL aq]
 ·right;obtain rfl:k=l.length:=aq;refine⟨Cs (p,c,a,s),?_,λkn kx=> ?_⟩;rotate_left
  ·rw[Gq,aQ aq,al]
  ·simp only[mZ,rA,aa,aI];rfl
theorem aL9:aL7:=by
 rintro⟨id,p,n,a,s⟩ ⟨hs,hl⟩;rw[aL8,aob (d:=(id,p.2.1,(p.2.1.length:Int),0,p,n,a,s)) ⟨⟨hs,hl⟩,rfl,0,aL _,rfl⟩];simp only[ag,mZ,rA,aT,ay,HH,Ul];cases Ll id p.2.1 with
 |none=>rfl
 |some x=>rfl
def aBK:=Entry.asE [aH,av tH] aeL Xc HH Ul Oq
def aeK:Uk->Option aoc:=K6 aBK aeL
theorem aFq:ik aeK Xc HH Ul:=alJ (adv [.d tB,.d (.pair ti (.pair (.slice dF) .unit)),.n,.d (.slice (.pair bQ ff)),.d (.slice cH)] λ_=>cd)
def aMa:SG Tryz.prog:=⟨181,nV,aBK,.of (.aWA (.fn 1 cd aL9 (And.intro (.e7 ata cd) trivial))) (by rfl)⟩
abbrev aMb:=Bs×(Int×((List eO)×Unit))×Nat×(List (cz×fj))×(List cV)
def aMc:aMb->Prop:=λ(_,p,_)=>aCF p.2.1/\p.2.1.length<=1000
def axW:aMb->(Bool×(Int×((List eO)×Unit))×Nat×(List (cz×fj))×(List cV)):=λ(id,p,n,a,s)=>((Ll id p.2.1).isSome,p,n,a,s)
def atb:Fs Tryz.prog aMc bq axW:=eV 111 Tryz.f111 (λ(id,o0b,o1baL,o2,o3)=>([.ptr (.bP 0) 0 [] 0,.d tH id],[.obj 0 aZ (.pr (.ptr (.bP 1) 0 [] 0) (.d (.pair ti (.pair (.slice dF) .unit)) o0b)),.obj 0 aZ (.pr (.c7 (.bP 2) 0) (.pr (.bU (.bP 3) 0 [] 0 0 o1baL) (.d .unit ()))),.obj 0 aZ (.mp bQ ff o2),.obj 0 aZ (.vec 212 cH o3)])) (λx=>⟨.d .bool x.1,[.obj 0 aZ (.pr (.ptr (.bP 1) 0 [] 0) (.d (.pair ti (.pair (.slice dF) .unit)) x.2.1)),.obj 0 aZ (.pr (.c7 (.bP 2) 0) (.pr (.bU (.bP 3) 0 [] 0 0 x.2.2.1) (.d .unit ()))),.obj 0 aZ (.mp bQ ff x.2.2.2.1),.obj 0 aZ (.vec 212 cH x.2.2.2.2)],[]⟩) [aH,av tH] [aMa]
theorem aRs(id o0b o1baL o2 o3)(k:K1 R):atb.A (id,o0b,o1baL,o2,o3) k=ao (aeK (id,o0b,o1baL,o2,o3)) λx1=>aJ x1.isLeft (ao x1.getLeft? λaHH=>k (atb.out ((!(Option.isNone aHH.1)),aHH.2.1,aHH.2.2.1,aHH.2.2.2.1,aHH.2.2.2.2))) (ao x1.getRight? λaHU=>k (atb.out (aZ,aHU.1,aHU.2.1,aHU.2.2.1,aHU.2.2.2))):=cd
theorem aRt:atb.Ok:=by
 rintro⟨id,p,n,a,s⟩ ⟨hs,hl⟩;rw[aRs,aFq (d:=(id,p,n,a,s)) ⟨hs,hl⟩];simp only[ag,HH,Ul,bq,axW];cases h:Ll id p.2.1 with
 |none=>rfl
 |some x=>
  have hx:x.isSome=bm:=hs _ (List.mem_of_find?_eq_some h);obtain⟨w,rfl⟩:=bZ.1 hx;rfl
theorem aMd:atb.RS:=rE [.d tB,.d (.pair ti (.pair (.slice dF) .unit)),.n,.d (.slice (.pair bQ ff)),.d (.slice cH)] atb
def aRu:=atb.eY aRt
def aHW(w:Nat×Db):Prop:=th w.2.1/\hP w.2.1=bm/\w.2.2.1.length=32
def KK(row:List eO):Prop:=row.length<=90/\∀x∈row,∃w,x=av w/\aHW w
theorem KK.some{row:List eO}(h:KK row):aCF row:=λx hx=>by obtain⟨w,rfl,_⟩:=h.2 x hx;rfl
def Ra(h:Int)(m:Mk)(S:avB)(x:eO):avB:=match x with | none=>S | some w=>if js m (av w)=bm then F3 h S w.2.1 else S
def aU7(h:Int)(row:List eO)(t:dM)(S:avB):avB:=row.foldl (Ra h (oc row t)) S
abbrev LY:=dM×(List eO)×Int×Int×(Int×((List eO)×Unit))×Nat×(List (cz×fj))×(List cV)×(List (eO×Bool))×Nat×(List (cz×fj))×(List cV)
abbrev Zs:=Nat×(List (cz×fj))×(List cV)
def qf:LY->Zs->((dM×(Int×((List eO)×Unit))×Nat×(List (cz×fj))×(List cV))×(Nat×(List (cz×fj))×(List cV))):=λ(fP,t20,t21,t22,o0,o1L,dH,rq,n14,axu,n19,DO) y=>((fP,o0,o1L,dH,rq),y)
abbrev as7:=(List eO)×dM×(Int×((List eO)×Unit))×Nat×(List (cz×fj))×(List cV)
def aih:LY->Prop:=λ(_,l,m,i,_,_,_,_,_,n,a,s)=>KK l/\m=(l.length:Int)/\∃k:Nat,k<=l.length/\i=k/\xV (300+k) n a s
def wc:LY->Zs:=λ(_,l,_,i,p,_,_,_,m,n,a,s)=>(l.drop i.toNat).foldl (Ra p.1 m) (n,a,s)
def axR:as7->Prop:=λ(row,t,_,n,a,s)=>KK row/\(j6 (CJ row) 3 t []).isSome=bm/\th t/\xV 300 n a s
def Kx(h:Int)(row:List eO)(t:dM)(n:Nat)(a:At)(s:List cV):Int×Int:=cK t h (aU7 h row t (n,fC a,s.take n)).2.1
def aeC:as7->(Int×Int×(Int×((List eO)×Unit))×Nat×(List (cz×fj))×(List cV)):=λ(row,t,p,n,a,s)=>((Kx p.1 row t n a s).1,(Kx p.1 row t n a s).2,p,n,a,s)
theorem aTw{h:Int}{mk:Mk}:∀(l:List eO) {m:Nat} {S:avB},(∀x∈l,∃w,x=av w/\aHW w)->m+l.length<=1000->xV m S.1 S.2.1 S.2.2->xV (m+l.length) (l.foldl (Ra h mk) S).1 (l.foldl (Ra h mk) S).2.1 (l.foldl (Ra h mk) S).2.2
 |[],_,_,_,_,hg=>hg
 |x::l,m,S,hr,hm,hg=>by
  have hm:m+(l.length+1)<=1000:=hm;have key:xV (m+1) (Ra h mk S x).1 (Ra h mk S x).2.1 (Ra h mk S x).2.2:=by
   obtain⟨w,rfl,hw⟩:=hr x aU;simp only[Ra];split
   ·rcases hg.apply (t:=w.2.1) (h:=h) aq hw.1 with⟨hc,_⟩ | ⟨_,hc,_,aTj⟩
    ·rw[show F3 h S w.2.1=S from if_pos hc];exact hg.mono aq
    ·rw[show F3 h S w.2.1=(S.1+1,cG w.2.1 h S.2.1,S.2.2.take S.1++ [stepOf w.2.1 S.2.1]) from if_neg (λx=>x hc)];exact aTj
   ·exact hg.mono aq
  have:=aTw (h:=h) (mk:=mk) l (m:=m+1) (λy hy=>hr y (aP _ hy)) aq key;rw[bn,aF,show m+(l.length+1)=m+1+l.length from aq];exact this
def ow:Ls aih qf wc:=pD (λ(fP,t20,t21,t22,o0,o1L,dH,rq,n14,axu,n19,DO)=>⟨([.ptr (.bP 0) 0 [] 0]++aW 4 ([.dz dU fP,bE,bE,.c7 (.new 14 0) 0,eP 19]++aW 10 ([.d (.slice dF) t20,.d ti t21,.d ti t22]++aW 26 []))),[dq (.pr (.ptr (.bP 1) 0 [] 0) (.d (.pair ti (.pair (.slice dF) .unit)) o0)),dq (.pr (.c7 (.bP 2) 0) (.pr (.bU (.bP 3) 0 [] 0 0 o1L) gR)),dq (.mp bQ ff dH),dq (.vec 212 cH rq)],(bw 14 ([dm (.mp dF .bool n14)]++bw 4 ([[dq (.pr (.c7 (.new 19 1) 0) (.pr (.bU (.new 19 2) 0 [] 0 0 axu) gR)),dq (.mp bQ ff n19),dq (.vec 212 cH DO)]]++bw 29 [])))⟩) (λx=>(.exit 0,⟨([.ptr (.bP 0) 0 [] 0]++aW 4 ([.dz dU x.1.1,bE,bE,bE,eP 19]++aW 39 [])),[dq (.pr (.ptr (.bP 1) 0 [] 0) (.d (.pair ti (.pair (.slice dF) .unit)) x.1.2.1)),dq (.pr (.c7 (.bP 2) 0) (.pr (.bU (.bP 3) 0 [] 0 0 x.1.2.2.1) gR)),dq (.mp bQ ff x.1.2.2.2.1),dq (.vec 212 cH x.1.2.2.2.2)],(bw 19 ([[dq (.pr (.c7 (.new 19 1) 0) (.pr (.bU (.new 19 2) 0 [] 0 0 x.2.1) gR)),dq (.mp bQ ff x.2.2.1),dq (.vec 212 cH x.2.2.2)]]++bw 29 []))⟩))
def Gn:Fs Tryz.prog axR bq aeC:=eV 116 Tryz.f116 (λ(row,t,o0b,o1baL,o2,o3)=>([.ptr (.bP 0) 0 [] 0,.d (.slice dF) row,.d dU t],[.obj 0 aZ (.pr (.ptr (.bP 1) 0 [] 0) (.d (.pair ti (.pair (.slice dF) .unit)) o0b)),.obj 0 aZ (.pr (.c7 (.bP 2) 0) (.pr (.bU (.bP 3) 0 [] 0 0 o1baL) (.d .unit ()))),.obj 0 aZ (.mp bQ ff o2),.obj 0 aZ (.vec 212 cH o3)])) (λx=>⟨.cons (.d ti x.1) (.cons (.d ti x.2.1) (.nil)),[.obj 0 aZ (.pr (.ptr (.bP 1) 0 [] 0) (.d (.pair ti (.pair (.slice dF) .unit)) x.2.2.1)),.obj 0 aZ (.pr (.c7 (.bP 2) 0) (.pr (.bU (.bP 3) 0 [] 0 0 x.2.2.2.1) (.d .unit ()))),.obj 0 aZ (.mp bQ ff x.2.2.2.2.1),.obj 0 aZ (.vec 212 cH x.2.2.2.2.2)],[]⟩) [aH,av (.slice dF),av dU] [HE,N4,Tg,Tj] {loops:=lz [(4,{bg:=[0,5,8,9,20,21,22],sites:=[14,19],owns:=[⟨9,[.snd,.fst],19,32⟩]})],outs:=lu [(4,{bg:=[0,5,9],sites:=[19]},{bg:=[6,7]})],fa:=mc [(4,ow.E)]}
theorem aii:ow.RS:=rL [.d dU,.d (.slice dF),.d ti,.d ti,.d (.pair ti (.pair (.slice dF) .unit)),.n,.d (.slice (.pair bQ ff)),.d (.slice cH),.d (.slice (.pair dF .bool)),.n,.d (.slice (.pair bQ ff)),.d (.slice cH)] ow
theorem xi(fP t20 t21 t22 o0 o1L dH rq n14 axu n19 DO)(kn:K2 R)(kx:K3 R):Gn.R 0 ow (fP,t20,t21,t22,o0,o1L,dH,rq,n14,axu,n19,DO) kn kx=aJ (fv t22 t21) (aJ (eA t22 (t20.length:Int)) (aJ ((cw dF (nth dF t20 (ab t22)) n14).getD aZ) (ao ((nth dF t20 (ab t22))) λx1=>ao (vc (x1.2.1,o0.1,axu,n19,DO)) λx2=>aJ x2.isLeft (ao x2.getLeft? λaCw=>kn (ow.st (fP,t20,t21,(bz .i64 t22 1),o0,o1L,dH,rq,n14,aCw.2.1,aCw.2.2.1,aCw.2.2.2))) (ao x2.getRight? λaCx=>kn (ow.st (fP,t20,t21,(bz .i64 t22 1),o0,o1L,dH,rq,n14,aCx.2.1,aCx.2.2.1,aCx.2.2.2)))) (kn (ow.st (fP,t20,t21,(bz .i64 t22 1),o0,o1L,dH,rq,n14,axu,n19,DO)))) aH) (ow.go kx ((fP,o0,o1L,dH,rq),(axu,n19,DO))):=cd
theorem aFi(row t o0b o1baL o2 o3)(k:K1 R):Gn.A (row,t,o0b,o1baL,o2,o3) k=ao (xh.call (row,t)) λx1=>ao (wR.call (o1baL,o2,o3)) λx2=>ao (ow.call (t,row,(row.length:Int),0,o0b,x2.1,x2.2.1,x2.2.2.1,x1,x2.2.2.2.1,x2.2.2.2.2.1,x2.2.2.2.2.2)) λx7=>ao (nP.call (x7.1.1,x7.1.2.1.1,x7.2.1,x7.2.2.1,x7.2.2.2)) λx8=>k (Gn.out (x8.1,x8.2.1,x7.1.2.1,x7.1.2.2.1,x7.1.2.2.2.1,x7.1.2.2.2.2)):=cd
theorem an5:(Gn.jx 0 ow):=by
 refine(Gn.mf 0 ow) (λ(_,l,_,i,_)=>l.length - i.toNat) ?_
 rintro⟨t,l,m,i,p,c,a0,s0,mk,n,a,s⟩ ⟨hr,rfl,k,hk,rfl,hg⟩;have hl:l.length<=90:=hr.1;have hk:k<=l.length:=hk;have hg:xV (300+k) n a s:=hg;by_cases h:k < l.length
 ·left;have n1:nth dF l k=l[k]:=bY (t:=dF) h;have hd:l.drop k=l[k]::l.drop (k+1):=au h;obtain⟨w,hw,hv,gX,hlen⟩:=hr.2 _ (aK h);rw[hw]at n1 hd;cases hm:js mk (av w) with
  |false=>
   refine⟨(t,l,(l.length:Int),((k+1:Nat):Int),p,c,a0,s0,mk,n,a,s),⟨hr,rfl,k+1,h,rfl,hg.mono aq⟩,by simp only[aa];omega,?_,λkn kx=> ?_⟩
   ·simp only[qf,wc,aa,hd,bn,Ra,hm,bG,bC]
   ·rw[xi,aS aq,aj,ba aq aq,aj,aa,n1,show(cw dF (av w) mk).getD aZ=aZ from hm,al,N.jL aq]
  |true=>
   rcases hg.apply (t:=w.2.1) (h:=p.1) aq hv with⟨hc,ha⟩ | ⟨_,hc,ha,aTj⟩
   ·refine⟨(t,l,(l.length:Int),((k+1:Nat):Int),p,c,a0,s0,mk,n,a,s),⟨hr,rfl,k+1,h,rfl,hg.mono aq⟩,by simp only[aa];omega,?_,λkn kx=> ?_⟩
    ·simp only[qf,wc,aa,hd,bn,Ra,hm,bO];rw[show F3 p.1 (n,a,s) w.2.1=(n,a,s) from if_pos hc]
    ·rw[xi,aS aq,aj,ba aq aq,aj,aa,n1,show(cw dF (av w) mk).getD aZ=bm from hm,aj,ag,ha];simp only[ag,jK,aj,ir];rw[N.jL aq]
   ·refine⟨(t,l,(l.length:Int),((k+1:Nat):Int),p,c,a0,s0,mk,n+1,cG w.2.1 p.1 a,s.take n++ [stepOf w.2.1 a]),⟨hr,rfl,k+1,h,rfl,aTj⟩,by simp only[aa];omega,?_,λkn kx=> ?_⟩
    ·simp only[qf,wc,aa,hd,bn,Ra,hm,bO];rw[show F3 p.1 (n,a,s) w.2.1=(n+1,cG w.2.1 p.1 a,s.take n++ [stepOf w.2.1 a]) from if_neg (λx=>x hc)]
    ·rw[xi,aS aq,aj,ba aq aq,aj,aa,n1,show(cw dF (av w) mk).getD aZ=bm from hm,aj,ag,ha];simp only[ag,db,al,cC];rw[N.jL aq]
 ·right;obtain rfl:k=l.length:=aq;intro R kn kx;rw[xi,aQ aq,al];simp only[qf,wc,aa,aI,ct]
theorem aFj:Gn.Ok:=by rintro⟨row,t,p,n,a,s⟩ ⟨hr,hm,hv,hg⟩;have hl:row.length<=90:=hr.1;have hg:xV 300 n a s:=hg;obtain⟨hc,hn⟩:=hg.canon;have z1:((0:Int)).toNat=0:=rfl;rw[aFi,I8 (d:=(row,t)) ⟨hr.some,by show row.length<=_;omega,hm⟩,hg.copy aq];simp only[ag,bq,LU,hn];rw[aii (d:=(t,row,(row.length:Int),0,p,n,a,s,oc row t,n,fC a,s.take n)) ⟨hr,rfl,0,aL _,rfl,hc⟩];simp only[ag,qf,wc,z1,ay];have aTj:=aTw (h:=p.1) (mk:=oc row t) row (m:=300) (S:=(n,fC a,s.take n)) hr.2 aq hc;obtain⟨S,hS⟩:∃S,row.foldl (Ra p.1 (oc row t)) (n,fC a,s.take n)=S:=⟨_,rfl⟩;rw[hS]at aTj ⊢;rw[aTj.check hv];simp only[ag,bq,aeC,Kx,aU7,hS]
theorem axS:Gn.RS:=rE [.d (.slice dF),.d dU,.d (.pair ti (.pair (.slice dF) .unit)),.n,.d (.slice (.pair bQ ff)),.d (.slice cH)] Gn
def aFk:=Gn.eY aFj 1 ⟨.e7 an5,trivial⟩
abbrev DZ:=dM×Nat×(List eO)×Int×Int×(Int×((List eO)×Unit))×Nat×(List (cz×fj))×(List cV)×Db×(List (eO×Bool))×(List eO)
def na:DZ->AS:=λ(fP,restL,t36,t37,t38,o0,o1L,dH,rq,n25,n32,aTC)=>⟨([.ptr (.bP 0) 0 [] 0,bE,bE,.dz dU fP,bE,eP 25,.c7 (.new 32 0) 0,jl 77 restL]++aW 28 ([.d (.slice dF) t36,.d ti t37,.d ti t38]++aW 104 [])),[dq (.pr (.ptr (.bP 1) 0 [] 0) (.d (.pair ti (.pair (.slice dF) .unit)) o0)),dq (.pr (.c7 (.bP 2) 0) (.pr (.bU (.bP 3) 0 [] 0 0 o1L) gR)),dq (.mp bQ ff dH),dq (.vec 212 cH rq)],(bw 25 ([dm (.d ag1 n25)]++bw 6 ([dm (.mp dF .bool n32)]++bw 44 ([dm (.vec 178 dF aTC)]++bw 65 []))))⟩
abbrev E9:=dM×Nat×(Int×((List eO)×Unit))×Nat×(List (cz×fj))×(List cV)×Db×(List (eO×Bool))×(List eO)
def Cu:E9->Exit×AS:=λ(a,b,c,e,f,g,h,i,j)=>(.exit 0,⟨([.ptr (.bP 0) 0 [] 0,bE,bE,.dz dU a,bE,eP 25,.c7 (.new 32 0) 0,jl 77 b]++aW 135 []),[dq (.pr (.ptr (.bP 1) 0 [] 0) (.d (.pair ti (.pair (.slice dF) .unit)) c)),dq (.pr (.c7 (.bP 2) 0) (.pr (.bU (.bP 3) 0 [] 0 0 e) gR)),dq (.mp bQ ff f),dq (.vec 212 cH g)],(bw 25 ([dm (.d ag1 h)]++bw 6 ([dm (.mp dF .bool i)]++bw 44 ([dm (.vec 178 dF j)]++bw 65 []))))⟩)
def Us:E9->Out (Exit×AS):=λx=> .ok (Cu x)
def pF:DZ->(dM×Nat×(Int×((List eO)×Unit))×Nat×(List (cz×fj))×(List cV)×Db×(List (eO×Bool))×(List eO))->E9:=λ(fP,restL,t36,t37,t38,o0,o1L,dH,rq,n25,n32,aTC) y=>y
abbrev D0:=dM×Nat×eO×(List eO)×Int×Int×(Int×((List eO)×Unit))×Nat×(List (cz×fj))×(List cV)×Db×(List (eO×Bool))×(List (eO×Bool))×(List (eO×Bool))×(List eO)
def rB:D0->AS:=λ(lS,CI,yv,VN,VP,AF,jq,Bm,me,OP,T6,vZ,n59,n60,T9)=>⟨([.ptr (.bP 0) 0 [] 0,bE,bE,.dz dU lS,bE,eP 25,.c7 (.new 32 0) 0,jl 77 CI,bE,.d dF yv]++aW 26 ([.d (.slice dF) VN,.d ti VP,.d ti AF]++aW 21 ([eP 60]++aW 82 []))),[dq (.pr (.ptr (.bP 1) 0 [] 0) (.d (.pair ti (.pair (.slice dF) .unit)) jq)),dq (.pr (.c7 (.bP 2) 0) (.pr (.bU (.bP 3) 0 [] 0 0 Bm) gR)),dq (.mp bQ ff me),dq (.vec 212 cH OP)],(bw 25 ([dm (.d ag1 T6)]++bw 6 ([dm (.mp dF .bool vZ)]++bw 26 ([[.obj 0 bm (.mp dF .bool n59)],dm (.tP (.new 59 0) 1 dF .bool n60 aH)]++bw 16 ([dm (.vec 178 dF T9)]++bw 65 [])))))⟩
abbrev Fa:=(dM×Nat×eO×(List eO)×Int×Int×(Int×((List eO)×Unit))×Nat×(List (cz×fj))×(List cV)×Db×(List eO))×((List (eO×Bool)))
def Cw:Fa->Exit×AS:=λ((a,b,c,e,f,g,h,i,j,k,l,m),n)=>(.exit 2,⟨([.ptr (.bP 0) 0 [] 0,bE,bE,.dz dU a,bE,eP 25,.c7 (.new 32 0) 0,jl 77 b,bE,.d dF c]++aW 26 ([.d (.slice dF) e,.d ti f,.d ti g]++aW 104 [])),[dq (.pr (.ptr (.bP 1) 0 [] 0) (.d (.pair ti (.pair (.slice dF) .unit)) h)),dq (.pr (.c7 (.bP 2) 0) (.pr (.bU (.bP 3) 0 [] 0 0 i) gR)),dq (.mp bQ ff j),dq (.vec 212 cH k)],(bw 25 ([dm (.d ag1 l)]++bw 6 ([dm (.mp dF .bool n)]++bw 44 ([dm (.vec 178 dF m)]++bw 65 []))))⟩)
def Uu:Fa->Out (Exit×AS):=λx=> .ok (Cw x)
def pG:D0->((List (eO×Bool)))->Fa:=λ(lS,CI,yv,VN,VP,AF,jq,Bm,me,OP,T6,vZ,n59,n60,T9) y=>((lS,CI,yv,VN,VP,AF,jq,Bm,me,OP,T6,T9),y)
abbrev D1:=Nat×Int×Int×(Int×((List eO)×Unit))×Nat×(List (cz×fj))×(List cV)×Db×(List (eO×Bool))×(List eO)×(List (eO×Bool))
def wg:D1->AS:=λ(FJ,gB,least,Cj,qB,tR,Ck,T7,fR,Zm,n107)=>⟨([.ptr (.bP 0) 0 [] 0]++aW 4 ([eP 25,bE,jl 77 FJ,bE,bE,bE,.d ti gB,bE,.d ti least]++aW 93 ([eP 107]++aW 35 []))),[dq (.pr (.ptr (.bP 1) 0 [] 0) (.d (.pair ti (.pair (.slice dF) .unit)) Cj)),dq (.pr (.c7 (.bP 2) 0) (.pr (.bU (.bP 3) 0 [] 0 0 qB) gR)),dq (.mp bQ ff tR),dq (.vec 212 cH Ck)],(bw 25 ([dm (.d ag1 T7)]++bw 6 ([[.obj 0 bm (.mp dF .bool fR)]]++bw 44 ([[.obj 0 bm (.vec 178 dF Zm)]]++bw 29 ([dm (.tP (.new 32 0) 1 dF .bool n107 aH)]++bw 35 [])))))⟩
abbrev ZI:=(Int×((List eO)×Unit))×Nat×(List (cz×fj))×(List cV)
def Jb:ZI->Exit×AS:=λ(a,b,c,e)=>(.ret,⟨([.ptr (.bP 0) 0 [] 0,bE,bE,bE,.d ti (13:Int)]++aW 138 []),[dq (.pr (.ptr (.bP 1) 0 [] 0) (.d (.pair ti (.pair (.slice dF) .unit)) a)),dq (.pr (.c7 (.bP 2) 0) (.pr (.bU (.bP 3) 0 [] 0 0 b) gR)),dq (.mp bQ ff c),dq (.vec 212 cH e)],(ai 143 [])⟩)
abbrev ZJ:=(Nat×Int×(Int×((List eO)×Unit))×Nat×(List (cz×fj))×(List cV)×Db×(List eO))×(Int)
def Cy:ZJ->Exit×AS:=λ((a,b,c,e,f,g,h,i),j)=>(.exit 5,⟨([.ptr (.bP 0) 0 [] 0]++aW 4 ([eP 25,bE,jl 77 a,bE,bE,bE,.d ti b,bE,.d ti j]++aW 129 [])),[dq (.pr (.ptr (.bP 1) 0 [] 0) (.d (.pair ti (.pair (.slice dF) .unit)) c)),dq (.pr (.c7 (.bP 2) 0) (.pr (.bU (.bP 3) 0 [] 0 0 e) gR)),dq (.mp bQ ff f),dq (.vec 212 cH g)],(bw 25 ([dm (.d ag1 h)]++bw 51 ([[.obj 0 bm (.vec 178 dF i)]]++bw 65 [])))⟩)
abbrev Ry:=(ZI)⊕(ZJ)
abbrev aeU:=(Unit)⊕(Int)
def Jc:Ry->Out (Exit×AS):=λx=> .br x.isLeft (.get x.getLeft? λa=> .ok (Jb a)) (.get x.getRight? λb=> .ok (Cy b))
def xk:D1->aeU->Ry:=λ(FJ,gB,least,Cj,qB,tR,Ck,T7,fR,Zm,n107) y=>match y with | .inl y=> .inl (Cj,qB,tR,Ck) | .inr z=> .inr (((FJ,gB,Cj,qB,tR,Ck,T7,Zm),z))
abbrev Uq:=dM×(Int×((List eO)×Unit))×Nat×(List (cz×fj))×(List cV)
def aeV:Uq->SA:=λ(t,o0b,o1baL,o2,o3)=>([.ptr (.bP 0) 0 [] 0,.d dU t],[dq (.pr (.ptr (.bP 1) 0 [] 0) (.d (.pair ti (.pair (.slice dF) .unit)) o0b)),dq (.pr (.c7 (.bP 2) 0) (.pr (.bU (.bP 3) 0 [] 0 0 o1baL) gR)),dq (.mp bQ ff o2),dq (.vec 212 cH o3)])
abbrev aBQ:=Int×(Int×((List eO)×Unit))×Nat×(List (cz×fj))×(List cV)
abbrev aoi:=Int×(Int×((List eO)×Unit))×Nat×(List (cz×fj))×(List cV)
def qh:aoi->jf:=λx=>⟨.d ti x.1,[dq (.pr (.ptr (.bP 1) 0 [] 0) (.d (.pair ti (.pair (.slice dF) .unit)) x.2.1)),dq (.pr (.c7 (.bP 2) 0) (.pr (.bU (.bP 3) 0 [] 0 0 x.2.2.1) gR)),dq (.mp bQ ff x.2.2.2.1),dq (.vec 212 cH x.2.2.2.2)],[]⟩
def HI:Uq->aBQ->aoi:=λ(t,o0b,o1baL,o2,o3) y=>y
structure aTP(t:dM)(p:aYq)(n:Nat)(a:At)(s:List cV):Prop where
 tv:th t
 tok:hP t=bm
 row:KK p.2.1
 new:Ll (wz t) p.2.1=aH
 aXY:∀w,av w∈p.2.1->j9 w.2.1 (dP t)=aZ
 ah:∀w,av w∈p.2.1->(j6 (CJ p.2.1) 3 w.2.1 []).isSome=bm
 dp:∃d,wV p.2.1 3 t=av d/\d<=4
 st:xV 300 n a s
 ck:(Kx p.1 p.2.1 t n a s).2=0
 fe:kD t<=(Kx p.1 p.2.1 t n a s).1
theorem WI:∀l:List Nat,∃b,∀x∈l,x < b
 |[]=>⟨0,λx hx=>by cases hx⟩
 |y::l=>by
  obtain⟨b,hb⟩:=WI l;refine⟨b+y+1,λx hx=> ?_⟩;rcases cq.1 hx with rfl | hx
  ·omega
  ·have:=hb x hx;omega
def aLC(p:aYq)(t:dM)(n:Nat)(a:At)(s:List cV):Db:=(t,(wz t,((Kx p.1 p.2.1 t n a s).1,(kD t,()))))
def Ct:DZ->Prop:=λ(t,rL,l,m,i,p,_,_,_,_,gone,rest)=>(aTX t/\KK p.2.1/\(∀w,av w∈p.2.1->j9 w.2.1 (dP t)=aZ)/\∀w,av w∈p.2.1->(j6 (CJ p.2.1) 3 w.2.1 []).isSome=bm)/\l=p.2.1/\gone=[]/\rL=rest.length/\m=(l.length:Int)/\∃k:Nat,k<=l.length/\i=k/\rest.length<=k
def vz:DZ->(dM×Nat×(Int×((List eO)×Unit))×Nat×(List (cz×fj))×(List cV)×Db×(List (eO×Bool))×(List eO)):=λ(t,rL,l,_,i,p,n,a,s,x,_,rest)=>(t,rL+(l.drop i.toNat).length,p,n,a,s,x,[],rest++l.drop i.toNat)
def Cv:D0->Prop:=λ(_,_,_,_,_,_,_,_,_,_,_,gone,_,_,_)=>gone=[]
def vA:D0->((List (eO×Bool))):=λ_=> []
def Cx:D1->Prop:=λ(_,_,_,_,_,_,_,_,_,_,gone)=>gone=[]
def D3:D1->aeU:=λ(_,_,least,_)=> .inr least
def Xf:Uq->Prop:=λ(t,p,n,a,s)=>aTP t p n a s
def Rz:Uq->aBQ->Prop:=λ(t,p,n,a,s) y=>∃k,k ∉ p.2.1.flatMap (iO dF)/\y=(0,(p.1,(p.2.1++ [av (k,aLC p t n a s)],())),n,a,s)
def Ja:tg:=jr (P:=Tryz.prog) [te,atf,X9,ahs,aRu,ahp,ae6,HE,aL4,aFk,aBE]
def aeO:=dB.e7 na Ct pF vz Us
def PD:DZ->Option E9:=fS aeO na
def aeQ:=dB.e7 rB Cv pG vA Uu
def Gt:D0->Option Fa:=fS aeQ rB
def aeS:=dB.e7 wg Cx xk D3 Jc
def PG:D1->Option Ry:=fS aeS wg
def D4:Da:= {cg:=[25],loops:=lz [(9,{bg:=[0,3,5,6,7,36,37,38],sites:=[25,32,77],owns:=[⟨7,[],77,174⟩]}),(14,{bg:=[0,3,5,6,7,9,36,37,38,60],sites:=[25,32,59,60,77],aU5:=[60]}),(31,{bg:=[0,5,7,11,13,107],sites:=[25,32,77,107],aU5:=[107]})],outs:=lu [(9,{bg:=[0,3,5,6,7],sites:=[25,32,77]},{bg:=[0,4]}),(14,{bg:=[0,3,5,6,7,9,36,37,38],sites:=[25,32,77]},{bg:=[0,4]}),(31,{bg:=[0,5,7,11,13],sites:=[25,77]},{bg:=[0,4]})],fa:=mc [(9,aeO),(14,aeQ),(31,aeS)],QN:=[⟨0,[.snd,.snd,.fst],(.slice dF)⟩],aaX:=λq=>(mc [(38,[⟨5,ag1,7⟩])] q).getD []}
def aBO:= @Si Tryz.prog Ja D4 0 Tryz.f53 _ aeV
abbrev aMi:=aS3 @aBO Xf HI Rz qh
def aeP:= @ej Tryz.prog Ja D4 0 Tryz.f53 0 _ na
abbrev ZF:=jj Tryz.prog Ja D4 0 Tryz.f53 0 na Ct pF vz Us
def aeR:= @ej Tryz.prog Ja D4 0 Tryz.f53 1 _ rB
abbrev ZG:=jj Tryz.prog Ja D4 0 Tryz.f53 1 rB Cv pG vA Uu
def aeT:= @ej Tryz.prog Ja D4 0 Tryz.f53 2 _ wg
abbrev ZH:=jj Tryz.prog Ja D4 0 Tryz.f53 2 wg Cx xk D3 Jc
theorem aof:ik PD Ct pF vz:=jX (jA [.d dU,.n,.d (.slice dF),.d ti,.d ti,.d (.pair ti (.pair (.slice dF) .unit)),.n,.d (.slice (.pair bQ ff)),.d (.slice cH),.d ag1,.d (.slice (.pair dF .bool)),.d (.slice dF)] λ_=>cd)
theorem Ur:aqa @aeP na Ct pF vz Cu ZF:=aDg
theorem PE(fP restL t36 t37 t38 o0 o1L dH rq n25 n32 aTC)(kn:K2 R)(kx:K3 R):aeP (fP,restL,t36,t37,t38,o0,o1L,dH,rq,n25,n32,aTC) kn kx=aJ (fv t38 t37) (aJ (eA t38 (((ae t36):Nat):Int)) (ao ((nth dF t36 (ab t38))) λx1=>ao (uV.call fP) λx2=>ao (zm.call (x1.2.1,x2)) λx3=>aJ (x3) (ao ((nth dF t36 (ab t38))) λx4=>ao (xh.call (o0.2.1,x4.2.1)) λx5=>ao (Gt (fP,restL,(nth dF t36 (ab t38)),t36,t37,t38,o0,o1L,dH,rq,n25,(fp dF (nth dF t36 (ab t38)) bm n32),x5,x5,aTC)) λx6=>aJ (!((cw dF x6.1.2.2.1 x6.2).getD aZ)) (aJ (decide (x6.1.2.1<=(ae x6.1.2.2.2.2.2.2.2.2.2.2.2))) (aJ (cZ (x6.1.2.1+1) 8) (kn (na (x6.1.1,(x6.1.2.1+1),x6.1.2.2.2.1,x6.1.2.2.2.2.1,(bz .i64 x6.1.2.2.2.2.2.1 (1:Int)),x6.1.2.2.2.2.2.2.1,x6.1.2.2.2.2.2.2.2.1,x6.1.2.2.2.2.2.2.2.2.1,x6.1.2.2.2.2.2.2.2.2.2.1,x6.1.2.2.2.2.2.2.2.2.2.2.1,x6.2,((aM x6.1.2.1 x6.1.2.2.2.2.2.2.2.2.2.2.2)++ [x6.1.2.2.1])))) aH) aH) (kn (na (x6.1.1,x6.1.2.1,x6.1.2.2.2.1,x6.1.2.2.2.2.1,(bz .i64 x6.1.2.2.2.2.2.1 (1:Int)),x6.1.2.2.2.2.2.2.1,x6.1.2.2.2.2.2.2.2.1,x6.1.2.2.2.2.2.2.2.2.1,x6.1.2.2.2.2.2.2.2.2.2.1,x6.1.2.2.2.2.2.2.2.2.2.2.1,x6.2,x6.1.2.2.2.2.2.2.2.2.2.2.2)))) (ao ((nth dF t36 (ab t38))) λx7=>ao (xh.call (o0.2.1,x7.2.1)) λx8=>ao (Gt (fP,restL,(nth dF t36 (ab t38)),t36,t37,t38,o0,o1L,dH,rq,n25,n32,x8,x8,aTC)) λx9=>aJ (!((cw dF x9.1.2.2.1 x9.2).getD aZ)) (aJ (decide (x9.1.2.1<=(ae x9.1.2.2.2.2.2.2.2.2.2.2.2))) (aJ (cZ (x9.1.2.1+1) 8) (kn (na (x9.1.1,(x9.1.2.1+1),x9.1.2.2.2.1,x9.1.2.2.2.2.1,(bz .i64 x9.1.2.2.2.2.2.1 (1:Int)),x9.1.2.2.2.2.2.2.1,x9.1.2.2.2.2.2.2.2.1,x9.1.2.2.2.2.2.2.2.2.1,x9.1.2.2.2.2.2.2.2.2.2.1,x9.1.2.2.2.2.2.2.2.2.2.2.1,x9.2,((aM x9.1.2.1 x9.1.2.2.2.2.2.2.2.2.2.2.2)++ [x9.1.2.2.1])))) aH) aH) (kn (na (x9.1.1,x9.1.2.1,x9.1.2.2.2.1,x9.1.2.2.2.2.1,(bz .i64 x9.1.2.2.2.2.2.1 (1:Int)),x9.1.2.2.2.2.2.2.1,x9.1.2.2.2.2.2.2.2.1,x9.1.2.2.2.2.2.2.2.2.1,x9.1.2.2.2.2.2.2.2.2.2.1,x9.1.2.2.2.2.2.2.2.2.2.2.1,x9.2,x9.1.2.2.2.2.2.2.2.2.2.2.2))))) aH) (kx (Cu (fP,restL,o0,o1L,dH,rq,n25,n32,aTC)).1 (Cu (fP,restL,o0,o1L,dH,rq,n25,n32,aTC)).2):=cd
theorem aog:ik Gt Cv pG vA:=jX (jA [.d dU,.n,.d dF,.d (.slice dF),.d ti,.d ti,.d (.pair ti (.pair (.slice dF) .unit)),.n,.d (.slice (.pair bQ ff)),.d (.slice cH),.d ag1,.d (.slice (.pair dF .bool)),.d (.slice (.pair dF .bool)),.d (.slice (.pair dF .bool)),.d (.slice dF)] λ_=>cd)
theorem Ut:aTT @aeR rB Cv pG vA Cw ZG:=aWN
theorem PF(lS CI yv VN VP AF jq Bm me OP T6 vZ n59 n60 T9)(kn:K2 R)(kx:K3 R):aeR (lS,CI,yv,VN,VP,AF,jq,Bm,me,OP,T6,vZ,n59,n60,T9) kn kx=aJ (decide (0 < (ae n60))) (ap3 (ae n60) λj1=>aJ ((cw dF (sE dF .bool n60 j1).1 vZ).getD aZ) (kn (rB (lS,CI,yv,VN,VP,AF,jq,Bm,me,OP,T6,(fp dF yv bm vZ),n59,(List.eraseIdx n60 j1),T9))) (kn (rB (lS,CI,yv,VN,VP,AF,jq,Bm,me,OP,T6,vZ,n59,(List.eraseIdx n60 j1),T9)))) (kx (Cw ((lS,CI,yv,VN,VP,AF,jq,Bm,me,OP,T6,T9),vZ)).1 (Cw ((lS,CI,yv,VN,VP,AF,jq,Bm,me,OP,T6,T9),vZ)).2):=cd
theorem aoh:ik PG Cx xk D3:=jX (jA [.n,.d ti,.d ti,.d (.pair ti (.pair (.slice dF) .unit)),.n,.d (.slice (.pair bQ ff)),.d (.slice cH),.d ag1,.d (.slice (.pair dF .bool)),.d (.slice dF),.d (.slice (.pair dF .bool))] λ_=>cd)
theorem Uv:ma @aeT wg Cx xk D3 Jc ZH:=mJ
theorem ain(FJ gB least Cj qB tR Ck T7 fR Zm n107)(kn:K2 R)(kx:K3 R):aeT (FJ,gB,least,Cj,qB,tR,Ck,T7,fR,Zm,n107) kn kx=aJ (decide (0 < (ae n107))) (ap3 (ae n107) λj1=>ao ((sE dF .bool n107 j1).1) λx2=>ao ((sE dF .bool n107 j1).1) λx3=>ao (as8.call (gB,x2.2.2.2.2.1,x3.2.2.2.1,T7.2.2.2.1)) λx4=>aJ (ahY x4 (0:Int)) (kx (Jb (Cj,qB,tR,Ck)).1 (Jb (Cj,qB,tR,Ck)).2) (ao ((sE dF .bool n107 j1).1) λx5=>kn (wg (FJ,gB,(bz .i64 least x5.2.2.2.1),Cj,qB,tR,Ck,T7,fR,Zm,(List.eraseIdx n107 j1))))) (kx (Cy ((FJ,gB,Cj,qB,tR,Ck,T7,Zm),least)).1 (Cy ((FJ,gB,Cj,qB,tR,Ck,T7,Zm),least)).2):=cd
theorem aMj(t o0b o1baL o2 o3)(k:K1 R):aBO (t,o0b,o1baL,o2,o3) k=ao (iQ.call t) λx1=>aJ (!x1) (k (qh ((1:Int),(o0b.1,(o0b.2.1,o0b.2.2)),o1baL,o2,o3))) (ao (ZE.call t) λx2=>ao (tid.call t) λx3=>ao (uW.call t) λx4=>ao (atb.call (x3,o0b,o1baL,o2,o3)) λx5=>aJ (x5.1) (k (qh ((4:Int),(x5.2.1.1,(x5.2.1.2.1,x5.2.1.2.2)),x5.2.2.1,x5.2.2.2.1,x5.2.2.2.2))) (ao (PD (t,0,x5.2.1.2.1,(((ae x5.2.1.2.1):Nat):Int),(0:Int),x5.2.1,x5.2.2.1,x5.2.2.2.1,x5.2.2.2.2,(x2,(x3,((0:Int),(x4,())))),([]:List (eO×Bool)),([]:List eO))) λvG=>aJ (AM ((vG.2.1:Nat):Int) (100:Int)) (k (qh ((3:Int),(vG.2.2.1.1,(vG.2.2.1.2.1,vG.2.2.1.2.2)),vG.2.2.2.1,vG.2.2.2.2.1,vG.2.2.2.2.2.1))) (aJ (decide (0=0/\(0+vG.2.1)<=(ae vG.2.2.2.2.2.2.2.2))) (ao (aeF ((cut vG.2.2.2.2.2.2.2.2 0 vG.2.1),vG.1)) λaHT=>aJ (xW aHT (4:Int)) (k (qh ((25:Int),(vG.2.2.1.1,(vG.2.2.1.2.1,vG.2.2.1.2.2)),vG.2.2.2.1,vG.2.2.2.2.1,vG.2.2.2.2.2.1))) (aJ (decide (0=0/\(0+vG.2.1)<=(ae vG.2.2.2.2.2.2.2.2))) (ao (Gn.call ((cut vG.2.2.2.2.2.2.2.2 0 vG.2.1),vG.1,vG.2.2.1,vG.2.2.2.1,vG.2.2.2.2.1,vG.2.2.2.2.2.1)) λaCv=>aJ (C3 aCv.2.1 (0:Int)) (k (qh (aCv.2.1,(aCv.2.2.1.1,(aCv.2.2.1.2.1,aCv.2.2.1.2.2)),aCv.2.2.2.1,aCv.2.2.2.2.1,aCv.2.2.2.2.2))) (ao (PG (vG.2.1,aCv.1,vG.2.2.2.2.2.2.1.2.2.2.1,aCv.2.2.1,aCv.2.2.2.1,aCv.2.2.2.2.1,aCv.2.2.2.2.2,(vG.2.2.2.2.2.2.1.1,(vG.2.2.2.2.2.2.1.2.1,(aCv.1,vG.2.2.2.2.2.2.1.2.2.2))),vG.2.2.2.2.2.2.2.1,vG.2.2.2.2.2.2.2.2,vG.2.2.2.2.2.2.2.1)) λabr=>aJ abr.isLeft (ao abr.getLeft? λa25=>k (qh ((13:Int),(a25.1.1,(a25.1.2.1,a25.1.2.2)),a25.2.1,a25.2.2.1,a25.2.2.2))) (ao abr.getRight? λb26=>aJ (fv b26.1.2.1 b26.2) (k (qh ((13:Int),(b26.1.2.2.1.1,(b26.1.2.2.1.2.1,b26.1.2.2.1.2.2)),b26.1.2.2.2.1,b26.1.2.2.2.2.1,b26.1.2.2.2.2.2.1))) (aaR (λn=>n ∉ (List.flatMap (iO dF) b26.1.2.2.2.2.2.2.2)) λaYY=>aJ (decide (b26.1.1<=(ae b26.1.2.2.2.2.2.2.2))) (aJ (decide (b26.1.1=(ae b26.1.2.2.2.2.2.2.2))) (aJ (cZ (b26.1.1+1) 8) (aJ (decide (0=0/\(0+(b26.1.1+1))<=(ae ((aM b26.1.1 b26.1.2.2.2.2.2.2.2)++ [(av (aYY,b26.1.2.2.2.2.2.2.1))])))) (k (qh ((0:Int),(b26.1.2.2.1.1,((cut ((aM b26.1.1 b26.1.2.2.2.2.2.2.2)++ [(av (aYY,b26.1.2.2.2.2.2.2.1))]) 0 (b26.1.1+1)),b26.1.2.2.1.2.2)),b26.1.2.2.2.1,b26.1.2.2.2.2.1,b26.1.2.2.2.2.2.1))) aH) aH) aH) aH)))) aH)) aH))):=cd
theorem aSs(t:dM):(dP t).length<=64:=by
 unfold dP;split
 ·rename_i h;rw[da];exact(iq h).1.2.1
 ·simp
theorem aEN(x:eO):js [] x=aZ:=rfl
theorem ati:ZG:=by
 refine Ut (λ(_,_,_,_,_,_,_,_,_,_,_,_,_,rest,_)=>rest.length) ?_
 rintro⟨t,rL,y,l,m,i,p,n,a,s,x,gone,all,rest,row⟩ hg;have hg:gone=[]:=hg;by_cases h:0 < rest.length
 ·left;refine⟨rest.length,λj=>(t,rL,y,l,m,i,p,n,a,s,x,gone,all,rest.eraseIdx j,row),h,λj hj=>⟨hg,?_,?_⟩,λkn kx=> ?_⟩
  ·show(rest.eraseIdx j).length < rest.length;rw[mF,if_pos hj];omega
  ·simp only[pG,vA]
  ·rw[PF,aX h,aj];refine bW (ap3 rest.length) (funext λj=> ?_);rw[hg,show(cw dF (sE dF .bool rest j).1 ([]:Mk)).getD aZ=aZ from rfl,al]
 ·right;intro T kn kx;rw[PF,bo h,al];simp only[pG,vA,hg]
theorem ath:ZF:=by
 refine Ur (λ(_,_,l,_,i,_)=>l.length - i.toNat) ?_
 rintro⟨t,rL,l,m,i,p,n,a,s,x,gone,rest⟩ ⟨⟨hu,hr,hn,ha⟩,rfl,rfl,rfl,rfl,k,hk,rfl,aWm⟩;have hl:p.2.1.length<=90:=hr.1;have hk:k<=p.2.1.length:=hk;have aWm:rest.length<=k:=aWm;by_cases h:k < p.2.1.length
 ·left;have n1:nth dF p.2.1 k=p.2.1[k]:=bY (t:=dF) h;have hd:p.2.1.drop k=p.2.1[k]::p.2.1.drop (k+1):=au h;have w5:=aK h;obtain⟨w,hw,hv,gX,hlen⟩:=hr.2 _ w5;rw[hw]at n1 hd w5;have hf:=(iq gX).1;refine⟨(t,rest.length+1,p.2.1,(p.2.1.length:Int),((k+1:Nat):Int),p,n,a,s,x,[],rest++ [av w]),⟨⟨hu,hr,hn,ha⟩,rfl,rfl,by simp,rfl,k+1,h,rfl,by rw[ak];show rest.length+1<=_;omega⟩,by simp only[aa];omega,?_,λkn kx=> ?_⟩
  ·simp only[pF,vz,aa,hd,aF,aO,cE];rw[show rest.length+1+(bD (k+1) p.2.1).length=rest.length+((bD (k+1) p.2.1).length+1) from aq]
  ·rw[PE,aS aq,aj,ba aq aq,aj,aa,n1,aaG (d:=t) hu];simp only[ag,bq,OI];rw[ZM (d:=(w.2.1,dP t)) ⟨by show w.2.1.1.length<=_;omega,by have:=aSs t;show(dP t).length<=_;omega⟩];simp only[ag,bq,akS,hn w w5,al];rw[I8 (d:=(p.2.1,w.2.1)) ⟨hr.some,by show p.2.1.length<=_;omega,ha w w5⟩];simp only[ag,bq,LU];rw[aog (d:=(t,rest.length,av w,p.2.1,(p.2.1.length:Int),(k:Int),p,n,a,s,x,[],oc p.2.1 w.2.1,oc p.2.1 w.2.1,rest)) rfl];simp only[ag,pG,vA];rw[show(cw dF (av w) ([]:Mk)).getD aZ=aZ from rfl,dX,aj,aX (az _),aj,cM aq aq,aj,N.jL aq,bN]
 ·right;obtain rfl:k=p.2.1.length:=aq;intro T kn kx;rw[PE,aQ aq,al];simp only[pF,vz,aa,aI,bK,bp,cD]
theorem atj:ZH:=by
 refine Uv (λ_=>0) ?_
 rintro⟨rL,gB,least,p,n,a,s,x,g,row,gone⟩ rfl;right;refine⟨Cy ((rL,gB,p,n,a,s,x,row),least),rfl,λkn kx=> ?_⟩;rw[ain,show decide (0 < ([]:Mk).length)=aZ from rfl,al]
theorem aMk:aMi:=by
 rintro⟨t,p,n,a,s⟩ hA k hk;obtain⟨hv,gX,hr,Ky,aXu,aYu,⟨d,hd,bc2⟩,hg,adk,bc4⟩:=hA;have hl:p.2.1.length<=90:=hr.1;have hm:(j6 (CJ p.2.1) 3 t []).isSome=bm:=by
  by_cases hm:(j6 (CJ p.2.1) 3 t []).isSome=bm
  ·exact hm
  ·unfold wV at hd;rw[if_neg hm]at hd;cases hd
 rw[aMj,pV (d:=t) hv.1];simp only[ag,bq,rS,gX,bT,al];rw[akM (d:=t) ⟨hv,gX⟩,OG (d:=t) hv,aaH (d:=t) hv];simp only[ag,bq,abR,bq,ahc,bq,OJ];rw[aMd (d:=(wz t,p,n,a,s)) ⟨hr.some,by show p.2.1.length<=_;omega⟩];simp only[ag,bq,axW,Ky,ph,al];rw[aof (d:=(t,0,p.2.1,(p.2.1.length:Int),0,p,n,a,s,(t,(wz t,(0,(kD t,())))),[],[])) ⟨⟨hv.1,hr,aXu,aYu⟩,rfl,rfl,rfl,rfl,0,aL _,rfl,aL _⟩];simp only[ag,pF,vz,aT,ay,aV,aY];rw[eg aq,al,aX ⟨trivial,az _⟩,aj,ea rfl];rw[aFp (d:=(p.2.1,t)) ⟨⟨hr.some,by show p.2.1.length<=_;omega,eX⟩,by rw[hd];rfl⟩];simp only[ag,C5,E6,ac0 (show 3<=10 by decide) hd,ed];rw[cI aq,al,axS (d:=(p.2.1,t,p,n,a,s)) ⟨hr,hm,hv,hg⟩];simp only[ag,bq,aeC,adk];rw[dN rfl,al,aoh (d:=(p.2.1.length,(Kx p.1 p.2.1 t n a s).1,kD t,p,n,a,s,(t,(wz t,((Kx p.1 p.2.1 t n a s).1,(kD t,())))),[],p.2.1,[])) rfl];simp only[ag,xk,D3,db,al,cC];rw[aQ aq,al];obtain⟨b,hb⟩:=WI (p.2.1.flatMap (iO dF));refine amY ⟨b,λhm=>absurd (hb b hm) (iI b)⟩ λy hy=> ?_
 rw[aX (az _),aj,aX trivial,aj,cM aq aq,aj,bN];have e1:(p.2.1++ [(av (y,(t,(wz t,((Kx p.1 p.2.1 t n a s).1,(kD t,()))))):eO)]).length=p.2.1.length+1:=by rw[ak];rfl
 rw[ea e1,e1,aX ⟨trivial,aq⟩,aj];exact hk _ ⟨y,hy,rfl⟩
def aBP:=Entry.aia [aH,av dU] aeV Xf HI Rz qh
def Xg:Uq->aoi->Prop:=aYb aBP aeV
theorem akN:aPb Xg Xf HI Rz:=aX9 (adv [.d dU,.d (.pair ti (.pair (.slice dF) .unit)),.n,.d (.slice (.pair bQ ff)),.d (.slice cH)] λ_=>cd)
def aMl:SG Tryz.prog:=⟨53,nV,aBP,.bcy (.fn 3 cd aMk (And.intro (.e7 ath cd) (And.intro (.e7 ati cd) (And.intro (.e7 atj cd) trivial)))) (by rfl)⟩
abbrev ae1:=Int×(List cz)×Nat×(Int×((List eO)×Unit))×Nat×(List (cz×fj))×(List cV)×(List (eO×Bool))×(List dM)
abbrev ae2:=Int×(List cz)×Nat×(List eO)×Int×Int×(Int×((List eO)×Unit))×Nat×(List (cz×fj))×(List cV)×(eO×((List eO)×(Int×(Int×Unit))))×(List (eO×Bool))×(List dM)
abbrev RC:=Int×(List cz)×Nat×eO×Bool×(List eO)×Int×Int×(List eO)×Int×Int×(Int×((List eO)×Unit))×Nat×(List (cz×fj))×(List cV)×(eO×((List eO)×(Int×(Int×Unit))))×eO×Nat×(Int×(Int×Unit))×(List (eO×Bool))×(List (eO×Bool))×(List eO)×(List dM)
abbrev ae3:=Bool×Nat×(Int×(Int×Unit))×(List eO)
def sI:RC->ae3->((Int×(List cz)×Nat×(List eO)×Int×Int×(Int×((List eO)×Unit))×Nat×(List (cz×fj))×(List cV)×(eO×((List eO)×(Int×(Int×Unit))))×eO×(List (eO×Bool))×(List dM))×(Bool×Nat×(Int×(Int×Unit))×(List eO))):=λ(Bd,EF,AX,x,fits,Kk,Kl,Km,t46,t47,t48,Cj,qB,tR,Ck,sD,n13,p9,oO,HA,n40,aEV,AU) y=>((Bd,EF,AX,Kk,Kl,Km,Cj,qB,tR,Ck,sD,n13,HA,AU),y)
abbrev RD:=Int×(List cz)×Nat×(List eO)×Int×Int×(Int×((List eO)×Unit))×Nat×(List (cz×fj))×(List cV)×(eO×((List eO)×(Int×(Int×Unit))))×(List (eO×Bool))×(List dM)
abbrev ae4:=Nat×(List (eO×Bool))×(List dM)
def CA:RD->ae4->((Int×(List cz)×(Int×((List eO)×Unit))×Nat×(List (cz×fj))×(List cV)×(eO×((List eO)×(Int×(Int×Unit)))))×(Nat×(List (eO×Bool))×(List dM))):=λ(RU,ab7,I7,t123,t124,t125,axE,aet,axG,axH,Ro,akw,Rm) y=>((RU,ab7,axE,aet,axG,axH,Ro),y)
abbrev aBW:=Int×(List cz)×(Int×((List eO)×Unit))×Nat×(List (cz×fj))×(List cV)
abbrev Bt:=Bool×Nat×(Int×(Int×Unit))×(List eO)
def aCE(l:List eO):Prop:=∀y∈l,∃w,y=av w/\aHW w
def Kv(bar:List cz)(pk mk:Mk)(x:eO)(S:Bt)(y:eO):Bt:=
 if js pk y=bm then S else if Ty.beq dF y x=aZ/\js mk y=aZ then S else match y with
 |none=>S
 |some w=>(S.1 && !j9 w.2.1 bar,S.2.1+1,(bz .i64 S.2.2.1.1 w.2.2.2.1,(bz .i64 S.2.2.1.2.1 w.2.2.2.2.1,S.2.2.1.2.2)),S.2.2.2++ [y])
def px(bar:List cz)(row:List eO)(pk:Mk)(w:Nat×Db):Bt:=row.foldl (Kv bar pk (oc row w.2.1) (av w)) (bm,0,(0,(0,())),[])
def EI(room:Int)(bar:List cz)(row:List eO)(pk:Mk)(B:aPa)(x:eO):aPa:=
 if js pk x=bm then B else match x with
 |none=>B
 |some w=>if(px bar row pk w).1=bm then(if(px bar row pk w).2.2.1.2.1<=room then(if B.1.isNone=bm then(av w,((px bar row pk w).2.2.2,(px bar row pk w).2.2.1)) else
   if ajW (av w,((px bar row pk w).2.2.2,(px bar row pk w).2.2.1)) B=bm then(av w,((px bar row pk w).2.2.2,(px bar row pk w).2.2.1)) else B) else B) else B
def jM(room:Int)(bar:List cz)(row:List eO)(pk:Mk):aPa:=row.foldl (EI room bar row pk) (aH,([],(0,(0,()))))
def ag3(S:Nat×Mk×List dM)(x:eO):Nat×Mk×List dM:=match x with | none=>S | some w=>(S.1+1,fp dF (av w) bm S.2.1,S.2.2++ [w.2.1])
def Et(l:List eO)(pk:Mk)(out:List dM):Nat×Mk×List dM:=l.foldl ag3 (out.length,pk,out)
def kI(bar:List cz)(row:List eO):Nat->Int->Mk->List dM->Option (List dM)
 | 0,_,_,_=>aH
 |f+1,room,pk,out=>match(jM room bar row pk).1 with
  |none=>av out
  |some _=>kI bar row f (df .i64 room (jM room bar row pk).2.2.2.1) (Et (jM room bar row pk).2.1 pk out).2.1 (Et (jM room bar row pk).2.1 pk out).2.2
def LZ(bar:List cz)(row:List eO):Nat->Int->Mk->List dM->Nat
 | 0,_,_,_=>0
 |f+1,room,pk,out=>match(jM room bar row pk).1 with
  |none=>0
  |some _=>LZ bar row f (df .i64 room (jM room bar row pk).2.2.2.1) (Et (jM room bar row pk).2.1 pk out).2.1 (Et (jM room bar row pk).2.1 pk out).2.2+1
theorem Un{bar:List cz}{row:List eO}:∀ {f:Nat} {room:Int} {pk:Mk} {out r:List dM},kI bar row f room pk out=av r->kI bar row (f+1) room pk out=av r/\LZ bar row (f+1) room pk out=LZ bar row f room pk out
 | 0,_,_,_,_,h=>by cases h
 |f+1,room,pk,out,r,h=>by
  rw[kI]at h;rw[kI,LZ]
  conv=>rhs;rhs;rw[LZ]
  cases hb:(jM room bar row pk).1 with
  |none=>rw[hb]at h;exact⟨h,rfl⟩
  |some w=>
   rw[hb]at h;have:=Un h;exact⟨this.1,by simp only[this.2]⟩
theorem atc{bar:List cz}{row:List eO}{f g:Nat}{room:Int}{pk:Mk}{out r:List dM}(hk:f<=g)(h:kI bar row f room pk out=av r):kI bar row g room pk out=av r/\LZ bar row g room pk out=LZ bar row f room pk out:=by
 induction hk with
 |refl=>exact⟨h,rfl⟩
 |step _ ih=>exact⟨(Un ih.1).1,(Un ih.1).2.trans ih.2⟩
theorem aS7{bar:List cz}{pk mk:Mk}{x:eO}:∀(l:List eO) (S:Bt),aCE S.2.2.2->aCE l->S.2.1=S.2.2.2.length->
  (l.foldl (Kv bar pk mk x) S).2.1=(l.foldl (Kv bar pk mk x) S).2.2.2.length/\(l.foldl (Kv bar pk mk x) S).2.2.2.length<=S.2.2.2.length+l.length/\aCE (l.foldl (Kv bar pk mk x) S).2.2.2
 |[],S,h1,_,h3=>⟨h3,az _,h1⟩
 |y::l,S,h1,h2,h3=>by
  have hl:aCE l:=λz hz=>h2 z (aP _ hz)
  obtain⟨w,rfl,hw⟩:=h2 y aU;have key:(Kv bar pk mk x S (av w)).2.1=(Kv bar pk mk x S (av w)).2.2.2.length/\(Kv bar pk mk x S (av w)).2.2.2.length<=S.2.2.2.length+1/\aCE (Kv bar pk mk x S (av w)).2.2.2:=by
   unfold Kv;split
   ·exact⟨h3,aq,h1⟩
   split
   ·exact⟨h3,aq,h1⟩
   refine⟨by show S.2.1+1=_;rw[ak,h3];rfl,by show(S.2.2.2++ [av w]).length<=_;rw[ak];exact az _,λz hz=> ?_⟩;rcases bR.1 hz with hz | hz
   ·exact h1 z hz
   ·rw[bB.1 hz];exact⟨w,rfl,hw⟩
  have:=aS7 (bar:=bar) (pk:=pk) (mk:=mk) (x:=x) l _ key.2.2 hl key.1;rw[bn,aF];exact⟨this.1,aq,this.2.2⟩
theorem aIH{bar:List cz}{row:List eO}{pk:Mk}{w:Nat×Db}(h:KK row):(px bar row pk w).2.1=(px bar row pk w).2.2.2.length/\KK (px bar row pk w).2.2.2:=by have:=aS7 (bar:=bar) (pk:=pk) (mk:=oc row w.2.1) (x:=av w) row (bm,0,(0,(0,())),[]) (λy hy=>by cases hy) h.2 rfl;have h0:=h.1;exact⟨this.1,by have:=this.2.1;show(px bar row pk w).2.2.2.length<=90;unfold px;simp only[bp]at this;omega,this.2.2⟩
def avM(B:aPa):Prop:=(B.1=aH\/∃w,B.1=av w/\w.2.2.1.length=32)/\KK B.2.1
theorem aAw{room:Int}{bar:List cz}{row:List eO}{pk:Mk}{B:aPa}{x:eO}(h:KK row)(hx:x∈row)(hB:avM B):avM (EI room bar row pk B x):=by
 obtain⟨w,rfl,hw⟩:=h.2 x hx;have hn:avM (av w,((px bar row pk w).2.2.2,(px bar row pk w).2.2.1)):=⟨.inr ⟨w,rfl,hw.2.2⟩,(aIH h).2⟩;unfold EI;split
 ·exact hB
 ·simp only;split
  ·split
   ·split
    ·exact hn
    ·split
     ·exact hn
     ·exact hB
   ·exact hB
  ·exact hB
theorem aIg{room:Int}{bar:List cz}{row:List eO}{pk:Mk}(h:KK row):∀(l:List eO) (B:aPa),(∀x∈l,x∈row)->avM B->avM (l.foldl (EI room bar row pk) B)
 |[],B,_,hB=>hB
 |x::l,B,hl,hB=>aIg h l _ (λy hy=>hl y (aP _ hy)) (aAw h (hl x aU) hB)
theorem aPr{room:Int}{bar:List cz}{row:List eO}{pk:Mk}(h:KK row):avM (jM room bar row pk):=aIg h row _ (λx hx=>hx) ⟨.inl rfl,aL _,λx hx=>by cases hx⟩
theorem aOn:∀(l:List eO) (S:Nat×Mk×List dM),aCE l->S.1=S.2.2.length->(l.foldl ag3 S).1=(l.foldl ag3 S).2.2.length/\(l.foldl ag3 S).2.2.length=S.2.2.length+l.length
 |[],S,_,h=>⟨h,rfl⟩
 |y::l,S,h2,h=>by obtain⟨w,rfl,hw⟩:=h2 y aU;have:=aOn l (ag3 S (av w)) (λz hz=>h2 z (aP _ hz)) (by show S.1+1=(S.2.2++ [w.2.1]).length;rw[ak,h];rfl);rw[bn,aF];refine⟨this.1,?_⟩;rw[this.2];show(S.2.2++ [w.2.1]).length+l.length=_;rw[ak];show S.2.2.length+1+l.length=_;omega
def ajt(bar:List cz)(row:List eO):Prop:=KK row/\bar.length<=1000/\∀w,av w∈row->(j6 (CJ row) 3 w.2.1 []).isSome=bm
def aor:RC->Prop:=λ(_,bar,_,_,_,_,_,_,l,n,i,_,_,_,_,_,_,bL,_,_,_,all,_)=>(KK l/\bar.length<=1000)/\n=(l.length:Int)/\∃k:Nat,k<=l.length/\i=k/\bL=all.length/\all.length<=k
def yu:RC->ae3:=λ(_,bar,_,x,fits,_,_,_,l,_,i,_,_,_,_,_,_,bL,fw,pk,mk,all,_)=>(l.drop i.toNat).foldl (Kv bar pk mk x) (fits,bL,fw,all)
def aot:RD->Prop:=λ(_,_,oL,l,n,i,_,_,_,_,_,_,out)=>KK l/\n=(l.length:Int)/\∃k:Nat,k<=l.length/\i=k/\oL=out.length/\out.length<=100000+k
def Jf:RD->ae4:=λ(_,_,oL,l,_,i,_,_,_,_,_,pk,out)=>(l.drop i.toNat).foldl ag3 (oL,pk,out)
def aoo:ae2->Prop:=λ(_,bar,_,l,n,i,p,_,_,_,B,_,_)=>ajt bar p.2.1/\l=p.2.1/\n=(l.length:Int)/\(∃k:Nat,k<=l.length/\i=k)/\avM B
def Je:ae2->(Int×(List cz)×Nat×(Int×((List eO)×Unit))×Nat×(List (cz×fj))×(List cV)×(eO×((List eO)×(Int×(Int×Unit))))×(List (eO×Bool))×(List dM)):=λ(room,bar,oL,l,_,i,p,c,a,s,B,pk,out)=>(room,bar,oL,p,c,a,s,(l.drop i.toNat).foldl (EI room bar p.2.1 pk) B,pk,out)
def aom:ae1->Prop:=λ(room,bar,oL,p,_,_,_,pk,out)=>ajt bar p.2.1/\oL=out.length/\∃f:Nat,f<=100/\(kI bar p.2.1 f room pk out).isSome=bm/\out.length+90*f<=100000
def RB:ae1->(Nat×(Int×((List eO)×Unit))×Nat×(List (cz×fj))×(List cV)×(List dM)):=λ(room,bar,_,p,c,a,s,pk,out)=>(((kI bar p.2.1 100 room pk out).getD []).length,p,c,a,s,(kI bar p.2.1 100 room pk out).getD [])
def aFE:aBW->Prop:=λ(room,bar,p,_)=>ajt bar p.2.1/\(kI bar p.2.1 100 room [] []).isSome=bm
def aBX:aBW->(Nat×(Int×((List eO)×Unit))×Nat×(List (cz×fj))×(List cV)×(List dM)):=λ(room,bar,p,n,a,s)=>(((kI bar p.2.1 100 room [] []).getD []).length,p,n,a,s,(kI bar p.2.1 100 room [] []).getD [])
def xo:Ls aom bq RB:=pD (λ(apb,OY,outL,o0,o1L,dH,rq,n19,n138)=>⟨([.ptr (.bP 0) 0 [] 0,.d ti apb,.d (.slice bQ) OY]++aW 4 ([.c7 (.new 19 0) 0,jl 138 outL]++aW 135 [])),[dq (.pr (.ptr (.bP 1) 0 [] 0) (.d (.pair ti (.pair (.slice dF) .unit)) o0)),dq (.pr (.c7 (.bP 2) 0) (.pr (.bU (.bP 3) 0 [] 0 0 o1L) gR)),dq (.mp bQ ff dH),dq (.vec 212 cH rq)],(bw 19 ([dm (.mp dF .bool n19)]++bw 118 ([dm (.vec 74 dU n138)]++bw 5 [])))⟩) (λx=>(.ret,⟨(aW 6 ([jl 138 x.1]++aW 137 [])),[dq (.pr (.ptr (.bP 1) 0 [] 0) (.d (.pair ti (.pair (.slice dF) .unit)) x.2.1)),dq (.pr (.c7 (.bP 2) 0) (.pr (.bU (.bP 3) 0 [] 0 0 x.2.2.1) gR)),dq (.mp bQ ff x.2.2.2.1),dq (.vec 212 cH x.2.2.2.2.1)],(bw 138 ([dm (.vec 74 dU x.2.2.2.2.2)]++bw 5 []))⟩))
def nc:Ls aoo bq Je:=pD (λ(XS,yd,vv,t23,t24,t25,jq,Bm,me,OP,n9,DO,W8)=>⟨([.ptr (.bP 0) 0 [] 0,.d ti XS,.d (.slice bQ) yd]++aW 4 ([.c7 (.new 19 0) 0,jl 138 vv,eP 9]++aW 13 ([.d (.slice dF) t23,.d ti t24,.d ti t25]++aW 118 []))),[dq (.pr (.ptr (.bP 1) 0 [] 0) (.d (.pair ti (.pair (.slice dF) .unit)) jq)),dq (.pr (.c7 (.bP 2) 0) (.pr (.bU (.bP 3) 0 [] 0 0 Bm) gR)),dq (.mp bQ ff me),dq (.vec 212 cH OP)],(bw 9 ([dm (.d (.pair dF (.pair (.slice dF) (.pair ti (.pair ti .unit)))) n9)]++bw 9 ([dm (.mp dF .bool DO)]++bw 118 ([dm (.vec 74 dU W8)]++bw 5 []))))⟩) (λx=>(.exit 2,⟨([.ptr (.bP 0) 0 [] 0,.d ti x.1,.d (.slice bQ) x.2.1]++aW 4 ([.c7 (.new 19 0) 0,jl 138 x.2.2.1,eP 9]++aW 134 [])),[dq (.pr (.ptr (.bP 1) 0 [] 0) (.d (.pair ti (.pair (.slice dF) .unit)) x.2.2.2.1)),dq (.pr (.c7 (.bP 2) 0) (.pr (.bU (.bP 3) 0 [] 0 0 x.2.2.2.2.1) gR)),dq (.mp bQ ff x.2.2.2.2.2.1),dq (.vec 212 cH x.2.2.2.2.2.2.1)],(bw 9 ([dm (.d (.pair dF (.pair (.slice dF) (.pair ti (.pair ti .unit)))) x.2.2.2.2.2.2.2.1)]++bw 9 ([dm (.mp dF .bool x.2.2.2.2.2.2.2.2.1)]++bw 118 ([dm (.vec 74 dU x.2.2.2.2.2.2.2.2.2)]++bw 5 []))))⟩))
def nf:Ls aor sI yu:=pD (λ(Bd,EF,AX,x,fits,Kk,Kl,Km,t46,t47,t48,Cj,qB,tR,Ck,sD,n13,p9,oO,HA,n40,aEV,AU)=>⟨([.ptr (.bP 0) 0 [] 0,.d ti Bd,.d (.slice bQ) EF]++aW 4 ([.c7 (.new 19 0) 0,jl 138 AX,eP 9,bE,.d dF x,.c7 (.new 40 0) 0,eP 13,.d .bool fits]++aW 8 ([.d (.slice dF) Kk,.d ti Kl,.d ti Km]++aW 20 ([.d (.slice dF) t46,.d ti t47,.d ti t48]++aW 95 [])))),[dq (.pr (.ptr (.bP 1) 0 [] 0) (.d (.pair ti (.pair (.slice dF) .unit)) Cj)),dq (.pr (.c7 (.bP 2) 0) (.pr (.bU (.bP 3) 0 [] 0 0 qB) gR)),dq (.mp bQ ff tR),dq (.vec 212 cH Ck)],(bw 9 ([dm (.d (.pair dF (.pair (.slice dF) (.pair ti (.pair ti .unit)))) sD),[],[],[],dm (.pr (.d dF n13) (.pr (jl 70 p9) (.d (.pair ti (.pair ti .unit)) oO)))]++bw 5 ([dm (.mp dF .bool HA)]++bw 20 ([dm (.mp dF .bool n40)]++bw 29 ([dm (.vec 178 dF aEV)]++bw 67 ([dm (.vec 74 dU AU)]++bw 5 []))))))⟩) (λx=>(.exit 4,⟨([.ptr (.bP 0) 0 [] 0,.d ti x.1.1,.d (.slice bQ) x.1.2.1]++aW 4 ([.c7 (.new 19 0) 0,jl 138 x.1.2.2.1,eP 9,bE,bE,bE,eP 13,.d .bool x.2.1]++aW 8 ([.d (.slice dF) x.1.2.2.2.1,.d ti x.1.2.2.2.2.1,.d ti x.1.2.2.2.2.2.1]++aW 118 []))),[dq (.pr (.ptr (.bP 1) 0 [] 0) (.d (.pair ti (.pair (.slice dF) .unit)) x.1.2.2.2.2.2.2.1)),dq (.pr (.c7 (.bP 2) 0) (.pr (.bU (.bP 3) 0 [] 0 0 x.1.2.2.2.2.2.2.2.1) gR)),dq (.mp bQ ff x.1.2.2.2.2.2.2.2.2.1),dq (.vec 212 cH x.1.2.2.2.2.2.2.2.2.2.1)],(bw 9 ([dm (.d (.pair dF (.pair (.slice dF) (.pair ti (.pair ti .unit)))) x.1.2.2.2.2.2.2.2.2.2.2.1),[],[],[],dm (.pr (.d dF x.1.2.2.2.2.2.2.2.2.2.2.2.1) (.pr (jl 70 x.2.2.1) (.d (.pair ti (.pair ti .unit)) x.2.2.2.1)))]++bw 5 ([dm (.mp dF .bool x.1.2.2.2.2.2.2.2.2.2.2.2.2.1)]++bw 50 ([dm (.vec 178 dF x.2.2.2.2)]++bw 67 ([dm (.vec 74 dU x.1.2.2.2.2.2.2.2.2.2.2.2.2.2)]++bw 5 [])))))⟩))
def xp:Ls aot CA Jf:=pD (λ(RU,ab7,I7,t123,t124,t125,axE,aet,axG,axH,Ro,akw,Rm)=>⟨([.ptr (.bP 0) 0 [] 0,.d ti RU,.d (.slice bQ) ab7]++aW 4 ([.c7 (.new 19 0) 0,jl 138 I7,eP 9]++aW 113 ([.d (.slice dF) t123,.d ti t124,.d ti t125]++aW 18 []))),[dq (.pr (.ptr (.bP 1) 0 [] 0) (.d (.pair ti (.pair (.slice dF) .unit)) axE)),dq (.pr (.c7 (.bP 2) 0) (.pr (.bU (.bP 3) 0 [] 0 0 aet) gR)),dq (.mp bQ ff axG),dq (.vec 212 cH axH)],(bw 9 ([dm (.d (.pair dF (.pair (.slice dF) (.pair ti (.pair ti .unit)))) Ro)]++bw 9 ([dm (.mp dF .bool akw)]++bw 118 ([dm (.vec 74 dU Rm)]++bw 5 []))))⟩) (λx=>(.exit 6,⟨([.ptr (.bP 0) 0 [] 0,.d ti x.1.1,.d (.slice bQ) x.1.2.1]++aW 4 ([.c7 (.new 19 0) 0,jl 138 x.2.1,eP 9]++aW 134 [])),[dq (.pr (.ptr (.bP 1) 0 [] 0) (.d (.pair ti (.pair (.slice dF) .unit)) x.1.2.2.1)),dq (.pr (.c7 (.bP 2) 0) (.pr (.bU (.bP 3) 0 [] 0 0 x.1.2.2.2.1) gR)),dq (.mp bQ ff x.1.2.2.2.2.1),dq (.vec 212 cH x.1.2.2.2.2.2.1)],(bw 9 ([dm (.d (.pair dF (.pair (.slice dF) (.pair ti (.pair ti .unit)))) x.1.2.2.2.2.2.2)]++bw 9 ([dm (.mp dF .bool x.2.2.1)]++bw 118 ([dm (.vec 74 dU x.2.2.2)]++bw 5 []))))⟩))
def xn:Fs Tryz.prog aFE bq aBX:=eV 119 Tryz.f119 (λ(room,bar,o0b,o1baL,o2,o3)=>([.ptr (.bP 0) 0 [] 0,.d ti room,.d (.slice bQ) bar],[.obj 0 aZ (.pr (.ptr (.bP 1) 0 [] 0) (.d (.pair ti (.pair (.slice dF) .unit)) o0b)),.obj 0 aZ (.pr (.c7 (.bP 2) 0) (.pr (.bU (.bP 3) 0 [] 0 0 o1baL) (.d .unit ()))),.obj 0 aZ (.mp bQ ff o2),.obj 0 aZ (.vec 212 cH o3)])) (λx=>⟨.bU (.new 0 0) 0 [] 0 0 x.1,[.obj 0 aZ (.pr (.ptr (.bP 1) 0 [] 0) (.d (.pair ti (.pair (.slice dF) .unit)) x.2.1)),.obj 0 aZ (.pr (.c7 (.bP 2) 0) (.pr (.bU (.bP 3) 0 [] 0 0 x.2.2.1) (.d .unit ()))),.obj 0 aZ (.mp bQ ff x.2.2.2.1),.obj 0 aZ (.vec 212 cH x.2.2.2.2.1)],[.obj 0 aZ (.vec 74 dU x.2.2.2.2.2)]⟩) [aH,av ti,av (.slice bQ)] [HE,ae6,aL1,atf] {loops:=lz [(3,{bg:=[0,1,2,7,8],sites:=[19,138],owns:=[⟨8,[],138,25⟩]}),(5,{bg:=[0,1,2,7,8,9,23,24,25],sites:=[9,19,138],QN:=[⟨9,[.arr],(.pair dF (.pair (.slice dF) (.pair ti (.pair ti .unit))))⟩]}),(11,{bg:=[0,1,2,7,8,9,11,12,13,14,23,24,25,46,47,48],sites:=[9,13,19,40,70,138],owns:=[⟨13,[.snd,.fst],70,174⟩]}),(25,{bg:=[0,1,2,7,8,9,123,124,125],sites:=[9,19,138],owns:=[⟨8,[],138,25⟩]})],outs:=lu [(3,{bg:=[6]},{bg:=[6],sites:=[138]}),(5,{bg:=[0,1,2,6,7,8,9],sites:=[9,19,138]},{bg:=[6]}),(11,{bg:=[0,1,2,6,7,8,9,13,14,23,24,25],sites:=[9,13,19,70,138]},{bg:=[6]}),(25,{bg:=[0,1,2,6,7,8,9],sites:=[9,19,138]},{bg:=[6]})],fa:=mc [(3,xo.E),(5,nc.E),(11,nf.E),(25,xp.E)]}
theorem aon:xo.RS:=rL [.d ti,.d (.slice bQ),.n,.d (.pair ti (.pair (.slice dF) .unit)),.n,.d (.slice (.pair bQ ff)),.d (.slice cH),.d (.slice (.pair dF .bool)),.d (.slice dU)] xo
theorem PH(apb OY outL o0 o1L dH rq n19 n138)(kn:K2 R)(kx:K3 R):xn.R 0 xo (apb,OY,outL,o0,o1L,dH,rq,n19,n138) kn kx=ao (nc.call (apb,OY,outL,o0.2.1,(o0.2.1.length:Int),0,o0,o1L,dH,rq,(aH,(([]:List eO),(0,(0,())))),n19,n138)) λx1=>aJ (Option.isNone x1.2.2.2.2.2.2.2.1.1) (xo.go kx (x1.2.2.1,x1.2.2.2.1,x1.2.2.2.2.1,x1.2.2.2.2.2.1,x1.2.2.2.2.2.2.1,x1.2.2.2.2.2.2.2.2.2)) (ao (xp.call (x1.1,x1.2.1,x1.2.2.1,x1.2.2.2.2.2.2.2.1.2.1,(x1.2.2.2.2.2.2.2.1.2.1.length:Int),0,x1.2.2.2.1,x1.2.2.2.2.1,x1.2.2.2.2.2.1,x1.2.2.2.2.2.2.1,x1.2.2.2.2.2.2.2.1,x1.2.2.2.2.2.2.2.2.1,x1.2.2.2.2.2.2.2.2.2)) λx2=>kn (xo.st ((df .i64 x2.1.1 x2.1.2.2.2.2.2.2.2.2.2.1),x2.1.2.1,x2.2.1,x2.1.2.2.1,x2.1.2.2.2.1,x2.1.2.2.2.2.1,x2.1.2.2.2.2.2.1,x2.2.2.1,x2.2.2.2))):=cd
theorem aoq:nc.RS:=rL [.d ti,.d (.slice bQ),.n,.d (.slice dF),.d ti,.d ti,.d (.pair ti (.pair (.slice dF) .unit)),.n,.d (.slice (.pair bQ ff)),.d (.slice cH),.d (.pair dF (.pair (.slice dF) (.pair ti (.pair ti .unit)))),.d (.slice (.pair dF .bool)),.d (.slice dU)] nc
theorem PI(XS yd vv t23 t24 t25 jq Bm me OP n9 DO W8)(kn:K2 R)(kx:K3 R):xn.R 1 nc (XS,yd,vv,t23,t24,t25,jq,Bm,me,OP,n9,DO,W8) kn kx=aJ (fv t25 t24) (aJ (eA t25 (t23.length:Int)) (aJ ((cw dF (nth dF t23 (ab t25)) DO).getD aZ) (kn (nc.st (XS,yd,vv,t23,t24,(bz .i64 t25 1),jq,Bm,me,OP,n9,DO,W8))) (ao ((nth dF t23 (ab t25))) λx1=>ao (xh.call (jq.2.1,x1.2.1)) λx2=>ao (nf.call (XS,yd,vv,(nth dF t23 (ab t25)),bm,t23,t24,t25,jq.2.1,(jq.2.1.length:Int),0,jq,Bm,me,OP,n9,(nth dF t23 (ab t25)),0,(0,(0,())),DO,x2,([]:List eO),W8)) λx3=>aJ (x3.2.1) (aJ (ahY x3.2.2.2.1.2.1 x3.1.1) (aJ (Option.isNone x3.1.2.2.2.2.2.2.2.2.2.2.1.1) (aJ (decide (0=0/\(0+x3.2.2.1)<=(ae x3.2.2.2.2))) (kn (nc.st (x3.1.1,x3.1.2.1,x3.1.2.2.1,x3.1.2.2.2.1,x3.1.2.2.2.2.1,(bz .i64 x3.1.2.2.2.2.2.1 1),x3.1.2.2.2.2.2.2.1,x3.1.2.2.2.2.2.2.2.1,x3.1.2.2.2.2.2.2.2.2.1,x3.1.2.2.2.2.2.2.2.2.2.1,(x3.1.2.2.2.2.2.2.2.2.2.2.2.1,((cut x3.2.2.2.2 0 x3.2.2.1),x3.2.2.2.1)),x3.1.2.2.2.2.2.2.2.2.2.2.2.2.1,x3.1.2.2.2.2.2.2.2.2.2.2.2.2.2))) aH) (aJ (decide (0=0/\(0+x3.2.2.1)<=(ae x3.2.2.2.2))) (ao (Ui.call ((x3.1.2.2.2.2.2.2.2.2.2.2.2.1,((cut x3.2.2.2.2 0 x3.2.2.1),x3.2.2.2.1)),x3.1.2.2.2.2.2.2.2.2.2.2.1)) λx4=>aJ (x4) (aJ (decide (0=0/\(0+x3.2.2.1)<=(ae x3.2.2.2.2))) (kn (nc.st (x3.1.1,x3.1.2.1,x3.1.2.2.1,x3.1.2.2.2.1,x3.1.2.2.2.2.1,(bz .i64 x3.1.2.2.2.2.2.1 1),x3.1.2.2.2.2.2.2.1,x3.1.2.2.2.2.2.2.2.1,x3.1.2.2.2.2.2.2.2.2.1,x3.1.2.2.2.2.2.2.2.2.2.1,(x3.1.2.2.2.2.2.2.2.2.2.2.2.1,((cut x3.2.2.2.2 0 x3.2.2.1),x3.2.2.2.1)),x3.1.2.2.2.2.2.2.2.2.2.2.2.2.1,x3.1.2.2.2.2.2.2.2.2.2.2.2.2.2))) aH) (kn (nc.st (x3.1.1,x3.1.2.1,x3.1.2.2.1,x3.1.2.2.2.1,x3.1.2.2.2.2.1,(bz .i64 x3.1.2.2.2.2.2.1 1),x3.1.2.2.2.2.2.2.1,x3.1.2.2.2.2.2.2.2.1,x3.1.2.2.2.2.2.2.2.2.1,x3.1.2.2.2.2.2.2.2.2.2.1,x3.1.2.2.2.2.2.2.2.2.2.2.1,x3.1.2.2.2.2.2.2.2.2.2.2.2.2.1,x3.1.2.2.2.2.2.2.2.2.2.2.2.2.2)))) aH)) (kn (nc.st (x3.1.1,x3.1.2.1,x3.1.2.2.1,x3.1.2.2.2.1,x3.1.2.2.2.2.1,(bz .i64 x3.1.2.2.2.2.2.1 1),x3.1.2.2.2.2.2.2.1,x3.1.2.2.2.2.2.2.2.1,x3.1.2.2.2.2.2.2.2.2.1,x3.1.2.2.2.2.2.2.2.2.2.1,x3.1.2.2.2.2.2.2.2.2.2.2.1,x3.1.2.2.2.2.2.2.2.2.2.2.2.2.1,x3.1.2.2.2.2.2.2.2.2.2.2.2.2.2)))) (kn (nc.st (x3.1.1,x3.1.2.1,x3.1.2.2.1,x3.1.2.2.2.1,x3.1.2.2.2.2.1,(bz .i64 x3.1.2.2.2.2.2.1 1),x3.1.2.2.2.2.2.2.1,x3.1.2.2.2.2.2.2.2.1,x3.1.2.2.2.2.2.2.2.2.1,x3.1.2.2.2.2.2.2.2.2.2.1,x3.1.2.2.2.2.2.2.2.2.2.2.1,x3.1.2.2.2.2.2.2.2.2.2.2.2.2.1,x3.1.2.2.2.2.2.2.2.2.2.2.2.2.2))))) aH) (nc.go kx (XS,yd,vv,jq,Bm,me,OP,n9,DO,W8)):=cd
theorem aos:nf.RS:=rL [.d ti,.d (.slice bQ),.n,.d dF,.d .bool,.d (.slice dF),.d ti,.d ti,.d (.slice dF),.d ti,.d ti,.d (.pair ti (.pair (.slice dF) .unit)),.n,.d (.slice (.pair bQ ff)),.d (.slice cH),.d (.pair dF (.pair (.slice dF) (.pair ti (.pair ti .unit)))),.d dF,.n,.d (.pair ti (.pair ti .unit)),.d (.slice (.pair dF .bool)),.d (.slice (.pair dF .bool)),.d (.slice dF),.d (.slice dU)] nf
theorem zl(Bd EF AX x fits Kk Kl Km t46 t47 t48 Cj qB tR Ck sD n13 p9 oO HA n40 aEV AU)(kn:K2 R)(kx:K3 R):xn.R 2 nf (Bd,EF,AX,x,fits,Kk,Kl,Km,t46,t47,t48,Cj,qB,tR,Ck,sD,n13,p9,oO,HA,n40,aEV,AU) kn kx=aJ (fv t48 t47) (aJ (eA t48 (t46.length:Int)) (aJ ((cw dF (nth dF t46 (ab t48)) HA).getD aZ) (kn (nf.st (Bd,EF,AX,x,fits,Kk,Kl,Km,t46,t47,(bz .i64 t48 1),Cj,qB,tR,Ck,sD,n13,p9,oO,HA,n40,aEV,AU))) (aJ (!(Ty.beq dF (nth dF t46 (ab t48)) x)) (aJ (!((cw dF (nth dF t46 (ab t48)) n40).getD aZ)) (kn (nf.st (Bd,EF,AX,x,fits,Kk,Kl,Km,t46,t47,(bz .i64 t48 1),Cj,qB,tR,Ck,sD,n13,p9,oO,HA,n40,aEV,AU))) (aJ (decide (p9<=(ae aEV))) (aJ (cZ (p9+1) 8) (ao ((nth dF t46 (ab t48))) λx1=>ao ((nth dF t46 (ab t48))) λx2=>aJ (fits) (ao ((nth dF t46 (ab t48))) λx3=>ao (zm.call (x3.2.1,EF)) λx4=>kn (nf.st (Bd,EF,AX,x,(!x4),Kk,Kl,Km,t46,t47,(bz .i64 t48 1),Cj,qB,tR,Ck,sD,n13,(p9+1),((bz .i64 oO.1 x1.2.2.2.1),((bz .i64 oO.2.1 x2.2.2.2.2.1),oO.2.2)),HA,n40,((aM p9 aEV)++ [(nth dF t46 (ab t48))]),AU))) (kn (nf.st (Bd,EF,AX,x,aZ,Kk,Kl,Km,t46,t47,(bz .i64 t48 1),Cj,qB,tR,Ck,sD,n13,(p9+1),((bz .i64 oO.1 x1.2.2.2.1),((bz .i64 oO.2.1 x2.2.2.2.2.1),oO.2.2)),HA,n40,((aM p9 aEV)++ [(nth dF t46 (ab t48))]),AU)))) aH) aH)) (aJ (decide (p9<=(ae aEV))) (aJ (cZ (p9+1) 8) (ao ((nth dF t46 (ab t48))) λx5=>ao ((nth dF t46 (ab t48))) λx6=>aJ (fits) (ao ((nth dF t46 (ab t48))) λx7=>ao (zm.call (x7.2.1,EF)) λx8=>kn (nf.st (Bd,EF,AX,x,(!x8),Kk,Kl,Km,t46,t47,(bz .i64 t48 1),Cj,qB,tR,Ck,sD,n13,(p9+1),((bz .i64 oO.1 x5.2.2.2.1),((bz .i64 oO.2.1 x6.2.2.2.2.1),oO.2.2)),HA,n40,((aM p9 aEV)++ [(nth dF t46 (ab t48))]),AU))) (kn (nf.st (Bd,EF,AX,x,aZ,Kk,Kl,Km,t46,t47,(bz .i64 t48 1),Cj,qB,tR,Ck,sD,n13,(p9+1),((bz .i64 oO.1 x5.2.2.2.1),((bz .i64 oO.2.1 x6.2.2.2.2.1),oO.2.2)),HA,n40,((aM p9 aEV)++ [(nth dF t46 (ab t48))]),AU)))) aH) aH))) aH) (nf.go kx ((Bd,EF,AX,Kk,Kl,Km,Cj,qB,tR,Ck,sD,n13,HA,AU),(fits,p9,oO,aEV))):=cd
theorem aou:xp.RS:=rL [.d ti,.d (.slice bQ),.n,.d (.slice dF),.d ti,.d ti,.d (.pair ti (.pair (.slice dF) .unit)),.n,.d (.slice (.pair bQ ff)),.d (.slice cH),.d (.pair dF (.pair (.slice dF) (.pair ti (.pair ti .unit)))),.d (.slice (.pair dF .bool)),.d (.slice dU)] xp
theorem PJ(RU ab7 I7 t123 t124 t125 axE aet axG axH Ro akw Rm)(kn:K2 R)(kx:K3 R):xn.R 3 xp (RU,ab7,I7,t123,t124,t125,axE,aet,axG,axH,Ro,akw,Rm) kn kx=aJ (fv t125 t124) (aJ (eA t125 (t123.length:Int)) (ao ((nth dF t123 (ab t125))) λx1=>ao (ZE.call x1.2.1) λx2=>aJ (decide (I7<=(ae Rm))) (aJ (cZ (I7+1) 56) (kn (xp.st (RU,ab7,(I7+1),t123,t124,(bz .i64 t125 1),axE,aet,axG,axH,Ro,(fp dF (nth dF t123 (ab t125)) bm akw),((aM I7 Rm)++ [x2])))) aH) aH) aH) (xp.go kx ((RU,ab7,axE,aet,axG,axH,Ro),(I7,akw,Rm))):=cd
theorem aMy(room bar o0b o1baL o2 o3)(k:K1 R):xn.A (room,bar,o0b,o1baL,o2,o3) k=ao (xo.call (room,bar,0,o0b,o1baL,o2,o3,([]:List (eO×Bool)),([]:List dM))) λaHT=>k (xn.out (aHT.1,aHT.2.1,aHT.2.2.1,aHT.2.2.2.1,aHT.2.2.2.2.1,aHT.2.2.2.2.2)):=cd
theorem ato:(xn.jx 2 nf):=by
 refine(xn.mf 2 nf) (λ(_,_,_,_,_,_,_,_,l,_,i,_)=>l.length - i.toNat) ?_
 rintro⟨room,bar,oL,x,fits,t23,t24,t25,l,n,i,p,c,a,s,B,x0,bL,fw,pk,mk,all,out⟩ ⟨⟨hr,Ht⟩,rfl,k,hk,rfl,rfl,Ag⟩;have hl:l.length<=90:=hr.1;have hk:k<=l.length:=hk;have Ag:all.length<=k:=Ag;have Ht:bar.length<=1000:=Ht;by_cases h:k < l.length
 ·left;have n1:nth dF l k=l[k]:=bY (t:=dF) h;have hd:l.drop k=l[k]::l.drop (k+1):=au h;obtain⟨w,hw,hv,gX,hlen⟩:=hr.2 _ (aK h);rw[hw]at n1 hd;have hf:=(iq gX).1;cases hm:js pk (av w) with
  |true=>
   refine⟨(room,bar,oL,x,fits,t23,t24,t25,l,(l.length:Int),((k+1:Nat):Int),p,c,a,s,B,x0,all.length,fw,pk,mk,all,out),⟨⟨hr,Ht⟩,rfl,k+1,h,rfl,rfl,by show all.length<=k+1;omega⟩,by simp only[aa];omega,?_,λkn kx=> ?_⟩
   ·simp only[sI,yu,aa,hd,bn];rw[show Kv bar pk mk x (fits,all.length,fw,all) (av w)=(fits,all.length,fw,all) from if_pos hm]
   ·rw[zl,aS aq,aj,ba aq aq,aj,aa,n1,show(cw dF (av w) pk).getD aZ=bm from hm,aj,N.jL aq]
  |false=>
   have hm':¬js pk (av w)=bm:=by rw[hm];decide
   by_cases hb:Ty.beq dF (av w) x=aZ/\js mk (av w)=aZ
   ·refine⟨(room,bar,oL,x,fits,t23,t24,t25,l,(l.length:Int),((k+1:Nat):Int),p,c,a,s,B,x0,all.length,fw,pk,mk,all,out),⟨⟨hr,Ht⟩,rfl,k+1,h,rfl,rfl,by show all.length<=k+1;omega⟩,by simp only[aa];omega,?_,λkn kx=> ?_⟩
    ·simp only[sI,yu,aa,hd,bn];rw[show Kv bar pk mk x (fits,all.length,fw,all) (av w)=(fits,all.length,fw,all) from(if_neg hm').trans (if_pos hb)]
    ·rw[zl,aS aq,aj,ba aq aq,aj,aa,n1,show(cw dF (av w) pk).getD aZ=aZ from hm,al,hb.1,dX,aj,show(cw dF (av w) mk).getD aZ=aZ from hb.2,dX,aj,N.jL aq]
   ·refine⟨(room,bar,oL,x,fits && !j9 w.2.1 bar,t23,t24,t25,l,(l.length:Int),((k+1:Nat):Int),p,c,a,s,B,x0,all.length+1,(bz .i64 fw.1 w.2.2.2.1,(bz .i64 fw.2.1 w.2.2.2.2.1,fw.2.2)),pk,mk,all++ [av w],out),⟨⟨hr,Ht⟩,rfl,k+1,h,rfl,by rw[ak];rfl,by rw[ak];show all.length+1<=k+1;omega⟩,by simp only[aa];omega,?_,λkn kx=> ?_⟩
    ·simp only[sI,yu,aa,hd,bn];rw[show Kv bar pk mk x (fits,all.length,fw,all) (av w)=(fits && !j9 w.2.1 bar,all.length+1,(bz .i64 fw.1 w.2.2.2.1,(bz .i64 fw.2.1 w.2.2.2.2.1,fw.2.2)),all++ [av w]) from(if_neg hm').trans (if_neg hb)]
    ·have aEi:zm.call (w.2.1,bar)=av (j9 w.2.1 bar):=ZM (d:=(w.2.1,bar)) ⟨by show w.2.1.1.length<=_;omega,by show bar.length<=_;omega⟩;rw[zl,aS aq,aj,ba aq aq,aj,aa,n1,show(cw dF (av w) pk).getD aZ=aZ from hm,al,aX (az _),cM aq aq];simp only[ag,aj,aEi,bN];cases hq:Ty.beq dF (av w) x with
     |true=>
      rw[bT,al];cases fits with
      |true=>rw[aj,bM,N.jL aq]
      |false=>rw[al,dA,N.jL aq]
     |false=>
      have aKn:js mk (av w)=bm:=by
       cases hx:js mk (av w) with
       |true=>rfl
       |false=>exact absurd ⟨hq,hx⟩ hb
      rw[dX,aj,show(cw dF (av w) mk).getD aZ=bm from aKn,bT,al];cases fits with
      |true=>rw[aj,bM,N.jL aq]
      |false=>rw[al,dA,N.jL aq]
 ·right;obtain rfl:k=l.length:=aq;intro T kn kx;rw[zl,aQ aq,al];simp only[sI,yu,aa,aI,ct]
theorem atp:(xn.jx 3 xp):=by
 refine(xn.mf 3 xp) (λ(_,_,_,l,_,i,_)=>l.length - i.toNat) ?_
 rintro⟨room,bar,oL,l,n,i,p,c,a,s,B,pk,out⟩ ⟨hr,rfl,k,hk,rfl,rfl,ahV⟩;have hl:l.length<=90:=hr.1;have hk:k<=l.length:=hk;have ahV:out.length<=100000+k:=ahV;by_cases h:k < l.length
 ·left;have n1:nth dF l k=l[k]:=bY (t:=dF) h;have hd:l.drop k=l[k]::l.drop (k+1):=au h;obtain⟨w,hw,hv,gX,hlen⟩:=hr.2 _ (aK h);rw[hw]at n1 hd;refine⟨(room,bar,out.length+1,l,(l.length:Int),((k+1:Nat):Int),p,c,a,s,B,fp dF (av w) bm pk,out++ [w.2.1]),⟨hr,rfl,k+1,h,rfl,by rw[ak];rfl,by rw[ak];show out.length+1<=_;omega⟩,by simp only[aa];omega,?_,λkn kx=> ?_⟩
  ·simp only[CA,Jf,aa,hd,bn,ag3]
  ·rw[PJ,aS aq,aj,ba aq aq,aj,aa,n1,ag,akM (d:=w.2.1) ⟨hv,gX⟩];simp only[ag,bq,abR];rw[aX (az _),aj,cM aq aq,aj,N.jL aq,bN]
 ·right;obtain rfl:k=l.length:=aq;intro T kn kx;rw[PJ,aQ aq,al];simp only[CA,Jf,aa,aI,ct]
theorem atn:(xn.jx 1 nc):=by
 refine(xn.mf 1 nc) (λ(_,_,_,l,_,i,_)=>l.length - i.toNat) ?_
 rintro⟨room,bar,oL,l,n,i,p,c,a,s,B,pk,out⟩ ⟨⟨hr,Ht,aYu⟩,rfl,rfl,⟨k,hk,rfl⟩,hB⟩;have hl:p.2.1.length<=90:=hr.1;have hk:k<=p.2.1.length:=hk;by_cases h:k < p.2.1.length
 ·left;have n1:nth dF p.2.1 k=p.2.1[k]:=bY (t:=dF) h;have hd:p.2.1.drop k=p.2.1[k]::p.2.1.drop (k+1):=au h;have w5:=aK h;obtain⟨w,hw,hv,gX,hlen⟩:=hr.2 _ w5;rw[hw]at n1 hd w5;refine⟨(room,bar,oL,p.2.1,(p.2.1.length:Int),((k+1:Nat):Int),p,c,a,s,EI room bar p.2.1 pk B (av w),pk,out),⟨⟨hr,Ht,aYu⟩,rfl,rfl,⟨k+1,h,rfl⟩,aAw hr w5 hB⟩,by simp only[aa];omega,?_,λkn kx=> ?_⟩
  ·simp only[bq,Je,aa,hd,bn]
  ·rw[PI,aS aq,aj,ba aq aq,aj,aa,n1];cases hm:js pk (av w) with
   |true=>rw[show(cw dF (av w) pk).getD aZ=bm from hm,aj,show EI room bar p.2.1 pk B (av w)=B from if_pos hm,N.jL aq]
   |false=>
    have hm':¬js pk (av w)=bm:=by rw[hm];decide
    rw[show(cw dF (av w) pk).getD aZ=aZ from hm,al,ag,I8 (d:=(p.2.1,w.2.1)) ⟨hr.some,by show p.2.1.length<=_;omega,aYu w w5⟩];simp only[ag,bq,LU];rw[aos (d:=(room,bar,oL,av w,bm,p.2.1,(p.2.1.length:Int),(k:Int),p.2.1,(p.2.1.length:Int),0,p,c,a,s,B,av w,0,(0,(0,())),pk,oc p.2.1 w.2.1,[],out)) ⟨⟨hr,Ht⟩,rfl,0,aL _,rfl,rfl,az _⟩];simp only[ag,sI,yu,aT,ay];rw[show List.foldl (Kv bar pk (oc p.2.1 w.2.1) (av w)) (bm,0,(0,(0,())),[]) p.2.1=px bar p.2.1 pk w from rfl];have hg:=aIH (bar:=bar) (pk:=pk) (w:=w) hr
    have aW3:EI room bar p.2.1 pk B (av w)=if(px bar p.2.1 pk w).1=bm then(if(px bar p.2.1 pk w).2.2.1.2.1<=room then(if B.1.isNone=bm then(av w,((px bar p.2.1 pk w).2.2.2,(px bar p.2.1 pk w).2.2.1)) else
      if ajW (av w,((px bar p.2.1 pk w).2.2.2,(px bar p.2.1 pk w).2.2.1)) B=bm then(av w,((px bar p.2.1 pk w).2.2.2,(px bar p.2.1 pk w).2.2.1)) else B) else B) else B:=if_neg hm'
    rw[aW3];generalize px bar p.2.1 pk w=S at hg;obtain⟨f,bL,fw,all⟩:=S;have e1:bL=all.length:=hg.1;subst e1;simp only[aV,az,gm,b8,aj,ea];rw[N.jL aq];cases f with
    |false=>rw[al,if_neg eX]
    |true=>
     rw[aj,if_pos rfl];by_cases aWn:fw.2.1<=room
     ·rw[om aWn,aj,if_pos aWn];rcases hB.1 with hn | ⟨v,aTq,YZ⟩
      ·rw[hn,Option.isNone_none,aj,if_pos rfl]
      ·rw[aTq,Option.isNone_some,al,if_neg eX,aFo (d:=((av w,(all,fw)),B)) ⟨⟨w,rfl,hlen⟩,v,aTq,YZ⟩];simp only[ag,bq,an9];cases bc3:ajW (av w,(all,fw)) B with
       |true=>rw[aj,if_pos rfl]
       |false=>rw[al,if_neg eX]
     ·rw[j4 aWn,al,if_neg aWn]
 ·right;obtain rfl:k=p.2.1.length:=aq;intro T kn kx;rw[PI,aQ aq,al];simp only[bq,Je,aa,aI,ct]
theorem atm:(xn.jx 0 xo):=by
 refine(xn.mf 0 xo) (λ(room,bar,_,p,_,_,_,pk,out)=>LZ bar p.2.1 100 room pk out) ?_
 rintro⟨room,bar,oL,p,c,a,s,pk,out⟩ ⟨hp,rfl,f,hf,hs,hlen⟩;have hf:f<=100:=hf;have hlen:out.length+90*f<=100000:=hlen;obtain⟨r,hr⟩:=bZ.1 hs;have hF:=atc hf hr;have hB:=aPr (room:=room) (bar:=bar) (pk:=pk) hp.1;have h1:=aoq (d:=(room,bar,out.length,p.2.1,(p.2.1.length:Int),0,p,c,a,s,(aH,([],(0,(0,())))),pk,out)) ⟨hp,rfl,rfl,⟨0,aL _,rfl⟩,.inl rfl,aL _,λx hx=>by cases hx⟩;simp only[bq,Je,aT,ay]at h1;rw[show List.foldl (EI room bar p.2.1 pk) (aH,([],(0,(0,())))) p.2.1=jM room bar p.2.1 pk from rfl]at h1
 match f,hr,hlen with
 |f+1,hr,hlen=>
  rw[kI]at hr;cases hb:(jM room bar p.2.1 pk).1 with
  |none=>
   right;rw[hb]at hr;obtain rfl:=bf hr;intro T kn kx;rw[PH,h1];simp only[ag,hb,Option.isNone_none,aj,bq,RB,hF.1,ed]
  |some w=>
   left;rw[hb]at hr;have hr:kI bar p.2.1 f (df .i64 room (jM room bar p.2.1 pk).2.2.2.1) (Et (jM room bar p.2.1 pk).2.1 pk out).2.1 (Et (jM room bar p.2.1 pk).2.1 pk out).2.2=av r:=hr;have ht:=aOn (jM room bar p.2.1 pk).2.1 (out.length,pk,out) hB.2.2 rfl;have aUF:(jM room bar p.2.1 pk).2.1.length<=90:=hB.2.1;have bcm:(Et (jM room bar p.2.1 pk).2.1 pk out).2.2.length=out.length+(jM room bar p.2.1 pk).2.1.length:=ht.2;have hF2:=atc (show f<=99 by omega) hr;have hF3:=Un hF2.1;refine⟨(df .i64 room (jM room bar p.2.1 pk).2.2.2.1,bar,(Et (jM room bar p.2.1 pk).2.1 pk out).1,p,c,a,s,(Et (jM room bar p.2.1 pk).2.1 pk out).2.1,(Et (jM room bar p.2.1 pk).2.1 pk out).2.2),⟨hp,ht.1,f,aq,by rw[hr];rfl,by rw[bcm];omega⟩,?_,?_,λkn kx=> ?_⟩
   ·show LZ bar p.2.1 (99+1) _ _ _ < LZ bar p.2.1 (99+1) room pk out
    conv=>rhs;rw[LZ,hb]
    rw[hF3.2];exact sa _
   ·simp only[bq,RB,hF.1,hF3.1,show kI bar p.2.1 100 (df .i64 room (jM room bar p.2.1 pk).2.2.2.1) (Et (jM room bar p.2.1 pk).2.1 pk out).2.1 (Et (jM room bar p.2.1 pk).2.1 pk out).2.2=av r from hF3.1]
   ·rw[PH,h1];simp only[ag,hb,Option.isNone_some,al];rw[aou (d:=(room,bar,out.length,(jM room bar p.2.1 pk).2.1,((jM room bar p.2.1 pk).2.1.length:Int),0,p,c,a,s,jM room bar p.2.1 pk,pk,out)) ⟨hB.2,rfl,0,aL _,rfl,rfl,by show out.length<=_;omega⟩];simp only[ag,CA,Jf,aT,ay];rfl
theorem aMz:xn.Ok:=by rintro⟨room,bar,p,n,a,s⟩ ⟨hp,hs⟩;rw[aMy,aon (d:=(room,bar,0,p,n,a,s,[],[])) ⟨hp,rfl,100,az _,hs,eX⟩];rfl
theorem aFF:xn.RS:=rE [.d ti,.d (.slice bQ),.d (.pair ti (.pair (.slice dF) .unit)),.n,.d (.slice (.pair bQ ff)),.d (.slice cH)] xn
def aMA:=xn.eY aMz 4 ⟨.e7 atm,⟨.e7 atn,⟨.e7 ato,⟨.e7 atp,trivial⟩⟩⟩⟩
def aIx:dM->Prop:=λ_=>True
def awi:dM->Bool:=λ_=>aZ
def awh:Fs Tryz.prog aIx bq awi:=eV 121 Tryz.f121 (λt0=>([.d dU t0],[])) (λx=>⟨.d .bool x,[],[]⟩) [av dU]
theorem aPx(t0)(k:K1 R):awh.A t0 k=k (awh.out aZ):=cd
theorem aPy:awh.Ok:=by intro t _;rw[aPx];rfl
theorem aIy:awh.RS:=rE [.d dU] awh
def aPz:=awh.eY aPy
abbrev Ad:=(List dM)×Int×Int×(List dM)×Int×Int×Nat×(List (cz×fj))×(List cV)×Nat×(List (cz×fj))×(List cV)
def py:Ad->AS:=λ(tl,dj,fees,t18,t19,t20,o0L,cP,dH,ad4,n17,LQ)=>⟨([bE,.d (.slice dU) tl,.d ti dj,.fn 121 (.nil)]++aW 5 ([.d ti fees,bE,eP 17]++aW 6 ([.d (.slice dU) t18,.d ti t19,.d ti t20]++aW 32 []))),[dq (.pr (.c7 (.bP 1) 0) (.pr (.bU (.bP 2) 0 [] 0 0 o0L) gR)),dq (.mp bQ ff cP),dq (.vec 212 cH dH)],(bw 17 ([[dq (.pr (.c7 (.new 17 1) 0) (.pr (.bU (.new 17 2) 0 [] 0 0 ad4) gR)),dq (.mp bQ ff n17),dq (.vec 212 cH LQ)]]++bw 35 []))⟩
abbrev SN:=(Nat×(List (cz×fj))×(List cV))×(Int×Int×Int)
def qc:SN->Exit×AS:=λ((a,b,c),e,f,g)=>(.ret,⟨(aW 8 ([.d ti e,.d ti f,.d ti g]++aW 42 [])),[dq (.pr (.c7 (.bP 1) 0) (.pr (.bU (.bP 2) 0 [] 0 0 a) gR)),dq (.mp bQ ff b),dq (.vec 212 cH c)],(ai 53 [])⟩)
abbrev SO:=((List dM)×Nat×(List (cz×fj))×(List cV))×(Int)
def yZ:SO->Exit×AS:=λ((a,b,c,e),f)=>(.exit 0,⟨([bE,.d (.slice dU) a]++aW 7 ([.d ti f]++aW 43 [])),[dq (.pr (.c7 (.bP 1) 0) (.pr (.bU (.bP 2) 0 [] 0 0 b) gR)),dq (.mp bQ ff c),dq (.vec 212 cH e)],(ai 53 [])⟩)
abbrev K4:=(SN)⊕(SO)
abbrev Yx:=((Int×Int×Int))⊕(Int)
def Ga:K4->Out (Exit×AS):=λx=> .br x.isLeft (.get x.getLeft? λa=> .ok (qc a)) (.get x.getRight? λb=> .ok (yZ b))
def kF:Ad->Yx->K4:=λ(tl,dj,fees,t18,t19,t20,o0L,cP,dH,ad4,n17,LQ) y=>match y with | .inl y=> .inl ((o0L,cP,dH),y) | .inr z=> .inr (((tl,o0L,cP,dH),z))
abbrev aqW:=(List dM)×Int×Nat×(List (cz×fj))×(List cV)
theorem aS4(t:dM):Br iP.zero t=aZ:=by unfold Br;rw[jY];intro x _;show ¬(([]:List cz).any (aaT x.1))=bm;simp
def JV(l:List dM):Prop:=l.length<=100/\∀t∈l,th t/\t.1.length<=1000000
def yY:Ad->Prop:=λ(_,_,fees,l,n',i,_,_,_,n,a,s)=>JV l/\n'=(l.length:Int)/\∃k:Nat,k<=l.length/\i=k/\xV (500+k) n a s/\0<=fees/\fees+gM a<=1125899906842624
def oJ:Ad->Yx:=λ(_,h,fees,l,_,i,_,_,_,_,a,_)=>jv iP.zero h (l.drop i.toNat) i fees a
def awl:aqW->Prop:=λ(l,_,n,a,s)=>JV l/\xV 500 n a s
def acw:aqW->(Int×Int×Int×Nat×(List (cz×fj))×(List cV)):=λ(l,h,n,a,s)=>((qD iP.zero h l a).1,(qD iP.zero h l a).2.1,(qD iP.zero h l a).2.2,n,a,s)
def Yv:=dB.e7 py yY kF oJ Ga
def K5:Ad->Option K4:=fS Yv py
def AP:Fs Tryz.prog awl bq acw:=eV 120 Tryz.f120 (λ(l,height,o0baL,o1,o2)=>([.ptr (.bP 0) 0 [] 0,.d (.slice dU) l,.d ti height,.fn 121 (.nil)],[.obj 0 aZ (.pr (.c7 (.bP 1) 0) (.pr (.bU (.bP 2) 0 [] 0 0 o0baL) (.d .unit ()))),.obj 0 aZ (.mp bQ ff o1),.obj 0 aZ (.vec 212 cH o2)])) (λx=>⟨.cons (.d ti x.1) (.cons (.d ti x.2.1) (.cons (.d ti x.2.2.1) (.nil))),[.obj 0 aZ (.pr (.c7 (.bP 1) 0) (.pr (.bU (.bP 2) 0 [] 0 0 x.2.2.2.1) (.d .unit ()))),.obj 0 aZ (.mp bQ ff x.2.2.2.2.1),.obj 0 aZ (.vec 212 cH x.2.2.2.2.2)],[]⟩) [aH,av (.slice dU),av ti,aH] [N4,aPz,Tj,Tg] {loops:=lz [(3,{bg:=[1,2,3,9,11,18,19,20],sites:=[17],owns:=[⟨11,[.snd,.fst],17,32⟩]})],outs:=lu [(3,{bg:=[1,9]},{bg:=[8,9,10]})],fa:=mc [(3,Yv)]}
def Yw:= @ej Tryz.prog (jr AP.G) AP.an 0 Tryz.f120 0 _ py
abbrev SM:=jj Tryz.prog (jr AP.G) AP.an 0 Tryz.f120 0 py yY kF oJ Ga
theorem ahL:ik K5 yY kF oJ:=jX (jA [.d (.slice dU),.d ti,.d ti,.d (.slice dU),.d ti,.d ti,.n,.d (.slice (.pair bQ ff)),.d (.slice cH),.n,.d (.slice (.pair bQ ff)),.d (.slice cH)] λ_=>cd)
theorem Qv:ma @Yw py yY kF oJ Ga SM:=mJ
theorem Dn(tl dj fees t18 t19 t20 o0L cP dH ad4 n17 LQ)(kn:K2 R)(kx:K3 R):Yw (tl,dj,fees,t18,t19,t20,o0L,cP,dH,ad4,n17,LQ) kn kx=aJ (fv t20 t19) (aJ (eA t20 (((ae t18):Nat):Int)) (ao (awh.call (nth dU t18 (ab t20))) λx1=>aJ (x1) (kx (qc ((o0L,cP,dH),(t20,fees,(14:Int)))).1 (qc ((o0L,cP,dH),(t20,fees,(14:Int)))).2) (ao (nP.call ((nth dU t18 (ab t20)),dj,ad4,n17,LQ)) λx2=>aJ (C3 x2.2.1 (0:Int)) (kx (qc ((o0L,cP,dH),(t20,fees,x2.2.1))).1 (qc ((o0L,cP,dH),(t20,fees,x2.2.1))).2) (ao (vc ((nth dU t18 (ab t20)),dj,x2.2.2.1,x2.2.2.2.1,x2.2.2.2.2)) λx3=>aJ x3.isLeft (ao x3.getLeft? λaV5=>kn (py (tl,dj,(bz .i64 fees x2.1),t18,t19,(bz .i64 t20 (1:Int)),o0L,cP,dH,aV5.2.1,aV5.2.2.1,aV5.2.2.2))) (ao x3.getRight? λaV6=>kn (py (tl,dj,(bz .i64 fees x2.1),t18,t19,(bz .i64 t20 (1:Int)),o0L,cP,dH,aV6.2.1,aV6.2.2.1,aV6.2.2.2)))))) aH) (kx (yZ ((tl,o0L,cP,dH),fees)).1 (yZ ((tl,o0L,cP,dH),fees)).2):=cd
theorem aDd(l height o0baL o1 o2)(k:K1 R):AP.A (l,height,o0baL,o1,o2) k=ao (wR.call (o0baL,o1,o2)) λx1=>ao (K5 (l,height,0,l,(l.length:Int),0,x1.1,x1.2.1,x1.2.2.1,x1.2.2.2.1,x1.2.2.2.2.1,x1.2.2.2.2.2)) λx8=>aJ x8.isLeft (ao x8.getLeft? λa9=>k (AP.out (a9.2.1,a9.2.2.1,a9.2.2.2,a9.1.1,a9.1.2.1,a9.1.2.2))) (ao x8.getRight? λb10=>k (AP.out ((b10.1.1.length:Int),b10.2,0,b10.1.2.1,b10.1.2.2.1,b10.1.2.2.2))):=cd
theorem amq:SM:=by
 refine Qv (λ(_,_,_,l,_,i,_)=>l.length - i.toNat) ?_
 rintro⟨l0,h,fees,l,n',i,nS,a0,s0,n,a,s⟩ ⟨⟨h1,h2⟩,rfl,k,hk,rfl,hg,f0,f1⟩;have h1:l.length<=100:=h1;have hk:k<=l.length:=hk;have f0:0<=fees:=f0;have f1:fees+gM a<=1125899906842624:=f1;have hg:xV (500+k) n a s:=hg;by_cases fF:k < l.length
 ·have n1:nth dU l k=l[k]:=bY (t:=dU) fF;have hd:l.drop k=l[k]::l.drop (k+1):=au fF;obtain⟨hv,hi⟩:=h2 _ (aK fF);have Ht:=aIy (d:=l[k]) trivial;have hb:¬Br iP.zero l[k]=bm:=by rw[aS4];decide
  have hb':Br iP.zero l[k]=aZ:=aS4 _
  ·skip
   have hc:=hg.check (t:=l[k]) (h:=h) hv;rcases hg.apply (t:=l[k]) (h:=h) aq hv with⟨he,_⟩ | ⟨aQl,he,ha,hg'⟩
   ·right;refine⟨qc ((nS,a0,s0),((k:Int),fees,(cK l[k] h a).2)),?_,λkn kx=> ?_⟩;rotate_left
    ·rw[Dn,aS aq,aj,ba aq aq,aj,aa,n1,Ht];simp only[ag,bq,awi,al];rw[hc];simp only[ag];rw[fH he,aj]
    ·simp only[kF,oJ,aa,hd,jv,if_neg hb,if_pos he];rfl
   ·left;have B5:=(aQl.sum hg.nT.1).1;have aXe:0<=(cK l[k] h a).1:=by obtain⟨_,_,_,f,_,_,hp,aTg⟩:=NW he;rw[aTg];exact hp
    have vi:=Sn λp hp=>(hg'.nT.2 p hp).2.2.2.1
    refine⟨(l0,h,fees+(cK l[k] h a).1,l,(l.length:Int),((k+1:Nat):Int),nS,a0,s0,n+1,cG l[k] h a,s.take n++ [stepOf l[k] a]),⟨⟨h1,h2⟩,rfl,k+1,aq,rfl,hg',by show(0:Int)<=fees+(cK l[k] h a).1;omega,by show fees+(cK l[k] h a).1+gM (cG l[k] h a)<=_;omega⟩,by simp only[aa];omega,?_,λkn kx=> ?_⟩
    ·simp only[kF,oJ,aa,hd,jv,if_neg hb,if_neg (λe=>e he:¬(cK l[k] h a).2≠0)];rfl
    ·rw[Dn,aS aq,aj,ba aq aq,aj,aa,n1,Ht];simp only[ag,bq,awi,al];rw[hc];simp only[ag];rw[dN he,al,ha];simp only[ag,db,al,cC];rw[fA (x:=fees) aq aq,N.jL aq]
 ·right;obtain rfl:k=l.length:=aq;refine⟨yZ ((l0,nS,a0,s0),fees),?_,λkn kx=> ?_⟩;rotate_left
  ·rw[Dn,aQ aq,al]
  ·simp only[kF,oJ,aa,aI,jv];rfl
theorem aDe:AP.Ok:=by
 rintro⟨l,h,n,a,s⟩ ⟨hw,hg⟩;have hg:xV 500 n a s:=hg;obtain⟨hc,hl⟩:=hg.canon;have z1:((0:Int)).toNat=0:=rfl;rw[aDd,hg.copy aq];simp only[ag];rw[hl,ahL (d:=(l,h,0,l,(l.length:Int),0,n,a,s,n,fC a,s.take n)) ⟨hw,rfl,0,aL _,rfl,hc,eF 0,by show(0:Int)+gM (fC a)<=_;have:=hc.sum;omega⟩];simp only[ag,kF,oJ,z1,ay,bq,acw,qD];cases jv iP.zero h l 0 0 (fC a) with
 |inl x=>rfl
 |inr f=>rfl
theorem awm:AP.RS:=rE [.d (.slice dU),.d ti,.n,.d (.slice (.pair bQ ff)),.d (.slice cH)] AP
def aDf:=AP.eY aDe 1 ⟨.e7 amq,trivial⟩
abbrev aAD:=Bs×Int×Int×(List cz)×Nat×(List (cz×fj))×(List cV)×(Int×((List eO)×Unit))×Nat×(List (cz×fj))×(List cV)
def Zy(p:aYq)(bar:List cz)(fill:Int):List dM:=(kI bar p.2.1 100 (df .i64 4000 fill) [] []).getD []
theorem aCs(b:kE)(h:Int):∀(l:List dM) (k f:Int) (a:At) (x:Int×Int×Int),jv b h l k f a= .inl x->k<=x.1/\x.1<=k+l.length
 |[],_,_,_,_,e=>by cases e
 |t::l,k,f,a,x,e=>by
  rw[jv]at e;rw[aF];split at e
  ·obtain rfl:=Sum.inl.inj e;exact⟨eF _,by show k<=_;omega⟩
  ·split at e
   ·obtain rfl:=Sum.inl.inj e;exact⟨eF _,by show k<=_;omega⟩
   ·have:=aCs b h l _ _ _ _ e;omega
theorem aSN(b:kE)(h:Int)(l:List dM)(a:At):0<=(qD b h l a).1/\(qD b h l a).1<=l.length:=by
 unfold qD;cases e:jv b h l 0 0 (fC a) with
 |inl x=>have:=aCs b h l _ _ _ _ e;simp only;omega
 |inr f=>exact⟨by show(0:Int)<=(l.length:Int);omega,eF _⟩
def aTz(parent:Bs)(h fill:Int)(bar:List cz)(a:At)(p:aYq):kE:=(h,(parent,((Zy p bar fill).take (qD iP.zero h (Zy p bar fill) a).1.toNat,(fill,(bar,())))))
def aC7:aAD->Prop:=λ(_,h,fill,bar,n,a,s,p,_)=>wY h fill=bm->(ajt bar p.2.1/\(kI bar p.2.1 100 (df .i64 4000 fill) [] []).isSome=bm)/\JV (Zy p bar fill)/\xV 500 n a s
def aml:aAD->(kE×Int×Nat×(List (cz×fj))×(List cV)×(Int×((List eO)×Unit))×Nat×(List (cz×fj))×(List cV)):=λ(parent,h,fill,bar,n,a,s,p,n2,a2,s2)=>if wY h fill=bm then(aTz parent h fill bar a p,0,n,a,s,p,n2,a2,s2) else((0,(ai 32 0,([],(0,([],()))))),1,n,a,s,p,n2,a2,s2)
def Hi:Fs Tryz.prog aC7 bq aml:=eV 54 Tryz.f54 (λ(parent,height,fill,bar,o0baL,o1,o2,o3b,o4baL,o5,o6)=>([.ptr (.bP 0) 0 [] 0,.ptr (.bP 3) 0 [] 0,.d tH parent,.d ti height,.d ti fill,.d (.slice bQ) bar],[.obj 0 aZ (.pr (.c7 (.bP 1) 0) (.pr (.bU (.bP 2) 0 [] 0 0 o0baL) (.d .unit ()))),.obj 0 aZ (.mp bQ ff o1),.obj 0 aZ (.vec 212 cH o2),.obj 0 aZ (.pr (.ptr (.bP 4) 0 [] 0) (.d (.pair ti (.pair (.slice dF) .unit)) o3b)),.obj 0 aZ (.pr (.c7 (.bP 5) 0) (.pr (.bU (.bP 6) 0 [] 0 0 o4baL) (.d .unit ()))),.obj 0 aZ (.mp bQ ff o5),.obj 0 aZ (.vec 212 cH o6)])) (λx=>⟨.cons (.d iP x.1) (.cons (.d ti x.2.1) (.nil)),[.obj 0 aZ (.pr (.c7 (.bP 1) 0) (.pr (.bU (.bP 2) 0 [] 0 0 x.2.2.1) (.d .unit ()))),.obj 0 aZ (.mp bQ ff x.2.2.2.1),.obj 0 aZ (.vec 212 cH x.2.2.2.2.1),.obj 0 aZ (.pr (.ptr (.bP 4) 0 [] 0) (.d (.pair ti (.pair (.slice dF) .unit)) x.2.2.2.2.2.1)),.obj 0 aZ (.pr (.c7 (.bP 5) 0) (.pr (.bU (.bP 6) 0 [] 0 0 x.2.2.2.2.2.2.1) (.d .unit ()))),.obj 0 aZ (.mp bQ ff x.2.2.2.2.2.2.2.1),.obj 0 aZ (.vec 212 cH x.2.2.2.2.2.2.2.2)],[]⟩) [aH,aH,av tH,av ti,av ti,av (.slice bQ)] [ajF,aMA,aDf,aPN] {res:=[av iP,aH]}
theorem aIu(parent height fill bar o0baL o1 o2 o3b o4baL o5 o6)(k:K1 R):Hi.A (parent,height,fill,bar,o0baL,o1,o2,o3b,o4baL,o5,o6) k=ao (Dk.call (height,fill)) λx1=>aJ (!x1) (k (Hi.out ((0,((ai 32 0),(([]:List dM),(0,(([]:List cz),()))))),1,o0baL,o1,o2,o3b,o4baL,o5,o6))) (ao (xn.call ((df .i64 4000 fill),bar,o3b,o4baL,o5,o6)) λx2=>aJ (decide (0=0/\(0+x2.1)<=(ae x2.2.2.2.2.2))) (ao (AP.call ((cut x2.2.2.2.2.2 0 x2.1),height,o0baL,o1,o2)) λx3=>aJ (decide (0<=x3.1/\x3.1<=x3.1/\x3.1<=((x2.1:Nat):Int))) (aJ (inc x3.1 ((x2.1:Nat):Int)) (ao (amx.call bar) λx4=>aJ (decide (0=0/\(0+((ab x3.1) - 0))<=(ae x2.2.2.2.2.2))) (k (Hi.out ((height,(parent,((cut x2.2.2.2.2.2 0 ((ab x3.1) - 0)),(fill,(x4,()))))),0,x3.2.2.2.1,x3.2.2.2.2.1,x3.2.2.2.2.2,x2.2.1,x2.2.2.1,x2.2.2.2.1,x2.2.2.2.2.1))) aH) aH) aH) aH):=cd
theorem aIv:Hi.Ok:=by
 rintro⟨parent,h,fill,bar,n,a,s,p,n2,a2,s2⟩ hp;rw[aIu,acj (d:=(h,fill)) trivial];simp only[ag,bq,SC,bq,aml];cases hf:wY h fill with
 |false=>rfl
 |true=>
  obtain⟨⟨hg,hs⟩,hw,xZ⟩:=hp hf;have Ht:bar.length<=1000:=hg.2.1;rw[bT,al,aFF (d:=(df .i64 4000 fill,bar,p,n2,a2,s2)) ⟨hg,hs⟩];simp only[ag,bq,aBX];rw[show(kI bar p.2.1 100 (df .i64 4000 fill) [] []).getD []=Zy p bar fill from rfl,aX ⟨trivial,aq⟩,aj,ea rfl,awm (d:=(Zy p bar fill,h,n,a,s)) ⟨hw,xZ⟩];simp only[ag,bq,acw];have hk:=aSN iP.zero h (Zy p bar fill) a;rw[aX ⟨hk.1,eF _,hk.2⟩,aj,oo hk.1 hk.2,aj,aIX (d:=bar) (by show bar.length<=_;omega)];simp only[ag,bq,aws];rw[aX ⟨trivial,aq⟩,aj,if_pos trivial];rfl
theorem ajI:Hi.RS:=rE [.d tB,.d ti,.d ti,.d (.slice bQ),.n,.d (.slice (.pair bQ ff)),.d (.slice cH),.d (.pair ti (.pair (.slice dF) .unit)),.n,.d (.slice (.pair bQ ff)),.d (.slice cH)] Hi
def aIw:=Hi.eY aIv
abbrev aqA:=kE×Nat×(List (cz×fj))×(List cV)
def av6:aqA->Prop:=λ(b,n,a,s)=>Sj b/\xV 500 n a s
def SB:aqA->(Int×Bool×Nat×(List (cz×fj))×(List cV)):=λ(b,n,a,s)=>if(ju b a).2≠0 then(0,aZ,n,a,s) else((ju b a).1,bm,n,a,s)
def Dj:Fs Tryz.prog av6 bq SB:=eV 14 Tryz.f14 (λ(b,o0baL,o1,o2)=>([.ptr (.bP 0) 0 [] 0,.d iP b],[.obj 0 aZ (.pr (.c7 (.bP 1) 0) (.pr (.bU (.bP 2) 0 [] 0 0 o0baL) (.d .unit ()))),.obj 0 aZ (.mp bQ ff o1),.obj 0 aZ (.vec 212 cH o2)])) (λx=>⟨.cons (.d ti x.1) (.cons (.d .bool x.2.1) (.nil)),[.obj 0 aZ (.pr (.c7 (.bP 1) 0) (.pr (.bU (.bP 2) 0 [] 0 0 x.2.2.1) (.d .unit ()))),.obj 0 aZ (.mp bQ ff x.2.2.2.1),.obj 0 aZ (.vec 212 cH x.2.2.2.2)],[]⟩) [aH,av iP] [ajG]
theorem aCW(b o0baL o1 o2)(k:K1 R):Dj.A (b,o0baL,o1,o2) k=ao (Dl.call (b,o0baL,o1,o2)) λx1=>aJ (C3 x1.2.1 0) (k (Dj.out (0,aZ,x1.2.2.1,x1.2.2.2.1,x1.2.2.2.2))) (k (Dj.out (x1.1,bm,x1.2.2.1,x1.2.2.2.1,x1.2.2.2.2))):=cd
theorem aCX:Dj.Ok:=by
 rintro⟨b,n,a,s⟩ h;rw[aCW,acm (d:=(b,n,a,s)) h];simp only[ag,bq,ack,bq,SB];by_cases h0:(ju b a).2=0
 ·rw[dN h0,al,if_neg (λx=>x h0)]
 ·rw[fH h0,aj,if_pos h0]
theorem aci:Dj.RS:=rE [.d iP,.n,.d (.slice (.pair bQ ff)),.d (.slice cH)] Dj
def ajE:=Dj.eY aCX
def LK(k:Int):Lk:=([([gb k],(0,(0,(0,()))))],())
def TA(m:Bs)(x to:Int):dM:=([((m,((0:Int),())),(((0:Int),(([]:List Sg),((0:Int),()))),()))],([(x,(LK to,()))],((0:Int),())))
def UA(m:Bs)(x to k:Int):dM:=abo (TA m x to) (ab 0) (ai4 (TA m x to) 0 [k] 0)
def KG(k:Int):Prop:=0 < k/\k < 2305843009213688669
theorem aXQ(k:Int):lI (LK k)=bm:=by have e:lI (LK k)=((xX ([gb k],0,0,0,()) && bm) && bm):=rfl;rw[e,aPA _ _ _ (fJ rfl)];simp only[gg,List.all_nil,Lu,bM,Bool.and_true];rfl
theorem aYN(k:Int):abu (LK k):=λb hb=>by rw[bB.1 (show b∈ [([gb k],(0,(0,(0,()))))] from hb)];exact⟨axc (aPi k) aEv,aOH⟩
theorem aOS:Sm z32:=⟨dd,λx hx=>by rw[(pc.1 (show x∈ai 32 (0:Int) from hx)).2];exact⟨eX,eX⟩⟩
theorem aRd(m:Bs){x:Int}(hx:tj 0 x=bm)(to:Int):hP (TA m x to)=bm:=by
 have e2:AY 0 (TA m x to).2.1=((tj 0 x && lI (LK to)) && bm):=rfl;have e1:Hw [] (TA m x to).1=bm:=by show Hw [] [((m,((0:Int),())),(((0:Int),(([]:List Sg),((0:Int),()))),()))]=bm;rw[Hw,Hw];rfl
 unfold hP;rw[e1,e2,aXQ to,hx];rfl
theorem bbF{m:Bs}(hm:Sm m)(x to:Int):th (TA m x to):=by
 refine⟨⟨λo ho=> ?_,by show 1<=_;decide,by show 1<=_;decide⟩,λy hy=> ?_,by show(0:Int)<=_;decide⟩
 ·rw[bB.1 (show o∈ [(x,(LK to,()))] from ho)];exact⟨aYN to,by show 1<=_;decide⟩
 ·rw[bB.1 (show y∈ [((m,((0:Int),())),(((0:Int),(([]:List Sg),((0:Int),()))),()))] from hy)];exact⟨hm,⟨λs hs=>(by cases hs),aOH⟩,aL _⟩
theorem aYf{m:Bs}{x to k:Int}(hx:tj 0 x=bm)(hk:KG k):JF (TA m x to) 0 0 [k]=bm:=by unfold JF;rw[aRd m hx,aX ⟨eX,by show(0:Int) < ((1:Nat):Int);decide,eX,eX,fJ rfl⟩];simp only[eM,iL,Qo];have:=hk.1;have:=hk.2;rw[bo aq];rfl
theorem aPe{m:Bs}{x to k:Int}(hm:Sm m)(hx:tj 0 x=bm)(hk:KG k):hP (UA m x to k)=bm/\th (UA m x to k)/\wz (UA m x to k)=wz (TA m x to)/\dP (UA m x to k)=dP (TA m x to)/\fY (UA m x to k)=fY (TA m x to):=aN6 (bbF hm x to) (aYf hx hk) aOH
theorem bcz{k:Int}(hk:KG k)(m:List Int)(h a:Int)(h0:0<=h)(a0:0<=a):v8 (LK k) (((0:Nat):Int),([k].map (λk=>qC k m),((0:Int),()))) m h a=0:=by have s1:=an0 [k] (aXZ hk) 0 0 0 0 m h a (.inl rfl);rw[if_neg aq]at s1;exact(aRf (l:=LK k) (i:=0) (b:=([k].map gb,0,0,0,())) (aXQ k) (by show 0 < 1;decide) rfl _ _ _ _ _).trans s1
theorem bbG{m:Bs}{x to k:Int}(hm:Sm m)(hx:tj 0 x=bm)(hk:KG k):kD (UA m x to k)=36:=by unfold kD;rw[if_pos (aPe hm hx hk).1];rfl
theorem aYe{m:Bs}{x to k:Int}(hm:Sm m)(hx:tj 0 x=bm)(hk:KG k):AJ.call (TA m x to,0,0,[k],0)=av (UA m x to k,0):=by rw[aHz (d:=(TA m x to,0,0,[k],0)) ⟨bbF hm x to,λy hy=>by rw[bB.1 hy];have:=hk.1;have:=hk.2;exact⟨aq,aq⟩,by show 1<=1000000000;decide⟩];simp only[bq,apP,aN5,aYf hx hk,bO];rfl
theorem baX{m:Bs}{x to k y h g:Int}{C:At}(hm:Sm m)(hx:tj 0 x=bm)(hk:KG k)(hy:0<=y - x)(h1:1<=h)(h2:h<=1048576)(hg:0<=g/\g<=h)
  (hc:cw bQ (m,((0:Int),())) C=av ((y,(LK k,())),(g,()))) (hn:cw bQ (wz (TA m x to),((0:Int),())) C=aH):cK (UA m x to k) h C=(y - x,0):=by
 obtain⟨a1,a2,a3,a4,a5⟩:=aPe (m:=m) (x:=x) (to:=to) (k:=k) hm hx hk;have arY:(UA m x to k).1=[((m,((0:Int),())),(((((0:Nat):Int),([k].map (λk=>qC k (wz (TA m x to))),((0:Int),())))),()))]:=rfl;have aWj:fY (UA m x to k)=[(wz (TA m x to),((0:Int),()))]:=by rw[a5];unfold fY;rw[if_pos (aRd m hx to)];rfl
 generalize wz (TA m x to)=id at hn arY aWj a3;unfold cK;rw[if_pos ⟨a1,h1,h2⟩,arY,a3];have e:rh h id C [((m,((0:Int),())),(((((0:Nat):Int),([k].map (λk=>qC k id),((0:Int),())))),()))] 0= .inr y:=by rw[rh,hc];show(if v8 (LK k) (((0:Nat):Int),([k].map (λk=>qC k id),((0:Int),()))) id h (h - g)≠0 then _ else rh h id C [] (0+y))=_;rw[bcz hk id h (h - g) aq aq,if_neg (λe=>e rfl),rh,mD]
 rw[e,aWj];have n1:([(id,((0:Int),()))]:List cz).any (l5 C)=aZ:=by simp only[eM,iL,l5,hn,ph,qb]
 have n2:gH (UA m x to k).2.1=x:=by show x+0=x;omega
 simp only[n1,bG,bC,n2];rw[if_neg aq]
theorem aZf{t:dM}{h:Int}{C:At}{o:cz}{w:V9×Unit}(gX:hP t=bm)(h1:1<=h)(h2:h<=1048576)(hi:t.1=[(o,w)])(hn:cw bQ o C=aH):cK t h C=(0,5):=by unfold cK;rw[if_pos ⟨gX,h1,h2⟩,hi,rh,hn]
structure eL(a b:dM)(ia ib:Bs):Prop where
 ta:th a
 tb:th b
 aWx:hP a=bm
 aX0:hP b=bm
 aYK:wz a=ia
 aYL:wz b=ib
 baA:dP a=[(z32,((0:Int),()))]
 baB:dP b=[(ia,((0:Int),()))]
 aZ7:fY a=[(ia,((0:Int),()))]
 bbw:fY b=[(ib,((0:Int),()))]
 aXN:∃w,a.1=[((z32,((0:Int),())),w)]
 eA:∃w,b.1=[((ia,((0:Int),())),w)]
 bab:a.2.1=[((910:Int),(LK 3,()))]
 wa:kD a=36
 wb:kD b=36
 la:Sm ia
 lb:Sm ib
 aVj:¬ia=z32
 aXV:¬ib=z32
 aYQ:¬ib=ia
 baY:∀ {h:Int} {C:At},1<=h->h<=1048576->cw bQ (z32,((0:Int),())) C=av (((1000:Int),(LK 2,())),((0:Int),()))->cw bQ (ia,((0:Int),())) C=aH->cK a h C=(90,0)
 baZ:∀ {h g:Int} {C:At},1<=h->h<=1048576->0<=g/\g<=h->cw bQ (ia,((0:Int),())) C=av (((910:Int),(LK 3,())),(g,()))->cw bQ (ib,((0:Int),())) C=aH->cK b h C=(80,0)
def iA:Bs:=wz (TA z32 910 3)
def iB:Bs:=wz (TA iA 830 2)
theorem bcw:¬iA=z32:=by decide+kernel
theorem bcx:¬iB=z32:=by decide+kernel
theorem aZ9:¬iB=iA:=by decide+kernel
theorem k2:KG 2:=⟨eX,eX⟩
theorem k3:KG 3:=⟨eX,eX⟩
theorem aYh:eL (UA z32 910 3 2) (UA iA 830 2 3) iA iB:=by
  have x1:tj 0 910=bm:=rfl;have x2:tj 0 830=bm:=rfl;have hm:Sm iA:=xT;obtain⟨a1,a2,a3,a4,a5⟩:=aPe (m:=z32) (x:=910) (to:=3) (k:=2) aOS x1 k2;obtain⟨b1,b2,b3,b4,b5⟩:=aPe (m:=iA) (x:=830) (to:=2) (k:=3) hm x2 k3;have sp:∀ {m:Bs} {x to:Int},tj 0 x=bm->dP (TA m x to)=[(m,((0:Int),()))]:=λ {m x to} hx=>by unfold dP;rw[if_pos (aRd m hx to)];rfl
  have md:∀ {m:Bs} {x to:Int},tj 0 x=bm->fY (TA m x to)=[(wz (TA m x to),((0:Int),()))]:=λ {m x to} hx=>by unfold fY;rw[if_pos (aRd m hx to)];rfl
  exact {ta:=a2,tb:=b2,aWx:=a1,aX0:=b1,aYK:=a3,aYL:=b3,baA:=a4.trans (sp x1),baB:=b4.trans (sp x2),aZ7:=a5.trans (md x1),bbw:=b5.trans (md x2),aXN:=⟨_,rfl⟩,eA:=⟨_,rfl⟩,bab:=rfl,
          wa:=bbG aOS x1 k2,wb:=bbG hm x2 k3,la:=hm,lb:=xT,aVj:=bcw,aXV:=bcx,aYQ:=aZ9,
          baY:=λh1 h2 hc hn=>baX (y:=1000) (g:=0) aOS x1 k2 eX h1 h2 ⟨eF 0,aq⟩ hc hn,
          baZ:=λh1 h2 hg hc hn=>baX (y:=910) hm x2 k3 eX h1 h2 hg hc hn}
section
def kq:At:=[wO 0 ((1000:Int),(LK 2,())),wO 1 ((500:Int),(LK 3,()))]
theorem g0:cw bQ (z32,((0:Int),())) kq=av (((1000:Int),(LK 2,())),((0:Int),())):=by unfold kq wO;rw[fm];exact if_pos ((F4 _ _).2 rfl)
theorem ba1(m:Bs)(k:Int×Unit)(hm:¬m=z32):cw bQ (m,k) kq=aH:=by
 have h:∀k':Int×Unit,¬Ty.beq bQ (m,k) (ai 32 (0:Int),k')=bm:=λk' e=>hm (bW (λo:cz=>o.1) ((F4 _ _).1 e))
 unfold kq wO;rw[fm,if_neg (h _),fm,if_neg (h _),yq]
theorem aPf:gM kq=1500:=rfl
theorem au8:xV 0 0 kq []:=by
 have aQq:(eH kq).Nodup:=by show(([(z32,((((0:Nat):Int)),())),(z32,((((1:Nat):Int)),()))]:List cz)).Nodup;refine dx.2 ⟨λh=> ?_,dx.2 ⟨λh=>(by cases h),jH⟩⟩;have:=bW (λo:cz=>o.2.1) (bB.1 h);exact absurd this eX
 have one:∀(k:Nat) (x j:Int),k < 64->0<=x->x<=1125899906842624->KD (wO k (x,(LK j,()))).1/\aYo (wO k (x,(LK j,()))).2:=λk x j _ h0 h1=>⟨aOS,aXQ j,aYN j,h0,h1,eF 0,by show(0:Int)<=_;decide⟩
 refine⟨⟨aQq,λp hp=> ?_⟩,az _,az _,λst h=>(by cases h),by rw[aPf];decide,by show 2<=_;decide⟩;rcases cq.1 (show p∈ [wO 0 ((1000:Int),(LK 2,())),wO 1 ((500:Int),(LK 3,()))] from hp) with rfl | hp
 ·exact one 0 1000 2 eX eX eX
 ·rw[bB.1 hp];exact one 1 500 3 eX eX eX
theorem aXW:Dz [((1000:Int),(LK 2,())),((500:Int),(LK 3,()))]=av (.inr (kq,[])):=by
 have e:Rp [((1000:Int),(LK 2,())),((500:Int),(LK 3,()))]=av kq:=by
  unfold Rp;rw[if_pos (fJ rfl)];have e0:rv 0 ((1000:Int),(LK 2,()))=bm:=by unfold rv;rw[aXQ 2];rfl
  have e1:rv (0+1000) ((500:Int),(LK 3,()))=bm:=by unfold rv;rw[aXQ 3];rfl
  rw[DQ,e0];show Option.map _ (DQ (0+1000) 1 [((500:Int),(LK 3,()))])=_;rw[DQ,e1];rfl
 rw[ajU (d:=[((1000:Int),(LK 2,())),((500:Int),(LK 3,()))]) (λo ho=>by
  rcases cq.1 ho with rfl | ho
  ·exact⟨aYN 2,by show 1<=_;decide,by show(1000:Int)<=_;decide⟩
  ·rw[bB.1 ho];exact⟨aYN 3,by show 1<=_;decide,by show(500:Int)<=_;decide⟩)]
 simp only[N5,e];rfl
def CG(C:At):Prop:=uY C kq/\(eH C).Nodup
theorem aqY:CG kq:=⟨uY.refl _,au8.nT.1⟩
theorem CG.can{C:At}(h:CG C):CG (fC C):=⟨(Hn h.2).1.trans h.1,(Hn h.2).2⟩
theorem aLE{m m':Bs}{k k':Int×Unit}(h:¬m=m'):¬((m,k):cz)=(m',k'):=λe=>h (bW (λo:cz=>o.1) e)
theorem anZ{m m':Bs}{k k':Int×Unit}(h:¬m=m'):(m,k) ∉ ([(m',k')]:List cz):=λe=>aLE h (bB.1 e)
theorem aJP{x y:cz}(h:¬x=y):aaT x y=aZ:=by
 cases e:aaT x y with
 |false=>rfl
 |true=>exact absurd ((F4 _ _).1 e) h
theorem aA0(x:cz):aaT x x=bm:=(F4 _ _).2 rfl
section
variable {a b:dM} {ia ib:Bs} {C:At}
theorem eL.c1(T:eL a b ia ib)(hC:CG C){h:Int}(h1:1<=h)(h2:h<=1048576):cK a h C=(90,0):=T.baY h1 h2 ((hC.1 _).trans g0) ((hC.1 _).trans (ba1 ia _ T.aVj))
theorem eL.f1(T:eL a b ia ib)(hC:CG C):qI a 1 C 90:=by have c:=T.c1 hC (h:=1) eX eX;have:=y3 (t:=a) (h:=1) (a:=C) (by rw[c]);rw[c]at this;exact this
theorem eL.g1(T:eL a b ia ib)(hC:CG C):cw bQ (ia,((0:Int),())) (cG a 1 C)=av (((910:Int),(LK 3,())),((1:Int),())):=by have hm:=T.aZ7;have ho:=T.bab;have:=(T.f1 hC).new (k:=0) (by rw[hm];exact Nat.one_pos) (by rw[ho];exact Nat.one_pos);simp only[hm,ho,List.getElem_cons_zero]at this;exact this
theorem eL.n1(T:eL a b ia ib)(hC:CG C):cw bQ (ib,((0:Int),())) (cG a 1 C)=aH:=by rw[Bp hC.2 (by rw[T.baA];exact anZ T.aXV) (by rw[T.aZ7];exact anZ T.aYQ)];exact(hC.1 _).trans (ba1 ib _ T.aXV)
theorem eL.c2(T:eL a b ia ib)(hC:CG C){h:Int}(h1:1<=h)(h2:h<=1048576):cK b h (cG a 1 C)=(80,0):=T.baZ h1 h2 ⟨eX,h1⟩ (T.g1 hC) (T.n1 hC)
theorem eL.nd(T:eL a b ia ib)(hC:CG C):(eH (cG a 1 C)).Nodup:=gZ hC.2
theorem eL.f2(T:eL a b ia ib)(hC:CG C):qI b 1 (cG a 1 C) 80:=by have c:=T.c2 hC (h:=1) eX eX;have:=y3 (t:=b) (h:=1) (a:=cG a 1 C) (by rw[c]);rw[c]at this;exact this
theorem eL.c3(T:eL a b ia ib)(hC:CG C):cK a 1 (cG b 1 (cG a 1 C))=(0,5):=by
 obtain⟨w,hw⟩:=T.aXN;refine aZf T.aWx eX eX hw ?_
 rw[Bp (T.nd hC) (by rw[T.baB];exact anZ (λe=>T.aVj e.symm)) (by rw[T.bbw];exact anZ (λe=>T.aXV e.symm))];exact(T.f1 hC).aTM hC.2 (by rw[T.baA];exact bB.2 rfl)
theorem eL.aT1(T:eL a b ia ib){BE:kE}{l:List cz}(h:BE.2.2.2.2.1=l):Br BE a=l.any (aaT (z32,((0:Int),()))):=by obtain⟨w,hw⟩:=T.aXN;unfold Br Wl;rw[hw,h,eM,iL,qb]
theorem eL.aWK(T:eL a b ia ib){BE:kE}{l:List cz}(h:BE.2.2.2.2.1=l):Br BE b=l.any (aaT (ia,((0:Int),()))):=by obtain⟨w,hw⟩:=T.eA;unfold Br Wl;rw[hw,h,eM,iL,qb]
theorem eL.walk(T:eL a b ia ib)(hC:CG C){BE:kE}(h:BE.2.2.2.2.1=[]):qD BE 1 [a,b] C=(2,170,0):=by
 have hC:=hC.can;have e1:Br BE a=aZ:=(T.aT1 h).trans rfl;have e2:Br BE b=aZ:=(T.aWK h).trans rfl;unfold qD;have c1:=T.c1 hC (h:=1) eX eX;have c2:=T.c2 hC (h:=1) eX eX;have e:jv BE 1 [a,b] 0 0 (fC C)= .inr 170:=by rw[jv,e1,if_neg eX,c1,if_neg (λe=>e rfl),jv,e2,if_neg eX,c2,if_neg (λe=>e rfl),jv];rfl
 rw[e];rfl
theorem eL.aVZ(T:eL a b ia ib){BE:kE}(h:BE.2.2.2.2.1=[(ia,((0:Int),()))])(hC:CG C):(qD BE 1 [a,b] C).2.2=14:=by
 have hC:=hC.can;have e1:Br BE a=aZ:=by rw[T.aT1 h,eM,iL,aJP (aLE λe=>T.aVj e.symm)];rfl
 have e2:Br BE b=bm:=by rw[T.aWK h,eM,aA0];rfl
 unfold qD;have c1:=T.c1 hC (h:=1) eX eX;rw[jv,e1,if_neg eX,c1,if_neg (λe=>e rfl),jv,e2,if_pos rfl]
def wA(n:Nat)(a:dM)(ia:Bs):Nat×Db:=(n,(a,(ia,(90,(36,())))))
def wB(n:Nat)(b:dM)(ib:Bs):Nat×Db:=(n,(b,(ib,(80,(36,())))))
variable {n k:Nat}
theorem aVA:CJ [av (wA n a ia)]=[(ia,av (wA n a ia))]:=rfl
theorem eL.aVB(T:eL a b ia ib):CJ [av (wA n a ia),av (wB k b ib)]=[(ia,av (wA n a ia)),(ib,av (wB k b ib))]:=by show fp tH ib (av (wB k b ib)) [(ia,av (wA n a ia))]=_;rw[DN,if_neg (by rw[ahT,bo T.aYQ];decide),W6]
theorem akr{q:aOU}{t:dM}{i:ji}{m:Mk}{j:Nat}(h:t.1=[i]):j6 q (j+1) t m=match abp q i with
   |none=>av m
   |some x=>if js m (av x)=bm then av m else if i.1.2.1 < 0 then av m else if(x.2.1.2.1.length:Int)<=i.1.2.1 then av m else j6 q j x.2.1 (fp dF (av x) bm m):=by
 obtain⟨l,o⟩:=t;have h:l=[i]:=h;subst h;rfl
def aAo(a b:dM)(ia ib:Bs)(q:aOU)(n:Nat):Prop:=cw tH z32 q=aH/\cw tH ia q=av (av (wA n a ia))
theorem eL.r1(T:eL a b ia ib):aAo a b ia ib (CJ [av (wA n a ia)]) n:=by rw[aVA];exact⟨by rw[fm,if_neg (by rw[ahT,bo (λe=>T.aVj e.symm)];decide),yq],by rw[fm,if_pos (by rw[ahT,aX rfl])]⟩
theorem eL.r2(T:eL a b ia ib):aAo a b ia ib (CJ [av (wA n a ia),av (wB k b ib)]) n:=by rw[T.aVB];exact⟨by rw[fm,if_neg (by rw[ahT,bo (λe=>T.aVj e.symm)];decide),fm,if_neg (by rw[ahT,bo (λe=>T.aXV e.symm)];decide),yq],by rw[fm,if_pos (by rw[ahT,aX rfl])]⟩
variable {q:aOU}
theorem eL.mA(T:eL a b ia ib)(h:cw tH z32 q=aH)(j:Nat)(m:Mk):j6 q (j+1) a m=av m:=by
 obtain⟨w,hw⟩:=T.aXN;have e:abp q ((z32,((0:Int),())),w)=aH:=by unfold abp;rw[h];rfl
 rw[akr hw,e]
theorem eL.mB(T:eL a b ia ib)(h:aAo a b ia ib q n)(j:Nat):j6 q (j+2) b []=av [(av (wA n a ia),bm)]:=by
 obtain⟨w,hw⟩:=T.eA;have e:abp q ((ia,((0:Int),())),w)=av (wA n a ia):=by unfold abp;rw[h.2];rfl
 rw[akr hw,e];show(if js [] (av (wA n a ia))=bm then av [] else if(0:Int) < 0 then av [] else if(a.2.1.length:Int)<=0 then av [] else j6 q (j+1) a (fp dF (av (wA n a ia)) bm []))=_;rw[aEN,if_neg eX,if_neg eX,if_neg (by rw[T.bab];decide),T.mA h.1];rfl
theorem eL.aA(T:eL a b ia ib){row:List eO}(h:cw tH z32 (CJ row)=aH):oc row a=[]:=by unfold oc;rw[T.mA h];rfl
theorem eL.aB(T:eL a b ia ib){row:List eO}(h:aAo a b ia ib (CJ row) n):oc row b=[(av (wA n a ia),bm)]:=by unfold oc;rw[T.mB h];rfl
theorem arA{row:List eO}{t:dM}{j:Nat}(h:(j6 (CJ row) 3 t []).isSome=bm)(h2:oc row t=[]):wV row (j+1) t=av 1:=by rw[wV,if_pos h,h2]
theorem aJC{row:List eO}{t:dM}{x:Nat×Db}{j:Nat}{d:Int}(h:(j6 (CJ row) 3 t []).isSome=bm)(h2:oc row t=[(av x,bm)])(h3:wV row j x.2.1=av d):wV row (j+1) t=av (bz .i64 (imax 0 d) 1):=by rw[wV,if_pos h,h2];simp only[h3]
theorem eL.one(T:eL a b ia ib):aHW (wA n a ia)/\aHW (wB k b ib):=⟨⟨T.ta,T.aWx,T.la.1⟩,T.tb,T.aX0,T.lb.1⟩
theorem eL.bat(T:eL a b ia ib):KK [av (wA n a ia)]:=⟨fJ rfl,λx hx=>⟨_,bB.1 hx,(T.one (n:=n) (k:=0)).1⟩⟩
theorem eL.bau(T:eL a b ia ib):KK [av (wA n a ia),av (wB k b ib)]:=⟨fJ rfl,λx hx=>by
 rcases cq.1 hx with h | h
 ·exact⟨_,h,(T.one (n:=n) (k:=k)).1⟩
 ·exact⟨_,bB.1 h,(T.one (n:=n) (k:=k)).2⟩⟩
theorem eL.aVN(T:eL a b ia ib)(l:List cz):j9 a l=l.any (aaT (z32,((0:Int),()))):=by obtain⟨w,hw⟩:=T.aXN;unfold j9 aHa;rw[hw,eM,iL,qb]
theorem eL.baz(T:eL a b ia ib)(l:List cz):j9 b l=l.any (aaT (ia,((0:Int),()))):=by obtain⟨w,hw⟩:=T.eA;unfold j9 aHa;rw[hw,eM,iL,qb]
theorem xV.zero{C:At}(hC:CG C)(hp:C.Perm kq):xV 300 0 C []:=by
 have hg:Wf kq:=au8.nT;exact⟨hg.perm hp.symm,az _,aL _,λst h=>(by cases h),by
  have e:gM C=gM kq:=vI hp;rw[e,aPf];decide,by rw[hp.length_eq];show 2<=_;decide⟩
theorem eL.aUi(T:eL a b ia ib)(hC:CG C):Kx 1 [] a 0 C []=(90,0):=by show cK a 1 (fC C)=_;exact T.c1 hC.can eX eX
theorem eL.aUj(T:eL a b ia ib)(hC:CG C):Kx 1 [av (wA n a ia)] b 0 C []=(80,0):=by
 unfold Kx aU7;rw[T.aB T.r1];show cK b 1 (Ra 1 [(av (wA n a ia),bm)] (0,fC C,[]) (av (wA n a ia))).2.1=_;have hm:js [(av (wA n a ia),bm)] (av (wA n a ia))=bm:=by unfold js;rw[fm,if_pos (beq_refl dF _ rfl)];rfl
 rw[show Ra 1 [(av (wA n a ia),bm)] (0,fC C,[]) (av (wA n a ia))=F3 1 (0,fC C,[]) a from if_pos hm];have c1:=T.c1 hC.can (h:=1) eX eX;rw[show F3 1 (0,fC C,[]) a=(1,cG a 1 (fC C),[stepOf a (fC C)]) from if_neg (by show ¬(cK a 1 (fC C)).2≠0;rw[c1];exact λe=>e rfl)];exact T.c2 hC.can eX eX
theorem eL.aY7(T:eL a b ia ib)(hC:CG C)(hp:C.Perm kq):aTP a (1,([],())) 0 C [] where
 tv:=T.ta
 tok:=T.aWx
 row:=⟨aL _,λx hx=>by cases hx⟩
 new:=rfl
 aXY:=λw hw=>by cases hw
 ah:=λw hw=>by cases hw
 dp:=⟨1,arA (by rw[T.mA rfl];rfl) (T.aA rfl),eX⟩
 st:=xV.zero hC hp
 ck:=by show(Kx 1 [] a 0 C []).2=0;rw[T.aUi hC]
 fe:=by show kD a<=(Kx 1 [] a 0 C []).1;rw[T.aUi hC,T.wa];decide
theorem eL.aX4(T:eL a b ia ib)(hC:CG C):aLC (1,([],())) a 0 C []=(wA n a ia).2:=by show(a,(wz a,((Kx 1 [] a 0 C []).1,(kD a,()))))=_;rw[T.aUi hC,T.wa,T.aYK];rfl
theorem eL.aY8(T:eL a b ia ib)(hC:CG C)(hp:C.Perm kq):aTP b (1,([av (wA n a ia)],())) 0 C [] where
 tv:=T.tb
 tok:=T.aX0
 row:=T.bat
 new:=by rw[T.aYL];show [av (wA n a ia)].find? (aXK ib)=aH;rw[List.find?_cons_of_neg (by show ¬decide (ia=ib)=bm;rw[bo λe=>T.aYQ e.symm];decide)];rfl
 aXY:=λw hw=>by obtain rfl:=bf (bB.1 hw);show j9 a (dP b)=aZ;rw[T.aVN,T.baB,eM,iL,aJP (aLE λe=>T.aVj e.symm)];rfl
 ah:=λw hw=>by obtain rfl:=bf (bB.1 hw);show(j6 (CJ [av (wA n a ia)]) 3 a []).isSome=bm;rw[T.mA T.r1.1];rfl
 dp:=⟨2,aJC (by show(j6 (CJ [av (wA n a ia)]) 3 b []).isSome=bm;rw[T.mB T.r1];rfl) (T.aB T.r1) (arA (by show(j6 (CJ [av (wA n a ia)]) 3 a []).isSome=bm;rw[T.mA T.r1.1];rfl) (T.aA T.r1.1)),eX⟩
 st:=xV.zero hC hp
 ck:=by show(Kx 1 [av (wA n a ia)] b 0 C []).2=0;rw[T.aUj hC]
 fe:=by show kD b<=(Kx 1 [av (wA n a ia)] b 0 C []).1;rw[T.aUj hC,T.wb];decide
theorem eL.aX5(T:eL a b ia ib)(hC:CG C):aLC (1,([av (wA n a ia)],())) b 0 C []=(wB k b ib).2:=by show(b,(wz b,((Kx 1 [av (wA n a ia)] b 0 C []).1,(kD b,()))))=_;rw[T.aUj hC,T.wb,T.aYL];rfl
theorem asL(h:¬k=n):Ty.beq dF (av (wA n a ia)) (av (wB k b ib))=aZ/\Ty.beq dF (av (wB k b ib)) (av (wA n a ia))=aZ:=by
 constructor
 ·cases e:Ty.beq dF (av (wA n a ia)) (av (wB k b ib)) with
  |false=>rfl
  |true=>exact absurd (bW (λx:Nat×Db=>x.1) (bf (beq_eq dF _ _ rfl e))) λx=>h x.symm
 ·cases e:Ty.beq dF (av (wB k b ib)) (av (wA n a ia)) with
  |false=>rfl
  |true=>exact absurd (bW (λx:Nat×Db=>x.1) (bf (beq_eq dF _ _ rfl e))) h
theorem abz(x:eO):Ty.beq dF x x=bm:=beq_refl dF x rfl
theorem SL{bar:List cz}{pk mk:Mk}{x:eO}{S:Bt}{w:Nat×Db}(h1:js pk (av w)=aZ)(h2:¬(Ty.beq dF (av w) x=aZ/\js mk (av w)=aZ)):Kv bar pk mk x S (av w)=(S.1 && !j9 w.2.1 bar,S.2.1+1,(bz .i64 S.2.2.1.1 w.2.2.2.1,(bz .i64 S.2.2.1.2.1 w.2.2.2.2.1,S.2.2.1.2.2)),S.2.2.2++ [av w]):=
 (if_neg (by rw[h1];decide)).trans (if_neg h2)
theorem aqV{bar:List cz}{pk mk:Mk}{x y:eO}{S:Bt}(h1:js pk y=bm\/(Ty.beq dF y x=aZ/\js mk y=aZ)):Kv bar pk mk x S y=S:=by
 unfold Kv;by_cases h0:js pk y=bm
 ·rw[if_pos h0]
 ·rw[if_neg h0,if_pos (h1.resolve_left h0)]
theorem T3{x:eO}{m:Mk}:js ((x,bm)::m) x=bm:=by unfold js;rw[fm,if_pos (abz x)];rfl
theorem adV{x y:eO}{m:Mk}(h:Ty.beq dF x y=aZ):js ((y,bm)::m) x=js m x:=by unfold js;rw[fm,if_neg (by rw[h];decide)]
variable {bar:List cz}
theorem eL.aUe(T:eL a b ia ib)(h:¬k=n):px bar [av (wA n a ia),av (wB k b ib)] [] (wA n a ia)=(!j9 a bar,1,(90,(36,())),[av (wA n a ia)]):=by unfold px;rw[show(wA n a ia).2.1=a from rfl,T.aA T.r2.1,bn,bn,ct,aqV (y:=av (wB k b ib)) (.inr ⟨(asL h).2,rfl⟩),SL (w:=wA n a ia) rfl (λe=>by rw[abz]at e;cases e.1)];simp only[bM,aY];exact bW (λz:Bool=>(z,1,(90,(36,())),[av (wA n a ia)])) rfl
theorem eL.aUf(T:eL a b ia ib)(h:¬k=n):px bar [av (wA n a ia),av (wB k b ib)] [] (wB k b ib)=(!j9 a bar && !j9 b bar,2,(170,(72,())),[av (wA n a ia),av (wB k b ib)]):=by unfold px;rw[show(wB k b ib).2.1=b from rfl,T.aB T.r2,bn,bn,ct,SL (w:=wB k b ib) rfl (λe=>by rw[abz]at e;cases e.1),SL (w:=wA n a ia) rfl (λe=>by rw[T3]at e;cases e.2)];simp only[bM,aY];rfl
theorem eL.aZb(T:eL a b ia ib)(h:¬k=n):px bar [av (wA n a ia),av (wB k b ib)] [(av (wA n a ia),bm)] (wB k b ib)=(!j9 b bar,1,(80,(36,())),[av (wB k b ib)]):=by unfold px;rw[show(wB k b ib).2.1=b from rfl,T.aB T.r2,bn,bn,ct,SL (w:=wB k b ib) ((adV (asL h).2).trans rfl) (λe=>by rw[abz]at e;cases e.1),aqV (y:=av (wA n a ia)) (.inl T3)];simp only[bM,aY];rfl
theorem vN{room:Int}{row:List eO}{pk:Mk}{B:aPa}{w:Nat×Db}(h:js pk (av w)=bm\/(px bar row pk w).1=aZ\/¬(px bar row pk w).2.2.1.2.1<=room\/(B.1.isNone=aZ/\ajW (av w,((px bar row pk w).2.2.2,(px bar row pk w).2.2.1)) B=aZ)):EI room bar row pk B (av w)=B:=by
 unfold EI;split
 ·rfl
 rename_i h0;rcases h with h | h | h | ⟨h,h'⟩
 ·exact absurd h h0
 ·simp only;rw[if_neg (by rw[h];decide)]
 ·simp only;split <;> rfl
 ·simp only;split
  ·split
   ·rw[if_neg (by rw[h];decide),if_neg (by rw[h'];decide)]
   ·rfl
  ·rfl
theorem ajC{room:Int}{row:List eO}{pk:Mk}{B:aPa}{w:Nat×Db}(h0:js pk (av w)=aZ)(h1:(px bar row pk w).1=bm)(h2:(px bar row pk w).2.2.1.2.1<=room)(h3:B.1.isNone=bm):EI room bar row pk B (av w)=(av w,((px bar row pk w).2.2.2,(px bar row pk w).2.2.1)):=
 (if_neg (by rw[h0];decide)).trans ((if_pos h1).trans ((if_pos h2).trans (if_pos h3)))
theorem Xd{room:Int}{row:List eO}{pk:Mk}{out:List dM}{f:Nat}(h:(jM room bar row pk).1=aH):kI bar row (f+1) room pk out=av out:=by rw[kI,h]
theorem aBN{room:Int}{row:List eO}{pk:Mk}{out:List dM}{f:Nat}{w:Nat×Db}{B:(List eO)×(Int×(Int×Unit))}(h:jM room bar row pk=(av w,B)):kI bar row (f+1) room pk out=kI bar row f (df .i64 room B.2.2.1) (Et B.1 pk out).2.1 (Et B.1 pk out).2.2:=by rw[kI,h]
theorem aqw{room:Int}{pk:Mk}{x y:eO}:jM room bar [x,y] pk=EI room bar [x,y] pk (EI room bar [x,y] pk (aH,([],(0,(0,())))) x) y:=rfl
theorem eL.aX1(T:eL a b ia ib)(h:¬k=n):kI [] [av (wA n a ia),av (wB k b ib)] 100 3900 [] []=av [a,b]:=by
 have s1:j9 a []=aZ:=T.aVN [];have s2:j9 b []=aZ:=T.baz [];have hA:=T.aUe (bar:=[]) h;have hB:=T.aUf (bar:=[]) h;have hC:=T.aZb (bar:=[]) h;rw[s1]at hA hB;rw[s2]at hB hC;have b1:jM 3900 [] [av (wA n a ia),av (wB k b ib)] []=(av (wA n a ia),([av (wA n a ia)],(90,(36,())))):=by rw[aqw,ajC (w:=wA n a ia) rfl (by rw[hA];rfl) (by rw[hA];show(36:Int)<=3900;decide) rfl,hA,vN (w:=wB k b ib) (.inr (.inr (.inr ⟨rfl,by rw[hB];rfl⟩)))]
 have b2:jM 3864 [] [av (wA n a ia),av (wB k b ib)] [(av (wA n a ia),bm)]=(av (wB k b ib),([av (wB k b ib)],(80,(36,())))):=by rw[aqw,vN (w:=wA n a ia) (.inl T3),ajC (w:=wB k b ib) ((adV (asL h).2).trans rfl) (by rw[hC];rfl) (by rw[hC];show(36:Int)<=3864;decide) rfl,hC]
 have t2:Et [av (wB k b ib)] [(av (wA n a ia),bm)] [a]=(2,[(av (wA n a ia),bm),(av (wB k b ib),bm)],[a,b]):=by show(2,fp dF (av (wB k b ib)) bm [(av (wA n a ia),bm)],[a,b])=_;rw[DN,if_neg (by rw[(asL h).2];decide),W6]
 have b3:jM 3828 [] [av (wA n a ia),av (wB k b ib)] [(av (wA n a ia),bm),(av (wB k b ib),bm)]=(aH,([],(0,(0,())))):=by rw[aqw,vN (w:=wA n a ia) (.inl T3),vN (w:=wB k b ib) (.inl ((adV (asL h).2).trans T3))]
 rw[aBN b1];show kI [] _ 99 3864 [(av (wA n a ia),bm)] [a]=_;rw[aBN b2,t2];show kI [] _ 98 3828 _ _=_;rw[Xd (by rw[b3])]
theorem eL.aX2(T:eL a b ia ib)(h:¬k=n):kI [] [av (wA n a ia),av (wB k b ib)] 100 0 [] []=av []:=by
 have hA:=T.aUe (bar:=[]) h;have hB:=T.aUf (bar:=[]) h;refine Xd ?_
 rw[aqw,vN (w:=wA n a ia) (.inr (.inr (.inl (by rw[hA];show ¬(36:Int)<=0;decide)))),vN (w:=wB k b ib) (.inr (.inr (.inl (by rw[hB];show ¬(72:Int)<=0;decide))))]
theorem eL.aX3(T:eL a b ia ib)(h:¬k=n):kI [(z32,((0:Int),()))] [av (wA n a ia),av (wB k b ib)] 100 3900 [] []=av []:=by
 have s1:j9 a [(z32,((0:Int),()))]=bm:=by rw[T.aVN,eM,aA0];rfl
 have hA:=T.aUe (bar:=[(z32,((0:Int),()))]) h;have hB:=T.aUf (bar:=[(z32,((0:Int),()))]) h;rw[s1]at hA hB;refine Xd ?_
 rw[aqw,vN (w:=wA n a ia) (.inr (.inl (by rw[hA];rfl))),vN (w:=wB k b ib) (.inr (.inl (by rw[hB];rfl)))]
theorem eL.pg(T:eL a b ia ib)(hb:bar.length<=1000):ajt bar [av (wA n a ia),av (wB k b ib)]:=⟨T.bau,hb,λw hw=>by
 rcases cq.1 hw with e | e
 ·obtain rfl:=bf e;show(j6 _ 3 a []).isSome=bm;rw[T.mA T.r2.1];rfl
 ·obtain rfl:=bf (bB.1 e);show(j6 _ 3 b []).isSome=bm;rw[T.mB T.r2];rfl⟩
end
end
section
def aEu:Int->Prop:=λk=>lG k
def aBi:Int->Lk:=λk=>LK k
def Lx:Fs Tryz.prog aEu bq aBi:=eV 49 Tryz.f49 (λkv=>([.d tu kv],[])) (λx=>⟨.d P9 x,[],[]⟩) [av tu] [Ug]
theorem aKL(kv)(k:K1 R):Lx.A kv k=ao (LX.call kv) λx1=>k (Lx.out ([([x1],(0,(0,(0,()))))],())):=cd
theorem aKM:Lx.Ok:=by intro k hk;rw[aKL,HF (d:=k) hk];rfl
theorem WW:Lx.RS:=rE [.d tu] Lx
def asi:=Lx.eY aKM
abbrev aBD:=cz×Int×Int×Int×Int
def aFg:aBD->Prop:=λ(o,aH5,k,to,gB)=>(Sm o.1/\o.2.1=0)/\tj 0 (df .i64 aH5 gB)=bm/\KG k/\lG to
def aRo:aBD->dM:=λ(o,aH5,k,to,gB)=>UA o.1 (df .i64 aH5 gB) to k
def PB:Fs Tryz.prog aFg bq aRo:=eV 51 Tryz.f51 (λ(fromv,amount,kv,to,gB)=>([.d bQ fromv,.d ti amount,.d tu kv,.d tu to,.d ti gB],[])) (λx=>⟨.d dU x,[],[]⟩) [av bQ,av ti,av tu,av tu,av ti] [asi,aOA]
theorem aLQ(fromv amount kv to gB)(k:K1 R):PB.A (fromv,amount,kv,to,gB) k=ao (Lx.call to) λx1=>ao (AJ.call (([(fromv,((0,(([]:List Sg),(0,()))),()))],([((df .i64 amount gB),(x1,()))],(0,()))),0,0,[kv],0)) λx2=>k (PB.out x2.1):=cd
theorem aLR:PB.Ok:=by
 rintro⟨⟨m,z,u⟩,aH5,k,to,gB⟩ ⟨⟨hm,hz⟩,hx,hk,ht⟩;have hz:z=0:=hz;subst hz;rw[aLQ,WW (d:=to) ht];simp only[ag,bq,aBi];refine(bW (λz=>ao z _) (aYe (m:=m) (x:=df .i64 aH5 gB) (to:=to) (k:=k) hm hx hk)).trans ?_
 rfl
theorem akI:PB.RS:=rE [.d bQ,.d ti,.d tu,.d tu,.d ti] PB
def aLS:=PB.eY aLR
def aVs:Bs:=[1,0,0,0,0,0,0,0,0,0,0,0,0,0,0,0,0,0,0,0,0,0,0,0,0,0,0,0,0,0,0,0]
def sj(l:List dM)(fill:Int)(bar:List cz):kE:=(1,(aVs,(l,(fill,(bar,())))))
def bby:Bs:=bS (⟨#[98,108,111,99,107]⟩:ByteArray)
def aXL(ia ib:Bs):Bs:=tag bby [cQ (cQ ((cQ (cQ [] 1++aVs) 2++ia)++ib) 100) 0]
theorem eL.aXL{a b:dM}{ia ib:Bs}(T:eL a b ia ib):aS6 (sj [a,b] 100 [])=Ab.aXL ia ib:=by unfold aS6 aS5;show tag bby [cQ (cQ ((cQ (cQ [] 1++aVs) 2++wz a)++wz b) 100) 0]=_;rw[T.aYK,T.aYL];rfl
theorem baa:¬aXL iA iB=aS6 (sj [] 4000 []):=by decide+kernel
section
variable {a b:dM} {ia ib:Bs} {C:At}
theorem eL.bk(T:eL a b ia ib){l:List dM}(hl:l=[a,b]\/l=[]){fill:Int}{bar:List cz}(hf:fill<=1000000)(hb:bar.length<=1000/\∀o∈bar,al7 o):Sj (sj l fill bar):=by
 have hv:l.length<=2/\∀t∈l,th t/\hP t=bm:=by
  rcases hl with rfl | rfl
  ·refine⟨fJ rfl,λt ht=> ?_⟩;rcases cq.1 ht with rfl | ht
   ·exact⟨T.ta,T.aWx⟩
   ·rw[bB.1 ht];exact⟨T.tb,T.aX0⟩
  ·exact⟨aL _,λt ht=>by cases ht⟩
 exact⟨⟨⟨by show l.length<=_;omega,λt ht=>(hv.2 t ht).1⟩,⟨by show(1:Int)<=_;decide,rfl,by show fill<=_;omega⟩,hb.1,hb.2⟩,by show l.length<=_;omega,λt ht=>jy (iq (hv.2 t ht).2).1.2.1 eX⟩
theorem aLr:([]:List cz).length<=1000/\∀o∈([]:List cz),al7 o:=⟨aL _,λo ho=>by cases ho⟩
theorem eL.ami(T:eL a b ia ib)(fill:Int)(bar:List cz):aIm (sj [a,b] fill bar)=fill+72:=by show fill+kD a+kD b=_;rw[T.wa,T.wb];omega
theorem an4{l:List dM}{fill:Int}{bar:List cz}:ju (sj l fill bar) C=if wY 1 fill=bm then(if 4000 < aIm (sj l fill bar) then(0,3) else(qD (sj l fill bar) 1 l C).2) else(0,1):=rfl
theorem eL.aTI(T:eL a b ia ib)(hC:CG C):ju (sj [a,b] 100 []) C=(170,0):=by rw[an4,if_pos (show wY 1 100=bm from rfl),T.ami,if_neg eX];rw[T.walk hC rfl]
theorem eL.aVu(T:eL a b ia ib)(hC:CG C):(ju (sj [a,b] 100 [(ia,((0:Int),()))]) C).2=14:=by rw[an4,if_pos (show wY 1 100=bm from rfl),T.ami,if_neg eX];exact T.aVZ rfl hC
theorem eL.aLP(T:eL a b ia ib):(ju (sj [a,b] 3980 []) C).2=3:=by rw[an4,if_pos (show wY 1 3980=bm from rfl),T.ami,if_pos eX]
theorem eL.bbx(T:eL a b ia ib)(hC:CG C):(eH (cG b 1 (cG a 1 C))).Nodup:=gZ (T.nd hC)
theorem eL.aVv(T:eL a b ia ib)(hC:CG C):(ju (sj [a,b] 100 []) (cG b 1 (cG a 1 C))).2=5:=by have hn:=T.bbx hC;have e:=(Hn hn).1;rw[an4,if_pos (show wY 1 100=bm from rfl),T.ami,if_neg eX];have e1:Br (sj [a,b] 100 []) a=aZ:=(T.aT1 rfl).trans rfl;unfold qD;rw[jv,e1,if_neg eX,e.check,T.c3 hC,if_pos eX]
theorem eL.comes(T:eL a b ia ib)(hC:CG C):KI C ([a,b].map λt=>(t,(1:Int))):=by
 refine⟨?_,T.ta,?_,T.tb,trivial⟩
 ·show(cK a 1 C).2=0;rw[T.c1 hC eX eX]
 ·show(cK b 1 (cG a 1 C)).2=0;rw[T.c2 hC eX eX]
theorem eL.st2(T:eL a b ia ib):xV 2 2 (cG b 1 (cG a 1 kq)) [stepOf a kq,stepOf b (cG a 1 kq)]:=acD ([a,b].map λt=>(t,(1:Int))) (n:=0) (a:=kq) (s:=[]) rfl au8 (T.comes aqY)
theorem eL.baD(T:eL a b ia ib):gM (cG b 1 (cG a 1 kq))=1330:=by rw[((T.f2 aqY).sum (T.nd aqY)).1,((T.f1 aqY).sum aqY.2).1,aPf];rfl
theorem eL.BE(T:eL a b ia ib):aT9 (sj [a,b] 100 []) (0,kq,[])=(2,cG b 1 (cG a 1 kq),[stepOf a kq,stepOf b (cG a 1 kq)]):=by show F3 1 (F3 1 (0,kq,[]) a) b=_;have c1:=T.c1 aqY (h:=1) eX eX;have c2:=T.c2 aqY (h:=1) eX eX;rw[show F3 1 (0,kq,[]) a=(1,cG a 1 kq,[stepOf a kq]) from if_neg (by show ¬(cK a 1 kq).2≠0;rw[c1];exact λe=>e rfl)];exact if_neg (by show ¬(cK b 1 (cG a 1 kq)).2≠0;rw[c2];exact λe=>e rfl)
theorem eL.aYX(T:eL a b ia ib):∃A,KC 2 (2,cG b 1 (cG a 1 kq),[stepOf a kq,stepOf b (cG a 1 kq)])=(bm,0,A,[stepOf a kq,stepOf b (cG a 1 kq)])/\A.Perm kq:=by obtain⟨A,h1,h2,h3,_⟩:=ahy 2 ([a,b].map λt=>(t,(1:Int))) (a0:=kq) (a:=cG b 1 (cG a 1 kq)) (n:=2) (s:=[stepOf a kq,stepOf b (cG a 1 kq)]) (p:=[]) rfl (T.comes aqY) aqY.2 (T.bbx aqY) (uY.refl _) (az _) rfl;exact⟨A,h1,h2.perm h3 aqY.2⟩
theorem JV.two(T:eL a b ia ib):JV [a,b]:=⟨fJ rfl,λt ht=>by
 rcases cq.1 ht with rfl | ht
 ·exact⟨T.ta,jy (iq T.aWx).1.2.1 eX⟩
 ·rw[bB.1 ht];exact⟨T.tb,jy (iq T.aX0).1.2.1 eX⟩⟩
theorem JV.nil:JV []:=⟨aL _,λt ht=>by cases ht⟩
theorem avw(BE:kE)(h:Int)(a:At):qD BE h [] a=(0,0,0):=rfl
theorem axo{l:List dM}{fill:Int}{bar:List cz}{k:Int}{row:List eO}{D:At}(h0:wY 1 fill=bm)(hg:ajt bar row)(hp:kI bar row 100 (df .i64 4000 fill) [] []=av l)(hw:JV l)(hk:qD iP.zero 1 l kq=(k,(qD iP.zero 1 l kq).2))(hl:l.take k.toNat=l):
  Hi.call (aVs,1,fill,bar,0,kq,[],(1,(row,())),0,D,[])=av (sj l fill bar,0,0,kq,[],(1,(row,())),0,D,[]):=by
 have e:Zy (1,(row,())) bar fill=l:=by show(kI bar row 100 (df .i64 4000 fill) [] []).getD []=l;rw[hp];rfl
 rw[ajI (d:=(aVs,1,fill,bar,0,kq,[],(1,(row,())),0,D,[])) λ_=>⟨⟨hg,by show(kI bar row 100 (df .i64 4000 fill) [] []).isSome=bm;rw[hp];rfl⟩,by show JV (Zy (1,(row,())) bar fill);rw[e];exact hw,au8.mono (aL _)⟩];simp only[bq,aml,if_pos h0,aTz,e];rw[hk];simp only[hl];rfl
theorem eL.has(T:eL a b ia ib){l:List dM}(hl:l=[a,b]\/l=[]){fill:Int}(hf:fill<=1000000):OM.call (sj l fill [])=av (aS6 (sj l fill [])):=aqF (d:=sj l fill []) (T.bk hl hf aLr).1
theorem aP7{n k:Nat}{w:Db}(h:k ∉ [av (n,w)].flatMap (iO dF)):¬k=n:=λe=>h (by
 subst e;rw[dK];exact List.mem_append_left _ aU)
end
abbrev xM:=Int×Int×Int×Int×Int×Int×Bool×Bool×kE×kE×Nat×(List (cz×fj))×(List cV)
def Kj:xM->AS:=λ(kv,l,wv,m,n,total,back,one,n7,n9,aaW,n32,vZ)=>⟨([bE,eP 32]++aW 5 ([eP 7,bE,eP 9]++aW 8 ([.d ti kv,bE,.d ti l,.d ti wv,.d ti m,.d ti n,.d ti total,.d .bool back,.d .bool one]++aW 174 []))),[],(bw 7 ([dm (.d iP n7),[],dm (.d iP n9)]++bw 22 ([[dq (.pr (.c7 (.new 32 1) 0) (.pr (.bU (.new 32 2) 1 [] 0 0 aaW) gR)),dq (.mp bQ ff n32),.obj 1 aZ (.vec 212 cH vZ)]]++bw 168 [])))⟩
def Ns:ab1:=ab1.of {bg:=[1,7,9,18,20,21,22,23,24,25,26],sites:=[7,9,32]} Kj
def fx:xM->Option xM:=λx=>(Ns).aWu .normal (Kj x)
theorem OT(x:xM):fx x=av x:=ab1.aVo (jA [.d ti,.d ti,.d ti,.d ti,.d ti,.d ti,.d .bool,.d .bool,.d iP,.d iP,.n,.d (.slice (.pair bQ ff)),.d (.slice cH)] λ_=>cd) x
def au5:Unit->Prop:=λ_=>True
def alP:Unit->Bool:=λ_=>bm
def l6:Fs Tryz.prog au5 bq alP:=eV 5 Tryz.f5 (λ_=>([],[])) (λx=>⟨.d .bool x,[],[]⟩) [] [asi,art,aRF,aLS,X9,aMl,aIw,ajE,ach,awe,aqz,arv,aqI,aAA] {aTv:=mc [(28,Ns)]}
theorem azT(d)(k:K1 R):l6.A d k=ao (Lx.call 2) λal6=>ao (Lx.call 3) λavK=>ao (Dz [(1000,(al6,())),(500,(avK,()))]) λaAj=>aJ aAj.isLeft (ao aAj.getLeft? λbcG=>k (l6.out aZ)) (ao aAj.getRight? λaYk=>ao (Xh (1,0,aYk.1,aYk.2)) λvG=>aJ vG.isLeft (ao vG.getLeft? λbcH=>k (l6.out aZ)) (ao vG.getRight? λaAk=>ao (PB.call (((ai 32 0),(0,())),1000,2,3,90)) λaV1=>ao (tid.call aV1) λaYY=>ao (PB.call ((aYY,(0,())),910,3,2,80)) λbcM=>aaR (Xg (aV1,aAk.2.2.2.1,aAk.2.2.2.2.1,aAk.2.2.2.2.2.1,aAk.2.2.2.2.2.2)) λaTN=>aaR (Xg (bcM,aTN.2.1,aTN.2.2.1,aTN.2.2.2.1,aTN.2.2.2.2)) λaTO=>ao (Hi.call ([1,0,0,0,0,0,0,0,0,0,0,0,0,0,0,0,0,0,0,0,0,0,0,0,0,0,0,0,0,0,0,0],1,100,([]:List cz),aAk.1,aAk.2.1,aAk.2.2.1,aTO.2.1,aTO.2.2.1,aTO.2.2.2.1,aTO.2.2.2.2)) λKH=>ao (Hi.call ([1,0,0,0,0,0,0,0,0,0,0,0,0,0,0,0,0,0,0,0,0,0,0,0,0,0,0,0,0,0,0,0],1,4000,([]:List cz),KH.2.2.1,KH.2.2.2.1,KH.2.2.2.2.1,KH.2.2.2.2.2.1,KH.2.2.2.2.2.2.1,KH.2.2.2.2.2.2.2.1,KH.2.2.2.2.2.2.2.2)) λabt=>ao (Hi.call ([1,0,0,0,0,0,0,0,0,0,0,0,0,0,0,0,0,0,0,0,0,0,0,0,0,0,0,0,0,0,0,0],1,100,[((ai 32 0),(0,()))],abt.2.2.1,abt.2.2.2.1,abt.2.2.2.2.1,abt.2.2.2.2.2.1,abt.2.2.2.2.2.2.1,abt.2.2.2.2.2.2.2.1,abt.2.2.2.2.2.2.2.2)) λavA=>ao (Hi.call ([1,0,0,0,0,0,0,0,0,0,0,0,0,0,0,0,0,0,0,0,0,0,0,0,0,0,0,0,0,0,0,0],0,100,([]:List cz),avA.2.2.1,avA.2.2.2.1,avA.2.2.2.2.1,avA.2.2.2.2.2.1,avA.2.2.2.2.2.2.1,avA.2.2.2.2.2.2.2.1,avA.2.2.2.2.2.2.2.2)) λaS0=>ao (Dj.call (KH.1,aS0.2.2.1,aS0.2.2.2.1,aS0.2.2.2.2.1)) λaYn=>ao (tid.call aV1) λbcR=>ao (Di.call ((KH.1.1,(KH.1.2.1,(KH.1.2.2.1,(KH.1.2.2.2.1,([(bcR,(0,()))],KH.1.2.2.2.2.2))))),aYn.2.2.1,aYn.2.2.2.1,aYn.2.2.2.2)) λaCy=>ao (Di.call ((KH.1.1,(KH.1.2.1,(KH.1.2.2.1,(3980,KH.1.2.2.2.2)))),aCy.2.1,aCy.2.2.1,aCy.2.2.2)) λaCz=>ao (ami.call KH.1) λaOR=>ao (Dg.call (KH.1,aCz.2.1,aCz.2.2.1,aCz.2.2.2)) λaCA=>ao (Di.call (KH.1,aCA.2.1,aCA.2.2.1,aCA.2.2.2)) λaCB=>ao (ER.call (aCB.2.1,aCB.2.2.1,aCB.2.2.2)) λaCC=>ao (Bj.call (KH.1,aCC.2.1,aCC.2.2.1,aCC.2.2.2)) λEB=>ao (aJ (Il aTN.1 0) (aJ (Il aTO.1 0) (aJ (Il KH.2.1 0) (aJ (Il (KH.1.2.2.1.length:Int) 2) (aJ (Il abt.2.1 0) (aJ (Il (abt.1.2.2.1.length:Int) 0) (aJ (Il avA.2.1 0) (aJ (Il (avA.1.2.2.1.length:Int) 0) (aJ (Il aS0.2.1 1) (aJ (aYn.2.1) (fx (aCy.1,aCz.1,aOR,aCA.1,aCB.1,aCC.1,EB.1,(Il aYn.1 170),KH.1,abt.1,EB.2.1,EB.2.2.1,EB.2.2.2)) (fx (aCy.1,aCz.1,aOR,aCA.1,aCB.1,aCC.1,EB.1,aZ,KH.1,abt.1,EB.2.1,EB.2.2.1,EB.2.2.2))) (fx (aCy.1,aCz.1,aOR,aCA.1,aCB.1,aCC.1,EB.1,aZ,KH.1,abt.1,EB.2.1,EB.2.2.1,EB.2.2.2))) (fx (aCy.1,aCz.1,aOR,aCA.1,aCB.1,aCC.1,EB.1,aZ,KH.1,abt.1,EB.2.1,EB.2.2.1,EB.2.2.2))) (fx (aCy.1,aCz.1,aOR,aCA.1,aCB.1,aCC.1,EB.1,aZ,KH.1,abt.1,EB.2.1,EB.2.2.1,EB.2.2.2))) (fx (aCy.1,aCz.1,aOR,aCA.1,aCB.1,aCC.1,EB.1,aZ,KH.1,abt.1,EB.2.1,EB.2.2.1,EB.2.2.2))) (fx (aCy.1,aCz.1,aOR,aCA.1,aCB.1,aCC.1,EB.1,aZ,KH.1,abt.1,EB.2.1,EB.2.2.1,EB.2.2.2))) (fx (aCy.1,aCz.1,aOR,aCA.1,aCB.1,aCC.1,EB.1,aZ,KH.1,abt.1,EB.2.1,EB.2.2.1,EB.2.2.2))) (fx (aCy.1,aCz.1,aOR,aCA.1,aCB.1,aCC.1,EB.1,aZ,KH.1,abt.1,EB.2.1,EB.2.2.1,EB.2.2.2))) (fx (aCy.1,aCz.1,aOR,aCA.1,aCB.1,aCC.1,EB.1,aZ,KH.1,abt.1,EB.2.1,EB.2.2.1,EB.2.2.2))) (fx (aCy.1,aCz.1,aOR,aCA.1,aCB.1,aCC.1,EB.1,aZ,KH.1,abt.1,EB.2.1,EB.2.2.1,EB.2.2.2))) λaHJ=>aJ (aHJ.2.2.2.2.2.2.2.1) (aJ (Il aHJ.1 14) (aJ (Il aHJ.2.1 3) (aJ (Il aHJ.2.2.1 172) (aJ (Il aHJ.2.2.2.1 0) (aJ (Il aHJ.2.2.2.2.1 5) (aJ (Il aHJ.2.2.2.2.2.1 1330) (aJ (aHJ.2.2.2.2.2.2.1) (ao (ER.call (aHJ.2.2.2.2.2.2.2.2.2.2.1,aHJ.2.2.2.2.2.2.2.2.2.2.2.1,aHJ.2.2.2.2.2.2.2.2.2.2.2.2)) λbcS=>aJ (Il bcS.1 1500) (ao (OM.call aHJ.2.2.2.2.2.2.2.2.1) λbcT=>ao (OM.call aHJ.2.2.2.2.2.2.2.2.2.1) λbcU=>k (l6.out (!(Ty.beq tH bcT bcU)))) (k (l6.out aZ))) (k (l6.out aZ))) (k (l6.out aZ))) (k (l6.out aZ))) (k (l6.out aZ))) (k (l6.out aZ))) (k (l6.out aZ))) (k (l6.out aZ))) (k (l6.out aZ)))):=cd
theorem azU:l6.Ok:=by
 rintro⟨⟩ _;have T:=aYh;have jk:=baa;have p1:PB.call ((z32,((0:Int),())),1000,2,3,90)=av (UA z32 910 3 2):=akI (d:=((z32,((0:Int),())),1000,2,3,90)) ⟨⟨aOS,rfl⟩,rfl,k2,eX,eX⟩;have sA:Sm iA:=xT;have p2:PB.call ((iA,((0:Int),())),910,3,2,80)=av (UA iA 830 2 3):=akI (d:=((iA,((0:Int),())),910,3,2,80)) ⟨⟨sA,rfl⟩,rfl,k3,eX,eX⟩;generalize UA z32 910 3 2=a at T p1;generalize UA iA 830 2 3=b at T p2;generalize iA=ia at T p2 jk;generalize iB=ib at T jk;have q1:Lx.call 2=av (LK 2):=WW (d:=2) ⟨eX,eX⟩;have q2:Lx.call 3=av (LK 3):=WW (d:=3) ⟨eX,eX⟩;have q3:Xh (1,0,kq,[])=av (.inr (0,kq,[],(1,([],())),0,fC kq,[])):=aMx (d:=(1,0,kq,[])) (au8.mono (aL _));have hC:CG (fC kq):=aqY.can;have hp:(fC kq).Perm kq:=Ae kq;generalize fC kq=D at q3 hC hp;have q4:tid.call a=av ia:=(OG (d:=a) T.ta).trans (bW av T.aYK);rw[azT,q1,ag,q2,ag];refine(bW (λz=>ao z _) aXW).trans ?_
 simp only[db,al,cC,ag];refine(bW (λz=>ao z _) q3).trans ?_
 simp only[db,al,cC,ag];refine(bW (λz=>ao z _) p1).trans ?_
 rw[ag,q4,ag];refine(bW (λz=>ao z _) p2).trans ?_
 rw[ag];refine akN (d:=(a,(1,([],())),0,D,[])) (T.aY7 hC hp) ⟨_,0,(λh=>by cases h),rfl⟩ λy hy=> ?_
 obtain⟨n,_,rfl⟩:=hy;simp only[HI,aY];rw[show(av (n,aLC (1,([],())) a 0 D []):eO)=av (wA n a ia) from bW (λz=>av (n,z)) (T.aX4 (n:=n) hC)];obtain⟨f0,bbV⟩:=WI ([av (wA n a ia)].flatMap (iO dF));refine akN (d:=(b,(1,([av (wA n a ia)],())),0,D,[])) (T.aY8 hC hp) ⟨_,f0,(λh=>absurd (bbV _ h) (iI _)),rfl⟩ λy hy=> ?_
 obtain⟨k,hk,rfl⟩:=hy;have aXo:¬k=n:=aP7 hk;simp only[HI];rw[show [av (wA n a ia)]++ [(av (k,aLC (1,([av (wA n a ia)],())) b 0 D []):eO)]=[av (wA n a ia),av (wB k b ib)] from bW (λz=> [av (wA n a ia),av (k,z)]) (T.aX5 (n:=n) (k:=k) hC)];have w2:=T.walk aqY (BE:=iP.zero) rfl;have m1:=axo (l:=[a,b]) (fill:=100) (k:=2) (D:=D) rfl (T.pg (n:=n) (k:=k) (bar:=[]) (aL _)) (T.aX1 aXo) (JV.two T) (by rw[w2]) rfl;have m2:=axo (l:=[]) (fill:=4000) (k:=0) (D:=D) rfl (T.pg (n:=n) (k:=k) (bar:=[]) (aL _)) (T.aX2 aXo) JV.nil (by rw[avw]) rfl;have m3:=axo (l:=[]) (fill:=100) (k:=0) (D:=D) rfl (T.pg (n:=n) (k:=k) (bar:=[(z32,((0:Int),()))]) (by show 1<=_;decide)) (T.aX3 aXo) JV.nil (by rw[avw]) rfl;have m4:Hi.call (aVs,0,100,[],0,kq,[],(1,([av (wA n a ia),av (wB k b ib)],())),0,D,[])=av ((0,(ai 32 0,([],(0,([],()))))),1,0,kq,[],(1,([av (wA n a ia),av (wB k b ib)],())),0,D,[]):=ajI (d:=(aVs,0,100,[],0,kq,[],(1,([av (wA n a ia),av (wB k b ib)],())),0,D,[])) (λe=>by cases e);have aVE:xV 500 0 kq []:=au8.mono (aL _);have bX:=T.bk (l:=[a,b]) (.inl rfl) (fill:=100) eX aLr;have r1:Dj.call (sj [a,b] 100 [],0,kq,[])=av (170,bm,0,kq,[]):=by rw[aci (d:=(sj [a,b] 100 [],0,kq,[])) ⟨bX,aVE⟩];simp only[bq,SB,T.aTI aqY];rfl
 have r2:Di.call (sj [a,b] 100 [(ia,((0:Int),()))],0,kq,[])=av (14,0,kq,[]):=by rw[Hh (d:=(sj [a,b] 100 [(ia,((0:Int),()))],0,kq,[])) ⟨T.bk (.inl rfl) eX ⟨by show 1<=_;decide,λo ho=>by rw[bB.1 ho];exact⟨T.la.1,by show(0:Int)<=_;decide⟩⟩,aVE⟩];simp only[bq,Sz,T.aVu aqY]
 have r3:Di.call (sj [a,b] 3980 [],0,kq,[])=av (3,0,kq,[]):=by rw[Hh (d:=(sj [a,b] 3980 [],0,kq,[])) ⟨T.bk (.inl rfl) eX aLr,aVE⟩];simp only[bq,Sz,T.aLP]
 have r4:ami.call (sj [a,b] 100 [])=av 172:=by rw[amj (d:=sj [a,b] 100 []) ⟨bX.1,by show(0:Int)<=100;decide,by show(100:Int)<=_;decide⟩];simp only[bq,aqJ,T.ami];rfl
 have r5:Dg.call (sj [a,b] 100 [],0,kq,[])=av (0,2,cG b 1 (cG a 1 kq),[stepOf a kq,stepOf b (cG a 1 kq)]):=by rw[ajD (d:=(sj [a,b] 100 [],0,kq,[])) ⟨bX,au8.mono (aL _)⟩];simp only[bq,amf,T.aTI aqY,T.BE];rfl
 have hS:=T.st2;have r6:Di.call (sj [a,b] 100 [],2,cG b 1 (cG a 1 kq),[stepOf a kq,stepOf b (cG a 1 kq)])=av (5,2,cG b 1 (cG a 1 kq),[stepOf a kq,stepOf b (cG a 1 kq)]):=by rw[Hh (d:=(sj [a,b] 100 [],2,cG b 1 (cG a 1 kq),[stepOf a kq,stepOf b (cG a 1 kq)])) ⟨bX,hS.mono eX⟩];simp only[bq,Sz,T.aVv aqY]
 have r7:=hS.total;rw[T.baD]at r7;obtain⟨E,hE,hEp⟩:=T.aYX;have r8:Bj.call (sj [a,b] 100 [],2,cG b 1 (cG a 1 kq),[stepOf a kq,stepOf b (cG a 1 kq)])=av (bm,0,E,[stepOf a kq,stepOf b (cG a 1 kq)]):=by rw[ajH (d:=(sj [a,b] 100 [],2,cG b 1 (cG a 1 kq),[stepOf a kq,stepOf b (cG a 1 kq)])) ⟨by show 2<=1000;decide,hS.le,by have:=hS.len;show _<=1000000;omega,hS.aVS⟩];simp only[bq,abw];exact bW av hE
 have eE:gM E=1500:=(vI hEp).trans aPf;have r9:ER.call (0,E,[stepOf a kq,stepOf b (cG a 1 kq)])=av (1500,0,E,[stepOf a kq,stepOf b (cG a 1 kq)]):=by rw[ajV (d:=(0,E,[stepOf a kq,stepOf b (cG a 1 kq)])) ⟨λp hp=>(au8.nT.2 p (hEp.mem_iff.1 hp)).2.2.2.1,by show gM E<=_;rw[eE];decide⟩];simp only[bq,amR,eE]
 have dL:=T.aXL;have i1:=T.has (l:=[a,b]) (.inl rfl) (fill:=100) eX;have i2:=T.has (l:=[]) (.inr rfl) (fill:=4000) eX;rw[dL]at i1;generalize [stepOf a kq,stepOf b (cG a 1 kq)]=S at r5 r6 r7 r8 r9;generalize cG b 1 (cG a 1 kq)=A2 at r5 r6 r7 r8;generalize aS6 (sj [] 4000 [])=iy at jk i2;generalize aXL ia ib=ix at jk i1;refine(bW (λz=>ao z _) m1).trans ?_
 rw[ag];refine(bW (λz=>ao z _) m2).trans ?_
 rw[ag];refine(bW (λz=>ao z _) m3).trans ?_
 rw[ag];refine(bW (λz=>ao z _) m4).trans ?_
 rw[ag];refine(bW (λz=>ao z _) r1).trans ?_
 rw[ag];rw[ag];refine(bW (λz=>ao z _) r2).trans ?_
 rw[ag];refine(bW (λz=>ao z _) r3).trans ?_
 rw[ag];refine(bW (λz=>ao z _) r4).trans ?_
 rw[ag];refine(bW (λz=>ao z _) r5).trans ?_
 rw[ag];refine(bW (λz=>ao z _) r6).trans ?_
 rw[ag];refine(bW (λz=>ao z _) r7).trans ?_
 rw[ag];refine(bW (λz=>ao z _) r8).trans ?_
 rw[ag];refine(bW (λz=>ao z _) (OT (14,3,172,0,5,1330,bm,bm,sj [a,b] 100 [],sj [] 4000 [],0,E,S))).trans ?_
 rw[ag];dsimp only
 repeat (first | rw[aj] | rw[mQ rfl])
 refine(bW (λz=>ao z _) r9).trans ?_
 rw[ag,mQ rfl,aj];refine(bW (λz=>ao z _) i1).trans ?_
 rw[ag];refine(bW (λz=>ao z _) i2).trans ?_
 rw[ag,ahT,bo jk];rfl
theorem au6:l6.RS:=rE [] l6
def azV:=l6.eY azU
end
def axK:(List jV)->Prop:=λ_=>True
def aey:(List jV)->Bool:=λl=>if l.length<=12 then qp ([],(l,((0:Int),()))) else aZ
def LS:Fs Tryz.prog axK bq aey:=eV 6 Tryz.f6 (λl=>([.d (.slice fi) l],[])) (λx=>⟨.d .bool x,[],[]⟩) [av (.slice fi)] [ZO]
theorem aFb(l)(k:K1 R):LS.A l k=aJ (xW (l.length:Int) 12) (k (LS.out aZ)) (ao (gv.call (([]:List ji),(l,(0,())))) λx1=>k (LS.out x1)):=cd
theorem aFc:LS.Ok:=by
 intro l _;rw[aFb];simp only[bq,aey];by_cases h:l.length<=12
 ·rw[cI aq,al,if_pos h,UK (d:=(([]:List ji),(l,((0:Int),())))) trivial];rfl
 ·rw[dw aq,aj,if_neg h]
theorem axL:LS.RS:=rE [.d (.slice fi)] LS
def aFd:=LS.eY aFc
abbrev DE:=kE×Int
def q9:DE->AS:=λ(eU,i)=>⟨([bE,.dz iP eU,bE,.d ti i]++aW 24 []),[],(ai 28 [])⟩
def sq:Unit->Exit×AS:=λx=>(.ret,⟨([bE,bE,.d .bool aZ]++aW 25 []),[],(ai 28 [])⟩)
def B3:Unit->Exit×AS:=λx=>(.exit 0,⟨(aW 28 []),[],(ai 28 [])⟩)
abbrev QX:=(Unit)⊕(Unit)
abbrev ac6:=(Unit)⊕(Unit)
def IP:QX->Out (Exit×AS):=λx=> .br x.isLeft (.get x.getLeft? λa=> .ok (sq a)) (.get x.getRight? λb=> .ok (B3 b))
def mO:DE->ac6->QX:=λ(eU,i) y=>match y with | .inl y=> .inl y | .inr z=> .inr (z)
def B2:DE->Prop:=λ(b,i)=>b.2.2.1.length<=1000000000/\∃k:Nat,k<=b.2.2.1.length/\i=k
def qZ:DE->ac6:=λ(b,i)=>if(bD (ab i) b.2.2.1).all qp then .inr () else .inl ()
def aDV:kE->Prop:=λ_=>True
def am7:kE->Bool:=λb=>if b.2.2.1.length<=12 then(if b.2.2.2.2.1.length<=12 then b.2.2.1.all qp else aZ) else aZ
def ac5:=dB.e7 q9 B2 mO qZ IP
def Pm:DE->Option QX:=fS ac5 q9
def DD:Fs Tryz.prog aDV bq am7:=eV 7 Tryz.f7 (λb=>([.d iP b],[])) (λx=>⟨.d .bool x,[],[]⟩) [av iP] [ZO] {loops:=lz [(4,{bg:=[1,3]})],outs:=lu [(4,{},{bg:=[2]})],fa:=mc [(4,ac5)]}
def QW:= @ej Tryz.prog (jr DD.G) DD.an 0 Tryz.f7 0 _ q9
abbrev YP:=jj Tryz.prog (jr DD.G) DD.an 0 Tryz.f7 0 q9 B2 mO qZ IP
theorem am8:ik Pm B2 mO qZ:=jX (jA [.d iP,.d ti] λ_=>cd)
theorem Tu:ma @QW q9 B2 mO qZ IP YP:=mJ
theorem Po(eU i)(kn:K2 R)(kx:K3 R):QW (eU,i) kn kx=aJ (fv i (((ae eU.2.2.1):Nat):Int)) (aJ (eA i (((ae eU.2.2.1):Nat):Int)) (ao (gv.call (nth dU eU.2.2.1 (ab i))) λx1=>aJ (!x1) (kx (sq ()).1 (sq ()).2) (kn (q9 (eU,(bz .i64 i (1:Int)))))) aH) (kx (B3 ()).1 (B3 ()).2):=cd
theorem aJT(b)(k:K1 R):DD.A b k=aJ (xW (b.2.2.1.length:Int) 12) (k (DD.out aZ)) (aJ (xW (b.2.2.2.2.1.length:Int) 12) (k (DD.out aZ)) (ao (Pm (b,0)) λx2=>aJ x2.isLeft (ao x2.getLeft? λa3=>k (DD.out aZ)) (ao x2.getRight? λb4=>k (DD.out bm)))):=cd
theorem arL:YP:=by
 refine Tu (λ(b,i)=>b.2.2.1.length - ab i) ?_
 rintro⟨b,i⟩ ⟨hlen,k,hk,rfl⟩;have hlen:b.2.2.1.length<=1000000000:=hlen;have hk:k<=b.2.2.1.length:=hk;by_cases h:k < b.2.2.1.length
 ·have n1:nth dU b.2.2.1 k=b.2.2.1[k]:=bY (t:=dU) h;have hd:(bD k b.2.2.1).all qp=(qp b.2.2.1[k] && (bD (k+1) b.2.2.1).all qp):=by rw[au h,gg]
  have step:∀ {R:Type} (kn:AS->Option R) (kx:Exit->AS->Option R),QW (b,(k:Int)) kn kx=aJ (qp b.2.2.1[k]) (kn (q9 (b,((k+1:Nat):Int)))) (kx (sq ()).1 (sq ()).2):=by
   intro R kn kx;rw[Po,aS aq,ba (show(0:Int)<=(k:Int) by omega) aq,aa,n1];simp only[aj];rw[UK (d:=b.2.2.1[k]) trivial,N.jL aq];simp only[ag,bq,RJ];cases qp b.2.2.1[k]
   ·rfl
   ·rfl
  cases hp:qp b.2.2.1[k]
  ·right;refine⟨sq (),?_,λkn kx=> ?_⟩
   ·simp only[mO,qZ,aa,hd,hp,dA,bG,bC];rfl
   ·rw[step,hp,al]
  ·left;refine⟨(b,((k+1:Nat):Int)),⟨hlen,k+1,aq,rfl⟩,by simp only[aa];omega,?_,λkn kx=> ?_⟩
   ·simp only[mO,qZ,aa,hd,hp,bM]
   ·rw[step,hp,aj]
 ·right;obtain rfl:k=b.2.2.1.length:=aq;refine⟨B3 (),?_,λkn kx=> ?_⟩
  ·simp only[mO,qZ,aa,aI];rfl
  ·rw[Po,aQ aq,al]
theorem aJU:DD.Ok:=by
 intro b _;rw[aJT];simp only[bq,am7];by_cases h:b.2.2.1.length<=12
 ·rw[cI aq,al,if_pos h];by_cases h2:b.2.2.2.2.1.length<=12
  ·rw[cI aq,al,if_pos h2,am8 (d:=(b,0)) ⟨by show b.2.2.1.length<=_;omega,0,aL _,rfl⟩];simp only[ag,mO,qZ,aT,ay];cases b.2.2.1.all qp
   ·rfl
   ·rfl
  ·rw[dw aq,aj,if_neg h2]
 ·rw[dw aq,aj,if_neg h]
theorem aj3:DD.RS:=rE [.d iP] DD
def aJV:=DD.eY aJU 1 ⟨.e7 arL,trivial⟩
theorem V8(b:kE)(h:Int):∀(l:List dM) (k f:Int) {a a':At},uY a a'->(eH a).Nodup->(eH a').Nodup->jv b h l k f a=jv b h l k f a'
 |[],_,_,_,_,_,_,_=>rfl
 |t::l,k,f,a,a',e,ha,hb=>by rw[jv,jv,e.check t h,V8 b h l _ _ (e.apply ha hb t h) (gZ ha) (gZ hb)]
theorem Wk{a:At}(h:Wf a):(ahH a).length=a.length:=by rw[(aH4 h).length_eq,da]
def avL(b:kE):Prop:=(∀t∈b.2.2.1,th t)/\(b.1<=9223372036854775807/\b.2.1.length=32/\b.2.2.2.1<=9223372036854775807)/\∀o∈b.2.2.2.2.1,al7 o
theorem aTa{b:kE}(h:(if b.2.2.1.length<=12 then(if b.2.2.2.2.1.length<=12 then b.2.2.1.all qp else aZ) else aZ)=bm):b.2.2.1.length<=12/\b.2.2.2.2.1.length<=12/\∀t∈b.2.2.1,t.1.length<=66:=by
 split at h
 ·rename_i h1;split at h
  ·rename_i h2;exact⟨h1,h2,λt ht=>(aOa (dr.1 h t ht)).1⟩
  ·cases h
 ·cases h
theorem avL.ok{b:kE}(h:avL b)(h2:b.2.2.1.length<=12/\b.2.2.2.2.1.length<=12/\∀t∈b.2.2.1,t.1.length<=66):Sj b:=
 ⟨⟨⟨by have:=h2.1;omega,h.1⟩,h.2.1,by have:=h2.2.1;omega,h.2.2⟩,by have:=h2.1;omega,λt ht=>by have:=h2.2.2 t ht;omega⟩
def NR(n:Int)(x:ji):Int:=if x.2.1.2.2.1=0 then n+8*x.2.1.2.1.length else n+8*x.2.1.2.1.length+4
theorem avx:∀(l:List ji) (n:Int),l.foldl NR (n+10*l.length)=l.foldl vF n
 |[],n=>by simp
 |x::l,n=>by
  have e:NR (n+10*((x::l).length:Nat)) x=vF n x+10*(l.length:Nat):=by unfold NR vF;rw[aF];split <;> omega
  rw[bn,e,avx l];rfl
def Xp:(dM×Int×Int)->Prop:=λ(t,n,i)=>(t.1).length<=1000000000/\∃k:Nat,k<=(t.1).length/\i=k/\(t.1.length<=64)/\(∀x∈t.1,x.2.1.2.1.length<=12)/\(0<=n)/\(n<=10000+200*(k:Int))
def xx:(dM×Int×Int)->Int:=λ(t,n,i)=>(bD (ab i) t.1).foldl NR n
def aiB:dM->Prop:=λt=>th t
def MA:dM->Int:=λt=>kD t
def jB:Ls Xp bq xx:=pD (λ(fP,n,i)=>⟨([bE,.dz dU fP,bE,.d ti n,.d ti i]++aW 42 []),[],(ai 47 [])⟩) (λx=>(.exit 0,⟨([bE,bE,bE,.d ti x]++aW 43 []),[],(ai 47 [])⟩))
def oB:Fs Tryz.prog aiB bq MA:=eV 65 Tryz.f65 (λt=>([.d dU t],[])) (λx=>⟨.d ti x,[],[]⟩) [av dU] [Mt] {loops:=lz [(5,{bg:=[1,3,4]})],outs:=lu [(5,{bg:=[3]},{bg:=[2]})],fa:=mc [(5,jB.E)]}
theorem Xq:jB.RS:=rL [.d dU,.d ti,.d ti] jB
theorem Fj(fP n i)(kn:K2 R)(kx:K3 R):oB.R 0 jB (fP,n,i) kn kx=aJ (fv i (fP.1.length:Int)) (aJ (eA i (fP.1.length:Int)) (aJ (eA i (fP.1.length:Int)) (aJ (C3 (nth fo fP.1 (ab i)).2.1.2.2.1 0) (kn (jB.st (fP,(bz .i64 (bz .i64 n (fO .i64 8 (((ae (nth fo fP.1 (ab i)).2.1.2.1):Nat):Int))) 4),(bz .i64 i 1)))) (kn (jB.st (fP,(bz .i64 n (fO .i64 8 (((ae (nth fo fP.1 (ab i)).2.1.2.1):Nat):Int))),(bz .i64 i 1))))) aH) aH) (jB.go kx n):=cd
theorem aoK(t)(k:K1 R):oB.A t k=ao (fN.call t) λx1=>aJ (!x1) (k (oB.out 0)) (ao (jB.call (t,(bz .i64 (bz .i64 10 (fO .i64 10 (t.1.length:Int))) (fO .i64 8 (t.2.1.length:Int))),0)) λx2=>k (oB.out x2)):=cd
theorem abf:(oB.jx 0 jB):=by
 refine(oB.mf 0 jB) (λ(t,n,i)=>(t.1).length - ab i) ?_
 rintro⟨t,n,i⟩ ⟨hlen,k,hk,rfl,wZ,hx,h0,h1⟩;have hlen:(t.1).length<=1000000000:=hlen;have hk:k<=(t.1).length:=hk;have wZ:t.1.length<=64:=wZ;have hx:∀x∈t.1,x.2.1.2.1.length<=12:=hx;have h0:0<=n:=h0;have h1:n<=10000+200*(k:Int):=h1;by_cases h:k < (t.1).length
 ·left;have n1:nth fo t.1 k=t.1[k]:=bY (t:=fo) h;have hd:bD k t.1=t.1[k]::bD (k+1) t.1:=au h;refine⟨(t,(NR n t.1[k]),((k+1:Nat):Int)),⟨hlen,k+1,aq,rfl,wZ,hx,by unfold NR;split <;> omega,by have:=hx _ (aK h);unfold NR;split <;> omega⟩,by simp only[aa];omega,?_,λkn kx=> ?_⟩
  ·simp only[bq,xx,aa,hd,bn]
  ·rw[Fj,aS aq,ba aq aq,aa,n1];simp only[aj];have e:=hx _ (aK h);rw[Ah (x:=8) aq aq,fA (x:=n) aq aq,N.jL aq];unfold NR;by_cases hs:t.1[k].2.1.2.2.1=0
   ·rw[dN hs,al,if_pos hs]
   ·rw[fH hs,aj,if_neg hs,fA aq aq]
 ·right;obtain rfl:k=(t.1).length:=aq;intro R kn kx;rw[Fj,aQ aq,al];simp only[bq,xx,aa,aI,ct]
theorem aoL:oB.Ok:=by
 intro t hv;have hv:th t:=hv;rw[aoK,Jl (d:=t) hv.1];simp only[ag,bq,Ed,bq,MA,kD];cases gX:hP t
 ·rfl
 ·obtain⟨⟨_,a2,a3,_⟩,b1,b2⟩:=iq gX;rw[bT,al,Ah (x:=10) aq aq,Ah (x:=8) aq aq,fA (x:=10) aq aq,fA aq aq,Xq (d:=(t,10+10*(t.1.length:Int)+8*(t.2.1.length:Int),0)) ⟨by show t.1.length<=_;omega,0,aL _,rfl,a2,λx hx=>(DH (mS _ _ b1 x hx)).2.2.2.2,by show(0:Int)<=10+10*(t.1.length:Int)+8*(t.2.1.length:Int);omega,by show 10+10*(t.1.length:Int)+8*(t.2.1.length:Int)<=_;omega⟩];simp only[ag,bq,xx,aT,ay,bO];rw[show(10+10*(t.1.length:Int)+8*(t.2.1.length:Int))=10+8*(t.2.1.length:Int)+10*(t.1.length:Int) by omega,avx]
theorem aiC:oB.RS:=rE [.d dU] oB
def aoM:=oB.eY aoL 1 ⟨.e7 abf,trivial⟩
def aF5:(Int×Int×Int)->Prop:=λ_=>True
def abU:(Int×Int×Int)->Bool:=λ(n,a,b)=>decide (a<=n/\n<=b)
def UR:Fs Tryz.prog aF5 bq abU:=eV 70 Tryz.f70 (λ(n,low,high)=>([.d ti n,.d ti low,.d ti high],[])) (λx=>⟨.d .bool x,[],[]⟩) [av ti,av ti,av ti]
theorem aMR(n low high)(k:K1 R):UR.A (n,low,high) k=aJ (AM n low) (k (UR.out (ahY n high))) (k (UR.out aZ)):=cd
theorem aMS:UR.Ok:=by
 rintro⟨n,a,b⟩ _;rw[aMR];simp only[bq,abU];by_cases h1:a<=n
 ·rw[fG h1,aj];by_cases h2:n<=b
  ·rw[om h2,aX ⟨h1,h2⟩]
  ·rw[j4 h2,bo λe=>h2 e.2]
 ·rw[eg h1,al,bo λe=>h1 e.1]
theorem akX:UR.RS:=rE [.d ti,.d ti,.d ti] UR
def aMT:=UR.eY aMS
def Xt:(kE×Int×Int)->Prop:=λ(b,n,i)=>(b.2.2.1).length<=1000000000/\∃k:Nat,k<=(b.2.2.1).length/\i=k/\(b.2.2.1.length<=1000)/\(∀t∈b.2.2.1,th t)/\(0<=n)/\(n<=1000000+8000*(k:Int))
def xB:(kE×Int×Int)->Int:=λ(b,n,i)=>(bD (ab i) b.2.2.1).foldl apZ n
def aiK:kE->Prop:=λb=>aTR b/\0<=b.2.2.2.1/\b.2.2.2.1<=1000000
def Fk:kE->Int:=λb=>aIm b
def kB:Ls Xt bq xB:=pD (λ(eU,n,i)=>⟨([bE,.dz iP eU,bE,.d ti n,.d ti i]++aW 18 []),[],(ai 23 [])⟩) (λx=>(.exit 0,⟨([bE,bE,bE,.d ti x]++aW 19 []),[],(ai 23 [])⟩))
def oD:Fs Tryz.prog aiK bq Fk:=eV 13 Tryz.f13 (λb=>([.d iP b],[])) (λx=>⟨.d ti x,[],[]⟩) [av iP] [aoM] {loops:=lz [(3,{bg:=[1,3,4]})],outs:=lu [(3,{bg:=[3]},{bg:=[2]})],fa:=mc [(3,kB.E)]}
theorem Xu:kB.RS:=rL [.d iP,.d ti,.d ti] kB
theorem Fl(eU n i)(kn:K2 R)(kx:K3 R):oD.R 0 kB (eU,n,i) kn kx=aJ (fv i (eU.2.2.1.length:Int)) (aJ (eA i (eU.2.2.1.length:Int)) (ao (oB.call (nth dU eU.2.2.1 (ab i))) λx1=>kn (kB.st (eU,(bz .i64 n x1),(bz .i64 i 1)))) aH) (kB.go kx n):=cd
theorem aoU(b)(k:K1 R):oD.A b k=ao (kB.call (b,b.2.2.2.1,0)) λx2=>k (oD.out x2):=cd
theorem abk:(oD.jx 0 kB):=by
 refine(oD.mf 0 kB) (λ(b,n,i)=>(b.2.2.1).length - ab i) ?_
 rintro⟨b,n,i⟩ ⟨hlen,k,hk,rfl,h3,hx,h0,h1⟩;have hlen:(b.2.2.1).length<=1000000000:=hlen;have hk:k<=(b.2.2.1).length:=hk;have h3:b.2.2.1.length<=1000:=h3;have hx:∀t∈b.2.2.1,th t:=hx;have h0:0<=n:=h0;have h1:n<=1000000+8000*(k:Int):=h1;by_cases h:k < (b.2.2.1).length
 ·left;have n1:nth dU b.2.2.1 k=b.2.2.1[k]:=bY (t:=dU) h;have hd:bD k b.2.2.1=b.2.2.1[k]::bD (k+1) b.2.2.1:=au h;refine⟨(b,(apZ n b.2.2.1[k]),((k+1:Nat):Int)),⟨hlen,k+1,aq,rfl,h3,hx,by have:=C8 b.2.2.1[k];unfold apZ;omega,by have:=C8 b.2.2.1[k];unfold apZ;omega⟩,by simp only[aa];omega,?_,λkn kx=> ?_⟩
  ·simp only[bq,xB,aa,hd,bn]
  ·rw[Fl,aS aq,ba aq aq,aa,n1];simp only[aj];have e:=C8 b.2.2.1[k];rw[aiC (d:=b.2.2.1[k]) (hx _ (aK h))];simp only[ag,bq,MA];rw[fA (x:=n) aq aq,N.jL aq];rfl
 ·right;obtain rfl:k=(b.2.2.1).length:=aq;intro R kn kx;rw[Fl,aQ aq,al];simp only[bq,xB,aa,aI,ct]
theorem aoV:oD.Ok:=by rintro b ⟨⟨⟨h1,h2⟩,_⟩,h3,h4⟩;have z1:((0:Int)).toNat=0:=rfl;rw[aoU,Xu (d:=(b,b.2.2.2.1,0)) ⟨by show b.2.2.1.length<=_;omega,0,aL _,rfl,h1,h2,h3,by show b.2.2.2.1<=_;omega⟩];simp only[ag,bq,xB,z1,ay,bq,Fk,aIm]
theorem P1:oD.RS:=rE [.d iP] oD
def UW:=oD.eY aoV 1 ⟨.e7 abk,trivial⟩
abbrev Ar:=(List cz)×dM×Int
def sO:Ar->AS:=λ(OY,fP,i)=>⟨([bE,.d (.slice bQ) OY,.dz dU fP,bE,bE,.d ti i]++aW 25 []),[],(ai 31 [])⟩
def zs:Unit->Exit×AS:=λx=>(.ret,⟨(aW 4 ([.d .bool bm]++aW 26 [])),[],(ai 31 [])⟩)
def zt:Unit->Exit×AS:=λx=>(.exit 0,⟨(aW 31 []),[],(ai 31 [])⟩)
abbrev MB:=(Unit)⊕(Unit)
abbrev ZS:=(Unit)⊕(Unit)
def GQ:MB->Out (Exit×AS):=λx=> .br x.isLeft (.get x.getLeft? λa=> .ok (zs a)) (.get x.getRight? λb=> .ok (zt b))
def kS:Ar->ZS->MB:=λ(OY,fP,i) y=>match y with | .inl y=> .inl y | .inr z=> .inr (z)
abbrev As:=(List cz)×dM×Int×Int
def pK:As->AS:=λ(yd,lS,fk,kv)=>⟨([bE,.d (.slice bQ) yd,.dz dU lS,bE,bE,.d ti fk,.d ti kv]++aW 24 []),[],(ai 31 [])⟩
def qk:Unit->Exit×AS:=λx=>(.ret,⟨(aW 4 ([.d .bool bm]++aW 26 [])),[],(ai 31 [])⟩)
abbrev UN:=(List cz)×dM×Int
def zw:UN->Exit×AS:=λ(a,b,c)=>(.exit 2,⟨([bE,.d (.slice bQ) a,.dz dU b,bE,bE,.d ti c]++aW 25 []),[],(ai 31 [])⟩)
abbrev ME:=(Unit)⊕(UN)
abbrev ZU:=(Unit)⊕(Unit)
def GR:ME->Out (Exit×AS):=λx=> .br x.isLeft (.get x.getLeft? λa=> .ok (qk a)) (.get x.getRight? λb=> .ok (zw b))
def kT:As->ZU->ME:=λ(yd,lS,fk,kv) y=>match y with | .inl y=> .inl y | .inr z=> .inr ((yd,lS,fk))
abbrev atN:=dM×(List cz)
def aPh(l:List cz)(x:ji):Bool:=l.any (aaT x.1)
def zu:As->Prop:=λ(l,t,i,j)=>l.length<=1000/\t.1.length<=1000000/\∃n k:Nat,n < t.1.length/\i=n/\j=k/\k<=l.length
def oS:As->ZU:=λ(l,t,i,j)=>if(l.drop j.toNat).any (aaT (nth fo t.1 i.toNat).1)=bm then .inl () else .inr ()
def zr:Ar->Prop:=λ(l,t,i)=>l.length<=1000/\t.1.length<=1000000/\∃n:Nat,n<=t.1.length/\i=n
def oR:Ar->ZS:=λ(l,t,i)=>if(t.1.drop i.toNat).any (aPh l)=bm then .inl () else .inr ()
def ayp:atN->Prop:=λ(t,l)=>l.length<=1000/\t.1.length<=1000000
def afy:atN->Bool:=λ(t,l)=>t.1.any (aPh l)
def ZQ:=dB.e7 sO zr kS oR GQ
def MC:Ar->Option MB:=fS ZQ sO
def ZT:=dB.e7 pK zu kT oS GR
def MF:As->Option ME:=fS ZT pK
def tz:Fs Tryz.prog ayp bq afy:=eV 71 Tryz.f71 (λ(t,bar)=>([.d dU t,.d (.slice bQ) bar],[])) (λx=>⟨.d .bool x,[],[]⟩) [av dU,av (.slice bQ)] [] {loops:=lz [(2,{bg:=[1,2,5]}),(5,{bg:=[1,2,5,6]})],outs:=lu [(2,{},{bg:=[4]}),(5,{bg:=[1,2,5]},{bg:=[4]})],fa:=mc [(2,ZQ),(5,ZT)]}
def ZR:= @ej Tryz.prog (jr tz.G) tz.an 0 Tryz.f71 0 _ sO
abbrev UL:=jj Tryz.prog (jr tz.G) tz.an 0 Tryz.f71 0 sO zr kS oR GQ
def MD:= @ej Tryz.prog (jr tz.G) tz.an 0 Tryz.f71 1 _ pK
abbrev UM:=jj Tryz.prog (jr tz.G) tz.an 0 Tryz.f71 1 pK zu kT oS GR
theorem aiF:ik MC zr kS oR:=jX (jA [.d (.slice bQ),.d dU,.d ti] λ_=>cd)
theorem RK:ma @ZR sO zr kS oR GQ UL:=mJ
theorem Ef(OY fP i)(kn:K2 R)(kx:K3 R):ZR (OY,fP,i) kn kx=aJ (fv i (((ae fP.1):Nat):Int)) (ao (MF (OY,fP,i,(0:Int))) λx1=>aJ x1.isLeft (ao x1.getLeft? λa2=>kx (zs ()).1 (zs ()).2) (ao x1.getRight? λb3=>kn (sO (b3.1,b3.2.1,(bz .i64 b3.2.2 (1:Int)))))) (kx (zt ()).1 (zt ()).2):=cd
theorem aiG:ik MF zu kT oS:=jX (jA [.d (.slice bQ),.d dU,.d ti,.d ti] λ_=>cd)
theorem RL:ma @MD pK zu kT oS GR UM:=mJ
theorem MG(yd lS fk kv)(kn:K2 R)(kx:K3 R):MD (yd,lS,fk,kv) kn kx=aJ (fv kv (((ae yd):Nat):Int)) (aJ (eA fk (((ae lS.1):Nat):Int)) (aJ (eA kv (((ae yd):Nat):Int)) (aJ (Ty.beq bQ (nth fo lS.1 (ab fk)).1 (nth bQ yd (ab kv))) (kx (qk ()).1 (qk ()).2) (kn (pK (yd,lS,fk,(bz .i64 kv (1:Int)))))) aH) aH) (kx (zw (yd,lS,fk)).1 (zw (yd,lS,fk)).2):=cd
theorem aFY(t bar)(k:K1 R):tz.A (t,bar) k=ao (MC (bar,t,0)) λx4=>aJ x4.isLeft (ao x4.getLeft? λa5=>k (tz.out bm)) (ao x4.getRight? λb6=>k (tz.out aZ)):=cd
theorem aoP:UM:=by
 refine RL (λ(l,_,_,j)=>l.length - j.toNat) ?_
 rintro⟨l,t,i,j⟩ ⟨hl,ht,n,k,hn,rfl,rfl,hk⟩;have hl:l.length<=1000:=hl;have ht:t.1.length<=1000000:=ht;have hn:n < t.1.length:=hn;have hk:k<=l.length:=hk;have c1:((n:Int)).toNat=n:=aa n;have n2:nth fo t.1 n=t.1[n]:=bY (t:=fo) hn;by_cases h:k < l.length
 ·have n1:nth bQ l k=l[k]:=bY (t:=bQ) h;have hd:l.drop k=l[k]::l.drop (k+1):=au h;have st:∀ {R:Type} (kn:AS->Option R) (kx:Exit->AS->Option R),MD (l,t,(n:Int),(k:Int)) kn kx=aJ (aaT t.1[n].1 l[k]) (kx (qk ()).1 (qk ()).2) (kn (pK (l,t,(n:Int),((k+1:Nat):Int)))):=by intro R kn kx;rw[MG,aS aq,aj,ba aq aq,aj,ba aq aq,aj,c1,aa,n1,n2,N.jL aq];rfl
  cases e:aaT t.1[n].1 l[k]with
  |true=>
   right;refine⟨qk (),?_,λkn kx=> ?_⟩
   ·simp only[kT,oS,aa,hd,n2,eM,e,Bool.true_or,bO];rfl
   ·rw[st,e,aj]
  |false=>
   left;refine⟨(l,t,(n:Int),((k+1:Nat):Int)),⟨hl,ht,n,k+1,hn,rfl,rfl,h⟩,by simp only[aa];omega,?_,λkn kx=> ?_⟩
   ·simp only[kT,oS,aa,hd,n2,eM,e,tC]
   ·rw[st,e,al]
 ·right;obtain rfl:k=l.length:=aq;refine⟨zw (l,t,(n:Int)),?_,λkn kx=> ?_⟩
  ·simp only[kT,oS,aa,aI,iL,bG,bC];rfl
  ·rw[MG,aQ aq,al]
theorem aoO:UL:=by
 refine RK (λ(_,t,i)=>t.1.length - i.toNat) ?_
 rintro⟨l,t,i⟩ ⟨hl,ht,n,hn,rfl⟩;have hl:l.length<=1000:=hl;have ht:t.1.length<=1000000:=ht;have hn:n<=t.1.length:=hn;have z1:((0:Int)).toNat=0:=rfl;by_cases h:n < t.1.length
 ·have n2:nth fo t.1 n=t.1[n]:=bY (t:=fo) h;have hd:t.1.drop n=t.1[n]::t.1.drop (n+1):=au h;have hr:=aiG (d:=(l,t,(n:Int),0)) ⟨hl,ht,n,0,h,rfl,rfl,aL _⟩;simp only[kT,oS,aa,z1,ay,n2]at hr;cases e:aPh l t.1[n]with
  |true=>
   have e':l.any (aaT t.1[n].1)=bm:=e;rw[if_pos e']at hr;right;refine⟨zs (),?_,λkn kx=> ?_⟩
   ·simp only[kS,oR,aa,hd,eM,e,Bool.true_or,bO];rfl
   ·rw[Ef,aS aq,aj,hr];simp only[ag,jK,aj,ir]
  |false=>
   have e':l.any (aaT t.1[n].1)=aZ:=e;rw[if_neg (by rw[e'];decide)]at hr;left;refine⟨(l,t,((n+1:Nat):Int)),⟨hl,ht,n+1,h,rfl⟩,by simp only[aa];omega,?_,λkn kx=> ?_⟩
   ·simp only[kS,oR,aa,hd,eM,e,tC]
   ·rw[Ef,aS aq,aj,hr];simp only[ag,db,al,cC];rw[N.jL aq]
 ·right;obtain rfl:n=t.1.length:=aq;refine⟨zt (),?_,λkn kx=> ?_⟩
  ·simp only[kS,oR,aa,aI,iL,bG,bC];rfl
  ·rw[Ef,aQ aq,al]
theorem aFZ:tz.Ok:=by
 rintro⟨t,l⟩ ⟨hl,ht⟩;rw[aFY,aiF (d:=(l,t,0)) ⟨hl,ht,0,aL _,rfl⟩];simp only[ag,kS,oR,aT,ay,bq,afy];cases t.1.any (aPh l) with
 |true=>rfl
 |false=>rfl
theorem ayq:tz.RS:=rE [.d dU,.d (.slice bQ)] tz
def aF0:=tz.eY aFZ 2 ⟨.e7 aoO,⟨.e7 aoP,trivial⟩⟩
abbrev GS:=kE×Bs×Int
def uR:GS->Bs->((kE)×(Bs)):=λ(eU,x,i) y=>(eU,y)
def abg:GS->Prop:=λ(b,x,i)=>(b.2.2.1).length<=1000000000/\∃k:Nat,k<=(b.2.2.1).length/\i=k/\(b.2.2.1.length<=1000)/\(∀t∈b.2.2.1,th t)/\(x.length<=1000+32*k)
def zx:GS->Bs:=λ(b,x,i)=>(bD (ab i) b.2.2.1).foldl aBd x
def abi:(kE×Bs×Int)->Prop:=λ(b,x,i)=>(b.2.2.2.2.1).length<=1000000000/\∃k:Nat,k<=(b.2.2.2.2.1).length/\i=k/\(b.2.2.2.2.1.length<=1000)/\(∀o∈b.2.2.2.2.1,al7 o)/\(x.length<=100000+43*k)
def zy:(kE×Bs×Int)->Bs:=λ(b,x,i)=>(bD (ab i) b.2.2.2.2.1).foldl aQH x
def aoQ:kE->Prop:=λb=>aTR b
def RM:kE->Bs:=λb=>aS5 b
def nq:Ls abg uR zx:=pD (λ(eU,x,i)=>⟨([bE,.dz iP eU,bE,.d tB x,.d ti i]++aW 60 []),[],(ai 65 [])⟩) (λx=>(.exit 0,⟨([bE,.dz iP x.1,bE,.d tB x.2]++aW 61 []),[],(ai 65 [])⟩))
def nr:Ls abi bq zy:=pD (λ(Wa,aHV,fk)=>⟨([bE,.dz iP Wa,bE,.d tB aHV,bE,.d ti fk]++aW 59 []),[],(ai 65 [])⟩) (λx=>(.exit 2,⟨([bE,bE,bE,.d tB x]++aW 61 []),[],(ai 65 [])⟩))
def oC:Fs Tryz.prog aoQ bq RM:=eV 63 Tryz.f63 (λb=>([.d iP b],[])) (λx=>⟨.d tB x,[],[]⟩) [av iP] [afQ,ak6,afn] {loops:=lz [(4,{bg:=[1,3,4]}),(10,{bg:=[1,3,5]})],outs:=lu [(4,{bg:=[1,3]},{bg:=[2]}),(10,{bg:=[3]},{bg:=[2]})],fa:=mc [(4,nq.E),(10,nr.E)]}
theorem abh:nq.RS:=rL [.d iP,.d tB,.d ti] nq
theorem H3(eU x i)(kn:K2 R)(kx:K3 R):oC.R 0 nq (eU,x,i) kn kx=aJ (fv i (eU.2.2.1.length:Int)) (aJ (eA i (eU.2.2.1.length:Int)) (ao (PN.call (nth dU eU.2.2.1 (ab i))) λx1=>ao (yz.call (x,x1)) λx2=>kn (nq.st (eU,x2,(bz .i64 i 1)))) aH) (nq.go kx (eU,x)):=cd
theorem abj:nr.RS:=rL [.d iP,.d tB,.d ti] nr
theorem H4(Wa aHV fk)(kn:K2 R)(kx:K3 R):oC.R 1 nr (Wa,aHV,fk) kn kx=aJ (fv fk (Wa.2.2.2.2.1.length:Int)) (aJ (eA fk (Wa.2.2.2.2.1.length:Int)) (ao (yz.call (aHV,(nth bQ Wa.2.2.2.2.1 (ab fk)).1)) λx1=>aJ (eA fk (Wa.2.2.2.2.1.length:Int)) (ao (ud.call (x1,(nth bQ Wa.2.2.2.2.1 (ab fk)).2.1)) λx2=>kn (nr.st (Wa,x2,(bz .i64 fk 1)))) aH) aH) (nr.go kx aHV):=cd
theorem atO(b)(k:K1 R):oC.A b k=ao (ud.call (([]:List Int),b.1)) λx1=>ao (yz.call (x1,b.2.1)) λx2=>ao (ud.call (x2,(b.2.2.1.length:Int))) λx3=>ao (nq.call (b,x3,0)) λx6=>ao (ud.call (x6.2,x6.1.2.2.2.1)) λx7=>ao (ud.call (x7,(x6.1.2.2.2.2.1.length:Int))) λx8=>ao (nr.call (x6.1,x8,0)) λavK=>k (oC.out avK):=cd
theorem afz:(oC.jx 0 nq):=by
 refine(oC.mf 0 nq) (λ(b,x,i)=>(b.2.2.1).length - ab i) ?_
 rintro⟨b,x,i⟩ ⟨hlen,k,hk,rfl,h3,hx,hb⟩;have hlen:(b.2.2.1).length<=1000000000:=hlen;have hk:k<=(b.2.2.1).length:=hk;have h3:b.2.2.1.length<=1000:=h3;have hx:∀t∈b.2.2.1,th t:=hx;have hb:x.length<=1000+32*k:=hb;by_cases h:k < (b.2.2.1).length
 ·left;have n1:nth dU b.2.2.1 k=b.2.2.1[k]:=bY (t:=dU) h;have hd:bD k b.2.2.1=b.2.2.1[k]::bD (k+1) b.2.2.1:=au h;refine⟨(b,(aBd x b.2.2.1[k]),((k+1:Nat):Int)),⟨hlen,k+1,aq,rfl,h3,hx,by unfold aBd;rw[ak,xT.1];omega⟩,by simp only[aa];omega,?_,λkn kx=> ?_⟩
  ·simp only[uR,zx,aa,hd,bn]
  ·rw[H3,aS aq,ba aq aq,aa,n1];simp only[aj];rw[Xn (d:=b.2.2.1[k]) (hx _ (aK h))];simp only[ag,bq,UJ];rw[Jq (d:=(x,wz b.2.2.1[k])) ⟨by show x.length<=_;omega,xT.1⟩];simp only[ag,bq,H5];rw[N.jL aq];rfl
 ·right;obtain rfl:k=(b.2.2.1).length:=aq;intro R kn kx;rw[H3,aQ aq,al];simp only[uR,zx,aa,aI,ct]
theorem afA:(oC.jx 1 nr):=by
 refine(oC.mf 1 nr) (λ(b,x,i)=>(b.2.2.2.2.1).length - ab i) ?_
 rintro⟨b,x,i⟩ ⟨hlen,k,hk,rfl,h3,hx,hb⟩;have hlen:(b.2.2.2.2.1).length<=1000000000:=hlen;have hk:k<=(b.2.2.2.2.1).length:=hk;have h3:b.2.2.2.2.1.length<=1000:=h3;have hx:∀o∈b.2.2.2.2.1,al7 o:=hx;have hb:x.length<=100000+43*k:=hb;by_cases h:k < (b.2.2.2.2.1).length
 ·left;have n1:nth bQ b.2.2.2.2.1 k=b.2.2.2.2.1[k]:=bY (t:=bQ) h;have hd:bD k b.2.2.2.2.1=b.2.2.2.2.1[k]::bD (k+1) b.2.2.2.2.1:=au h;refine⟨(b,(aQH x b.2.2.2.2.1[k]),((k+1:Nat):Int)),⟨hlen,k+1,aq,rfl,h3,hx,by have:=Of [b.2.2.2.2.1[k]] x (λo ho=>by rw[bB]at ho;subst ho;exact hx _ (aK h));simp only[bn,ct,aF,bp]at this;omega⟩,by simp only[aa];omega,?_,λkn kx=> ?_⟩
  ·simp only[bq,zy,aa,hd,bn]
  ·rw[H4,aS aq,ba aq aq,aa,n1];simp only[aj];obtain⟨e1,e2⟩:=hx _ (aK h);rw[Jq (d:=(x,b.2.2.2.2.1[k].1)) ⟨by show x.length<=_;omega,e1⟩];simp only[ag,bq,H5];rw[j7 (d:=(x++b.2.2.2.2.1[k].1,b.2.2.2.2.1[k].2.1)) ⟨by show(x++b.2.2.2.2.1[k].1).length<=_;rw[ak,e1];omega,e2⟩];simp only[ag,bq,pO];rw[N.jL aq];rfl
 ·right;obtain rfl:k=(b.2.2.2.2.1).length:=aq;intro R kn kx;rw[H4,aQ aq,al];simp only[bq,zy,aa,aI,ct]
theorem atP:oC.Ok:=by rintro b ⟨⟨h1,h2⟩,⟨h3,h4,h5⟩,h6,h7⟩;have z1:((0:Int)).toNat=0:=rfl;have p1:=dT [] b.1;have p2:=dT (cQ [] b.1++b.2.1) b.2.2.1.length;rw[ak,h4]at p2;have l0:([]:Bs).length=0:=rfl;rw[l0]at p1;have q1:=abH b.2.2.1 (cQ (cQ [] b.1++b.2.1) b.2.2.1.length);obtain⟨x3,e3⟩:∃x,cQ (cQ [] b.1++b.2.1) b.2.2.1.length=x:=⟨_,rfl⟩;rw[e3]at p2 q1;obtain⟨x6,e6⟩:∃x,b.2.2.1.foldl aBd x3=x:=⟨_,rfl⟩;rw[e6]at q1;have p7:=dT x6 b.2.2.2.1;have p8:=dT (cQ x6 b.2.2.2.1) b.2.2.2.2.1.length;obtain⟨x8,e8⟩:∃x,cQ (cQ x6 b.2.2.2.1) b.2.2.2.2.1.length=x:=⟨_,rfl⟩;have q2:=Of b.2.2.2.2.1 x8 h7;rw[e8]at p8;rw[atO,j7 (d:=(([]:List Int),b.1)) ⟨by show(0:Nat)<=_;omega,h3⟩];simp only[ag,bq,pO];rw[Jq (d:=(cQ [] b.1,b.2.1)) ⟨by show(cQ [] b.1).length<=_;omega,h4⟩];simp only[ag,bq,H5];rw[j7 (d:=(cQ [] b.1++b.2.1,(b.2.2.1.length:Int))) ⟨by show(cQ [] b.1++b.2.1).length<=_;rw[ak,h4];omega,by show(b.2.2.1.length:Int)<=_;omega⟩];simp only[ag,bq,pO];rw[e3,abh (d:=(b,x3,0)) ⟨by show b.2.2.1.length<=_;omega,0,aL _,rfl,h1,h2,aq⟩];simp only[ag,uR,zx,z1,ay];rw[e6,j7 (d:=(x6,b.2.2.2.1)) ⟨by show x6.length<=_;omega,h5⟩];simp only[ag,bq,pO];rw[j7 (d:=(cQ x6 b.2.2.2.1,(b.2.2.2.2.1.length:Int))) ⟨by show(cQ x6 b.2.2.2.1).length<=_;omega,by show(b.2.2.2.2.1.length:Int)<=_;omega⟩];simp only[ag,bq,pO];rw[e8,abj (d:=(b,x8,0)) ⟨by show b.2.2.2.2.1.length<=_;omega,0,aL _,rfl,h6,h7,aq⟩];simp only[ag,bq,zy,z1,ay,bq,RM,aS5,e3,e6,e8]
theorem aoR:oC.RS:=rE [.d iP] oC
def atQ:=oC.eY atP 2 ⟨.e7 afz,⟨.e7 afA,trivial⟩⟩
theorem aPs{b:kE}(h:aTR b):(aS5 b).length<=1000000:=by obtain⟨⟨h1,h2⟩,⟨h3,h4,h5⟩,h6,h7⟩:=h;have p1:=dT [] b.1;have p2:=dT (cQ [] b.1++b.2.1) b.2.2.1.length;rw[ak,h4]at p2;have l0:([]:Bs).length=0:=rfl;rw[l0]at p1;have q1:=abH b.2.2.1 (cQ (cQ [] b.1++b.2.1) b.2.2.1.length);have p7:=dT (b.2.2.1.foldl aBd (cQ (cQ [] b.1++b.2.1) b.2.2.1.length)) b.2.2.2.1;have p8:=dT (cQ (b.2.2.1.foldl aBd (cQ (cQ [] b.1++b.2.1) b.2.2.1.length)) b.2.2.2.1) b.2.2.2.2.1.length;have q2:=Of b.2.2.2.2.1 (cQ (cQ (b.2.2.1.foldl aBd (cQ (cQ [] b.1++b.2.1) b.2.2.1.length)) b.2.2.2.1) b.2.2.2.2.1.length) h7;unfold aS5;omega
def aF3:kE->Prop:=λb=>aTR b
def aB0:kE->Bs:=λb=>aS6 b
def afD:Fs Tryz.prog aF3 bq aB0:=eV 11 Tryz.f11 (λb=>([.d iP b],[])) (λx=>⟨.d tH x,[],[]⟩) [av iP] [atQ,ape]
theorem aMO(b)(k:K1 R):afD.A b k=ao (oC.call b) λx1=>ao (abm.call ((⟨#[98,108,111,99,107]⟩:ByteArray),[x1])) λx2=>k (afD.out x2):=cd
theorem aMP:afD.Ok:=by intro b h;rw[aMO,aoR (d:=b) h];simp only[ag,bq,RM];rw[agB (d:=((⟨#[98,108,111,99,107]⟩:ByteArray),[aS5 b])) (VQ eX (aPs h))];rfl
theorem aF4:afD.RS:=rE [.d iP] afD
def aMQ:=afD.eY aMP
theorem gQ.aWw{m m' n n':Nat}{a:At}{s:List cV}{l:List ei}{w:List (List ei)}(hm:m<=m')(hb:gQ m n a s l n' w):gQ m' n a s l n' w:=⟨hb.st.mono hm,hb.rl,hb.eq,hb.le,jy hb.len hm,hb.aKm.mono hm n⟩
abbrev ao7:=(List ei)×Nat×(List (List ei))
abbrev aB7:=(List ei)×Nat×(List (List ei))
def aGB:ao7->aB7->(((List ei)×Nat×(List (List ei)))×((List ei)×Nat×(List (List ei)))):=λ(o0a,o0baL,o1) y=>((o0a,o0baL,o1),y)
def aGA:ao7->Prop:=λ(l,n,w)=>l.length<=1000000/\n<=w.length/\w.length<=1000000
def aRT:ao7->aB7:=λ(l,n,w)=>(l,n,w.take n)
def U9:Fs Tryz.prog aGA aGB aRT:=eV 67 Tryz.f67 (λ(o0a,o0baL,o1)=>([.ptr (.bP 0) 0 [] 0],[.obj 0 aZ (.pr (.d (.slice ez) o0a) (.pr (.bU (.bP 1) 0 [] 0 0 o0baL) (.d .unit ()))),.obj 0 aZ (.vec 104 (.slice ez) o1)])) (λx=>⟨.ptr (.new 0 0) 0 [] 0,[.obj 0 aZ (.pr (.d (.slice ez) x.1.1) (.pr (.bU (.bP 1) 0 [] 0 0 x.1.2.1) (.d .unit ()))),.obj 0 aZ (.vec 104 (.slice ez) x.1.2.2)],[.obj 0 aZ (.pr (.d (.slice ez) x.2.1) (.pr (.bU (.new 0 1) 1 [] 0 0 x.2.2.1) (.d .unit ()))),.obj 1 aZ (.vec 104 (.slice ez) x.2.2.2)]⟩) [aH] [] {cg:=[3,9,16],QN:=[⟨2,[.fst],(.slice ez)⟩]}
theorem aNg(o0a o0baL o1)(k:K1 R):U9.A (o0a,o0baL,o1) k=aJ (cZ (0+(ae o0a)) 80) (aJ (decide (0=0/\(0+o0baL)<=(ae o1))) (aJ (cZ (0+(ae (cut o1 0 o0baL))) 24) (aJ (decide (0=0/\(0+(0+(ae o0a)))<=(ae ((aM 0 (ai 0 (((ai 32 0),(0,())),(((0,((([]:List nR),()),())),(0,())),()))))++o0a)))) (k (U9.out ((o0a,o0baL,o1),((cut ((aM 0 (ai 0 (((ai 32 0),(0,())),(((0,((([]:List nR),()),())),(0,())),()))))++o0a) 0 (0+(ae o0a))),(0+(ae (cut o1 0 o0baL))),((aM 0 (ai 0 ([]:List ei)))++(cut o1 0 o0baL)))))) aH) aH) aH) aH:=cd
theorem aNh:U9.Ok:=by
 rintro⟨l,n,w⟩ ⟨hl,hn,hw⟩;have hl:l.length<=1000000:=hl;have hn:n<=w.length:=hn;have hw:w.length<=1000000:=hw;have e1:cut w 0 n=w.take n:=rfl;have e2:(w.take n).length=n:=by rw[bV];omega
 rw[aNg];simp only[aV,dD,aY,lT];rw[e1,e2,cM aq aq,aj,aX hn,aj,cM aq aq,aj,aX (az _),aj,ea rfl];rfl
theorem aGC:U9.RS:=rE [.d (.slice ez),.n,.d (.slice (.slice ez))] U9
def aul:=U9.eY aNh
abbrev Au:=kE×Int×(List ei)×Nat×(List (List ei))×(List ei)×Nat×(List (List ei))
def pM:Au->AS:=λ(eU,i,o0,o0L,cP,n28,aLj,asH)=>⟨([bE,bE,bE,.dz iP eU,bE,eP 28,.d ti i]++aW 49 []),[dq (.pr (.d (.slice ez) o0) (.pr (.bU (.bP 1) 0 [] 0 0 o0L) gR)),dq (.vec 104 (.slice ez) cP)],(bw 28 ([[dq (.pr (.d (.slice ez) n28) (.pr (.bU (.new 28 1) 0 [] 0 0 aLj) gR)),dq (.vec 104 (.slice ez) asH)]]++bw 27 []))⟩
abbrev UP:=((List ei)×Nat×(List (List ei)))×(Int)
def jD:UP->Exit×AS:=λ((a,b,c),e)=>(.ret,⟨(aW 4 ([.d ti e]++aW 51 [])),[dq (.pr (.d (.slice ez) a) (.pr (.bU (.bP 1) 0 [] 0 0 b) gR)),dq (.vec 104 (.slice ez) c)],(ai 56 [])⟩)
abbrev UQ:=(List ei)×Nat×(List (List ei))
def zA:UQ->Exit×AS:=λ(a,b,c)=>(.exit 0,⟨(aW 56 []),[dq (.pr (.d (.slice ez) a) (.pr (.bU (.bP 1) 0 [] 0 0 b) gR)),dq (.vec 104 (.slice ez) c)],(ai 56 [])⟩)
abbrev MI:=(UP)⊕(UQ)
abbrev ZX:=(Int)⊕(Unit)
def GU:MI->Out (Exit×AS):=λx=> .br x.isLeft (.get x.getLeft? λa=> .ok (jD a)) (.get x.getRight? λb=> .ok (zA b))
def jC:Au->ZX->MI:=λ(eU,i,o0,o0L,cP,n28,aLj,asH) y=>match y with | .inl y=> .inl ((o0,o0L,cP),y) | .inr z=> .inr ((o0,o0L,cP))
abbrev atS:=kE×(List ei)×Nat×(List (List ei))
def IN(b:kE)(h:Int):List dM->At->Option Int
 |[],_=>aH
 |t::ts,a=>if Br b t=bm then av 14 else if(cK t h a).2≠0 then av (cK t h a).2 else IN b h ts (cG t h a)
def aZg:(Int×Int×Int)⊕Int->Option Int
 | .inl x=>av x.2.2
 | .inr _=>aH
theorem Ik(b:kE)(h:Int):∀(l:List dM) (k f:Int) (a:At),aZg (jv b h l k f a)=IN b h l a
 |[],_,_,_=>rfl
 |t::l,k,f,a=>by
  rw[jv,IN];by_cases e:Br b t=bm
  ·rw[if_pos e,if_pos e];rfl
  ·rw[if_neg e,if_neg e];by_cases e2:(cK t h a).2≠0
   ·rw[if_pos e2,if_pos e2];rfl
   ·rw[if_neg e2,if_neg e2];exact Ik b h l _ _ _
theorem Tr(b:kE)(h:Int)(l:List dM){a a':At}(e:uY a a')(ha:(eH a).Nodup)(hb:(eH a').Nodup):IN b h l a=IN b h l a':=by rw[<-Ik b h l 0 0 a,<-Ik b h l 0 0 a',V8 b h l 0 0 e ha hb]
theorem aA1{b:kE}{h:Int}:∀(ts:List dM) {a:At} {e:Int},IN b h ts a=av e->¬e=0
 |[],_,_,x=>by cases x
 |t::ts,a,e,x=>by
  rw[IN]at x;by_cases e1:Br b t=bm
  ·rw[if_pos e1]at x;obtain rfl:=bf x;decide
  ·rw[if_neg e1]at x;by_cases e2:(cK t h a).2≠0
   ·rw[if_pos e2]at x;obtain rfl:=bf x;exact e2
   ·rw[if_neg e2]at x;exact aA1 ts x
def Li(b:kE)(a:At):Int:=if wY b.1 b.2.2.2.1=bm then(if 4000 < aIm b then 3 else(IN b b.1 b.2.2.1 a).getD 0) else 1
theorem aj0{b:kE}{a:At}(ha:(eH a).Nodup):Li b a=(ju b a).2:=by
 unfold Li ju;by_cases e1:wY b.1 b.2.2.2.1=bm
 ·rw[if_pos e1,if_pos e1];by_cases e2:4000 < aIm b
  ·rw[if_pos e2,if_pos e2]
  ·rw[if_neg e2,if_neg e2];obtain⟨aTf,aTg⟩:=Hn ha;rw[<-Tr b b.1 b.2.2.1 aTf aTg ha,<-Ik b b.1 b.2.2.1 0 0];unfold qD;cases jv b b.1 b.2.2.1 0 0 (fC a) with
   |inl x=>rfl
   |inr f=>rfl
 ·rw[if_neg e1,if_neg e1]
theorem ajZ{b:kE}{a:At}(h0:Li b a=0):IN b b.1 b.2.2.1 a=aH:=by
 unfold Li at h0;split at h0
 ·split at h0
  ·cases h0
  ·cases hx:IN b b.1 b.2.2.1 a with
   |none=>rfl
   |some e=>
    rw[hx]at h0;exact absurd h0 (aA1 _ hx)
 ·cases h0
theorem arJ(b:kE){a a':At}(e:uY a a')(ha:(eH a).Nodup)(hb:(eH a').Nodup):Li b a=Li b a':=by unfold Li;rw[Tr b b.1 _ e ha hb]
def aV8(m:Nat)(l:List ei)(n:Nat)(w:List (List ei)):Prop:=∃n' a s,gQ m n' a s l n w
def zz:Au->Prop:=λ(b,i,_,_,_,l,n,w)=>(Sj b/\b.2.2.1.length<=12)/\∃k:Nat,k<=b.2.2.1.length/\i=k/\aV8 (60+k) l n w
def nv:Au->ZX:=λ(b,i,_,_,_,l,_,_)=>match IN b b.1 (b.2.2.1.drop i.toNat) (jF l) with | some e=> .inl e | none=> .inr ()
def ayr:atS->Prop:=λ(b,l,n,w)=>Sj b/\aV8 60 l n w/\b.2.2.1.length<=12
def MH:atS->(Int×(List ei)×Nat×(List (List ei))):=λ(b,l,n,w)=>(Li b (jF l),l,n,w)
def ZV:=dB.e7 pM zz jC nv GU
def MJ:Au->Option MI:=fS ZV pM
def pL:Fs Tryz.prog ayr bq MH:=eV 17 Tryz.f17 (λ(b,o0a,o0baL,o1)=>([.ptr (.bP 0) 0 [] 0,.d iP b],[.obj 0 aZ (.pr (.d (.slice ez) o0a) (.pr (.bU (.bP 1) 0 [] 0 0 o0baL) (.d .unit ()))),.obj 0 aZ (.vec 104 (.slice ez) o1)])) (λx=>⟨.d ti x.1,[.obj 0 aZ (.pr (.d (.slice ez) x.2.1) (.pr (.bU (.bP 1) 0 [] 0 0 x.2.2.1) (.d .unit ()))),.obj 0 aZ (.vec 104 (.slice ez) x.2.2.2)],[]⟩) [aH,av iP] [aMT,UW,aul,aF0,ao2] {loops:=lz [(7,{bg:=[3,5,6],sites:=[28],owns:=[⟨5,[.snd,.fst],28,34⟩]})],outs:=lu [(7,{},{bg:=[4]})],fa:=mc [(7,ZV)]}
def ZW:= @ej Tryz.prog (jr pL.G) pL.an 0 Tryz.f17 0 _ pM
abbrev UO:=jj Tryz.prog (jr pL.G) pL.an 0 Tryz.f17 0 pM zz jC nv GU
theorem aiH:ik MJ zz jC nv:=jX (jA [.d iP,.d ti,.d (.slice ez),.n,.d (.slice (.slice ez)),.d (.slice ez),.n,.d (.slice (.slice ez))] λ_=>cd)
theorem RN:ma @ZW pM zz jC nv GU UO:=mJ
theorem xy(eU i o0 o0L cP n28 aLj asH)(kn:K2 R)(kx:K3 R):ZW (eU,i,o0,o0L,cP,n28,aLj,asH) kn kx=aJ (fv i (((ae eU.2.2.1):Nat):Int)) (aJ (eA i (((ae eU.2.2.1):Nat):Int)) (ao (tz.call ((nth dU eU.2.2.1 (ab i)),eU.2.2.2.2.1)) λx1=>aJ (x1) (kx (jD ((o0,o0L,cP),(14:Int))).1 (jD ((o0,o0L,cP),(14:Int))).2) (aJ (eA i (((ae eU.2.2.1):Nat):Int)) (ao (H8 ((nth dU eU.2.2.1 (ab i)),eU.1,n28,aLj,asH)) λx2=>aJ x2.isLeft (ao x2.getLeft? λaCw=>aJ (C3 aCw.1 (0:Int)) (kx (jD ((o0,o0L,cP),aCw.1)).1 (jD ((o0,o0L,cP),aCw.1)).2) (kn (pM (eU,(bz .i64 i (1:Int)),o0,o0L,cP,aCw.2.1,aCw.2.2.1,aCw.2.2.2)))) (ao x2.getRight? λaCx=>aJ (C3 aCx.1 (0:Int)) (kx (jD ((o0,o0L,cP),aCx.1)).1 (jD ((o0,o0L,cP),aCx.1)).2) (kn (pM (eU,(bz .i64 i (1:Int)),o0,o0L,cP,aCx.2.1,aCx.2.2.1,aCx.2.2.2))))) aH)) aH) (kx (zA (o0,o0L,cP)).1 (zA (o0,o0L,cP)).2):=cd
theorem aF1(b o0a o0baL o1)(k:K1 R):pL.A (b,o0a,o0baL,o1) k=ao (UR.call (b.1,1,1048576)) λx1=>aJ (!x1) (k (pL.out (1,o0a,o0baL,o1))) (ao (UR.call (b.2.2.2.1,0,4000)) λx2=>aJ (!x2) (k (pL.out (1,o0a,o0baL,o1))) (aJ (xW (b.2.2.1.length:Int) 200) (k (pL.out (3,o0a,o0baL,o1))) (ao (oD.call b) λx3=>aJ (xW x3 4000) (k (pL.out (3,o0a,o0baL,o1))) (ao (U9.call (o0a,o0baL,o1)) λx4=>ao (MJ (b,0,x4.1.1,x4.1.2.1,x4.1.2.2,x4.2.1,x4.2.2.1,x4.2.2.2)) λx9=>aJ x9.isLeft (ao x9.getLeft? λa10=>k (pL.out (a10.2,a10.1.1,a10.1.2.1,a10.1.2.2))) (ao x9.getRight? λb11=>k (pL.out (0,b11.1,b11.2.1,b11.2.2))))))):=cd
theorem aoS:UO:=by
 refine RN (λ(b,i,_,_,_,_,_,_)=>b.2.2.1.length - i.toNat) ?_
 rintro⟨b,i,l0,n0,w0,l,n,w⟩ ⟨⟨hB,wD⟩,k,hk,rfl,n',a,s,hb⟩;have hB:Sj b:=hB;have wD:b.2.2.1.length<=12:=wD;have hk:k<=b.2.2.1.length:=hk;have hb:gQ (60+k) n' a s l n w:=hb;by_cases fF:k < b.2.2.1.length
 ·have n1:nth dU b.2.2.1 k=b.2.2.1[k]:=bY (t:=dU) fF;have hd:b.2.2.1.drop k=b.2.2.1[k]::b.2.2.1.drop (k+1):=au fF;have hv:=hB.1.1.2 _ (aK fF);have hi:=hB.2.2 _ (aK fF);have Ht:=ayq (d:=(b.2.2.1[k],b.2.2.2.2.1)) ⟨hB.1.2.2.1,hi⟩;have eb:afy (b.2.2.1[k],b.2.2.2.2.1)=Br b b.2.2.1[k]:=rfl;by_cases e1:Br b b.2.2.1[k]=bm
  ·right;refine⟨jD ((l0,n0,w0),14),?_,λkn kx=> ?_⟩;rotate_left
   ·rw[xy,aS aq,aj,ba aq aq,aj,aa,n1,Ht,eb,e1];simp only[ag,aj]
   ·simp only[jC,nv,aa,hd,IN,if_pos e1];rfl
  ·have e1':Br b b.2.2.1[k]=aZ:=by simpa using e1
   have aHO:=ay6 hb aq (t:=b.2.2.1[k]) (h:=b.1) hv;have adk:=hb.rl.check b.2.2.1[k] b.1;by_cases e2:(cK b.2.2.1[k] b.1 a).2≠0
   ·rw[if_pos e2]at aHO;right;refine⟨jD ((l0,n0,w0),(cK b.2.2.1[k] b.1 a).2),?_,λkn kx=> ?_⟩;rotate_left
    ·rw[xy,aS aq,aj,ba aq aq,aj,aa,n1,Ht,eb,e1'];simp only[ag,al,aj];rw[aHO];simp only[ag,jK,aj,ir];rw[fH e2,aj]
    ·simp only[jC,nv,aa,hd,IN,if_neg e1,adk,if_pos e2];rfl
   ·rw[if_neg e2]at aHO;have e0:(cK b.2.2.1[k] b.1 a).2=0:=by simpa using e2
    have aQl:=y3 e0;have AR:=hb.apply aQl hv;left;refine⟨(b,((k+1:Nat):Int),l0,n0,w0,Sp b.2.2.1[k] b.1 l,n+1,w.take n++ [l]),⟨⟨hB,wD⟩,k+1,fF,rfl,_,_,_,AR⟩,by simp only[aa];omega,?_,λkn kx=> ?_⟩
    ·simp only[jC,nv,aa,hd,IN,if_neg e1,adk,if_neg e2];have ev:uY (cG b.2.2.1[k] b.1 (jF l)) (jF (Sp b.2.2.1[k] b.1 l)):=(hb.rl.eqv.apply hb.rl.nd hb.st.nT.1 _ _).trans AR.rl.eqv.symm;rw[Tr b b.1 _ ev (gZ hb.rl.nd) AR.rl.nd]
    ·rw[xy,aS aq,aj,ba aq aq,aj,aa,n1,Ht,eb,e1'];simp only[ag,al,aj];rw[aHO];simp only[ag,db,al,cC];rw[dN rfl,al,N.jL aq]
 ·right;obtain rfl:k=b.2.2.1.length:=aq;refine⟨zA (l0,n0,w0),?_,λkn kx=> ?_⟩;rotate_left
  ·rw[xy,aQ aq,al]
  ·simp only[jC,nv,aa,aI,IN];rfl
theorem gQ.bbA{m n n':Nat}{a:At}{s:List cV}{l:List ei}{w:List (List ei)}(hb:gQ m n a s l n' w):gQ m n a s l n' (w.take n'):=by
 have h1:=hb.le;obtain rfl:=hb.eq;have e:(w.take n').length=n':=by rw[bV];omega
 refine⟨hb.st,hb.rl,rfl,by rw[e];exact az _,by rw[e];exact jy h1 hb.len,tE.same n' hb.aKm (λ_ _=>rfl) λk hk=> ?_⟩;rw[bY (t:= .slice ez) (show k < w.length by omega),bY (t:= .slice ez) (show k < (w.take n').length by omega)];show w[k]=(aM n' w)[k];rw[List.getElem_take]
theorem aB6{m n n':Nat}{a:At}{s:List cV}{l:List ei}{w:List (List ei)}(hb:gQ m n a s l n' w)(hm:m<=100):U9.call (l,n',w)=av ((l,n',w),(l,n',w.take n')):=by have h1:=hb.rl.len;have h2:=hb.st.aI8;have h3:=hb.len;exact aGC (d:=(l,n',w)) ⟨by show l.length<=_;omega,by rw[hb.eq];exact hb.le,by show w.length<=_;omega⟩
theorem aF2:pL.Ok:=by
 rintro⟨b,l,n,w⟩ ⟨hB,⟨n',a,s,hb⟩,wD⟩;have hB:Sj b:=hB;have wD:b.2.2.1.length<=12:=wD;have hb:gQ 60 n' a s l n w:=hb;rw[aF1,akX (d:=(b.1,1,1048576)) trivial];simp only[ag,bq,abU,bq,MH,Li];by_cases h1:1<=b.1/\b.1<=1048576
 case neg=>
  have ef:wY b.1 b.2.2.2.1=aZ:=bo (λx=>h1 ⟨x.1,x.2.1⟩);rw[bo h1,dX,aj,if_neg (by rw[ef];decide)]
 rw[aX h1,bT,al,akX (d:=(b.2.2.2.1,0,4000)) trivial];simp only[ag,bq,abU];by_cases h2:0<=b.2.2.2.1/\b.2.2.2.1<=4000
 case neg=>
  have ef:wY b.1 b.2.2.2.1=aZ:=bo (λx=>h2 x.2.2);rw[bo h2,dX,aj,if_neg (by rw[ef];decide)]
 have ef:wY b.1 b.2.2.2.1=bm:=aX ⟨h1.1,h1.2,h2⟩;rw[aX h2,bT,al,if_pos ef,cI aq,al,P1 (d:=b) ⟨hB.1,h2.1,by show b.2.2.2.1<=_;omega⟩];simp only[ag,bq,Fk];by_cases hw:4000 < aIm b
 ·rw[dw aq,aj,if_pos hw]
 rw[cI aq,al,if_neg hw,aB6 hb eX];simp only[ag];rw[aiH (d:=(b,0,l,n,w,l,n,w.take n)) ⟨⟨hB,wD⟩,0,aL _,rfl,n',a,s,hb.bbA⟩];simp only[ag,jC,nv,aT,ay];cases IN b b.1 b.2.2.1 (jF l) with
 |none=>rfl
 |some e=>rfl
theorem RO:pL.RS:=rE [.d iP,.d (.slice ez),.n,.d (.slice (.slice ez))] pL
def Xr:=pL.eY aF2 1 ⟨.e7 aoS,trivial⟩
abbrev ZP:=kE×Int×(List ei)×Nat×(List (List ei))
abbrev atM:=kE×(List ei)×Nat×(List (List ei))
abbrev aPc:=List ei×Nat×List (List ei)
def aaL(h:Int)(S:aPc)(t:dM):aPc:=if(cK t h (jF S.1)).2≠0 then S else(Sp t h S.1,S.2.1+1,S.2.2.take S.2.1++ [S.1])
theorem gQ.one{m n n':Nat}{a:At}{s:List cV}{l:List ei}{w:List (List ei)}(hb:gQ m n a s l n' w)(h:Int){t:dM}(hv:th t):gQ (m+1) (F3 h (n,a,s) t).1 (F3 h (n,a,s) t).2.1 (F3 h (n,a,s) t).2.2 (aaL h (l,n',w) t).1 (aaL h (l,n',w) t).2.1 (aaL h (l,n',w) t).2.2:=by
 have adk:=hb.rl.check t h;unfold F3 aaL;by_cases e:(cK t h a).2≠0
 ·rw[if_pos e,if_pos (by rw[adk];exact e)];exact hb.mono
 ·rw[if_neg e,if_neg (by rw[adk];exact e)];exact hb.apply (y3 (by simpa using e)) hv
theorem gQ.all{h:Int}:∀(ts:List dM) {m n n':Nat} {a:At} {s:List cV} {l:List ei} {w:List (List ei)},gQ m n a s l n' w->(∀t∈ts,th t)->
  gQ (m+ts.length) (ts.foldl (F3 h) (n,a,s)).1 (ts.foldl (F3 h) (n,a,s)).2.1 (ts.foldl (F3 h) (n,a,s)).2.2 (ts.foldl (aaL h) (l,n',w)).1 (ts.foldl (aaL h) (l,n',w)).2.1 (ts.foldl (aaL h) (l,n',w)).2.2
 |[],_,_,_,_,_,_,_,hb,_=>hb
 |t::ts,m,n,n',a,s,l,w,hb,hv=>by
  have:=gQ.all (h:=h) ts (hb.one h (hv t aU)) λx hx=>hv x (aP _ hx)
  rw[bn,bn,aF,show m+(ts.length+1)=m+1+ts.length by omega];exact this
def aiD:ZP->Prop:=λ(b,i,l,n,w)=>(Sj b/\b.2.2.1.length<=12)/\∃k:Nat,k<=b.2.2.1.length/\i=k/\aV8 (40+k) l n w
def Aq:ZP->((List ei)×Nat×(List (List ei))):=λ(b,i,l,n,w)=>(b.2.2.1.drop i.toNat).foldl (aaL b.1) (l,n,w)
def ayn:atM->Prop:=λ(b,l,n,w)=>Sj b/\aV8 40 l n w/\b.2.2.1.length<=12
def afx:atM->(Int×(List ei)×Nat×(List (List ei))):=λ(b,l,n,w)=>(Li b (jF l),if Li b (jF l)≠0 then(l,n,w) else b.2.2.1.foldl (aaL b.1) (l,n,w))
def qj:Ls aiD bq Aq:=pD (λ(eU,i,o0,o0L,cP)=>⟨([.ptr (.bP 0) 0 [] 0,bE,bE,.dz iP eU,bE,bE,.d ti i]++aW 22 []),[dq (.pr (.d (.slice ez) o0) (.pr (.bU (.bP 1) 1 [] 0 0 o0L) gR)),.obj 1 aZ (.vec 104 (.slice ez) cP)],(ai 29 [])⟩) (λx=>(.exit 0,⟨(aW 29 []),[dq (.pr (.d (.slice ez) x.1) (.pr (.bU (.bP 1) 1 [] 0 0 x.2.1) gR)),.obj 1 aZ (.vec 104 (.slice ez) x.2.2)],(ai 29 [])⟩))
def Bb:Fs Tryz.prog ayn bq afx:=eV 19 Tryz.f19 (λ(b,o0a,o0baL,o1)=>([.ptr (.bP 0) 0 [] 0,.d iP b],[.obj 0 aZ (.pr (.d (.slice ez) o0a) (.pr (.bU (.bP 1) 0 [] 0 0 o0baL) (.d .unit ()))),.obj 0 aZ (.vec 104 (.slice ez) o1)])) (λx=>⟨.d ti x.1,[.obj 0 aZ (.pr (.d (.slice ez) x.2.1) (.pr (.bU (.bP 1) 1 [] 0 0 x.2.2.1) (.d .unit ()))),.obj 1 aZ (.vec 104 (.slice ez) x.2.2.2)],[]⟩) [aH,av iP] [Xr,ao2] {loops:=lz [(5,{bg:=[0,3,6],aIz:=[(1,1)]})],outs:=lu [(5,{aIz:=[(1,1)]},{bg:=[4],aIz:=[(1,1)]})],fa:=mc [(5,qj.E)],aIz:=[(1,1)]}
theorem aiE:qj.RS:=rL [.d iP,.d ti,.d (.slice ez),.n,.d (.slice (.slice ez))] qj
theorem Ee(eU i o0 o0L cP)(kn:K2 R)(kx:K3 R):Bb.R 0 qj (eU,i,o0,o0L,cP) kn kx=aJ (fv i (eU.2.2.1.length:Int)) (aJ (eA i (eU.2.2.1.length:Int)) (ao (H8 ((nth dU eU.2.2.1 (ab i)),eU.1,o0,o0L,cP)) λx1=>aJ x1.isLeft (ao x1.getLeft? λaHH=>kn (qj.st (eU,(bz .i64 i 1),aHH.2.1,aHH.2.2.1,aHH.2.2.2))) (ao x1.getRight? λaHU=>kn (qj.st (eU,(bz .i64 i 1),aHU.2.1,aHU.2.2.1,aHU.2.2.2)))) aH) (qj.go kx (o0,o0L,cP)):=cd
theorem aFV(b o0a o0baL o1)(k:K1 R):Bb.A (b,o0a,o0baL,o1) k=ao (pL.call (b,o0a,o0baL,o1)) λx1=>aJ (C3 x1.1 0) (k (Bb.out (x1.1,x1.2.1,x1.2.2.1,x1.2.2.2))) (ao (qj.call (b,0,x1.2.1,x1.2.2.1,x1.2.2.2)) λx3=>k (Bb.out (0,x3.1,x3.2.1,x3.2.2))):=cd
theorem aoN:(Bb.jx 0 qj):=by
 refine(Bb.mf 0 qj) (λ(b,i,_,_,_)=>b.2.2.1.length - i.toNat) ?_
 rintro⟨b,i,l,n,w⟩ ⟨⟨hB,wD⟩,k,hk,rfl,n',a,s,hb⟩;have hB:Sj b:=hB;have wD:b.2.2.1.length<=12:=wD;have hk:k<=b.2.2.1.length:=hk;have hb:gQ (40+k) n' a s l n w:=hb;by_cases fF:k < b.2.2.1.length
 ·left;have n1:nth dU b.2.2.1 k=b.2.2.1[k]:=bY (t:=dU) fF;have hd:b.2.2.1.drop k=b.2.2.1[k]::b.2.2.1.drop (k+1):=au fF;have hv:=hB.1.1.2 _ (aK fF);have aHO:=ay6 hb aq (t:=b.2.2.1[k]) (h:=b.1) hv;have adk:=hb.rl.check b.2.2.1[k] b.1;have h1:=hb.one b.1 hv;by_cases e2:(cK b.2.2.1[k] b.1 a).2≠0
  ·have eR:aaL b.1 (l,n,w) b.2.2.1[k]=(l,n,w):=if_pos (by show(cK b.2.2.1[k] b.1 (jF l)).2≠0;rw[adk];exact e2);rw[if_pos e2]at aHO;rw[eR]at h1;refine⟨(b,((k+1:Nat):Int),l,n,w),⟨⟨hB,wD⟩,k+1,fF,rfl,_,_,_,h1⟩,by simp only[aa];omega,?_,λkn kx=> ?_⟩
   ·simp only[bq,Aq,aa,hd,bn,eR]
   ·rw[Ee,aS aq,aj,ba aq aq,aj,aa,n1,aHO];simp only[ag,jK,aj,ir];rw[N.jL aq]
  ·have eR:aaL b.1 (l,n,w) b.2.2.1[k]=(Sp b.2.2.1[k] b.1 l,n+1,w.take n++ [l]):=if_neg (by show ¬(cK b.2.2.1[k] b.1 (jF l)).2≠0;rw[adk];exact e2);rw[if_neg e2]at aHO;rw[eR]at h1;refine⟨(b,((k+1:Nat):Int),Sp b.2.2.1[k] b.1 l,n+1,w.take n++ [l]),⟨⟨hB,wD⟩,k+1,fF,rfl,_,_,_,h1⟩,by simp only[aa];omega,?_,λkn kx=> ?_⟩
   ·simp only[bq,Aq,aa,hd,bn,eR]
   ·rw[Ee,aS aq,aj,ba aq aq,aj,aa,n1,aHO];simp only[ag,db,al,cC];rw[N.jL aq]
 ·right;obtain rfl:k=b.2.2.1.length:=aq;intro R kn kx;rw[Ee,aQ aq,al];simp only[bq,Aq,aa,aI,ct]
theorem aFW:Bb.Ok:=by
 rintro⟨b,l,n,w⟩ ⟨hB,⟨n',a,s,hb⟩,wD⟩;have hb:gQ 40 n' a s l n w:=hb;rw[aFV,RO (d:=(b,l,n,w)) ⟨hB,⟨_,_,_,hb.aWw eX⟩,wD⟩];simp only[ag,bq,MH,bq,afx];by_cases h0:Li b (jF l)=0
 ·rw[dN h0,al,if_neg (λx=>x h0),aiE (d:=(b,0,l,n,w)) ⟨⟨hB,wD⟩,0,aL _,rfl,n',a,s,hb⟩,h0];simp only[ag,bq,Aq,aT,ay]
 ·rw[fH h0,aj,if_pos h0]
theorem ayo:Bb.RS:=rE [.d iP,.d (.slice ez),.n,.d (.slice (.slice ez))] Bb
def aFX:=Bb.eY aFW 1 ⟨.e7 aoN,trivial⟩
abbrev Av:=kE×Int×(List ei)×Nat×(List (List ei))
def sP:Av->AS:=λ(eU,i,o0,o0L,cP)=>⟨([.ptr (.bP 0) 0 [] 0,bE,bE,.dz iP eU,bE,.d ti i]++aW 10 []),[dq (.pr (.d (.slice ez) o0) (.pr (.bU (.bP 1) 0 [] 0 0 o0L) gR)),dq (.vec 104 (.slice ez) cP)],(ai 16 [])⟩
abbrev UT:=(List ei)×Nat×(List (List ei))
def zC:UT->Exit×AS:=λ(a,b,c)=>(.ret,⟨(aW 4 ([.d .bool aZ]++aW 11 [])),[dq (.pr (.d (.slice ez) a) (.pr (.bU (.bP 1) 0 [] 0 0 b) gR)),dq (.vec 104 (.slice ez) c)],(ai 16 [])⟩)
abbrev UU:=(List ei)×Nat×(List (List ei))
def zD:UU->Exit×AS:=λ(a,b,c)=>(.exit 0,⟨(aW 16 []),[dq (.pr (.d (.slice ez) a) (.pr (.bU (.bP 1) 0 [] 0 0 b) gR)),dq (.vec 104 (.slice ez) c)],(ai 16 [])⟩)
abbrev MK:=(UT)⊕(UU)
abbrev Z0:=(((List ei)×Nat×(List (List ei))))⊕(((List ei)×Nat×(List (List ei))))
def GV:MK->Out (Exit×AS):=λx=> .br x.isLeft (.get x.getLeft? λa=> .ok (zC a)) (.get x.getRight? λb=> .ok (zD b))
def kU:Av->Z0->MK:=λ(eU,i,o0,o0L,cP) y=>match y with | .inl y=> .inl y | .inr z=> .inr (z)
abbrev atV:=kE×(List ei)×Nat×(List (List ei))
def Yd:Nat->aPc->Bool×aPc
 | 0,S=>(bm,S)
 |k+1,S=>if S.2.1=0 then(aZ,S) else Yd k (nth (.slice ez) S.2.2 (S.2.1 - 1),S.2.1 - 1,S.2.2)
theorem gQ.aYX:∀(k:Nat) {m n n':Nat} {a:At} {s:List cV} {l:List ei} {w:List (List ei)},gQ m n a s l n' w->(KC k (n,a,s)).1=(Yd k (l,n',w)).1/\gQ m (KC k (n,a,s)).2.1 (KC k (n,a,s)).2.2.1 (KC k (n,a,s)).2.2.2 (Yd k (l,n',w)).2.1 (Yd k (l,n',w)).2.2.1 (Yd k (l,n',w)).2.2.2
 | 0,_,_,_,_,_,_,_,hb=>⟨rfl,hb⟩
 |k+1,m,0,n',a,s,l,w,hb=>by obtain rfl:n'=0:=hb.eq;exact⟨rfl,hb⟩
 |k+1,m,n+1,n',a,s,l,w,hb=>by obtain rfl:n'=n+1:=hb.eq;exact gQ.aYX k hb.aSK
def zB:Av->Prop:=λ(b,i,_,n,w)=>(n<=w.length/\w.length<=1000000)/\∃k:Nat,k<=b.2.2.1.length/\b.2.2.1.length<=1000/\i=k
def oT:Av->Z0:=λ(b,i,l,n,w)=>if(Yd (b.2.2.1.length - i.toNat) (l,n,w)).1=bm then .inr (Yd (b.2.2.1.length - i.toNat) (l,n,w)).2 else .inl (Yd (b.2.2.1.length - i.toNat) (l,n,w)).2
def ayv:atV->Prop:=λ(b,_,n,w)=>b.2.2.1.length<=1000/\n<=w.length/\w.length<=1000000
def afE:atV->(Bool×(List ei)×Nat×(List (List ei))):=λ(b,l,n,w)=>Yd b.2.2.1.length (l,n,w)
def ZY:=dB.e7 sP zB kU oT GV
def ML:Av->Option MK:=fS ZY sP
def xA:Fs Tryz.prog ayv bq afE:=eV 26 Tryz.f26 (λ(b,o0a,o0baL,o1)=>([.ptr (.bP 0) 0 [] 0,.d iP b],[.obj 0 aZ (.pr (.d (.slice ez) o0a) (.pr (.bU (.bP 1) 0 [] 0 0 o0baL) (.d .unit ()))),.obj 0 aZ (.vec 104 (.slice ez) o1)])) (λx=>⟨.d .bool x.1,[.obj 0 aZ (.pr (.d (.slice ez) x.2.1) (.pr (.bU (.bP 1) 0 [] 0 0 x.2.2.1) (.d .unit ()))),.obj 0 aZ (.vec 104 (.slice ez) x.2.2.2)],[]⟩) [aH,av iP] [aSj] {loops:=lz [(2,{bg:=[0,3,5]})],outs:=lu [(2,{},{bg:=[4]})],fa:=mc [(2,ZY)]}
def ZZ:= @ej Tryz.prog (jr xA.G) xA.an 0 Tryz.f26 0 _ sP
abbrev US:=jj Tryz.prog (jr xA.G) xA.an 0 Tryz.f26 0 sP zB kU oT GV
theorem aiJ:ik ML zB kU oT:=jX (jA [.d iP,.d ti,.d (.slice ez),.n,.d (.slice (.slice ez))] λ_=>cd)
theorem RP:ma @ZZ sP zB kU oT GV US:=mJ
theorem Eg(eU i o0 o0L cP)(kn:K2 R)(kx:K3 R):ZZ (eU,i,o0,o0L,cP) kn kx=aJ (fv i (((ae eU.2.2.1):Nat):Int)) (ao (auN.call (o0,o0L,cP)) λx1=>aJ (!x1.2.1) (kx (zC (x1.2.2.1,x1.2.2.2,x1.1)).1 (zC (x1.2.2.1,x1.2.2.2,x1.1)).2) (kn (sP (eU,(bz .i64 i (1:Int)),x1.2.2.1,x1.2.2.2,x1.1)))) (kx (zD (o0,o0L,cP)).1 (zD (o0,o0L,cP)).2):=cd
theorem aF6(b o0a o0baL o1)(k:K1 R):xA.A (b,o0a,o0baL,o1) k=ao (ML (b,0,o0a,o0baL,o1)) λx2=>aJ x2.isLeft (ao x2.getLeft? λa3=>k (xA.out (aZ,a3.1,a3.2.1,a3.2.2))) (ao x2.getRight? λb4=>k (xA.out (bm,b4.1,b4.2.1,b4.2.2))):=cd
theorem aoT:US:=by
 refine RP (λ(b,i,_,_,_)=>b.2.2.1.length - i.toNat) ?_
 rintro⟨b,i,l,n,w⟩ ⟨⟨hn,hw⟩,k,hk,hm,rfl⟩;have hn:n<=w.length:=hn;have hw:w.length<=1000000:=hw;have hk:k<=b.2.2.1.length:=hk;have hm:b.2.2.1.length<=1000:=hm;by_cases fF:k < b.2.2.1.length
 ·have e:b.2.2.1.length - k=b.2.2.1.length - (k+1)+1:=aq;have hr:=aNX (d:=(l,n,w)) ⟨hn,hw⟩;by_cases h0:n=0
  ·right;subst h0;refine⟨zC (l,0,w),?_,λkn kx=> ?_⟩;rotate_left
   ·rw[Eg,aS aq,aj,hr];simp only[ag,VA,apf,bO,dX,aj]
   ·simp only[kU,oT,aa,e];rfl
  ·left;refine⟨(b,((k+1:Nat):Int),nth (.slice ez) w (n - 1),n - 1,w),⟨⟨by show n - 1<=w.length;omega,hw⟩,k+1,fF,hm,rfl⟩,by simp only[aa];omega,?_,λkn kx=> ?_⟩
   ·have eu:Yd (b.2.2.1.length - (k+1)+1) (l,n,w)=Yd (b.2.2.1.length - (k+1)) (nth (.slice ez) w (n - 1),n - 1,w):=if_neg h0;simp only[kU,oT,aa,e,eu]
   ·rw[Eg,aS aq,aj,hr];simp only[ag,VA,apf,if_neg h0,bT,al];rw[N.jL aq]
 ·right;obtain rfl:k=b.2.2.1.length:=aq;refine⟨zD (l,n,w),?_,λkn kx=> ?_⟩;rotate_left
  ·rw[Eg,aQ aq,al]
  ·simp only[kU,oT,aa,Nat.sub_self];rfl
theorem aF7:xA.Ok:=by
 rintro⟨b,l,n,w⟩ ⟨hm,hn,hw⟩;rw[aF6,aiJ (d:=(b,0,l,n,w)) ⟨⟨hn,hw⟩,0,aL _,hm,rfl⟩];simp only[ag,kU,oT,aT,kr,bq,afE];obtain⟨⟨x,S⟩,hx⟩:∃x,Yd b.2.2.1.length (l,n,w)=x:=⟨_,rfl⟩;rw[hx];cases x with
 |true=>rfl
 |false=>rfl
theorem ayw:xA.RS:=rE [.d iP,.d (.slice ez),.n,.d (.slice (.slice ez))] xA
def aF8:=xA.eY aF7 1 ⟨.e7 aoT,trivial⟩
abbrev Jm:=kE×Int×Int×(List ei)×Nat×(List (List ei))×(List ei)×Nat×(List (List ei))
def xz:Jm->Int->(((List ei)×Nat×(List (List ei)))×(Int)):=λ(eU,n,i,o0,o0L,cP,n16,aLh,Hz) y=>((o0,o0L,cP),y)
abbrev akW:=kE×(List ei)×Nat×(List (List ei))
def aP5:(Int×Int×Int)⊕Int->Int
 | .inl _=>0
 | .inr f=>f
def afB:Jm->Prop:=λ(b,f,i,_,_,_,l,n,w)=>((Sj b/\b.2.2.1.length<=12)/\IN b b.1 (b.2.2.1.drop i.toNat) (jF l)=aH)/\∃k:Nat,k<=b.2.2.1.length/\i=k/\aV8 (60+k) l n w/\0<=f/\f+gM (jF l)<=1125899906842624
def CE:Jm->Int:=λ(b,f,i,_,_,_,l,_,_)=>aP5 (jv b b.1 (b.2.2.1.drop i.toNat) i f (jF l))
def atT:akW->Prop:=λ(b,l,n,w)=>Sj b/\aV8 60 l n w/\b.2.2.1.length<=12
def Xs:akW->(Int×Bool×(List ei)×Nat×(List (List ei))):=λ(b,l,n,w)=>if Li b (jF l)≠0 then(0,aZ,l,n,w) else(aP5 (jv b b.1 b.2.2.1 0 0 (jF l)),bm,l,n,w)
def nI:Ls afB xz CE:=pD (λ(eU,n,i,o0,o0L,cP,n16,aLh,Hz)=>⟨([bE,bE,bE,.dz iP eU,bE,bE,eP 16,.d ti n,.d ti i]++aW 40 []),[dq (.pr (.d (.slice ez) o0) (.pr (.bU (.bP 1) 0 [] 0 0 o0L) gR)),dq (.vec 104 (.slice ez) cP)],(bw 16 ([[dq (.pr (.d (.slice ez) n16) (.pr (.bU (.new 16 1) 0 [] 0 0 aLh) gR)),dq (.vec 104 (.slice ez) Hz)]]++bw 32 []))⟩) (λx=>(.exit 0,⟨(aW 7 ([.d ti x.2]++aW 41 [])),[dq (.pr (.d (.slice ez) x.1.1) (.pr (.bU (.bP 1) 0 [] 0 0 x.1.2.1) gR)),dq (.vec 104 (.slice ez) x.1.2.2)],(ai 49 [])⟩))
def uS:Fs Tryz.prog atT bq Xs:=eV 15 Tryz.f15 (λ(b,o0a,o0baL,o1)=>([.ptr (.bP 0) 0 [] 0,.d iP b],[.obj 0 aZ (.pr (.d (.slice ez) o0a) (.pr (.bU (.bP 1) 0 [] 0 0 o0baL) (.d .unit ()))),.obj 0 aZ (.vec 104 (.slice ez) o1)])) (λx=>⟨.cons (.d ti x.1) (.cons (.d .bool x.2.1) (.nil)),[.obj 0 aZ (.pr (.d (.slice ez) x.2.2.1) (.pr (.bU (.bP 1) 0 [] 0 0 x.2.2.2.1) (.d .unit ()))),.obj 0 aZ (.vec 104 (.slice ez) x.2.2.2.2)],[]⟩) [aH,av iP] [Xr,aul,aB5,ao2] {loops:=lz [(6,{bg:=[3,6,7,8],sites:=[16],owns:=[⟨6,[.snd,.fst],16,34⟩]})],outs:=lu [(6,{bg:=[7]},{bg:=[4,5]})],fa:=mc [(6,nI.E)]}
theorem afC:nI.RS:=rL [.d iP,.d ti,.d ti,.d (.slice ez),.n,.d (.slice (.slice ez)),.d (.slice ez),.n,.d (.slice (.slice ez))] nI
theorem J9(eU n i o0 o0L cP n16 aLh Hz)(kn:K2 R)(kx:K3 R):uS.R 0 nI (eU,n,i,o0,o0L,cP,n16,aLh,Hz) kn kx=aJ (fv i (eU.2.2.1.length:Int)) (aJ (eA i (eU.2.2.1.length:Int)) (ao (Bc.call ((nth dU eU.2.2.1 (ab i)),eU.1,n16,aLh,Hz)) λx1=>aJ (eA i (eU.2.2.1.length:Int)) (ao (H8 ((nth dU eU.2.2.1 (ab i)),eU.1,x1.2.2.1,x1.2.2.2.1,x1.2.2.2.2)) λx2=>aJ x2.isLeft (ao x2.getLeft? λaCw=>kn (nI.st (eU,(bz .i64 n x1.1),(bz .i64 i 1),o0,o0L,cP,aCw.2.1,aCw.2.2.1,aCw.2.2.2))) (ao x2.getRight? λaCx=>kn (nI.st (eU,(bz .i64 n x1.1),(bz .i64 i 1),o0,o0L,cP,aCx.2.1,aCx.2.2.1,aCx.2.2.2)))) aH) aH) (nI.go kx ((o0,o0L,cP),n)):=cd
theorem ays(b o0a o0baL o1)(k:K1 R):uS.A (b,o0a,o0baL,o1) k=ao (pL.call (b,o0a,o0baL,o1)) λx1=>aJ (C3 x1.1 0) (k (uS.out (0,aZ,x1.2.1,x1.2.2.1,x1.2.2.2))) (ao (U9.call (x1.2.1,x1.2.2.1,x1.2.2.2)) λx2=>ao (nI.call (b,0,0,x2.1.1,x2.1.2.1,x2.1.2.2,x2.2.1,x2.2.2.1,x2.2.2.2)) λx7=>k (uS.out (x7.2,bm,x7.1.1,x7.1.2.1,x7.1.2.2))):=cd
theorem aiI:(uS.jx 0 nI):=by
 refine(uS.mf 0 nI) (λ(b,_,i,_)=>b.2.2.1.length - i.toNat) ?_
 rintro⟨b,f,i,l0,n0,w0,l,n,w⟩ ⟨⟨⟨hB,wD⟩,he⟩,k,hk,rfl,⟨n',a,s,hb⟩,f0,f1⟩;have hB:Sj b:=hB;have wD:b.2.2.1.length<=12:=wD;have hk:k<=b.2.2.1.length:=hk;have hb:gQ (60+k) n' a s l n w:=hb;have f0:0<=f:=f0;have f1:f+gM (jF l)<=1125899906842624:=f1;have he:IN b b.1 (b.2.2.1.drop ((k:Int)).toNat) (jF l)=aH:=he;by_cases fF:k < b.2.2.1.length
 ·left;have n1:nth dU b.2.2.1 k=b.2.2.1[k]:=bY (t:=dU) fF;have hd:b.2.2.1.drop k=b.2.2.1[k]::b.2.2.1.drop (k+1):=au fF;have hv:=hB.1.1.2 _ (aK fF);rw[aa,hd,IN]at he;have e1:¬Br b b.2.2.1[k]=bm:=λe=>by rw[if_pos e]at he;cases he
  rw[if_neg e1]at he;have adk:=hb.rl.check b.2.2.1[k] b.1;have e2:¬(cK b.2.2.1[k] b.1 a).2≠0:=λe=>by rw[if_pos (by rw[adk];exact e)]at he;cases he
  rw[if_neg (by rw[adk];exact e2)]at he;have aHO:=ay6 hb aq (t:=b.2.2.1[k]) (h:=b.1) hv;rw[if_neg e2]at aHO;have e0:(cK b.2.2.1[k] b.1 a).2=0:=by simpa using e2
  have aQl:=y3 e0;have AR:=hb.apply aQl hv;have ev:uY (cG b.2.2.1[k] b.1 (jF l)) (jF (Sp b.2.2.1[k] b.1 l)):=(hb.rl.eqv.apply hb.rl.nd hb.st.nT.1 _ _).trans AR.rl.eqv.symm;have aQq:=gZ (t:=b.2.2.1[k]) (h:=b.1) hb.rl.nd;have B5:=(aQl.sum hb.st.nT.1).1;have vi:=AR.st.nT.pos;have bcZ:=hb.rl.aH5;have bc0:=AR.rl.aH5;have aXe:=aQl.pos;refine⟨(b,f+(cK b.2.2.1[k] b.1 a).1,((k+1:Nat):Int),l0,n0,w0,Sp b.2.2.1[k] b.1 l,n+1,w.take n++ [l]),⟨⟨⟨hB,wD⟩,by rw[aa,<-Tr b b.1 _ ev aQq AR.rl.nd];exact he⟩,k+1,fF,rfl,⟨_,_,_,AR⟩,by show 0<=f+(cK b.2.2.1[k] b.1 a).1;omega,by show f+(cK b.2.2.1[k] b.1 a).1+gM (jF (Sp b.2.2.1[k] b.1 l))<=_;omega⟩,by simp only[aa];omega,?_,λkn kx=> ?_⟩
  ·simp only[xz,CE,aa,hd,jv,if_neg e1,adk,if_neg e2];rw[V8 b b.1 _ _ _ ev aQq AR.rl.nd];rfl
  ·rw[J9,aS aq,aj,ba aq aq,aj,aa,n1,aVy hb aq hv];simp only[ag,aj];rw[aHO];simp only[ag,db,al,cC];rw[fA (x:=f) aq aq,N.jL aq]
 ·right;obtain rfl:k=b.2.2.1.length:=aq;intro R kn kx;rw[J9,aQ aq,al];simp only[xz,CE,aa,aI,jv,aP5]
theorem ayt:uS.Ok:=by
 rintro⟨b,l,n,w⟩ ⟨hB,⟨n',a,s,hb⟩,wD⟩;have hb:gQ 60 n' a s l n w:=hb;rw[ays,RO (d:=(b,l,n,w)) ⟨hB,⟨_,_,_,hb⟩,wD⟩];simp only[ag,bq,MH,bq,Xs];by_cases h0:Li b (jF l)=0
 ·have he:=ajZ h0;have hs:=hb.st.sum;rw[dN h0,al,if_neg (λx=>x h0),aB6 hb eX];simp only[ag];rw[afC (d:=(b,0,0,l,n,w,l,n,w.take n)) ⟨⟨⟨hB,wD⟩,he⟩,0,aL _,rfl,⟨n',a,s,hb.bbA⟩,eF 0,by show(0:Int)+gM (jF l)<=_;rw[hb.rl.aH5];omega⟩];simp only[ag,xz,CE,aT,ay]
 ·rw[fH h0,aj,if_pos h0]
theorem atU:uS.RS:=rE [.d iP,.d (.slice ez),.n,.d (.slice (.slice ez))] uS
def ayu:=uS.eY ayt 1 ⟨.e7 aiI,trivial⟩
end Go.Ab
end
