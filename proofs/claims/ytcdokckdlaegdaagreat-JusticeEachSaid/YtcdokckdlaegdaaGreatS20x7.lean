/-
  Made short by a program of mine (wip/tools/mini.py).
-/
import Derived.Test.YtcdokckdlaegdaaGreatS20x6
set_option linter.unusedVariables false
set_option linter.unusedSimpArgs false
set_option maxRecDepth 100000
set_option synthInstance.maxSize 5000
noncomputable section
namespace Go.Ab
open Go.Proofs
noncomputable section
def vm(to:Lk)(bP:Int):List mI->List (mI×iM)
 |[]=> []
 |x::l=>(if(ni [x] to bP).2=0 then [(x,(ni [x] to bP).1)] else [])++vm to bP l
theorem zC(to:Lk)(bP:Int):∀l:List mI,(vm to bP l).map (λq=>q.2)=oD to bP l
 |[]=>rfl
 |x::l=>by
  rw[vm,oD,lT,zC to bP l]
  split <;> rfl
theorem ui(to:Lk)(bP:Int):∀l:List mI,((vm to bP l).map (λq=>q.1)).Sublist l
 |[]=>List.Sublist.refl _
 |x::l=>by
  rw[vm,lT]
  split
  ·exact(ui to bP l).cons_cons x
  ·exact(ui to bP l).cons x
theorem B1(to:Lk)(bP:Int):∀(l:List mI) (q:mI×iM),q∈vm to bP l->ni [q.1] to bP=(q.2,0)
 |[],q,h=>by cases h
 |x::l,q,h=>by
  rw[vm,cf]at h
  rcases h with h | h
  ·split at h
   ·next e=>
    rw[aR]at h
    subst h
    exact Prod.ext rfl e
   ·cases h
  ·exact B1 to bP l q h
structure Qb(c:Ax)(id:List Int)(n:Int)(q:mI×iM):Prop where
 one:∃w,q.2.1=[(q.1.1,(w,()))]
 out:∃lo,q.2.2.1=[(q.1.2.1 - n*36,(lo,()))]
 id:q.1.1.1=id
 idx:0<=q.1.1.2.1/\q.1.1.2.1 < (c.2.1.length:Int)
 role:(nth zp c.2.1 q.1.1.2.1.toNat).1≠3/\(nth zp c.2.1 q.1.1.2.1.toNat).1≠4
 DD:(nth lg c.1.2.1 q.1.1.2.1.toNat).1=q.1.2.1
 bd:0<=q.1.2.1/\q.1.2.1<=1125899906842624
 v:tZ q.2
 ok:jQ q.2=true
 sp:gb q.2=[q.1.1]
 pq:∀a,JP a q.1->(∀o:ir,o.1=mD q.2->fj gV o a=none)->mU q.2 1 a=(n*36,0)
def Te(a:At)(q:mI×iM):Prop:=JP a q.1/\∀o:ir,o.1=mD q.2->fj gV o a=none
structure Ee(c:Ax)(id:List Int)(n:Int)(Q:List (mI×iM)):Prop where
 n0:0<=n/\n<=60
 q:∀q∈Q,Qb c id n q
 len:Q.length<=64
 rows:c.1.2.1.length=c.2.1.length
 new:∀q∈Q,mD q.2≠id
 un:Q.Pairwise λq r=>q.1.1≠r.1.1/\mD q.2≠mD r.2
theorem Ee.apart{c:Ax}{id:List Int}{n:Int}{Q:List (mI×iM)}(h:Ee c id n Q){i j:Nat}(hi:i < Q.length)(hj:j < Q.length)(T0:i≠j):Q[i].1.1≠Q[j].1.1/\mD Q[i].2≠mD Q[j].2:=by
 have hp:=List.pairwise_iff_getElem.1 h.un
 by_cases mw:i < j
 ·exact hp i j hi hj mw
 ·have:=hp j i hj hi (by omega)
  exact⟨this.1.symm,this.2.symm⟩
theorem Jg{i j f m:Nat}(T0:i < j)(hj:j < m):(i+f)%m≠(j+f)%m:=by
 intro h
 have h1:=Nat.sub_mod_eq_zero_of_mod_eq h.symm
 rw[show j+f - (i+f)=j - i by omega,oq (by omega)]at h1
 omega
theorem Ee.step{c:Ax}{id:List Int}{n:Int}{Q:List (mI×iM)}(h:Ee c id n Q){a:At}(ha:JO a){d:Nat}(hd:d < Q.length)(hr:Te a Q[d]):mU Q[d].2 1 a=(n*36,0)/\JO (ma Q[d].2 1 a)/\∀(e:Nat) (he:e < Q.length),d≠e->Te a Q[e]->Te (ma Q[d].2 1 a) Q[e]:=by
 have hq:=h.q _ (List.getElem_mem hd)
 have Nd:=hq.pq a hr.1 hr.2
 have TJ:=J3 (t:=Q[d].2) (h:=1) (a:=a) (by rw[Nd])
 refine⟨Nd,TJ.Tv ha hq.v,λe he X6 S4=> ?_⟩
 have Yx:=h.q _ (List.getElem_mem he)
 have U4:=h.apart hd he X6
 have SX:∀o:ir,o∈gq Q[d].2->o.1=mD Q[d].2:=λo ho=>by
  unfold gq at ho
  rw[if_pos hq.ok]at ho
  exact ur ho
 refine⟨?_,λo ho=> ?_⟩
 ·obtain⟨cc,c1,c2⟩:=S4.1
  refine⟨cc,?_,c2⟩
  rw[sh ha.1 ?_ ?_]
  ·exact c1
  ·rw[hq.sp,aR]
   exact λe=>U4.1 e.symm
  ·intro hm
   have:=SX _ hm
   rw[Yx.id]at this
   exact h.new _ (List.getElem_mem hd) this.symm
 ·by_cases hs:o∈gb Q[d].2
  ·exact TJ.QX ha.1 hs
  ·rw[sh ha.1 hs (λhm=>U4.2 (by rw[<-SX _ hm,<-ho]))]
   exact S4.2 o ho
theorem LI(id:List Int)(m k:Nat)(h:k < (nE id 0 m).length):(nE id 0 m)[k]=(id,((k:Int),())):=by
 simp[nE]
theorem PY{ch:iN}{s:jl}{own per:Int}:(ng ch s own per).length=QW (jF ch s own)+(QW (jF ch s (1 - own))+(jb s.2.2.1).length)+2:=by
 unfold ng QW
 rw[ae,ae,ae,b8]
 cases D7 (jF ch s own) <;> cases D7 (jF ch s (1 - own)) <;> simp <;> omega
theorem Sf{ch:iN}{s:jl}{own per rev pay:Int}(jV:jQ (bZ ch s own per).1=true){x:mI}(hx:x∈tr (bZ ch s own per) rev pay):
  ∃k:Nat,k < (bZ ch s own per).2.1.length/\x.1=(mD (bZ ch s own per).1,((k:Int),()))/\((nth zp (bZ ch s own per).2.1 k).1≠3/\(nth zp (bZ ch s own per).2.1 k).1≠4)/\(nth lg (bZ ch s own per).1.2.1 k).1=x.2.1:=by
 obtain⟨k,h1,h2,rfl,h4⟩:=Gb rev pay (lf (ng ch s own per)) (gq (bZ ch s own per).1) x hx
 have e1:(bZ ch s own per).2.1=(lf (ng ch s own per)).map λm=>m.2.1:=rfl
 have e2:(bZ ch s own per).1.2.1=(lf (ng ch s own per)).map λm=>m.1:=rfl
 have e3:gq (bZ ch s own per).1=nE (mD (bZ ch s own per).1) 0 (bZ ch s own per).1.2.1.length:=by unfold gq;rw[if_pos jV]
 refine⟨k,by rw[e1,b8];exact h2,?_,?_,?_⟩
 ·simp only[e3,LI]
 ·rw[e1,dP (t:=zp) (by rw[b8];exact h2),mj]
  exact⟨λe=>h4 (.inl e),λe=>h4 (.inr e)⟩
 ·rw[e2,dP (t:=lg) (by rw[b8];exact h2),mj]
theorem MW{ch:iN}{s:jl}{own per rev pay n:Int}{to:Lk}(jV:jQ (bZ ch s own per).1=true)(hg:zr (tr (bZ ch s own per) rev pay))(ht:ua to)(rV:kW to=true)(hn:0<=n){q:mI×iM}(hq:q∈vm to n (tr (bZ ch s own per) rev pay)):
  Qb (bZ ch s own per) (mD (bZ ch s own per).1) n q:=by
 have hx:=(ui to n _).subset (j6 (f:=λq:mI×iM=>q.1) hq)
 have hx:q.1∈tr (bZ ch s own per) rev pay:=hx
 have Pz:=B1 to n _ q hq
 obtain⟨k,k1,k2,k3,k4⟩:=Sf jV hx
 have Ua:=(FY (bZ ch s own per) rev pay).2 q.1 hx
 have W9:=hg.2 q.1 hx
 have VQ:lP [q.1] n=q.1.2.1 - n*36:=by
  rw[nM]
  show q.1.2.1+0 - n*(18+18*1)=_
  rw[lU]
  rfl
 have RS:0<=n*36:=pW hn (by decide)
 have VE:=W9.DD
 have tM:∀x∈ [q.1],x=q.1:=λx hx=>aR.1 hx
 have hT:=λ(a:At)=>JE (l:=[q.1]) (to:=to) (bP:=n) (h:=1) (t:=q.2) (a:=a) ⟨by show 1<=64;decide,λx hx=>by rw[tM x hx];exact W9⟩ ht rV (ml _ _) (λx hx=>by rw[tM x hx];exact Ua) hn (by rw[VQ];omega) Pz
 obtain⟨q1,q2,q3,q4,⟨q5,q6,q7⟩,_⟩:=hT []
 rw[VQ]at q4
 have hw:sY q.2=36:=q6
 have ED:gb q.2=[q.1.1]:=q7
 refine⟨?_,⟨to,by rw[q4]⟩,by rw[k2],?_,?_,?_,VE,q3,q2,ED,λa h1 h2=> ?_⟩
 ·unfold gb at ED
  rw[if_pos q2]at ED
  cases hl:q.2.1 with
  |nil=>rw[hl]at ED;cases ED
  |cons y r=>
   rw[hl]at ED
   rw[cG]at ED
   injection ED with e1 e2
   have hr:r=[]:=List.map_eq_nil_iff.1 e2
   subst hr
   exact⟨y.2.1,by rw[<-e1]⟩
 ·rw[k2]
  show(0:Int)<=(k:Int)/\(k:Int) < _
  omega
 ·rw[k2]
  exact k3
 ·rw[k2]
  exact k4
 ·have:=(hT a).2.2.2.2.2 (by decide) (λx hx=>by rw[tM x hx];exact h1) h2
  rw[hw]at this
  exact this
theorem Rh{ch:iN}{s:jl}{own per rev pay n:Int}{to:Lk}(fI:ns ch)(hu:uE s)(hs:xi ch s)(ho:own=0\/own=1)(yC:iw per)(jV:jQ (bZ ch s own per).1=true)(hg:zr (tr (bZ ch s own per) rev pay))(ht:ua to)(rV:kW to=true)(hn:0<=n/\n<=60)
  (UQ:(mD (bZ ch s own per).1::(oD to n (tr (bZ ch s own per) rev pay)).map mD).Pairwise λx y=>x≠y):Ee (bZ ch s own per) (mD (bZ ch s own per).1) n (vm to n (tr (bZ ch s own per) rev pay)):=by
 rw[<-zC,pZ]at UQ
 obtain⟨h1,h2⟩:=iF.1 UQ
 have I5:=ui to n (tr (bZ ch s own per) rev pay)
 have Ua:=(FY (bZ ch s own per) rev pay).1
 refine⟨hn,λq hq=>MW jV hg ht rV hn.1 hq,?_,(qH fI hu hs ho yC).2.1,λq hq e=> ?_,?_⟩
 ·have:=I5.length_le
  rw[b8]at this
  exact oo this hg.1
 ·exact h1 _ (j6 hq) e.symm
 ·have h3:=(I5.map λx=>x.1).nodup Ua
  rw[pZ]at h3
  rw[List.pairwise_map]at h2
  have h3:=List.pairwise_map.1 h3
  exact h3.and h2
abbrev bg.L0.D:=Int×Bool×Int×Bool×(List iM)×Int×Nat×Int×Ax×Bs×Nat×(List (ir×na))×(List mN)×(List Bs)
def bg.L0.st:bg.L0.D->AS:=λ(tg,head,n,okv,l,e,idsL,i,QF,Hw,HA,QJ,AU,QK)=>⟨([.undef,.undef,.undef,.d tb tg]++bG 5 ([.d .bool head,.undef,.d ti n]++bG 4 ([.ptr (.new 52 0) 0 [] 0,.ptr (.new 17 0) 0 [] 0,.d .bool okv,.d (.slice jP) l,.d ti e,.ptr (.new 21 0) 0 [] 0,.dh (.new 74 0) 0 [] 0 0 idsL,.d ti i]++bG 209 []))),[],(db 17 ([[.obj 0 false (.d Gr QF)],[],[],[],[.obj 0 false (.d tH Hw)]]++db 30 ([[.obj 0 false (.pr (.kO (.new 52 1) 0) (.pr (.dh (.new 52 2) 0 [] 0 0 HA) (.d .unit ()))),.obj 0 false (.mp gV wD QJ),.obj 0 false (.vec 149 pG AU)]]++db 21 ([[.obj 0 false (.vec 23 tH QK)]]++db 158 []))))⟩
abbrev bg.L0.Y0:=Nat×(List Bs)
abbrev bg.L0.X0:=(Int×Bool×Int×Bool×(List iM)×Int×Ax×Bs×Nat×(List (ir×na))×(List mN))×(Nat×(List Bs))
def bg.L0.bV:bg.L0.X0->Exit×AS:=λx=>(.exit 0,⟨([.undef,.undef,.undef,.d tb x.1.1]++bG 5 ([.d .bool x.1.2.1,.undef,.d ti x.1.2.2.1]++bG 4 ([.ptr (.new 52 0) 0 [] 0,.ptr (.new 17 0) 0 [] 0,.d .bool x.1.2.2.2.1,.d (.slice jP) x.1.2.2.2.2.1,.d ti x.1.2.2.2.2.2.1,.ptr (.new 21 0) 0 [] 0,.dh (.new 74 0) 0 [] 0 0 x.2.1]++bG 210 []))),[],(db 17 ([[.obj 0 false (.d Gr x.1.2.2.2.2.2.2.1)],[],[],[],[.obj 0 false (.d tH x.1.2.2.2.2.2.2.2.1)]]++db 30 ([[.obj 0 false (.pr (.kO (.new 52 1) 0) (.pr (.dh (.new 52 2) 0 [] 0 0 x.1.2.2.2.2.2.2.2.2.1) (.d .unit ()))),.obj 0 false (.mp gV wD x.1.2.2.2.2.2.2.2.2.2.1),.obj 0 false (.vec 149 pG x.1.2.2.2.2.2.2.2.2.2.2)]]++db 21 ([[.obj 0 false (.vec 23 tH x.2.2)]]++db 158 []))))⟩)
abbrev bg.L0.X:=bg.L0.X0
abbrev bg.L0.Y:=bg.L0.Y0
def bg.L0.out:bg.L0.X->Out (Exit×AS):=λx=> .ok (bg.L0.bV x)
def bg.L0.add:bg.L0.D->bg.L0.Y->bg.L0.X:=λ(tg,head,n,okv,l,e,idsL,i,QF,Hw,HA,QJ,AU,QK) y=>((tg,head,n,okv,l,e,QF,Hw,HA,QJ,AU),y)
abbrev bg.L1.D:=Int×Bool×Int×(List iM)×Int×Ax×Bs×Nat×(List (ir×na))×(List mN)
def bg.L1.st:bg.L1.D->AS:=λ(im,uU,sz,lR,jf,qj,CN,CS,HB,HC)=>⟨([.undef,.undef,.undef,.d tb im]++bG 5 ([.d .bool uU,.undef,.d ti sz]++bG 4 ([.ptr (.new 52 0) 0 [] 0,.ptr (.new 17 0) 0 [] 0,.undef,.d (.slice jP) lR,.undef,.ptr (.new 21 0) 0 [] 0,.undef,.undef,.d ti jf]++bG 208 []))),[],(db 17 ([[.obj 0 false (.d Gr qj)],[],[],[],[.obj 0 false (.d tH CN)]]++db 30 ([[.obj 0 false (.pr (.kO (.new 52 1) 0) (.pr (.dh (.new 52 2) 0 [] 0 0 CS) (.d .unit ()))),.obj 0 false (.mp gV wD HB),.obj 0 false (.vec 149 pG HC)]]++db 180 [])))⟩
abbrev bg.L1.Y0:=Unit
abbrev bg.L1.X0:=Unit
def bg.L1.bV:bg.L1.X0->Exit×AS:=λx=>(.ret,⟨(bG 8 ([.d .bool false]++bG 224 [])),[],(List.replicate 233 [])⟩)
abbrev bg.L1.Y1:=Unit
abbrev bg.L1.X1:=Bool×(List iM)×Ax
def bg.L1.kI:bg.L1.X1->Exit×AS:=λx=>(.exit 2,⟨(bG 9 ([.d .bool x.1]++bG 7 ([.ptr (.new 17 0) 0 [] 0,.undef,.d (.slice jP) x.2.1]++bG 213 []))),[],(db 17 ([[.obj 0 false (.d Gr x.2.2)]]++db 215 []))⟩)
abbrev bg.L1.X:=(bg.L1.X0)⊕(bg.L1.X1)
abbrev bg.L1.Y:=(bg.L1.Y0)⊕(bg.L1.Y1)
def bg.L1.out:bg.L1.X->Out (Exit×AS):=λx=> .br x.isLeft (.get x.getLeft? λa=> .ok (bg.L1.bV a)) (.get x.getRight? λb=> .ok (bg.L1.kI b))
def bg.L1.add:bg.L1.D->bg.L1.Y->bg.L1.X:=λ(im,uU,sz,lR,jf,qj,CN,CS,HB,HC) y=>match y with | .inl y=> .inl y | .inr z=> .inr ((uU,lR,qj))
abbrev bg.D:=yk×Int×Int×Int
def bg.st:bg.D->SA:=λ(p,side,bP,first)=>([.d KL p,.d tb side,.d tb bP,.d tb first],[])
abbrev bg.Y:=Bool
abbrev bg.X:=Bool
def bg.out:bg.X->aZ:=λx=>⟨.d .bool x,[],[]⟩
def bg.add:bg.D->bg.Y->bg.X:=λ(p,side,bP,first) y=>y
def bg.L0.aw:bg.L0.D->Prop:=λ(first,head,n,okv,l,e,idsL,i,c,id,m,a,st,row)=>(l).length<=1000000/\∃k:Nat,k<=(l).length/\i=k/\idsL=(row).length/\(row).length<=1000000+k/\(∀t∈l,tZ t)
def bg.L0.F:bg.L0.D->bg.L0.Y:=λ(first,head,n,okv,l,e,idsL,i,c,id,m,a,st,row)=>(idsL+(List.drop (Int.toNat i) l).length,row++(List.drop (Int.toNat i) l).map mD)
def bg.L1.aw:bg.L1.D->Prop:=λ(first,head,n,l,i,c,id,m,a,st)=>∃(Q:List (mI×iM)) (f k:Nat),l=Q.map (λq=>q.2)/\Ee c id n Q/\JO a/\(m=st.length/\st.length<=1+k)/\(first=f/\f < 256)/\(k<=Q.length/\i=k)/\∀(j d:Nat) (hd:d < Q.length),k<=j->j < Q.length->d=(j+f)%Q.length->Te a Q[d]
def bg.L1.F:bg.L1.D->bg.L1.Y:=λ_=> .inr ()
def bg.aw:bg.D->Prop:=λ(p,side,bP,first)=>Mn p/\Sm p.2.2.2.2.2.2.2.1/\(0<=side/\side < 256)/\(0<=bP/\bP < 256)/\0<=first/\first < 256
def bg.F:bg.D->bg.Y:=λ_=>true
def bg.G:fD:=gz (P:=Tryz.prog) [dm.sg,aM.sg,jE.sg,dS.sg,cO.sg,tid.sg,az.sg,aK.sg,bE.sg]
def bg.L0.E:=cV.dp bg.L0.st bg.L0.aw bg.L0.add bg.L0.F bg.L0.out
def bg.L0.call:bg.L0.D->Option bg.L0.X:=eI bg.L0.E bg.L0.st
def bg.L1.E:=cV.dp bg.L1.st bg.L1.aw bg.L1.add bg.L1.F bg.L1.out
def bg.L1.call:bg.L1.D->Option bg.L1.X:=eI bg.L1.E bg.L1.st
def bg.an:fT:= {da:=[74],loops:=oF [(11,{bS:=[3,9,11,16,17,18,19,20,21,22,23],sites:=[17,21,52,74],nB:=[⟨22,[],74,87⟩]}),(19,{bS:=[3,9,11,16,17,19,21,24],sites:=[17,21,52],nB:=[⟨16,[.snd,.fst],52,84⟩]})],outs:=oE [(11,{bS:=[3,9,11,16,17,18,19,20,21,22],sites:=[17,21,52,74]},{bS:=[8]}),(19,{bS:=[9,17,19],sites:=[17]},{bS:=[8]})],jw:=pL [(11,bg.L0.E),(19,bg.L1.E)]}
def bg.A:= @dq Tryz.prog bg.G bg.an 0 Tryz.f5 _ bg.st
abbrev bg.Ok:=dr @bg.A bg.aw bg.add bg.F bg.out
def bg.L0.R:= @dn Tryz.prog bg.G bg.an 0 Tryz.f5 0 _ bg.L0.st
abbrev bg.L0.Ok:=gw Tryz.prog bg.G bg.an 0 Tryz.f5 0 bg.L0.st bg.L0.aw bg.L0.add bg.L0.F bg.L0.out
def bg.L1.R:= @dn Tryz.prog bg.G bg.an 0 Tryz.f5 1 _ bg.L1.st
abbrev bg.L1.Ok:=gw Tryz.prog bg.G bg.an 0 Tryz.f5 1 bg.L1.st bg.L1.aw bg.L1.add bg.L1.F bg.L1.out
theorem bg.L0.run:cl bg.L0.call bg.L0.aw bg.L0.add bg.L0.F:=gT (gS [.d tb,.d .bool,.d ti,.d .bool,.d (.slice jP),.d ti,.n,.d ti,.d Gr,.d tB,.n,.d (.slice (.pair gV wD)),.d (.slice pG),.d (.slice tH)] λ_=>by kernel_rfl)
theorem bg.L0.aI:jk @bg.L0.R bg.L0.st bg.L0.aw bg.L0.add bg.L0.F bg.L0.bV bg.L0.Ok:=jm
theorem bg.L0.step{R:Type}(tg:Int)(head:Bool)(n:Int)(okv:Bool)(l:(List iM))(e:Int)(idsL:Nat)(i:Int)(QF:Ax)(Hw:Bs)(HA:Nat)(QJ:(List (ir×na)))(AU:(List mN))(QK:(List Bs))(kn:AS->Option R)(kx:Exit->AS->Option R):bg.L0.R (tg,head,n,okv,l,e,idsL,i,QF,Hw,HA,QJ,AU,QK) kn kx=
  aJ ((jK i (((List.length l):Nat):Int))) (
   aJ (fp i (((List.length l):Nat):Int)) (
   aj (tid.call (nth jP l (Int.toNat i))) λx4=>
   aJ (decide (idsL<=(List.length QK))) (
   aJ (fk (idsL+1) 32) (
   kn (bg.L0.st (tg,head,n,okv,l,e,(idsL+1),(bO .i64 i (1:Int)),QF,Hw,HA,QJ,AU,((List.take idsL QK)++ [x4])))) none) none) none) (
   kx (bg.L0.bV ((tg,head,n,okv,l,e,QF,Hw,HA,QJ,AU),(idsL,QK))).1 (bg.L0.bV ((tg,head,n,okv,l,e,QF,Hw,HA,QJ,AU),(idsL,QK))).2):=by kernel_rfl
theorem bg.L1.run:cl bg.L1.call bg.L1.aw bg.L1.add bg.L1.F:=gT (gS [.d tb,.d .bool,.d ti,.d (.slice jP),.d ti,.d Gr,.d tB,.n,.d (.slice (.pair gV wD)),.d (.slice pG)] λ_=>by kernel_rfl)
theorem bg.L1.aI:sB @bg.L1.R bg.L1.st bg.L1.aw bg.L1.add bg.L1.F bg.L1.out bg.L1.Ok:=s8
theorem bg.L1.step{R:Type}(im:Int)(uU:Bool)(sz:Int)(lR:(List iM))(jf:Int)(qj:Ax)(CN:Bs)(CS:Nat)(HB:(List (ir×na)))(HC:(List mN))(kn:AS->Option R)(kx:Exit->AS->Option R):bg.L1.R (im,uU,sz,lR,jf,qj,CN,CS,HB,HC) kn kx=
  aJ ((jK jf (((List.length lR):Nat):Int))) (
   aJ (lN (((List.length lR):Nat):Int)) (
   aJ (fp (fU (bO .i64 jf (eH .i64 im)) (((List.length lR):Nat):Int)) (((List.length lR):Nat):Int)) (
   aJ ((rN (((List.length (nth jP lR (Int.toNat (fU (bO .i64 jf (eH .i64 im)) (((List.length lR):Nat):Int)))).1):Nat):Int) (1:Int))) (
    kx (bg.L1.bV ()).1 (bg.L1.bV ()).2) (
    aJ ((rN (((List.length (nth jP lR (Int.toNat (fU (bO .i64 jf (eH .i64 im)) (((List.length lR):Nat):Int)))).2.1):Nat):Int) (1:Int))) (
     kx (bg.L1.bV ()).1 (bg.L1.bV ()).2) (
     aJ (fp (0:Int) (((List.length (nth jP lR (Int.toNat (fU (bO .i64 jf (eH .i64 im)) (((List.length lR):Nat):Int)))).1):Nat):Int)) (
     aJ ((!(Ty.beq tH (nth kj (nth jP lR (Int.toNat (fU (bO .i64 jf (eH .i64 im)) (((List.length lR):Nat):Int)))).1 0).1.1 CN))) (
      kx (bg.L1.bV ()).1 (bg.L1.bV ()).2) (
      aJ (fp (0:Int) (((List.length (nth jP lR (Int.toNat (fU (bO .i64 jf (eH .i64 im)) (((List.length lR):Nat):Int)))).1):Nat):Int)) (
      aJ ((qz (nth kj (nth jP lR (Int.toNat (fU (bO .i64 jf (eH .i64 im)) (((List.length lR):Nat):Int)))).1 0).1.2.1 (((List.length qj.2.1):Nat):Int))) (
       kx (bg.L1.bV ()).1 (bg.L1.bV ()).2) (
       aJ (fp (0:Int) (((List.length (nth jP lR (Int.toNat (fU (bO .i64 jf (eH .i64 im)) (((List.length lR):Nat):Int)))).1):Nat):Int)) (
       aJ ((jK (nth kj (nth jP lR (Int.toNat (fU (bO .i64 jf (eH .i64 im)) (((List.length lR):Nat):Int)))).1 0).1.2.1 (0:Int))) (
        kx (bg.L1.bV ()).1 (bg.L1.bV ()).2) (
        aJ (fp (0:Int) (((List.length (nth jP lR (Int.toNat (fU (bO .i64 jf (eH .i64 im)) (((List.length lR):Nat):Int)))).1):Nat):Int)) (
        aJ (fp (nth kj (nth jP lR (Int.toNat (fU (bO .i64 jf (eH .i64 im)) (((List.length lR):Nat):Int)))).1 0).1.2.1 (((List.length qj.2.1):Nat):Int)) (
        aj (aK.call ((nth jP lR (Int.toNat (fU (bO .i64 jf (eH .i64 im)) (((List.length lR):Nat):Int)))),(1:Int),CS,HB,HC)) λx9=>
        aj (bE.call ((nth jP lR (Int.toNat (fU (bO .i64 jf (eH .i64 im)) (((List.length lR):Nat):Int)))),(1:Int),x9.2.2.1,x9.2.2.2.1,x9.2.2.2.2)) λzm=>
        aJ (zm.isLeft) (
         aj (zm.getLeft?) λP7=>
         aJ ((rN x9.2.1 (0:Int))) (
          kx (bg.L1.bV ()).1 (bg.L1.bV ()).2) (
          aJ ((rN P7.1 (0:Int))) (
           kx (bg.L1.bV ()).1 (bg.L1.bV ()).2) (
           aJ ((rN x9.1 (gJ .i64 sz (36:Int)))) (
            kx (bg.L1.bV ()).1 (bg.L1.bV ()).2) (
            aJ ((nX (nth zp qj.2.1 (Int.toNat (nth kj (nth jP lR (Int.toNat (fU (bO .i64 jf (eH .i64 im)) (((List.length lR):Nat):Int)))).1 0).1.2.1)).1 (3:Int))) (
             kx (bg.L1.bV ()).1 (bg.L1.bV ()).2) (
             aJ ((nX (nth zp qj.2.1 (Int.toNat (nth kj (nth jP lR (Int.toNat (fU (bO .i64 jf (eH .i64 im)) (((List.length lR):Nat):Int)))).1 0).1.2.1)).1 (4:Int))) (
              kx (bg.L1.bV ()).1 (bg.L1.bV ()).2) (
              aJ (fp (0:Int) (((List.length (nth jP lR (Int.toNat (fU (bO .i64 jf (eH .i64 im)) (((List.length lR):Nat):Int)))).2.1):Nat):Int)) (
              aJ (fp (0:Int) (((List.length (nth jP lR (Int.toNat (fU (bO .i64 jf (eH .i64 im)) (((List.length lR):Nat):Int)))).1):Nat):Int)) (
              aJ (fp (nth kj (nth jP lR (Int.toNat (fU (bO .i64 jf (eH .i64 im)) (((List.length lR):Nat):Int)))).1 0).1.2.1 (((List.length qj.1.2.1):Nat):Int)) (
              aJ ((rN (nth lg (nth jP lR (Int.toNat (fU (bO .i64 jf (eH .i64 im)) (((List.length lR):Nat):Int)))).2.1 0).1 (cY .i64 (nth lg qj.1.2.1 (Int.toNat (nth kj (nth jP lR (Int.toNat (fU (bO .i64 jf (eH .i64 im)) (((List.length lR):Nat):Int)))).1 0).1.2.1)).1 (gJ .i64 sz (36:Int))))) (
               kx (bg.L1.bV ()).1 (bg.L1.bV ()).2) (
               kn (bg.L1.st (im,uU,sz,lR,(bO .i64 jf (1:Int)),qj,CN,P7.2.1,P7.2.2.1,P7.2.2.2)))) none) none) none)))))) (
         aj (zm.getRight?) λP8=>
         aJ ((rN x9.2.1 (0:Int))) (
          kx (bg.L1.bV ()).1 (bg.L1.bV ()).2) (
          aJ ((rN P8.1 (0:Int))) (
           kx (bg.L1.bV ()).1 (bg.L1.bV ()).2) (
           aJ ((rN x9.1 (gJ .i64 sz (36:Int)))) (
            kx (bg.L1.bV ()).1 (bg.L1.bV ()).2) (
            aJ ((nX (nth zp qj.2.1 (Int.toNat (nth kj (nth jP lR (Int.toNat (fU (bO .i64 jf (eH .i64 im)) (((List.length lR):Nat):Int)))).1 0).1.2.1)).1 (3:Int))) (
             kx (bg.L1.bV ()).1 (bg.L1.bV ()).2) (
             aJ ((nX (nth zp qj.2.1 (Int.toNat (nth kj (nth jP lR (Int.toNat (fU (bO .i64 jf (eH .i64 im)) (((List.length lR):Nat):Int)))).1 0).1.2.1)).1 (4:Int))) (
              kx (bg.L1.bV ()).1 (bg.L1.bV ()).2) (
              aJ (fp (0:Int) (((List.length (nth jP lR (Int.toNat (fU (bO .i64 jf (eH .i64 im)) (((List.length lR):Nat):Int)))).2.1):Nat):Int)) (
              aJ (fp (0:Int) (((List.length (nth jP lR (Int.toNat (fU (bO .i64 jf (eH .i64 im)) (((List.length lR):Nat):Int)))).1):Nat):Int)) (
              aJ (fp (nth kj (nth jP lR (Int.toNat (fU (bO .i64 jf (eH .i64 im)) (((List.length lR):Nat):Int)))).1 0).1.2.1 (((List.length qj.1.2.1):Nat):Int)) (
              aJ ((rN (nth lg (nth jP lR (Int.toNat (fU (bO .i64 jf (eH .i64 im)) (((List.length lR):Nat):Int)))).2.1 0).1 (cY .i64 (nth lg qj.1.2.1 (Int.toNat (nth kj (nth jP lR (Int.toNat (fU (bO .i64 jf (eH .i64 im)) (((List.length lR):Nat):Int)))).1 0).1.2.1)).1 (gJ .i64 sz (36:Int))))) (
               kx (bg.L1.bV ()).1 (bg.L1.bV ()).2) (
               kn (bg.L1.st (im,uU,sz,lR,(bO .i64 jf (1:Int)),qj,CN,P8.2.1,P8.2.2.1,P8.2.2.2)))) none) none) none))))))) none) none)) none)) none)) none))) none) none) (
   kx (bg.L1.kI (uU,lR,qj)).1 (bg.L1.kI (uU,lR,qj)).2):=by kernel_rfl
theorem bg.eq{R:Type}(p:yk)(side:Int)(bP:Int)(first:Int)(k:aZ->Option R):bg.A (p,side,bP,first) k=
  aj (dm.call ()) λx4=>
  aj (aM.call p) λx8=>
  aJ (fp (eH .i64 (fU side (2:Int))) (2:Int)) (
  aJ (decide ((Int.toNat (eH .i64 (fU side (2:Int)))) < (List.length x8.1.2.2.1))) (
  aJ (decide ((33+(1+(((Int.toNat (eH .i64 (fU side (2:Int))))*5)+1)))=((34+((Int.toNat (eH .i64 (fU side (2:Int))))*5))+1))) (
  aj (jE.call (nth qt x8.1.2.2.1 (Int.toNat (eH .i64 (fU side (2:Int))))).2.1) λEc=>
  aj (dS.call (p,(eH .i64 (fU side (2:Int))))) λJM=>
  aJ (fp (eH .i64 (fU side (2:Int))) (2:Int)) (
  aJ (decide ((Int.toNat (eH .i64 (fU side (2:Int)))) < (List.length x8.2.1))) (
  aJ (decide ((((Int.toNat (eH .i64 (fU side (2:Int))))*37)+0)=(0+((Int.toNat (eH .i64 (fU side (2:Int))))*37)))) (
  aj (cO.call (x8.1,(nth rZ x8.2.1 (Int.toNat (eH .i64 (fU side (2:Int))))),(eH .i64 (fU side (2:Int))),x8.2.2,p.2.2.2.2.2.2.2.1,Ec,(eH .i64 (fU bP (61:Int))))) λQZ=>
  aj (tid.call JM.1.1) λE8=>
  aj (bg.L0.call (first,x4,(eH .i64 (fU bP (61:Int))),JM.2.1,QZ.1,QZ.2,1,(0:Int),JM.1,E8,JM.2.2.1,JM.2.2.2.1,JM.2.2.2.2,[E8])) λAu=>
  aJ (decide (0=0/\(0+Au.2.1)<=(List.length Au.2.2))) (
  aj (az.call (cut Au.2.2 0 Au.2.1)) λWW=>
  aJ ((!WW)) (
   k (bg.out Au.1.2.1)) (
   aJ ((!Au.1.2.2.2.1)) (
    k (bg.out false)) (
    aJ ((rN Au.1.2.2.2.2.2.1 (0:Int))) (
     k (bg.out false)) (
     aj (bg.L1.call (Au.1.1,Au.1.2.1,Au.1.2.2.1,Au.1.2.2.2.2.1,(0:Int),Au.1.2.2.2.2.2.2.1,Au.1.2.2.2.2.2.2.2.1,Au.1.2.2.2.2.2.2.2.2.1,Au.1.2.2.2.2.2.2.2.2.2.1,Au.1.2.2.2.2.2.2.2.2.2.2)) λWX=>
     aJ (WX.isLeft) (
      aj (WX.getLeft?) λa63=>
      k (bg.out false)) (
      aj (WX.getRight?) λb64=>
      aJ (b64.1) (
       k (bg.out (FH (((List.length b64.2.1):Nat):Int) (cY .i64 (((List.length b64.2.2.2.1):Nat):Int) (2:Int))))) (
       k (bg.out false))))))) none) none) none) none) none) none) none:=by kernel_rfl
theorem bg.L0.ok:bg.L0.Ok:=by
 refine bg.L0.aI (λ(first,head,n,okv,l,e,idsL,i,c,id,m,a,st,row)=>(l).length - Int.toNat i) ?_
 rintro⟨first,head,n,okv,l,e,idsL,i,c,id,m,a,st,row⟩ ⟨hlen,k,hk,rfl,rfl,my,hv⟩
 have hlen:(l).length<=1000000:=hlen
 have hk:k<=(l).length:=hk
 have my:(row).length<=1000000+k:=my
 have hv:∀t∈l,tZ t:=hv
 by_cases h:k < (l).length
 ·left
  have n1:nth jP l k=l[k]:=dP (t:=jP) h
  have hd:List.drop k l=l[k]::List.drop (k+1) l:=aA h
  refine⟨(first,head,n,okv,l,e,(row).length+1,((k+1:Nat):Int),c,id,m,a,st,row++ [mD l[k]]),⟨hlen,k+1,by omega,rfl,by rw[ae];rfl,by rw[ae];show(row).length+1<=_;omega,hv⟩,by simp only[aa];omega,?_,λkn kx=> ?_⟩
  ·simp only[bg.L0.add,bg.L0.F,aa,hd,cG,aN,bR,eS]
   rw[show ∀a c:Nat,a+1+c=a+(c+1) from λa c=>by omega]
  ·rw[bg.L0.step,bI (by omega),bF (show(0:Int)<=(k:Int) by omega) (by omega),aa,n1]
   simp only[ah]
   rw[tid.run (d:=l[k]) (hv _ (List.getElem_mem h))]
   simp only[ab,tid.add,tid.F]
   rw[aO (aC _),fV (by omega) (by omega),N.pJ (by omega),cz]
   rfl
 ·right
  obtain rfl:k=(l).length:=by omega
  intro R kn kx
  rw[bg.L0.step,bp (by omega),ai]
  simp only[bg.L0.add,bg.L0.F,aa,bH,jg,dg,bJ,dE]
theorem bg.L1.ok:bg.L1.Ok:=by
 refine bg.L1.aI (λ(first,head,n,l,i,c,id,m,a,st)=>l.length - i.toNat) ?_
 rintro⟨first,head,n,l,i,c,id,m,a,st⟩ ⟨Q,f,k,rfl,hQ,ha,⟨rfl,vF⟩,⟨rfl,hf⟩,⟨hk,rfl⟩,hr⟩
 have hl:=hQ.len
 have RP:(Q.map λq=>q.2).length=Q.length:=b8 ..
 by_cases h:k < Q.length
 ·left
  obtain⟨d,hd⟩:∃d,d=(k+f)%Q.length:=⟨_,rfl⟩
  have UT:d < Q.length:=by rw[hd];exact Nat.mod_lt _ (by omega)
  have hq:=hQ.q _ (List.getElem_mem UT)
  have Wa:=hr k d UT (aC _) h hd
  obtain⟨s1,s2,s3⟩:=hQ.step ha UT Wa
  have hn:=hQ.n0
  obtain⟨w,Nj⟩:=hq.one
  obtain⟨lo,FE⟩:=hq.out
  have TZ:=hq.idx
  have Xp:=hQ.rows
  refine⟨((f:Int),head,n,Q.map (λq=>q.2),((k+1:Nat):Int),c,id,st.length+1,ma Q[d].2 1 a,st.take st.length++ [stepOf Q[d].2 a]),⟨Q,f,k+1,rfl,hQ,s2,⟨by rw[cz,ae];rfl,by rw[cz,ae];show st.length+1<=_;omega⟩,⟨rfl,hf⟩,⟨by omega,rfl⟩,λj e he Zr U0 Xe=>s3 e he (by rw[hd,Xe];exact Jg (by omega) U0) (hr j e he (by omega) U0 Xe)⟩,by simp only[aa];omega,rfl,λkn kx=> ?_⟩
  have ei:fU (bO .i64 (k:Int) (eH .i64 (f:Int))) (((Q.map λq=>q.2).length:Nat):Int)=(d:Int):=by
   rw[pb (by omega) (by omega),ff (by omega) (by omega),kT (by omega),RP,hd]
   rfl
  have en:nth jP (Q.map λq=>q.2) d=Q[d].2:=by rw[dP (t:=jP) (by rw[RP];exact UT),mj]
  rw[bg.L1.step,ei,aa,en]
  have enz:lN (((Q.map λq=>q.2).length:Nat):Int)=true:=by unfold lN;rw[cR (by omega)];rfl
  have c1:=aK.run (d:=(Q[d].2,1,st.length,a,st)) ⟨hq.v,ha⟩
  have c2:=bE.run (d:=(Q[d].2,1,st.length,a,st)) ⟨hq.v,ha,aC _,by show st.length<=1000000;omega⟩
  simp only[aK.add,aK.F,s1]at c1
  simp only[bE.add,bE.F,s1]at c2
  rw[if_neg (by exact λx=>x rfl)]at c2
  have OL:=hq.bd
  have Yr:nth lg [(Q[d].1.2.1 - n*36,(lo,()))] 0=(Q[d].1.2.1 - n*36,(lo,())):=rfl
  have Pm:nth kj [(Q[d].1.1,(w,()))] 0=(Q[d].1.1,(w,())):=rfl
  have RA:Ty.beq tH Q[d].1.1.1 id=true:=by rw[hq.id];exact beq_refl tH id rfl
  rw[bI (by omega),ah,enz,ah,bF (i:=(d:Int)) (by omega) (by omega),ah]
  rw[Nj,FE,c1]
  simp only[List.length_singleton,Pm,Yr,RA,ab]
  rw[c2]
  simp only[ab,iZ,ai,gO]
  rw[gK (by rfl),ai,gK (by rfl),ai,bF (i:=0) (by omega) (by decide),ah,bY,ai,ah,iU (by omega),ai,ah,bp (by omega),ai,ah,bF (i:=Q[d].1.1.2.1) (by omega) (by omega),ah]
  rw[ai,ai,nf (by omega) (by omega),gK rfl,ai,fJ hq.role.1,ai,fJ hq.role.2,ai,ah,ah,bF (by omega) (by omega),ah,hq.DD,gm (by omega) (by omega),gK rfl,ai,N.pJ (by omega)]
 ·right
  obtain rfl:k=Q.length:=by omega
  refine⟨bg.L1.kI (head,Q.map (λq=>q.2),c),rfl,λkn kx=> ?_⟩
  rw[bg.L1.step,bp (by omega),ai]
theorem bg.ok:bg.Ok:=by
 rintro⟨p,side,bP,first⟩ ⟨hp,yC,Wd,hr,UW⟩
 have hp:Mn p:=hp
 have yC:Sm p.2.2.2.2.2.2.2.1:=yC
 have Wd:0<=side/\side < 256:=Wd
 have hr:0<=bP/\bP < 256:=hr
 have UW:0<=first/\first < 256:=UW
 have fI:=GL hp
 have hu:=Ot p
 have hs:=An hp
 have hm:side%2=0\/side%2=1:=by omega
 have hn:0<=bP%61/\bP%61 < 61:=by omega
 have c1:dm.call ()=some true:=dm.run (d:=()) trivial
 have T4:tm p=[oK (nth tH p.1 0),oK (nth tH p.1 1)]:=rfl
 have SR:(nW (tE p) 0).1=fw (oK (nth tH p.1 0)).1:=rfl
 have yn:(nW (tE p) 1).1=fw (oK (nth tH p.1 1)).1:=rfl
 have p0:0 < (oK (nth tH p.1 0)).1/\(oK (nth tH p.1 0)).1 < 2305843009213688669:=lZ _
 have p1:0 < (oK (nth tH p.1 1)).1/\(oK (nth tH p.1 1)).1 < 2305843009213688669:=lZ _
 rw[bg.eq,c1,ab,aM.c hp,ab]
 rw[kT Wd.1,kT hr.1,pb (x:=side%2) (by omega) (by omega),pb (x:=bP%61) (by omega) (by omega)]
 generalize bP%61=n at hn
 generalize side%2=me at hm
 obtain⟨kit,VN,Xh,Pj,Zv,Yi⟩:=R5 (p:=p) hm
 have Pr:(tE p).2.2.1.length=2:=rfl
 have Mp:(tm p).length=2:=rfl
 have c2:jE.call (nth qt (tE p).2.2.1 me.toNat).2.1=some (vD [(nW (tE p) me).2.1]):=jE.run (d:=(nth qt (tE p).2.2.1 me.toNat).2.1) trivial
 have cw:=dS.run (d:=(p,me)) ⟨hp,yC,hm⟩
 simp only[dS.add,dS.F]at cw
 rw[bF (by omega) (by omega),ah]
 rw[aO (show me.toNat < (tE p).2.2.1.length by omega),ah,aO (show 33+(1+(me.toNat*5+1))=34+me.toNat*5+1 by omega),ah,c2,ab,cw,ab,ah]
 rw[aO (show me.toNat < (tm p).length by omega),ah,aO (show me.toNat*37+0=0+me.toNat*37 by omega),ah,T4,VN]
 have rV:ua (vD [(nW (tE p) me).2.1]):=Bx (fI.ba hm).2.1.1
 have RZ:kW (vD [(nW (tE p) me).2.1])=true:=CA (uf (fI.ba hm).2.1.p Ed Ed (.inl rfl))
 have RW:iw (l7 p.2.2.2.2.2.2.2.1):=uK _
 have Yu:fw kit.2.1=(nW (tE p) me).2.1:=by rw[Pj];rfl
 have Yz:fw (sx kit.2.2.2.2.1 p.2.2.2.2.2.2.2.1)=vc (nW (tE p) me).2.2.2.2.1 (l7 p.2.2.2.2.2.2.2.1):=by rw[Oa Yi,Pj];rfl
 generalize vD [(nW (tE p) me).2.1]=to at*
 rw[cO.c fI Xh hu yC rV,ab]
 have hJ:AA (tE p) kit me (Ib p) p.2.2.2.2.2.2.2.1 to n=(oD to n (tr (bZ (tE p) (Ib p) (1 - me) (l7 p.2.2.2.2.2.2.2.1)) (sx kit.2.2.2.2.1 p.2.2.2.2.2.2.2.1) kit.2.1),0):=by
  unfold AA
  rw[LC hs hm ⟨hn.1,by omega⟩ RZ Pj]
  rfl
 rw[hJ]
 have YD:=N9 kit.2.2.2.2.1 p.2.2.2.2.2.2.2.1
 generalize sx kit.2.2.2.2.1 p.2.2.2.2.2.2.2.1=rev at*
 generalize l7 p.2.2.2.2.2.2.2.1=per at*
 generalize oK (nth tH p.1 0)=k0 at*
 generalize oK (nth tH p.1 1)=k1 at*
 generalize tE p=ch at*
 generalize Ib p=s at*
 have ho:1 - me=0\/1 - me=1:=by omega
 have hg:=HN (c:=bZ ch s (1 - me) per) (rev:=rev) (pay:=kit.2.1) YD Xh.2.1
 have Ys:=λ(t:iM) (np:Int) (a:At)=>NR (t:=t) (a:=a) (np:=np) (per:=per) (rev:=rev) (pay:=kit.2.1) fI hs hm Yu Yz
 have jV:=uh (per:=per) fI hs ho
 have US:=(qH fI hu hs ho RW).1
 have X9:=Rh (rev:=rev) (pay:=kit.2.1) (n:=n) fI hu hs ho RW jV hg rV RZ ⟨hn.1,by omega⟩
 have X3:=(EM (per:=per) (rev:=rev) (pay:=kit.2.1) fI hs ho).1
 have Zx:=PY (ch:=ch) (s:=s) (own:=1 - me) (per:=per)
 have YA:(bZ ch s (1 - me) per).2.1.length=(ng ch s (1 - me) per).length:=by
  show(List.map _ _).length=_
  rw[b8]
  exact(mf _).length_eq
 have I5:=ui to n (tr (bZ ch s (1 - me) per) rev kit.2.1)
 have Py:=zC to n (tr (bZ ch s (1 - me) per) rev kit.2.1)
 have hlen:(oD to n (tr (bZ ch s (1 - me) per) rev kit.2.1)).length<=(tr (bZ ch s (1 - me) per) rev kit.2.1).length:=by
  have:=I5.length_le
  rw[<-Py]
  rw[b8]at this ⊢
  exact this
 have hv:∀t∈oD to n (tr (bZ ch s (1 - me) per) rev kit.2.1),tZ t:=λt ht=>by
  rw[<-Py]at ht
  obtain⟨q,hq,rfl⟩:=eb.1 ht
  exact(MW jV hg rV RZ hn.1 hq).v
 have Yj:=hg.1
 have RK:∀q∈vm to n (tr (bZ ch s (1 - me) per) rev kit.2.1),q.1∈tr (bZ ch s (1 - me) per) rev kit.2.1:=λq hq=>I5.subset (j6 (f:=λq:mI×iM=>q.1) hq)
 have cc:tid.call (bZ ch s (1 - me) per).1=some (mD (bZ ch s (1 - me) per).1):=tid.run (d:=(bZ ch s (1 - me) per).1) US
 generalize tr (bZ ch s (1 - me) per) rev kit.2.1=L at*
 generalize hE:oD to n L=E at*
 rw[cc,ab]
 generalize hI:mD (bZ ch s (1 - me) per).1=id at*
 rw[bg.L0.run (d:=(first,true,n,(Gg ch (mv k0 k1 (bZ ch s (1 - me) per).1)).1,E,0,1,0,bZ ch s (1 - me) per,id,(Gg ch (mv k0 k1 (bZ ch s (1 - me) per).1)).2.1,(Gg ch (mv k0 k1 (bZ ch s (1 - me) per).1)).2.2.1,(Gg ch (mv k0 k1 (bZ ch s (1 - me) per).1)).2.2.2,[id])) ⟨by show E.length<=1000000;omega,0,bm _,rfl,rfl,by show 1<=1000000+0;decide,hv⟩]
 simp only[ab,bg.L0.add,bg.L0.F,bK,aW]
 have Mq:([id]++E.map mD).length=1+E.length:=by rw[ae,b8];rfl
 rw[aO ⟨trivial,by rw[Mq];omega⟩,ah,iV Mq]
 have ca:az.call ([id]++E.map mD)=some (BQ ([id]++E.map mD)):=az.run (d:=[id]++E.map mD) (by show([id]++E.map mD).length<=1000;rw[Mq];omega)
 rw[ca,ab]
 cases UQ:BQ ([id]++E.map mD)
 ·rw[gk,ah]
  rfl
 rw[bY,ai]
 obtain⟨z1,z2⟩:=K3 UQ
 have PA:=z1 _ (show id∈ [id]++E.map mD from bq)
 have Xw:∀x∈E.map mD,x≠Gi/\id≠x:=λx hx=>⟨z1 x (bj _ hx),(iF.1 z2).1 x hx⟩
 have Xt:=Ip (k0:=k0) (k1:=k1) fI hu hs ho RW p0 p1 SR yn (by rw[hI];exact PA)
 have TJ:=J3 Xt
 obtain⟨f1,f2,f3,f4⟩:=yz (k0:=k0) (k1:=k1) jV US
 have TY:=TJ.Tv (Fk fI) f2
 have hw:Gg ch (mv k0 k1 (bZ ch s (1 - me) per).1)=(true,(1,(ma (mv k0 k1 (bZ ch s (1 - me) per).1) 1 (qa ch),[stepOf (mv k0 k1 (bZ ch s (1 - me) per).1) (qa ch)]))):=by
  unfold Gg
  rw[if_pos Xt]
 have Wa:∀q∈vm to n L,Te (ma (mv k0 k1 (bZ ch s (1 - me) per).1) 1 (qa ch)) q:=λq hq=>by
  have hm:mD q.2∈E.map mD:=by
   rw[<-Py]
   exact j6 (j6 (f:=λq:mI×iM=>q.2) hq)
  exact⟨Ys _ _ _ TJ f4 rfl q.1 (RK q hq),λo hm'=>Io fI hu hs ho RW _ (by rw[hI];exact(Xw _ hm).2.symm) (Xw _ hm).1 hm'⟩
 rw[hw]
 generalize ma (mv k0 k1 (bZ ch s (1 - me) per).1) 1 (qa ch)=a at*
 generalize stepOf (mv k0 k1 (bZ ch s (1 - me) per).1) (qa ch)=st
 simp only[bY,ai]
 rw[gK rfl,ai]
 rw[bg.L1.run (d:=(first,true,n,E,0,bZ ch s (1 - me) per,id,1,a,[st])) ⟨vm to n L,first.toNat,0,Py.symm,X9 z2,TY,⟨rfl,aC _⟩,⟨by show first=(first.toNat:Int);omega,by omega⟩,⟨bm _,rfl⟩,λj d hd _ _ _=>Wa _ (List.getElem_mem hd)⟩]
 simp only[ab,bg.L1.add,bg.L1.F,iZ,ai,gO,ah]
 rw[gm (by omega) (by omega),uo (by omega)]
 rfl
def bg.E:=Entry.dp [some KL,some tb,some tb,some tb] bg.st bg.aw bg.add bg.F bg.out
def bg.call:bg.D->Option bg.X:=cj bg.E bg.st
theorem bg.run:cl bg.call bg.aw bg.add bg.F:=dw (du [.d KL,.d tb,.d tb,.d tb] λ_=>by kernel_rfl)
def bg.sg:SG Tryz.prog:=⟨5,aP,bg.E,.fn 2 (by kernel_rfl) bg.ok (And.intro (.dp bg.L0.ok (by kernel_rfl)) (And.intro (.dp bg.L1.ok (by kernel_rfl)) trivial))⟩
end
end Go.Ab
end
