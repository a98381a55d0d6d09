/-
  Made short by a program of mine (wip/tools/mini.py).
-/
import Derived.Test.YtomcjgkejmaocaaGreatS36x2
import Derived.Scope
import Derived.Laws.Externs
import Derived.KernelRfl
import Derived.ProofKit
import Derived.OpenShut
import Derived.Deep.Slices
import Derived.Carry
set_option linter.unusedVariables false
set_option linter.unusedSimpArgs false
set_option maxRecDepth 100000
set_option synthInstance.maxSize 5000
open Go renaming IntKind->kN,FuncId->jF,Operand->bH,Program->aR,World->cj
open List renaming replicate->ag
open BitVec renaming ofInt->bk
open Nat renaming beq->iL
open Go.World renaming cell?->eQ
open Go.Sem renaming run_bind->cg,run_pure->dF
open Go.Result renaming andThen_ok->bE
open Go.Op renaming operands->bW
open Go.Call renaming operands->dY
open OfNat renaming ofNat->dr
open Int renaming toNat->ab
open Option renaming some->aw,none->aF
open Bool renaming true->aW,false->aQ
noncomputable section
namespace Go.Ab
section
variable {P:aR} {Γ:uO} {bD:List Nat} {ops:Array Oper} {o:Oper} {s t:AS}
def Loc(P:aR)(Γ:uO)(bD:List Nat)(ops:Array Oper)(o:Oper)(s s':AS):Prop:=∃E,App o.dst E s s'/\acB (gM Γ ops s o) s E/\∀t,mT (gM Γ ops s o) s t->∃t',IQ P Γ bD ops o t=aw t'/\App o.dst E t t'
theorem UC{s':AS}(he:IQ P Γ bD ops o s=aw s'):Loc P Γ bD ops o s s':=by
 unfold IQ at he;split at he
 ·rename_i hg;obtain⟨E,h1,h2,h3⟩:=aaz (ops:=ops) he;refine⟨E,h1,h2,λt ht=> ?_⟩;obtain⟨t',h4,h5⟩:=h3 t ht;exact⟨t',by unfold IQ;simp only[hg];exact h4,h5⟩
 ·rename_i j want hg;split at he
  ·rename_i q hq;split at he
   ·rename_i b hb;have ajS:∀t,mT (gM Γ ops s o) s t->t.slot q= .d .bool b:=λt ht=>by rw[ht.ck q (bJ.2 (.inr (by unfold Pg;simp only[hg,hq];simp)))];exact hb
    by_cases e:b=want
    ·rw[if_pos e]at he;obtain⟨E,h1,h2,h3⟩:=aaz (ops:=ops) he;refine⟨E,h1,h2,λt ht=> ?_⟩;obtain⟨t',h4,h5⟩:=h3 t ht;exact⟨t',by unfold IQ;simp only[hg,hq,ajS t ht,if_pos e];exact h4,h5⟩
    ·rw[if_neg e]at he;simp only[aA]at he;subst he;exact⟨⟨.nil,λ_=>aF,[]⟩,App.Ix _ _ _,⟨λ_ _ h=>by simp at h,λ_ h=>by simp at h⟩,λt ht=>⟨_,by unfold IQ;simp only[hg,hq,ajS t ht,if_neg e],App.Ix _ _ _⟩⟩
   ·rename_i hb;have ajS:∀t,mT (gM Γ ops s o) s t->t.slot q= .nil:=λt ht=>by rw[ht.ck q (bJ.2 (.inr (by unfold Pg;simp only[hg,hq];simp)))];exact hb
    simp only[aA]at he;subst he;exact⟨⟨.nil,λ_=>aF,[]⟩,App.Ix _ _ _,⟨λ_ _ h=>by simp at h,λ_ h=>by simp at h⟩,λt ht=>⟨_,by unfold IQ;simp only[hg,hq,ajS t ht],App.Ix _ _ _⟩⟩
   ·cases he
  ·cases he
theorem afA(h:mT (gM Γ ops s o) s t):writes Γ t o=writes Γ s o:=by
 have ayS:∀id∈writes Γ s o,t.bV id=s.bV id:=h.ws;unfold writes at ayS ⊢;split
 ·rename_i x v dj;rw[h.ev (by rw[dj];simp[bW])]
 ·rename_i m k v dj;rw[h.ev (by rw[dj];simp[bW])]
 ·rename_i m dj;rw[h.ev (by rw[dj];simp[bW])]
 ·rename_i T U x dj;rw[h.ev (by rw[dj];simp[bW])]
 ·rename_i c dj;obtain⟨cal,args,tys⟩:=c;simp only[dj]at ayS;simp only;split
  ·split
   ·rename_i x l ha;rw[h.ev (by rw[dj];simp only[bW,dY,aO,bZ,ha];simp)]
   ·rfl
  ·split
   ·rename_i x l ha;rw[h.ev (by rw[dj];simp only[bW,dY,aO,bZ,ha];simp)]
   ·rfl
  ·split
   ·rename_i x l ha;rw[h.ev (by rw[dj];simp only[bW,dY,aO,bZ,ha];simp)]
   ·rfl
  ·split
   ·rename_i x l ha;rw[h.ev (by rw[dj];simp only[bW,dY,aO,bZ,ha];simp)]
   ·rfl
  ·rename_i F;simp only at ayS;have hm:∀z,z=F\/z∈args.toList->z∈o.op.operands.toList:=λz hz=>by
    rw[dj];simp only[bW,dY,bZ,bJ];rcases hz with rfl | hz
    ·exact .inl (by simp)
    ·exact .inr hz
   have h1:t.ev F=s.ev F:=h.ev (hm F (.inl rfl));have h2:args.toList.map t.ev=args.toList.map s.ev:=hZ λx hx=>h.ev (hm x (.inr hx))
   rw[h1];split
   ·rename_i f caps hF;simp only[hF]at ayS;rw[h2];split
    ·rename_i en Mo;simp only[Mo]at ayS;exact wQ _ _ _ λid dd=>by rw[ayS id dd]
    ·rfl
   ·rfl
  ·rfl
 ·rfl
theorem Uw(h:mT (gM Γ ops s o) s t):gM Γ ops t o=gM Γ ops s o:=by
 have h1:=afA h;have h2:ahs t o=ahs s o:=by
  unfold ahs;split
  ·rfl
  unfold List.flatMap;congr 1;exact hZ λi hi=>by rw[h.ck i (bJ.2 (.inl hi))]
 unfold gM;rw[h1,h2]
theorem wJ{xs ys:List Id}(h:meets xs ys=aQ){id:Id}(hx:id∈xs):id ∉ ys:=by
 intro hy;have:meets xs ys=aW:=by unfold meets;exact List.any_eq_true.2 ⟨id,hx,List.any_eq_true.2 ⟨id,hy,by simp⟩⟩
 rw[h]at this;cases this
theorem uD{d:Option Tmp}{ids:List Id}(h:XA d ids=aQ){q:Nat}(hd:d=aw q)(j:Nat):Id.new q j ∉ ids:=by
 intro hy;have:XA d ids=aW:=by subst hd;exact List.any_eq_true.2 ⟨_,hy,by simp⟩
 rw[h]at this;cases this
theorem Iq{f g:FN}(h:f.aE0 g=aQ){q:Nat}(hd:f.dst=aw q):q ∉ g.ck/\g.dst≠aw q:=by unfold FN.aE0 at h;rw[hd]at h;simp only[Bool.or_eq_false_iff,oK,bh,decide_eq_false_iff_not]at h;exact⟨λhx=>h.1 q hx rfl,h.2⟩
theorem ai8(s:AS)(d:Option Tmp)(v:aB)(i:Nat)(h:d≠aw i):(s.put d v).slot i=s.slot i:=by
 cases d with
 |none=>rfl
 |some q=>rw[XD,if_neg];rintro⟨rfl,_⟩;exact h rfl
theorem App.slot{d:Option Tmp}{E:aEf}{s s':AS}(h:App d E s s')(i:Nat)(hi:d≠aw i):s'.slot i=s.slot i:=by rw[<-ai8 s d E.v i hi];simp only[AS.slot,h.ck]
theorem afI{f f':FN}{E:aEf}{s s1:AS}(ha:App f.dst E s s1)(hw:acB f s E)(aHh:∀id∈f'.ws,id∈f'.rs)(h1:f.aE0 f'=aQ)(h2:meets f.ws f'.rs=aQ)(h3:meets f'.ws f.rs=aQ)
  (h4:XA f.dst f'.rs=aQ):(∀i∈f'.ck,s1.slot i=s.slot i)/\(∀id∈f'.ws,s1.bV id=s.bV id)/\(∀id∈f'.rs,yx (s1.bV id) (s.bV id))/\∀q,f'.dst=aw q->s1.ej q=s.ej q:=by
 have KB:∀id∈f'.rs,E.up id=aF:=λid dd=>by
  cases hu:E.up id with
  |none=>rfl
  |some e=>
   rcases hw.up id e hu with⟨h,_⟩ | ⟨q,j,hd,rfl⟩
   ·exact absurd dd (wJ h2 h)
   ·exact absurd dd (uD h4 hd j)
 refine⟨λi hi=>ha.slot i λhd=>(Iq h1 hd).1 hi,λid dd=> ?_,λid dd=> ?_,λq hq=> ?_⟩
 ·rw[ha.bV,KB id (aHh id dd)];have:id ∉ E.fz:=λhz=>wJ h3 dd (hw.fz id hz)
  simp only[if_neg this]
 ·rw[ha.bV,KB id dd];simp only;split
  ·exact as4 _
  ·exact as5 _
 ·have jR:∀j,(s1.bV (.new q j)=aF↔s.bV (.new q j)=aF):=λj=>by
   rw[ha.bV];cases hu:E.up (.new q j) with
   |none=>
    simp only;split <;> simp
   |some e=>
    rcases hw.up _ e hu with⟨_,h⟩ | ⟨q',j',hd,he⟩
    ·simp[h]
    ·simp only[Id.new.injEq]at he;obtain⟨rfl,_⟩:=he;exact absurd hq (Iq h1 hd).2
  rw[Bool.eq_iff_iff,zR,zR,ha.len];exact and_congr Iff.rfl (forall_congr' jR)
theorem F4(s:AS)(o:Oper):∀id∈(gM Γ ops s o).ws,id∈(gM Γ ops s o).rs:=λ_ dd=>bJ.2 (.inr dd)
theorem swap{o':Oper}{s1 s2:AS}(h1:IQ P Γ bD ops o s=aw s1)(h2:IQ P Γ bD ops o' s1=aw s2)(hi:(gM Γ ops s o).indep (gM Γ ops s1 o')=aW):
  ∃t1,IQ P Γ bD ops o' s=aw t1/\IQ P Γ bD ops o t1=aw s2/\gM Γ ops s o'=gM Γ ops s1 o'/\gM Γ ops t1 o=gM Γ ops s o:=by
 unfold FN.indep at hi;simp only[al,cD]at hi;obtain⟨⟨⟨⟨⟨i1,i2⟩,i3⟩,i4⟩,i5⟩,i6⟩:=hi;obtain⟨E,a1,w1,l1⟩:=UC h1;obtain⟨E',a2,w2,l2⟩:=UC h2;obtain⟨g1,g2,g3,g4⟩:=afI (f:=gM Γ ops s o) (f':=gM Γ ops s1 o') a1 w1 (F4 _ _) i1 i3 i4 i5;have LM:mT (gM Γ ops s1 o') s1 s:=⟨λi hi=>(g1 i hi).symm,λid dd=>(g2 id dd).symm,λid dd=>by
  have:=g3 id dd
  revert this
  cases s1.bV id <;> cases s.bV id <;> simp only[yx] <;> intro h <;> first | trivial | exact h | skip
  rename_i a b;cases a <;> cases b <;> simp_all [dP.afF],λq hq=>(g4 q hq).symm⟩
 obtain⟨t1,k1,k2⟩:=l2 s LM;have hf':=Uw LM;have w2':acB (gM Γ ops s1 o') s E':=⟨λid e hu=>by
  rcases w2.up id e hu with⟨h,hn⟩ | h
  ·exact .inl ⟨h,by rw[<-g2 id h];exact hn⟩
  ·exact .inr h,w2.fz⟩
 obtain⟨m1,m2,m3,m4⟩:=afI (f:=gM Γ ops s1 o') (f':=gM Γ ops s o) k2 w2' (F4 _ _) i2 i4 i3 i6;have aEC:mT (gM Γ ops s o) s t1:=⟨m1,m2,m3,m4⟩;obtain⟨t2,k3,k4⟩:=l1 t1 aEC;refine⟨t1,k1,?_,hf',Uw aEC⟩;rw[k3];congr 1;have aFi:∀id e,E.up id=aw e->E'.up id=aF/\id ∉ E'.fz:=λid e hu=>by
  rcases w1.up id e hu with⟨h,hn⟩ | ⟨q,j,hd,rfl⟩
  ·refine⟨?_,λhz=>wJ i3 h (w2.fz id hz)⟩;cases hu':E'.up id with
   |none=>rfl
   |some e'=>
    rcases w2.up id e' hu' with⟨h',_⟩ | ⟨q,j,hd,rfl⟩
    ·exact absurd (F4 _ _ id h') (wJ i3 h)
    ·exact absurd (F4 _ _ _ h) (uD i6 hd j)
  ·refine⟨?_,λhz=>uD i5 hd j (w2.fz _ hz)⟩;cases hu':E'.up (.new q j) with
   |none=>rfl
   |some e'=>
    rcases w2.up _ e' hu' with⟨h',_⟩ | ⟨q',j',hd',he⟩
    ·exact absurd (F4 _ _ _ h') (uD i5 hd j)
    ·simp only[Id.new.injEq]at he;obtain⟨rfl,_⟩:=he;exact absurd hd' (Iq i1 hd).2
 have aHl:∀id e,E'.up id=aw e->E.up id=aF/\id ∉ E.fz:=λid e hu=>by
  have hn:E.up id=aF:=by
   cases aKa:E.up id with
   |none=>rfl
   |some e1=>rw[(aFi id e1 aKa).1]at hu;cases hu
  refine⟨hn,λhz=> ?_⟩;rcases w2.up id e hu with⟨h,_⟩ | ⟨q,j,hd,rfl⟩
  ·exact wJ i4 h (w1.fz id hz)
  ·exact uD i6 hd j (w1.fz _ hz)
 refine AS.aCh ?_ (by rw[k4.len,k2.len,a2.len,a1.len]) λid=> ?_
 ·have e1:∀(u u':AS) (d:Option Tmp) (v:aB),u.ck=u'.ck->(u.put d v).ck=(u'.put d v).ck:=λu u' d v h=>by cases d <;> simp[AS.put,h]
  rw[k4.ck,a2.ck,e1 t1 (s.put o'.dst E'.v) _ _ k2.ck,e1 s1 (s.put o.dst E.v) _ _ a1.ck];cases hd:o.dst with
  |none=>cases o'.dst <;> rfl
  |some q=>
   cases hd':o'.dst with
   |none=>rfl
   |some q'=>
    have jR:q'≠q:=λe=>(Iq (f:=gM Γ ops s o) i1 hd).2 (by show o'.dst=aw q;rw[hd',e])
    simp only[AS.put];exact List.set_comm _ _ jR
 ·rw[k4.bV,k2.bV,a2.bV,a1.bV];cases hu:E.up id with
  |some e=>
   obtain⟨h3,h4⟩:=aFi id e hu;simp only[h3,if_neg h4]
  |none=>
   simp only;cases hu':E'.up id with
   |some e=>
    obtain⟨_,h4⟩:=aHl id e hu';simp only[if_neg h4]
   |none=>
    simp only;by_cases z1:id∈E.fz <;> by_cases z2:id∈E'.fz <;> simp only[if_pos,if_neg,z1,z2,not_false_eq_true]
end
end Go.Ab
namespace Go.Ab
section
variable {P:aR} {Γ:uO} {bD:List Nat} {ops:Array Oper}
def afH(P:aR)(Γ:uO)(bD:List Nat)(ops:Array Oper)(fs:Nat->FN):List Nat->AS->AS->Prop
 |[],s,sn=>s=sn
 |i::l,s,sn=>∃o,ops[i]? =aw o/\gM Γ ops s o=fs i/\∃s',IQ P Γ bD ops o s=aw s'/\afH P Γ bD ops fs l s' sn
theorem afH.auw{fs:Nat->FN}{i:Nat}{l2:List Nat}{sn:AS}:∀(l1:List Nat) {s:AS},afH P Γ bD ops fs (l1++i::l2) s sn->(∀j∈l1,(fs j).indep (fs i)=aW)->afH P Γ bD ops fs (i::(l1++l2)) s sn
 |[],_,h,_=>h
 |j::l1,s,h,hi=>by
  obtain⟨oj,h1,h2,s1,h3,h4⟩:=h;obtain⟨oi,h5,h6,s2,h7,h8⟩:=afH.auw l1 h4 λj hj=>hi j (aV _ hj)
  have hd:=hi j (bf ..);rw[<-h2,<-h6]at hd;obtain⟨t1,k1,k2,k3,k4⟩:=swap h3 h7 hd;exact⟨oi,h5,by rw[k3,h6],t1,k1,oj,h1,by rw[k4,h2],s2,k2,h8⟩
theorem aaV{R:Type}{anc:List Nat}{k:AS->Option R}{r:R}:∀(l:List Oper) (i:Nat) (acc:List (Nat×FN)) (s:AS) (f0:Nat->FN),(∀n o,l[n]? =aw o->ops[i+n]? =aw o)->(∀x∈acc,f0 x.1=x.2/\x.1 < i)->
  aaU P Γ bD ops anc i l acc s k=aw r->∃fs sn,(∀j,j < i->fs j=f0 j)/\afH P Γ bD ops fs (List.range' i l.length) s sn/\k sn=aw r/\
   (∀x∈acc,∀m,i<=m->m < i+l.length->(anc.getD m 0).testBit x.1=aW\/x.2.indep (fs m)=aW)/\(∀m1 m2,i<=m1->m1 < m2->m2 < i+l.length->(anc.getD m2 0).testBit m1=aW\/(fs m1).indep (fs m2)=aW)
 |[],i,acc,s,f0,_,_,h=>⟨f0,s,λ_ _=>rfl,rfl,h,λ_ _ m h1 h2=>by simp at h2;omega,λ_ _ h1 h2 h3=>by simp at h3;omega⟩
 |o::l,i,acc,s,f0,ho,hf,h=>by
  unfold aaU at h;split at h
  ·rename_i sz;simp only[AS.N3]at h;obtain⟨s',h1,h2⟩:=agt (k:=λs'=>aaU P Γ bD ops anc (i+1) l ((i,gM Γ ops s o)::acc) s' k) h;have aGB:∀x∈(i,gM Γ ops s o)::acc,(if x.1=i then gM Γ ops s o else f0 x.1)=x.2/\x.1 < i+1:=λx hx=>by
    rcases cz.1 hx with rfl | hx
    ·simp
    ·obtain⟨q1,q2⟩:=hf x hx;rw[if_neg ak];exact⟨q1,ak⟩
   obtain⟨fs,sn,g1,g2,g3,g4,g5⟩:=aaV l (i+1) ((i,gM Γ ops s o)::acc) s' (λn=>if n=i then gM Γ ops s o else f0 n)
    (λn o' hn=>by have:=ho (n+1) o' (by simpa using hn);rw[<-this];congr 1;omega) aGB h2
   have gi:fs i=gM Γ ops s o:=by rw[g1 i ak,if_pos rfl]
   refine⟨fs,sn,λj hj=>by rw[g1 j ak,if_neg ak],?_,g3,λx hx m h3 h4=> ?_,λm1 m2 h3 h4 h5=> ?_⟩
   ·rw[aE,List.range'_succ];exact⟨o,ho 0 o rfl,gi.symm,s',h1,g2⟩
   ·rcases Nat.eq_or_lt_of_le h3 with rfl | h3
    ·have:=cf.1 sz x hx;simp only[ju]at this;rcases this with h | h
     ·exact .inl h
     ·right;rw[gi];exact h
    ·exact g4 x (aV _ hx) m ak (by simp only[aE]at h4;omega)
   ·rcases Nat.eq_or_lt_of_le h3 with rfl | h3
    ·rw[gi];exact g4 (i,gM Γ ops s o) (bf ..) m2 ak (by simp only[aE]at h5;omega)
    ·exact g5 m1 m2 ak h4 (by simp only[aE]at h5;omega)
  ·cases h
theorem afK{acc:List Nat}{j:Nat}:∀ {l:List Edge},(l.foldr (λe m=>Nat.lor (Nat.lor (Nat.pow 2 e.on) (acc.getD e.on 0)) m) 0).testBit j=aW->∃e∈l,j=e.on\/(acc.getD e.on 0).testBit j=aW
 |[],h=>by simp at h
 |e::l,h=>by
  rw[List.foldr_cons,show ∀x y,Nat.lor x y=x ||| y from λ_ _=>rfl,show ∀x y,Nat.lor x y=x ||| y from λ_ _=>rfl,Nat.testBit_or,Nat.testBit_or,show Nat.pow 2 e.on=2^e.on from rfl,Nat.testBit_two_pow]at h;simp only[ju,bh]at h;rcases h with(h | h) | h
  ·exact⟨e,bf ..,.inl h.symm⟩
  ·exact⟨e,bf ..,.inr h⟩
  ·obtain⟨e',h1,h2⟩:=afK h;exact⟨e',aV _ h1,h2⟩
theorem aay:∀(l:List Oper) (acc:List Nat),(∀i,i < acc.length->(l.foldl (λacc o=>acc++ [acE acc o]) acc)[i]? =acc[i]?)/\
  ∀i o,l[i]? =aw o->(l.foldl (λacc o=>acc++ [acE acc o]) acc)[acc.length+i]? =aw (acE ((l.foldl (λacc o=>acc++ [acE acc o]) acc).take (acc.length+i)) o)
 |[],acc=>⟨λ_ _=>rfl,λi o h=>by simp at h⟩
 |x::l,acc=>by
  obtain⟨h1,h2⟩:=aay l (acc++ [acE acc x]);simp only[cS];refine⟨λi hi=> ?_,λi o hi=> ?_⟩
  ·rw[h1 i (by simp;omega),iy hi]
  ·cases i with
   |zero=>
    simp only[fF,aA]at hi;subst hi;rw[bM,h1 _ (by simp)];have:(l.foldl (λacc o=>acc++ [acE acc o]) (acc++ [acE acc x])).take acc.length=acc:=by
     apply List.ext_getElem?;intro j;rw[cW];split
     ·rename_i hj;rw[h1 j (by simp;omega),iy hj]
     ·rename_i hj;rw[dZ ak]
    rw[this];simp
   |succ i=>
    have:=h2 i o (by simpa using hi);simp only[ai,aE,bj,aH]at this;rw[show acc.length+(i+1)=acc.length+1+i by omega];exact this
theorem aub{l:List Oper}{i:Nat}{o:Oper}(hi:l[i]? =aw o){j:Nat}(hj:((afL l).getD i 0).testBit j=aW):∃e∈o.after.toList,Region.binds .any e=aW/\(j=e.on\/((afL l).getD e.on 0).testBit j=aW):=by
 have h:=(aay l []).2 i o hi;have e:afL l=l.foldl (λacc o=>acc++ [acE acc o]) []:=rfl;rw[<-e]at h;simp only[bj,aH]at h;rw[aK,h]at hj;obtain⟨e,h1,h3⟩:=afK hj;obtain⟨h1,h2⟩:=nY.1 h1;refine⟨e,h1,h2,h3.imp id λh4=> ?_⟩;rw[aK,cW]at h4;split at h4
 ·rw[aK];exact h4
 ·simp at h4
def acs(n:Nat)(listed:Array Bool):List Nat:=(List.range n).filter λi=> !listed.getD i aW
theorem MO{n:Nat}{listed:Array Bool}{i:Nat}:i∈acs n listed↔i < n/\listed.getD i aW=aQ:=by simp[acs]
theorem LI(n:Nat)(listed:Array Bool):(acs n listed).Pairwise (· < ·):=(List.pairwise_lt_range).filter _
theorem UB{listed:Array Bool}{i j:Nat}(d:Bool)(hi:i < listed.size):(listed.setIfInBounds i aW).getD j d=if j=i then aW else listed.getD j d:=by
 simp only[du,eL];by_cases h:i=j
 ·subst h;simp[hi]
 ·simp[h,Ne.symm h]
theorem aBe{listed:Array Bool}{i:Nat}(hi:i < listed.size){l1 l2:List Nat}(h:acs listed.size listed=l1++i::l2):acs listed.size (listed.setIfInBounds i aW)=l1++l2:=by
 have hs:=LI listed.size listed;rw[h]at hs;obtain⟨p1,p2,p3⟩:=List.pairwise_append.1 hs;obtain⟨p4,_⟩:=List.pairwise_cons.1 p2;have e:acs listed.size (listed.setIfInBounds i aW)=(acs listed.size listed).filter λj=>decide (j≠i):=by
  unfold acs;rw[List.filter_filter];refine List.filter_congr λj _=> ?_
  rw[UB aW hi];by_cases hj:j=i
  ·simp[hj]
  ·simp[hj]
 rw[e,h,List.filter_append,List.filter_cons];have f1:l1.filter (λj=>decide (j≠i))=l1:=jA.2 λj hj=>by have:=p3 j hj i (bf ..);simp;omega
 have f2:l2.filter (λj=>decide (j≠i))=l2:=jA.2 λj hj=>by have:=p4 j hj;simp;omega
 rw[f1,f2];simp
theorem apt{rd:Option Nat}{n:Nat}{C:Ctx}(hΓ:Sound P Γ){fs:Nat->FN}{sn:AS}{Q:Exit->Act->cj->Prop}(hE:acX ops.toList=aW)
  (aGP:∀m1 m2,m1 < m2->m2 < ops.size->((afL ops.toList).getD m2 0).testBit m1=aW\/(fs m1).indep (fs m2)=aW) (hQ:∀a w,gl C sn a w->Q .normal a w):
  ∀(fuel:Nat) (listed:Array Bool) (s:AS) (a:Act) (w:cj),listed.size=ops.size->(acs ops.size listed).length=fuel->
   (∀i,i < ops.size->listed.getD i aW=aW->∀j,((afL ops.toList).getD i 0).testBit j=aW->listed.getD j aQ=aW)->afH P Γ bD ops fs (acs ops.size listed) s sn->gl C s a w->wpAnyIn (Fr rd) n P .any ops Q fuel listed a w:=by
 have aBz:∀i o,ops[i]? =aw o->∀e∈o.after.toList,Region.binds .any e=aW->e.on < i:=λi o hi e he hb=>by have:=cf.1 hE (o,i) (List.mem_zipIdx_iff_getElem?.2 (by simpa using hi));have:=cf.1 this e he;simpa[hb]using this
 have aCC:∀(listed:Array Bool),listed.size=ops.size->∀i,i∈Region.ready .any ops listed↔i∈acs ops.size listed/\∀o,ops[i]? =aw o->∀e∈o.after.toList,Region.binds .any e=aW->listed.getD e.on aQ=aW:=λlisted _ i=>by
  rw[MO];unfold Region.ready;simp only[nY,List.mem_range,al,cD];constructor
  ·rintro⟨h1,h2,h3⟩;refine⟨⟨h1,h2⟩,λo ho e he hb=> ?_⟩;rw[ho]at h3;simp only[eZ,eM,Array.all_eq_true',ju,cD]at h3;rcases h3 e (by simpa using he) with h | h
   ·rw[hb]at h;cases h
   ·exact h
  ·rintro⟨⟨h1,h2⟩,h3⟩;refine⟨h1,h2,?_⟩;obtain⟨o,ho⟩:∃o,ops[i]? =aw o:=⟨ops[i],by simp[h1]⟩
   rw[ho];simp only[eZ,eM,Array.all_eq_true',ju,cD];intro e he;cases hb:Region.binds .any e with
   |false=>exact .inl rfl
   |true=>exact .inr (h3 o ho e (by simpa using he) hb)
 have pc:∀(listed:Array Bool),listed.size=ops.size->Region.ready .any ops listed=[]->acs ops.size listed=[]:=λlisted hs hr=>by
  cases hu:acs ops.size listed with
  |nil=>rfl
  |cons i l=>
   exfalso;have hi:i∈acs ops.size listed:=by rw[hu];exact bf ..
   have aFf:=LI ops.size listed;rw[hu]at aFf;have:i∈Region.ready .any ops listed:=(aCC listed hs i).2 ⟨hi,λo ho e he hb=>by
    have jQ:=aBz i o ho e he hb;have aaZ:=(MO.1 hi).1;cases hl:listed.getD e.on aW with
    |false=>
     have hm:e.on∈acs ops.size listed:=MO.2 ⟨ak,hl⟩;rw[hu]at hm;rcases cz.1 hm with h | h
     ·omega
     ·have:=(List.pairwise_cons.1 aFf).1 _ h;omega
    |true=>
     have:e.on < listed.size:=ak;simp only[du,kT this,eM]at hl ⊢;exact hl⟩
   rw[hr]at this;cases this
 intro fuel
 induction fuel with
 |zero=>
  intro listed s a w hs hl _ hr uU;have hn:acs ops.size listed=[]:=bP hl;refine⟨?_,?_⟩
  ·cases aHd:Region.ready .any ops listed with
   |nil=>rfl
   |cons i l=>
    have:i∈Region.ready .any ops listed:=by rw[aHd];exact bf ..
    have:=((aCC listed hs i).1 this).1;rw[hn]at this;cases this
  ·rw[hn]at hr;have:s=sn:=hr;subst this;exact hQ a w uU
 |succ fuel ih=>
  intro listed s a w hs hl atY hr uU;refine⟨λaHd=> ?_,λi hi=> ?_⟩
  ·have:=pc listed hs aHd;rw[this]at hl;simp at hl
  ·obtain⟨hu,aEQ⟩:=(aCC listed hs i).1 hi;obtain⟨aaZ,aLk⟩:=MO.1 hu;obtain⟨o,ho⟩:∃o,ops[i]? =aw o:=⟨ops[i],by simp[aaZ]⟩
   obtain⟨l1,l2,avG⟩:=List.append_of_mem hu;have aFf:=LI ops.size listed;rw[avG]at aFf;have aED:∀j,((afL ops.toList).getD i 0).testBit j=aW->listed.getD j aQ=aW:=λj hj=>by
    obtain⟨e,he,hb,h | h⟩:=aub (by simpa using ho) hj
    ·rw[h];exact aEQ o ho e he hb
    ·have h1:=aEQ o ho e he hb;have h2:=aBz i o ho e he hb;refine atY e.on ak ?_ j h
     have:e.on < listed.size:=ak;simp only[du,kT this,eM]at h1 ⊢;exact h1
   rw[avG]at hr;have hb:=afH.auw l1 hr λj hj=>by
    have jQ:j < i:=(List.pairwise_append.1 aFf).2.2 j hj i (bf ..);rcases aGP j i jQ aaZ with h | h
    ·have h1:=aED j h;have aJR:j∈acs ops.size listed:=by rw[avG];exact bJ.2 (.inl hj)
     have h2:=(MO.1 aJR).2;have:j < listed.size:=ak;simp only[du,kT this,eM]at h1 h2;rw[h1]at h2;cases h2
    ·exact h
   obtain⟨o',ho',hf,s',hg,pU⟩:=hb;obtain rfl:o=o':=by rw[ho]at ho';simpa using ho'
   have adj:acs ops.size (listed.setIfInBounds i aW)=l1++l2:=by rw[<-hs]at avG ⊢;exact aBe ak avG
   refine((aaT hΓ uU hg).mono λa' w' hst'=>ih (listed.setIfInBounds i aW) s' a' w' (by simpa using hs) ?_ ?_ (by rw[adj];exact pU) hst').wpOpIn ho
   ·rw[adj];rw[avG]at hl;simp only[ai,aE]at hl ⊢;omega
   ·intro m hm aGb j hj;rw[UB aQ ak];split
    ·rfl
    ·rw[UB aW ak]at aGb;split at aGb
     ·rename_i aJY;subst aJY;exact aED j hj
     ·exact atY m hm aGb j hj
theorem aiw{rd:Option Nat}{n:Nat}{C:Ctx}(hm:P.follows .mixedOrders=aW)(hΓ:Sound P Γ){id:Nat}{R:Type}{Q:Exit->Act->cj->Prop}{s:AS}{a:Act}{w:cj}{k:AS->Option R}{r:R}(h:gl C s a w)(hE:acX ops.toList=aW)
  (he:aaU P Γ bD ops (afL ops.toList) 0 ops.toList [] s k=aw r) (hk:∀s' a' w',gl C s' a' w'->k s'=aw r->Q .normal a' w'):(Code.region id ops aW).wpIn (Fr rd) n P Q a w:=by
 obtain⟨fs,sn,_,g2,g3,_,g5⟩:=aaV ops.toList 0 [] s (λ_=>⟨aF,[],[],[]⟩) (λn o hn=>by simpa using hn) (λ_ hx=>by cases hx) he;refine wpIn_region_any hm ?_
 obtain⟨g,β,h⟩:=h;have hu:acs ops.size (Array.replicate ops.size aQ)=List.range' 0 ops.toList.length:=by
  unfold acs;rw[jA.2]
  ·simp[List.range_eq_range']
  ·intro i hi;have hi:i < ops.size:=by simpa using hi
   simp[du,hi]
 refine apt (bD:=bD) hΓ hE (fs:=fs) (sn:=sn) (λm1 m2 h1 h2=>g5 m1 m2 (aL _) h1 (by simpa using h2)) (λa' w' hs=>hk sn a' w' hs g3) ops.size _ s a _ (by simp) (by rw[hu];simp) (λi hi hl=> ?_) (by rw[hu];exact g2) ⟨g,β,h.drew⟩;simp[du,hi]at hl
end
end Go.Ab
namespace Go.Ab
theorem wT{ρ:TY}{s:AS}(h:∀id,(s.obj id).isSome=aW->∀ver,ρ id ver=aw (id,ver)):∀(v:aB),v.there s=aW->v.iI ρ=v
 | .ptr id ver p n,ht=>by simp only[aB.iI];rw[h id ht]
 | .dx id ver p c i len,ht=>by simp only[aB.iI];rw[h id ht]
 | .pr a b,ht=>by simp only[aB.there,al]at ht;simp only[aB.iI];rw[wT h a ht.1,wT h b ht.2]
 | .cons a b,ht=>by simp only[aB.there,al]at ht;simp only[aB.iI];rw[wT h a ht.1,wT h b ht.2]
 | .fn f c,ht=>by simp only[aB.iI];rw[wT h c ht]
 | .bx e z c,ht=>by simp only[aB.iI];rw[wT h c ht]
 | .sG id ver,ht=>by simp only[aB.iI];rw[h id ht]
 | .yl id ver,ht=>by simp only[aB.iI];rw[h id ht]
 | .xx k f p,ht=>by simp only[aB.iI];rw[wT h f ht]
 | .rA ..,ht=>by cases ht
 | .undef,_ | .gone,_ | .cw,_ | .kq,_ | .vh,_ | .zZ,_ | .d _ _,_ | .dB _ _,_ | .nil,_ | .vec ..,_ | .mp ..,_ | .sb _,_=>rfl
theorem aB5.aY{E E':Env}(hm:wy E E')(hh:∀b:Nat,E'.w.heap[b]? =E.w.heap[b]?){i q:Id}{ver:Nat}{kt vt:Ty}{rest:List (kt.den×vt.den)}{cur:Option (kt.den×vt.den)}(h:aB5 E i q ver kt vt rest cur)(hβ:E'.β i=E.β i)
  (hg:∀pl,E.β i=aw pl->E.g pl.b= .own (.id i) 0->E'.g pl.b= .own (.id i) 0)
  (hq:∀vr,ver=vr+1->(E.yK q vr->E'.yK q vr/\(E'.cur q vr->E.cur q vr/\E'.β q=E.β q))/\(∀k v l,E.s q=aw (.obj vr aW (.mp k v l))->E'.s q=aw (.obj vr aW (.mp k v l)))/\
   ∀pl,E.β q=aw pl->E.g pl.b= .own (.id q) 0->E'.g pl.b= .own (.id q) 0):aB5 E' i q ver kt vt rest cur:=by
 obtain⟨pl,mb,since,seen,c0,h1,h2,h3,h4⟩:=h;refine⟨pl,mb,since,seen,c0,by rw[hβ,h1],by rw[hh,h2],hg pl h1 h3,λvr ajT=> ?_⟩;obtain⟨h5,h6⟩:=h4 vr ajT;obtain⟨q1,q2,q3⟩:=hq vr ajT;obtain⟨b1,b2⟩:=q1 h5;refine⟨b1,λhc=> ?_⟩;obtain⟨c1,c2⟩:=b2 hc;obtain⟨⟨k,v,l,k0⟩,plq,es,clock,k1,k2,k3,k4,k5,k6,k7,k8,k9⟩:=h6 c1;exact⟨⟨k,v,l,q2 _ _ _ k0⟩,plq,es,clock,by rw[c2,k1],k2,by rw[hh,k3],q3 _ k1 k4,k5,k6,k7,k8.mono hm,λx hx=>
  let⟨e,se,a1,a2,a3,a4⟩:=k9 x hx
  ⟨e,se,a1,a2,a3,a4.mono hm⟩⟩
theorem akX(c:aB):(∃q ver k v l cu,c= .rA q ver k v l cu)\/(∀ρ kp,c.asF ρ kp=c.iI ρ)/\∀s v fr,dP.there s (.obj v fr c)=c.there s:=by cases c <;> first | exact .inl ⟨_,_,_,_,_,_,rfl⟩ | exact .inr ⟨λ_ _=>rfl,λ_ _ _=>rfl⟩
section
variable {P:aR} {C:Ctx} {g:Nat->iF} {β:Id->Option Pl} {s:AS} {a:Act} {w:cj}
theorem Inv.Qb(h:Inv C g β s a w)(hC:C.ok){s1:AS}{g1:Nat->iF}{β1:Id->Option Pl}(ρ:TY)(hlen:s1.ck.length=s.ck.length)(ht:Trans w w g g1)(hle:EF ρ (s.env w g β) (s1.env w g1 β1))
  (Mr:∀i,VS (s1.env w g1 β1) (s1.slot i) (a.tmps.getD i undef))
  (cQ:∀id ver fr c,s1.bV id=aw (.obj ver fr c)->tp (s1.env w g1 β1) id fr c\/∃id0 v0 c0,s.bV id0=aw (.obj v0 fr c0)/\c0.iI ρ=c/\β1 id=β id0/\∀pl,β id0=aw pl->(∀k,g pl.b= .own (.id id0) k->g1 pl.b= .own (.id id) k)/\(g pl.b= .free->g1 pl.b= .free))
  (hold:∀k,(s.bV (.eC k)≠aF->s1.bV (.eC k)≠aF)/\(∀v fr c,s1.bV (.eC k)=aw (.obj v fr c)->∃c0,s.bV (.eC k)=aw (.obj v fr c0))/\β1 (.eC k)=β (.eC k)):Inv C g1 β1 s1 a w:=by
 refine⟨h.defers.mono ht,by rw[hlen];exact h.size,Mr,λid ver fr c dd=> ?_,h.trans.trans ht.aFQ,?_⟩
 ·rcases cQ id ver fr c dd with ho | ⟨id0,v0,c0,h1,h2,h3,h4⟩
  ·exact ho
  have:=yN hle (h.bD id0 v0 fr c0 h1) (id':=id) h3 λpl hp=>⟨rfl,(h4 pl hp).1,(h4 pl hp).2⟩
  rw[h2]at this;exact this
 ·have hl:=h.le;have ho:∀id ver,C.E.yK id ver->∃k,id= .eC k:=λid ver hb=>by
   cases id with
   |eC k=>exact⟨k,rfl⟩
   |new i j=>exact absurd (hC.1 i j) hb.1
  refine⟨hl.mem.trans (kU.aAb (E:=s.env w g β) (E':=s1.env w g1 β1) ht),λid ver hb=> ?_,λid ver hb hc=> ?_⟩
  ·obtain⟨k,rfl⟩:=ho id ver hb;obtain⟨h1,h2⟩:=hl.yK _ ver hb;obtain⟨e1,e2,_⟩:=hold k;exact⟨e1 h1,λv fr c hh=>let⟨c0,Q5⟩:=e2 v fr c hh;h2 v fr c0 Q5⟩
  ·obtain⟨k,rfl⟩:=ho id ver hb;obtain⟨fr,c,hc⟩:=hc;obtain⟨_,e2,e3⟩:=hold k;obtain⟨c0,Q5⟩:=e2 _ _ _ hc;obtain⟨h1,h2⟩:=hl.cur _ ver hb ⟨fr,c0,Q5⟩;exact⟨h1,e3.trans h2⟩
theorem Inv.renamed(h:Inv C g β s a w)(hC:C.ok){s1:AS}{β1:Id->Option Pl}(ρ:TY)(hlen:s1.ck.length=s.ck.length)(hle:EF ρ (s.env w g β) (s1.env w g β1))
  (Mr:∀i,VS (s1.env w g β1) (s1.slot i) (a.tmps.getD i undef)) (cQ:∀id ver fr c,s1.bV id=aw (.obj ver fr c)->tp (s1.env w g β1) id fr c\/∃v0,s.bV id=aw (.obj v0 fr c)/\c.iI ρ=c/\β1 id=β id)
  (hold:∀k,s1.bV (.eC k)=s.bV (.eC k)/\β1 (.eC k)=β (.eC k)):Inv C g β1 s1 a w:=
 h.Qb hC ρ hlen (Trans.refl w g) hle Mr (λid ver fr c dd=>(cQ id ver fr c dd).imp (λh=>h) λ⟨v0,h1,h2,h3⟩=>⟨id,v0,c,h1,h2,h3,λ_ _=>⟨λ_ h=>h,λh=>h⟩⟩)
  λk=>⟨λhh=>by rw[(hold k).1];exact hh,λv fr c hh=>⟨c,(hold k).1.symm.trans hh⟩,(hold k).2⟩
theorem Inv.aDi(h:Inv C g β s a w)(j:Nat){v:aB}(hv:VS (s.env w g β) v (a.tmps.getD j undef)):Inv C g β (s.put (aw j) v) a w:=by
 refine⟨h.defers,by simpa[AS.put]using h.size,λi=> ?_,by simpa using h.bD,h.trans,by simpa using h.le⟩;rw[acZ,XD];split
 ·rename_i aJb;rw[aJb.1];exact hv
 ·exact h.ck i
theorem Qy(aY:List Nat):∀(l:List aB) (n i:Nat),(eN aY n l).getD i .undef= .undef\/(eN aY n l).getD i .undef=l.getD i .undef
 |[],n,i=>by simp[eN]
 |v::l,n,0=>by
  simp only[eN,jB];split
  ·exact .inr rfl
  ·exact .inl rfl
 |v::l,n,i+1=>by simp only[eN,qB];exact Qy aY l (n+1) i
theorem Bg(aY:List Nat):∀(l:List aB) (n:Nat),(eN aY n l).length=l.length
 |[],n=>rfl
 |v::l,n=>by simp[eN,Bg aY l]
theorem ab9(aY:List Nat):∀(l:List (List dP)) (n i:Nat),(ow aY n l).getD i []=[]\/(ow aY n l).getD i []=l.getD i []
 |[],n,i=>by simp[ow]
 |v::l,n,0=>by
  simp only[ow,jB];split
  ·exact .inr rfl
  ·exact .inl rfl
 |v::l,n,i+1=>by simp only[ow,qB];exact ab9 aY l (n+1) i
theorem abd{s:AS}(i:Nat):s.slot i= .undef\/s.slot i∈s.ck:=by
 unfold AS.slot;rw[aK];cases h:s.ck[i]? with
 |none=>exact .inl rfl
 |some v=>exact .inr (cE h)
theorem aol{s:AS}{id:Id}{e:dP}(h:s.bV id=aw e):e∈s.dg\/∃es∈s.news,e∈es:=by
 cases id with
 |eC k=>exact .inl (cE h)
 |new i j=>
  simp only[AS.bV,aK]at h;cases hi:s.news[i]? with
  |none=>rw[hi]at h;simp at h
  |some es=>rw[hi]at h;exact .inr ⟨es,cE hi,cE h⟩
theorem Inv.aY(h:Inv C g β s a w)(hC:C.ok){an:ru}(ht:(MI an s).afJ=aW):Inv C g β (MI an s) a w:=by
 obtain⟨ks,kt,_,_,_⟩:=an;obtain⟨s1,Q7⟩:∃s1:AS,s1= {ck:=eN ks 0 s.ck,dg:=s.dg,news:=ow kt 0 s.news}:=⟨_,rfl⟩;have e1:s1.ck=eN ks 0 s.ck:=by rw[Q7]
 have e2:s1.dg=s.dg:=by rw[Q7]
 have e3:s1.news=ow kt 0 s.news:=by rw[Q7]
 have ht:(s1.ck.all (aB.there s1) && s1.dg.all (dP.there s1) && s1.news.all λes=>es.all (dP.there s1))=aW:=by rw[Q7];exact ht
 show Inv C g β {ck:=eN ks 0 s.ck,dg:=s.dg,news:=ow kt 0 s.news} a w;rw[<-Q7];rw[al,al]at ht;obtain⟨⟨t1,t2⟩,t3⟩:=ht;have cQ:∀id,s1.bV id=aF\/s1.bV id=s.bV id:=λid=>by
  cases id with
  |eC k=>right;simp only[AS.bV,e2]
  |new i j=>
   simp only[AS.bV,e3];rcases ab9 kt s.news 0 i with h | h
   ·rw[h];exact .inl rfl
   ·rw[h];exact .inr rfl
 have azJ:∀id,(s1.obj id).isSome=aW->s1.bV id=s.bV id:=λid hi=>by
  rcases cQ id with h | h
  ·simp[AS.obj,h]at hi
  ·exact h
 let ρ:TY:=λid ver=>if(s1.obj id).isSome=aW then aw (id,ver) else aF
 have hρ:∀v:aB,v.there s1=aW->v.iI ρ=v:=wT λid dd ver=>if_pos dd
 have hle:EF ρ (s.env w g β) (s1.env w g β):=by
  refine⟨⟨⟨λ_ _ _ h=>h,λ_ _ h h'=>⟨h,h'⟩,λ_ cur _ h h'=>⟨h,cur,h',rfl⟩⟩,λ_ _ h h'=>⟨h,h'⟩⟩,λid ver r hr hb=> ?_⟩;by_cases hi:(s1.obj id).isSome=aW
  ·have:ρ id ver=aw (id,ver):=if_pos hi;rw[this,aA]at hr;subst hr;have e:=azJ id hi;obtain⟨b1,b2⟩:=hb;exact⟨⟨by show s1.bV id≠aF;rw[e];exact b1,λv fr c hh=>b2 v fr c (e.symm.trans hh)⟩,λ⟨fr,c,hc⟩=>⟨⟨fr,c,e.symm.trans hc⟩,rfl⟩⟩
  ·have:ρ id ver=aF:=if_neg hi;rw[this]at hr;cases hr
 refine h.renamed hC ρ (by rw[e1,Bg]) hle (λi=> ?_) (λid ver fr c dd=> ?_) λk=>⟨by simp only[AS.bV,e2],rfl⟩
 ·rcases abd (s:=s1) i with hi | hi
  ·rw[hi];exact VS.undef
  ·have aHj:=cf.1 t1 _ hi;rcases Qy ks s.ck 0 i with h1 | h1
   ·have:s1.slot i= .undef:=by simp only[AS.slot,e1,h1]
    rw[this];exact VS.undef
   ·have:s1.slot i=s.slot i:=by simp only[AS.slot,e1,h1]
    have hv:=OT hle (h.ck i);rw[<-this,hρ _ aHj]at hv;exact hv
 ·have:s1.bV id=s.bV id:=by
   rcases cQ id with h | h
   ·rw[h]at dd;cases dd
   ·exact h
  have hc:dP.there s1 (.obj ver fr c)=aW:=by
   rcases aol dd with h | ⟨es,h1,h2⟩
   ·exact cf.1 t2 _ h
   ·exact cf.1 (cf.1 t3 _ h1) _ h2
  rcases akX c with⟨q,vq,k,v,l,cu,rfl⟩ | ⟨_,aHj⟩
  ·have e:=azJ q hc;refine .inl (aB5.aY hle.mem (λ_=>rfl) (h.bD id ver fr _ (this.symm.trans dd)) rfl (λ_ _ h=>h) λvr _=>⟨λhb=>hle.ref q vr (q,vr) (if_pos hc) hb,λk v l hk=>e.trans hk,λ_ _ h=>h⟩)
  ·rw[aHj]at hc;exact .inr ⟨ver,this.symm.trans dd,hρ c hc,rfl⟩
theorem Inv.drop(h:Inv C g β s a w)(ks:List Nat):Inv C g β (s.drop ks) a w:=by
 refine⟨h.defers,by simpa[AS.drop,Bg]using h.size,λi=> ?_,h.bD,h.trans,h.le⟩;rcases Qy ks s.ck 0 i with h1 | h1
 ·have:(s.drop ks).slot i= .undef:=h1;rw[this];exact VS.undef
 ·have:(s.drop ks).slot i=s.slot i:=h1;rw[this];exact h.ck i
def zA(b q:Nat):iF->iF
 | .own (.id (.new x j)) k=>if x=b then .own (.id (.new q j)) k else .own (.id (.new x j)) k
 |l=>l
theorem Trans.aFB(w:cj)(g:Nat->iF)(b q:Nat):Trans w w g λx=>zA b q (g x):=by
 refine⟨rfl,rfl,⟨rfl,az _⟩,az _,λy _=> ?_⟩;cases hg:g y with
 |free=>exact⟨by simp[zA],rfl⟩
 |own o k=>cases o with
  |dT=>exact⟨by simp[zA],rfl⟩
  |id x=>
   refine⟨.inr (.inr ?_),λ_ _ _ h=>h⟩;cases x with
   |eC m=>exact⟨_,_,rfl,az _⟩
   |new x j=>
    simp only[zA];split
    ·exact⟨_,_,rfl,az _⟩
    ·exact⟨_,_,rfl,az _⟩
 |fresh=>exact .inl ⟨by simp[zA],rfl⟩
 |gg=>exact⟨by simp[zA],λcur e h=>⟨cur,h,rfl⟩⟩
theorem XC(f:aB->aB)(hf:f .undef= .undef)(l:List aB)(i:Nat):(l.map f).getD i .undef=f (l.getD i .undef):=by simp only[aK,dK];cases l[i]? <;> simp[hf]
theorem Inv.Ho(h:Inv C g β s a w)(hC:C.ok){b q:Nat}(aDJ:b < s.news.length)(aHa:q < s.news.length):
  ∃g1 β1,Inv C g1 β1 (s.Ho b q (s.news.getD b [])) a w:=by
 generalize aF4:s.news.getD b []=es;have aEU:∀j,s.bV (.new b j)=es[j]? :=λj=>by rw[<-aF4];rfl
 let ρ:TY:=NK es b q
 let s1:=s.Ho b q es
 have mX:∀j',s1.bV (.new q j')=(es[j']?).map (dP.W8 ρ):=λj'=>by simp[s1,AS.Ho,AS.bV,aK,aHa,ρ]
 have aEY:b≠q->∀j',s1.bV (.new b j')=aF:=λaCo j'=>by
  have hbq':¬q=b:=λe=>aCo e.symm
  simp only[s1,AS.Ho,AS.bV,aK];rw[ek hbq',List.getElem?_set,if_pos rfl];split <;> simp
 have Mq:∀i,(∀j',i≠ .new q j')->(∀j',i≠ .new b j')->s1.bV i=(s.bV i).map (dP.ZY ρ (Iy b q)):=λi hi hi'=>by
  cases i with
  |eC k=>simp[s1,AS.Ho,AS.bV,ρ]
  |new x y=>
   have h1:¬q=x:=λe=>hi y (by rw[e])
   have h2:¬b=x:=λe=>hi' y (by rw[e])
   simp only[s1,AS.Ho,AS.bV,aK];rw[ek h1,ek h2,dK];cases s.news[x]? <;> simp[ρ]
 let g1:Nat->iF:=λx=>zA b q (g x)
 let β1:Id->Option Pl:=λi=>match i with | .new x j=>if x=q then β (.new b j) else β (.new x j) | .eC k=>β (.eC k)
 have hβ1:∀i,(∀j',i≠ .new q j')->β1 i=β i:=λi hi=>by
  cases i with
  |eC k=>rfl
  |new x y=>exact if_neg λe=>hi y (by rw[e])
 have ht:Trans w w g g1:=Trans.aFB w g _ _;have hρ:∀i ver r,ρ i ver=aw r->(∃j fr c,i= .new b j/\es[j]? =aw (.obj ver fr c)/\r=(.new q j,0))\/((∀j',i≠ .new q j')/\(∀j',i≠ .new b j')/\r=(i,ver)):=λi ver r hr=>by
  replace hr:NK es b q i ver=aw r:=hr
  cases i with
  |eC k=>exact .inr ⟨λ_=>by simp,λ_=>by simp,(bu hr).symm⟩
  |new x j=>
   unfold NK at hr;simp only at hr;split at hr
   ·rename_i hx;have hx:x=b:=by simpa using hx
    subst hx;split at hr
    ·rename_i v fr c he;split at hr
     ·rename_i hv;have hv:ver=v:=by simpa using hv
      subst hv;exact .inl ⟨j,fr,c,rfl,he,(bu hr).symm⟩
     ·cases hr
    ·cases hr
   ·rename_i hx;have hx:¬x=b:=by simpa using hx
    split at hr
    ·cases hr
    ·rename_i hx';have hx':¬x=q:=by simpa using hx'
     exact .inr ⟨λ_ e=>hx' (by injection e),λ_ e=>hx (by injection e),(bu hr).symm⟩
 have hle:EF ρ (s.env w g β) (s1.env w g1 β1):=by
  refine⟨Trans.mem (E:=s.env w g β) (E':=s1.env w g1 β1) ht,λi ver r hr afC=> ?_⟩;rcases hρ i ver r hr with⟨j,fr,c,rfl,he,rfl⟩ | ⟨hi,hi',rfl⟩
  ·refine⟨⟨by show s1.bV (.new q j)≠aF;rw[mX,he];simp,λ_ _ _ _=>aL _⟩,λ_=>⟨⟨fr,c,(aEU j).trans he⟩,if_pos rfl⟩⟩
  ·obtain⟨k1,k2⟩:=afC;have k1:s.bV i≠aF:=k1;have e:s1.bV i=(s.bV i).map (dP.ZY ρ (Iy b q)):=Mq i hi hi';have back:∀v' fr' c',s1.bV i=aw (.obj v' fr' c')->∃c0,s.bV i=aw (.obj v' fr' c0):=λv' fr' c' hh=>by
    rw[e]at hh;cases hs:s.bV i with
    |none=>exact absurd hs k1
    |some en=>
     rw[hs]at hh;cases en with
     |dead=>simp[dP.ZY]at hh
     |obj v0 fr0 c0=>
      simp only[eZ,dP.ZY,aA,dP.obj.injEq]at hh;obtain⟨rfl,rfl,_⟩:=hh;exact⟨c0,rfl⟩
   refine⟨⟨by
    show s1.bV i≠aF;rw[e];cases hs:s.bV i with
    |none=>exact absurd hs k1
    |some en=>simp,λv' fr' c' hh=> ?_⟩,λ⟨fr',c',hh⟩=> ?_⟩
   ·obtain⟨c0,Q5⟩:=back v' fr' c' hh;exact k2 v' fr' c0 Q5
   ·obtain⟨c0,Q5⟩:=back ver fr' c' hh;exact⟨⟨fr',c0,Q5⟩,hβ1 i hi⟩
 have aF8:∀(i:Id),(∀j',i≠ .new b j')->∀(x:Nat) (k:Nat),g x= .own (.id i) k->g1 x= .own (.id i) k:=λi hi x k hk=>by
  show zA b q (g x)=_;rw[hk];cases i with
  |eC m=>rfl
  |new y j=>exact if_neg λe=>hi j (by rw[e])
 refine⟨g1,β1,h.Qb hC ρ (by simp[AS.Ho]) ht hle (λi=> ?_) (λid ver fr' c' dd=> ?_) λk=>⟨λhk=> ?_,λv' fr' c' hh=> ?_,rfl⟩⟩
 ·have:(s.Ho b q es).slot i=(s.slot i).iI ρ:=XC _ rfl _ _;rw[this];exact OT hle (h.ck i)
 ·have dd:s1.bV id=aw (.obj ver fr' c'):=dd;by_cases hi:∃j',id= .new q j'
  ·obtain⟨j',rfl⟩:=hi;rw[mX]at dd;cases he:es[j']? with
   |none=>rw[he]at dd;cases dd
   |some en=>
    rw[he]at dd;cases en with
    |dead=>simp[dP.W8]at dd
    |obj v0 fr0 c0=>
     simp only[eZ,dP.W8,aA,dP.obj.injEq]at dd;obtain⟨_,rfl,rfl⟩:=dd;exact .inr ⟨.new b j',v0,c0,(aEU j').trans he,rfl,if_pos rfl,λpl hp=>⟨λk hk=>by
      show zA b q (g pl.b)=_;rw[hk];exact if_pos rfl,λhk=>by
      show zA b q (g pl.b)=_;rw[hk];rfl⟩⟩
  ·by_cases hi':∃j',id= .new b j'
   ·obtain⟨j',rfl⟩:=hi';have aCo:b≠q:=λe=>hi ⟨j',by rw[e]⟩
    rw[aEY aCo]at dd;cases dd
   ·have aGc:∀j',id≠ .new q j':=λj' e=>hi ⟨j',e⟩
    have hni':∀j',id≠ .new b j':=λj' e=>hi' ⟨j',e⟩
    have e:=Mq id aGc hni';rw[e]at dd;cases hs:s.bV id with
    |none=>rw[hs]at dd;cases dd
    |some en=>
     rw[hs]at dd;cases en with
     |dead=>simp[dP.ZY]at dd
     |obj v0 fr0 c0=>
      simp only[eZ,dP.ZY,aA,dP.obj.injEq]at dd;obtain⟨rfl,rfl,rfl⟩:=dd;rcases akX c0 with⟨q2,vq,k,v2,l,cu,rfl⟩ | ⟨aCD,_⟩
      ·have h0:=h.bD id v0 fr0 _ hs;left;simp only[aB.asF];cases aGa:Iy b q q2 with
       |true=>
        have aDP:(∀j',q2≠ .new b j')/\(∀j',q2≠ .new q j')/\∀vr,ρ q2 vr=aw (q2,vr):=by
         cases q2 with
         |eC k=>exact⟨λ_=>by simp,λ_=>by simp,λ_=>rfl⟩
         |new x y=>
          simp only[Iy,al,cD,decide_eq_false_iff_not]at aGa;obtain⟨k1,k2⟩:=aGa;refine⟨λ_ e=>k1 (by injection e),λ_ e=>k2 (by injection e),λvr=> ?_⟩;show NK es b q (.new x y) vr=_;unfold NK;simp only[rz k1,rz k2]
        obtain⟨aDP,ayQ,hρq⟩:=aDP;refine aB5.aY hle.mem (λ_=>rfl) h0 (hβ1 id aGc) (λpl _ hk=>aF8 id hni' _ _ hk) λvr _=>⟨λhb=>hle.ref q2 vr (q2,vr) (hρq vr) hb,λk v l hk=> ?_,λpl _ hk=>aF8 q2 aDP _ _ hk⟩
        have hk:s.bV q2=aw (.obj vr aW (.mp k v l)):=hk;show s1.bV q2=_;rw[Mq q2 ayQ aDP,hk];rfl
       |false=>
        obtain⟨pl,mb,since,seen,c0,h1,h2,h3,h4⟩:=h0;exact⟨pl,mb,since,seen,c0,(hβ1 id aGc).trans h1,h2,aF8 id hni' _ _ h3,λvr ajT=>ak⟩
      rw[aCD];exact .inr ⟨id,v0,c0,hs,rfl,hβ1 id aGc,λpl hp=>⟨λk hk=>aF8 id hni' _ _ hk,λhk=>by
       show zA b q (g pl.b)=_;rw[hk];rfl⟩⟩
 ·have e:=Mq (.eC k) (λ_=>by simp) (λ_=>by simp);show s1.bV (.eC k)≠aF;rw[e];cases hs:s.bV (.eC k) with
  |none=>exact absurd hs hk
  |some en=>simp
 ·have e:=Mq (.eC k) (λ_=>by simp) (λ_=>by simp);have hh:s1.bV (.eC k)=aw (.obj v' fr' c'):=hh;rw[e]at hh;cases hs:s.bV (.eC k) with
  |none=>rw[hs]at hh;cases hh
  |some en=>
   rw[hs]at hh;cases en with
   |dead=>simp[dP.ZY]at hh
   |obj v0 fr0 c0=>
    simp only[eZ,dP.ZY,aA,dP.obj.injEq]at hh;obtain⟨rfl,rfl,_⟩:=hh;exact⟨c0,rfl⟩
theorem LJ{k t:Ty}{l:List (k.den×t.den)}:∀ {p:List C1} {x c':aB},¬(xz (.mp k t l) p x).eval=aw c'
 |[],x,c',h=>by simp only[xz,av]at h
 | .arr::p,x,c',h=>by simp only[xz]at h;exact LJ h
 | .idx i::p,x,c',h=>by simp only[xz,av]at h
 | .fst::p,x,c',h=>by simp only[xz,av]at h
 | .snd::p,x,c',h=>by simp only[xz,av]at h
theorem TU{q:Id}{vq:Nat}{k t:Ty}{l:List (k.den×t.den)}{cu:Option (k.den×t.den)}:∀ {p:List C1} {x c':aB},¬(xz (.rA q vq k t l cu) p x).eval=aw c'
 |[],x,c',h=>by simp only[xz,av]at h
 | .arr::p,x,c',h=>by simp only[xz]at h;exact TU h
 | .idx i::p,x,c',h=>by simp only[xz,av]at h
 | .fst::p,x,c',h=>by simp only[xz,av]at h
 | .snd::p,x,c',h=>by simp only[xz,av]at h
theorem TV{k:uZ}{f:aB}{m:Nat}:∀ {p:List C1} {x c':aB},¬(xz (.xx k f m) p x).eval=aw c'
 |[],x,c',h=>by simp only[xz,av]at h
 | .arr::p,x,c',h=>by simp only[xz]at h;exact TV h
 | .idx i::p,x,c',h=>by simp only[xz,av]at h
 | .fst::p,x,c',h=>by simp only[xz,av]at h
 | .snd::p,x,c',h=>by simp only[xz,av]at h
theorem HH{l:List Value}{n:Nat}{vs:List Value}(h:(l.drop n).take vs.length=vs):dq l n vs=l:=by
 unfold dq;have h2:l.drop n=vs++l.drop (n+vs.length):=by
  conv=>lhs;rw[<-dm vs.length (l.drop n)]
  rw[h,fL]
 have h3:=dm n l;rw[h2]at h3;simpa[aC]using h3
theorem Inv.aFw(h:Inv C g β s a w){j:Nat}{p:List C1}(zU:(s.at j p).eval=aw .cw){q:Nat}(hq:s.ej q=aW){e:TypeId}{t:Ty}(hz:0 < t.size){s':AS}
  (he:((s.born q [.obj 0 aQ (.vec e t [])]).putAt j (.dx (.new q 0) 0 [] 0 0 0) p).eval=aw s'):gl C s' a w:=by
 obtain⟨β',h1,h2,h3⟩:=h.awq hq (e:=e) hz;cases p with
 |nil=>
  simp only[AS.at]at zU;have hj:=ay.1 zU;simp only[AS.putAt]at he;obtain rfl:=ay.1 he;refine⟨g,β',h1.aDi j ?_⟩;have:=h.ck j;rw[hj]at this;rw[lD this];exact h3
 |cons st p=>
  simp only[AS.at]at zU;simp only[AS.putAt]at he;have Mr:(s.born q [.obj 0 aQ (.vec e t [])]).slot j=s.slot j:=rfl;rw[Mr]at he;split at zU
  ·rename_i id ver p0 nn hj;split at zU
   ·rename_i v fr c ko;obtain⟨hv,zU⟩:=aD.1 zU;obtain⟨⟨n,u⟩,hl,zU⟩:=ax.1 zU;have hu:=ay.1 zU;simp only at hu;subst hu;have cQ:=dA ko;have jR:id≠ .new q 0:=λe=>by rw[e,(kL hq).1 0]at cQ;cases cQ
    have hne':∀j',id≠ .new q j':=λj' e=>by rw[e,(kL hq).1 j']at cQ;cases cQ
    have od:(s.born q [.obj 0 aQ (.vec e t [])]).bV id=aw (.obj v fr c):=(iZ _ hne').trans cQ;have avz:(s.born q [.obj 0 aQ (.vec e t [])]).obj id=aw (v,fr,c):=by simp only[AS.obj,od]
    simp only[hj,avz]at he;split at he
    ·simp only[av]at he
    ·rename_i c1 aEM;obtain⟨c',KB,he⟩:=ax.1 he;obtain rfl:=ay.1 he;have hn:c.gI=aQ:=by cases c <;> first | rfl | (exact(aEM _ _ _ rfl).elim) | (exact absurd KB LJ) | (exact absurd KB TU) | (exact absurd KB TV)
     have hO:=h1.bD id v fr c od;obtain⟨pl,cur,e0,hp,hh,hg,hk,hV⟩:=hO.box hn;have ht:=Trans.refl w g;have hN:=Tq hk;have hle:=cP.aZ (s:=s.born q [.obj 0 aQ (.vec e t [])]) (β:=β') (v':=v) (fr':=fr) (c':=c.wrap c') od (az _) ht (λ_ _=>rfl) (λ_=>rfl);refine⟨g,β',h1.step (c9 _ _ _) ht hle (iH.aZ h1.bD (by rw[od];simp) hle (λ_ _=>rfl) (λ_ _ _ _ _ _ _ _=>⟨rfl,rfl⟩) ?_ (nF od λk v1 l e=>by subst e;exact absurd KB LJ))⟩;obtain⟨cs,k1,k2⟩:=h3;have k2:cs=[.slice aF 0 0]:=k2;subst k2;obtain⟨u1,u2,u3⟩:=oG (p0++st::p) c.strip (cur.toList.take (c.tg cur.size)) n .cw _ c' [.slice aF 0 0] (VO.of hV) hl k1 KB;have u4:=u2.to (u3.qI hV.qI);have tw:((cur.toList.take (c.tg cur.size)).drop n).take 1=[.slice aF 0 0]:=by
      rcases pY (p0++st::p) c.strip (cur.toList.take (c.tg cur.size)) n .cw (VO.of hV) hl with⟨azH,Q5⟩ | ⟨q1,q2⟩
      ·rw[<-Q5]at hV;simp only[V]at hV;rw[hV,azH];rfl
      ·simpa only[V,aB.size]using q1
     rw[HH (vs:=[.slice aF 0 0]) tw]at u4;have pd:c'.size=c.strip.size:=by have e1:=u4.size;have e2:=hV.size;omega
     exact Kd.obj ⟨pl,cur,e0,hp,hh,hg,C5 hk u4.uW pd,by rw[Em c u4.uW,Ik u4.uW pd];exact V.mono hle u4⟩
   ·simp only[av]at zU
  ·simp only[av]at zU
theorem Jd:∀(ids:List Id) {s:AS} {i:Id} {v:Nat} {fr:Bool} {c:aB},s.bV i=aw (.obj v fr c)->∃fr',(s.bq ids).bV i=aw (.obj v fr' c)
 |[],s,i,v,fr,c,h=>⟨fr,h⟩
 |id::ids,s,i,v,fr,c,h=>by obtain⟨fr',h'⟩:=Ur (id:=id) h;exact Jd ids h'
theorem Inv.aEt(h:Inv C g β s a w){j:Nat}{p:List C1}{u:aB}(zU:(s.at j p).eval=aw u){t:Ty}{x:t.den}(ht:(s.ix t u).eval=aw x){s':AS}
  (he:((s.bq u.shared).putAt j (.d t x) p).eval=aw s'):gl C s' a w:=by
 cases p with
 |nil=>
  simp only[AS.at]at zU;have hj:=ay.1 zU;simp only[AS.putAt]at he;obtain rfl:=ay.1 he;have hs:=h.ck j;rw[hj]at hs;obtain⟨g',i1,_,_,cs,hR,hO⟩:=zI h hs ht;exact⟨g',β,i1.aDi j (VS.of (a:= .d t x) (cs:=cs) (by simpa only[V]using hR) hO)⟩
 |cons st p=>
  simp only[AS.at]at zU;simp only[AS.putAt]at he;have Mr:(s.bq u.shared).slot j=s.slot j:=by simp only[AS.slot,oh]
  rw[Mr]at he;split at zU
  ·rename_i id ver p0 nn hj;split at zU
   ·rename_i v fr c ko;obtain⟨hv,zU⟩:=aD.1 zU;obtain⟨⟨n,u'⟩,hl,zU⟩:=ax.1 zU;have hu:=ay.1 zU;simp only at hu;subst hu;have cQ:=dA ko;obtain⟨g',h1,h2,h3,h4⟩:=e7 u'.shared h;obtain⟨fr',od⟩:=Jd u'.shared cQ;have avz:(s.bq u'.shared).obj id=aw (v,fr',c):=by simp only[AS.obj,od]
    simp only[hj,avz]at he;split at he
    ·simp only[av]at he
    ·rename_i c1 aEM;obtain⟨c',KB,he⟩:=ax.1 he;obtain rfl:=ay.1 he;have hn:c.gI=aQ:=by cases c <;> first | rfl | (exact(aEM _ _ _ rfl).elim) | (exact absurd KB LJ) | (exact absurd KB TU) | (exact absurd KB TV)
     obtain⟨pl0,cur0,e00,avC,avx,aF7,aDO,hV0⟩:=(h.bD id v fr c cQ).box hn;obtain⟨pl,cur,e0,hp,hh,hg,hk,hV⟩:=(h1.bD id v fr' c od).box hn;have Jg:pl0=pl:=by have avC:β id=aw pl0:=avC;have hp:β id=aw pl:=hp;rw[avC]at hp;exact bu hp
     subst Jg;have fH:cur0=cur:=by
      have avx:w.heap[pl0.b]? =_:=avx
      have hh:w.heap[pl0.b]? =_:=hh
      rw[avx]at hh;simpa using(c7 (λo=>match o with | some (.cells x _ _)=>x | _=>cur0) hh)
     subst fH;obtain⟨cs,hVu,tw⟩:∃cs,V (s.env w g β) u' cs/\((cur0.toList.take (c.tg cur0.size)).drop n).take cs.length=cs:=by
      rcases pY (p0++st::p) c.strip (cur0.toList.take (c.tg cur0.size)) n u' (VO.of hV0) hl with⟨azH,Q5⟩ | ⟨q1,q2⟩
      ·refine⟨cur0.toList.take (c.tg cur0.size),by rw[Q5];exact hV0,?_⟩;rw[azH,aM,bt]
      ·refine⟨_,q1,?_⟩;rw[ct,da];congr 1;omega
     have hR:=uH rfl h.bD h2 u' t x cs hVu ht h4;have hVx:V ((s.bq u'.shared).env w g' β) (.d t x) cs:=by simpa only[V]using hR
     have ht':=Trans.refl w g';have hle:=cP.aZ (s:=s.bq u'.shared) (β:=β) (v':=v) (fr':=fr') (c':=c.wrap c') od (az _) ht' (λ_ _=>rfl) (λ_=>rfl);refine⟨g',β,h1.step (c9 _ _ _) ht' hle (iH.aZ h1.bD (by rw[od];simp) hle (λ_ _=>rfl) (λ_ _ _ _ _ _ _ _=>⟨rfl,rfl⟩) ?_ (nF od λk v1 l e=>by subst e;exact absurd KB LJ))⟩;obtain⟨u1,u2,u3⟩:=oG (p0++st::p) c.strip (cur0.toList.take (c.tg cur0.size)) n u' _ c' cs (VO.of hV) hl hVx KB;have u4:=u2.to (u3.qI hV.qI);rw[HH (vs:=cs) tw]at u4;have pd:c'.size=c.strip.size:=by have e1:=u4.size;have e2:=hV.size;omega
     exact Kd.obj ⟨pl0,cur0,e0,hp,hh,hg,C5 hk u4.uW pd,by rw[Em c u4.uW,Ik u4.uW pd];exact V.mono hle u4⟩
   ·simp only[av]at zU
  ·simp only[av]at zU
theorem Ku{E:Env}:∀(t:Ty) (x:t.den) (u:aB),(FD t x).eval=aw u->∀cs,cq E t cs x->V E u cs
 | .fo t,x,u,h,cs,hr=>by simp only[FD]at h;obtain⟨h1,h2⟩:=bO.1 h;obtain rfl:=ay.1 h2;simp only[cq]at hr;simp only[V];exact hr.1 (Option.isNone_iff_eq_none.1 h1)
 | .pair a b,x,u,h,cs,hr=>by simp only[FD]at h;obtain⟨u1,h1,h2⟩:=ax.1 h;obtain⟨u2,h3,h4⟩:=ax.1 h2;obtain rfl:=ay.1 h4;simp only[cq]at hr;obtain⟨ca,cb,rfl,ha,hb⟩:=hr;exact aj1 (Ku a x.1 u1 h1 ca ha) (Ku b x.2 u2 h3 cb hb)
 | .int k,x,u,h,cs,hr=>by simp only[FD]at h;obtain rfl:=ay.1 h;simpa only[V]using hr
 | .bool,x,u,h,cs,hr=>by simp only[FD]at h;obtain rfl:=ay.1 h;simpa only[V]using hr
 | .str,x,u,h,cs,hr=>by simp only[FD]at h;obtain rfl:=ay.1 h;simpa only[V]using hr
 | .slice t,x,u,h,cs,hr=>by simp only[FD]at h;obtain rfl:=ay.1 h;simpa only[V]using hr
 | .unit,x,u,h,cs,hr=>by simp only[FD]at h;obtain rfl:=ay.1 h;simpa only[V]using hr
 | .arr n t,x,u,h,cs,hr=>by simp only[FD]at h;obtain rfl:=ay.1 h;simpa only[V]using hr
 | .mR t,x,u,h,cs,hr=>by simp only[FD]at h;obtain rfl:=ay.1 h;simpa only[V]using hr
 | .gC t,x,u,h,cs,hr=>by simp only[FD]at h;obtain rfl:=ay.1 h;simpa only[V]using hr
 | .eK t,x,u,h,cs,hr=>by simp only[FD]at h;obtain rfl:=ay.1 h;simpa only[V]using hr
 | .js z,x,u,h,cs,hr=>by simp only[FD]at h;obtain rfl:=ay.1 h;simpa only[V]using hr
 | .jp z,x,u,h,cs,hr=>by simp only[FD]at h;obtain rfl:=ay.1 h;simpa only[V]using hr
theorem apC{e:TypeId}{z:Nat}{c:aB}{pl:Pl}{n:Nat}(hz:0 < z)(h1:n=pl.cap*z)(h2:pl.cap<=maxLen)(h3:c.size<=n):(aB.bx e z c).FX pl n e:=by
 cases z with
 |zero=>omega
 |succ z=>exact⟨rfl,h1,h2,h3⟩
theorem afX{e:TypeId}{z:Nat}{c:aB}{n:Nat}(hz:0 < z):(aB.bx e z c).tg n=c.size:=by
 cases z with
 |zero=>omega
 |succ z=>rfl
theorem adQ{e e':TypeId}{z:Nat}{c:aB}{pl:Pl}{n:Nat}(hz:0 < z)(h:(aB.bx e z c).FX pl n e'):e'=e/\n=pl.cap*z/\pl.cap<=maxLen/\c.size<=n:=by
 cases z with
 |zero=>omega
 |succ z=>exact h
theorem ahH{E:Env}{id:Id}{ver n:Nat}{p p':List C1}{y:Value}(h:VS E (.ptr id ver p n) y):VS E (.ptr id ver p' n) y:=by obtain⟨cs,h1,h2⟩:=h;exact⟨cs,by simpa only[V]using h1,h2⟩
theorem Inv.aEw(h:Inv C g β s a w){j:Nat}{id:Id}{ver n k v:Nat}{p p':List C1}(hj:s.slot j= .ptr id ver p n){e:TypeId}{t:Ty}{r:List t.den}(ko:s.obj id=aw (v,aQ,.vec e t r))
  (hk:k < r.length) {u:aB} (hu:(FD t (nth t r k)).eval=aw u):
  gl C ((s.aZ id (.obj v aQ (.bx e t.size (.pr (.d (.arr k t) (r.take k)) (.pr u (.d (.arr (r.drop (k+1)).length t) (r.drop (k+1)))))))).put (aw j) (.ptr id ver p' n)) a w:=by
 have cQ:=dA ko;obtain⟨hz,hO⟩:tp (s.env w g β) id aQ (.vec e t r):=h.bD id v aQ _ cQ;have hO:(match β id with
  |none=>r=[]
  |some pl=>∃cur k,w.heap[pl.b]? =aw (.cells cur e (0,0))/\cur.size=pl.cap*t.size/\r.length<=pl.cap/\pl.cap<=maxLen/\g pl.b= .own (.id id) k/\
    k<=r.length*t.size/\(aQ=aQ->k=0)/\bp (cq (s.env w g β) t) (cur.toList.take (r.length*t.size)) r):=hO
 have ht:=Trans.refl w g
 have hle:cP (s.env w g β) ((s.aZ id (.obj v aQ (.bx e t.size (.pr (.d (.arr k t) (r.take k)) (.pr u (.d (.arr (r.drop (k+1)).length t) (r.drop (k+1)))))))).env w g β):=
  cP.aZ cQ (az _) ht (λ_ _=>rfl) (λ_=>rfl)
 have hI:=h.step (c9 _ _ _) ht hle (iH.aZ h.bD (by rw[cQ];simp) hle (λ_ _=>rfl) (λ_ _ _ _ _ _ _ _=>⟨rfl,rfl⟩) (ajQ:=TC cQ) (by
  cases hp:β id with
  |none=>rw[hp]at hO;simp only at hO;subst hO;simp at hk
  |some pl=>
   rw[hp]at hO;obtain⟨cur,k0,q1,q2,q3,q4,q5,q6,q7,q8⟩:=hO;have aDO:=q7 rfl;subst aDO;have ajW:∀c x,cq (s.env w g β) t c x->c.length=t.size:=λc x hx=>hx.size
   have c1:=bp.take ajW k q8;have c2:=(q8.get ajW k hk);have c3:=bp.drop ajW (k+1) q8;have afD:V (s.env w g β) u (((cur.toList.take (r.length*t.size)).drop (k*t.size)).take t.size):=Ku t _ u (by rw[Vz hk]at hu;exact hu) _ c2;have aKc:=afD.size;have hlen:(cur.toList.take (r.length*t.size)).length=r.length*t.size:=bp.length ajW q8;have pd:r.length*t.size<=cur.size:=by rw[q2];exact cM _ q3
   have aLi:(k+1)*t.size<=r.length*t.size:=cM _ hk;have aDP:(k+1)*t.size=k*t.size+t.size:=Nat.succ_mul k t.size;have aCF:u.size=t.size:=by rw[<-aKc,ct,da,hlen];omega
   have hm:(r.drop (k+1)).length*t.size=r.length*t.size - (k+1)*t.size:=by rw[da,Nat.sub_mul]
   have aqp:(aB.pr (.d (.arr k t) (r.take k)) (.pr u (.d (.arr (r.drop (k+1)).length t) (r.drop (k+1))))).size=r.length*t.size:=by simp only[aB.size,Ty.size,aCF,hm];omega
   refine Kd.obj ⟨pl,cur,e,hp,q1,q5,apC hz q2 q4 (by rw[aqp];exact pd),?_⟩;rw[afX hz,aqp];refine V.mono hle ?_
   show V _ (.pr (.d (.arr k t) (r.take k)) (.pr u (.d (.arr (r.drop (k+1)).length t) (r.drop (k+1))))) _;simp only[V];generalize cur.toList.take (r.length*t.size)=R at*;refine⟨R.take (k*t.size),R.drop (k*t.size),(dm _ _).symm,?_,(R.drop (k*t.size)).take t.size,R.drop ((k+1)*t.size),?_,afD,?_⟩
   ·simp only[cq];exact⟨by rw[ct];omega,c1⟩
   ·rw[aDP,<-fL,dm]
   ·simp only[cq];exact⟨trivial,c3⟩))
 refine⟨g,β,hI.aDi j ?_⟩;have:=h.ck j;rw[hj]at this;exact ahH (VS.mono hle this)
theorem Pd:∀(l:List Nat) {s s1:AS},gl C s a w->(aqc s l).eval=aw s1->gl C s1 a w
 |[],s,s1,h,he=>by simp only[aqc]at he;obtain rfl:=ay.1 he;exact h
 |j::l,s,s1,h,he=>by
  obtain⟨g,β,h⟩:=h;simp only[aqc]at he;split at he
  ·rename_i id ver k p n hj;split at he
   ·rename_i v e t r ko;obtain⟨h1,he⟩:=aD.1 he;obtain⟨h2,he⟩:=bO.1 he;obtain⟨u,h3,he⟩:=ax.1 he;exact Pd l (h.aEw hj ko (of_decide_eq_true h2) h3) he
   ·simp only[av]at he
  ·exact Pd l ⟨g,β,h⟩ he
  ·simp only[av]at he
theorem O8{s:AS}{id i:Id}(h:i≠id):(s.freeze id).bV i=s.bV i:=by
 unfold AS.freeze;split
 ·exact cU s id i _ h
 ·rfl
theorem qD:∀(ids:List Id) {s:AS} {i:Id},i ∉ ids->(s.bq ids).bV i=s.bV i
 |[],_,_,_=>rfl
 |id::ids,s,i,h=>by
  have h1:i≠id:=λe=>h (by rw[e];exact bf)
  exact(qD ids λhi=>h (aV _ hi)).trans (O8 h1)
theorem bp.mem{α:Type}{R:List Value->α->Prop}:∀ {cs:List Value} {l:List α},bp R cs l->∀x∈l,∃c,R c x
 |_,[],_,x,hx=>by cases hx
 |_,_::_,⟨c,cs',_,hc,hr⟩,x,hx=>by
  rcases cz.1 hx with rfl | hx
  ·exact⟨c,hc⟩
  ·exact bp.mem hr x hx
theorem cq.SK{E:Env}:∀ {t:Ty} {cs:List Value} {x:t.den},cq E t cs x->∀n∈iv t x,E.g n= .free
 | .int _,_,_,_,n,hn=>by simp[iv]at hn
 | .bool,_,_,_,n,hn=>by simp[iv]at hn
 | .str,_,_,_,n,hn=>by simp[iv]at hn
 | .unit,_,_,_,n,hn=>by simp[iv]at hn
 | .slice t,_,x,h,n,hn=>by simp only[cq]at h;obtain⟨_,_,_,_,_,_,_,hc⟩:=h;obtain⟨y,hy,hn⟩:=gL.1 (show n∈(x:List t.den).flatMap (iv t) from hn);obtain⟨c,hc⟩:=hc.mem y hy;exact cq.SK hc n hn
 | .arr _ t,_,x,h,n,hn=>by simp only[cq]at h;obtain⟨y,hy,hn⟩:=gL.1 (show n∈(x:List t.den).flatMap (iv t) from hn);obtain⟨c,hc⟩:=h.2.mem y hy;exact cq.SK hc n hn
 | .pair a b,_,x,h,n,hn=>by
  simp only[cq]at h;obtain⟨_,_,_,ha,hb⟩:=h;rcases bJ.1 (show n∈iv a x.1++iv b x.2 from hn) with hn | hn
  ·exact cq.SK ha n hn
  ·exact cq.SK hb n hn
 | .fo t,_,x,h,n,hn=>by
  simp only[cq]at h;obtain⟨y,hy,hn⟩:=gL.1 (show n∈((x:Option (List t.den)).getD []).flatMap (iv t) from hn);cases hx:(x:Option (List t.den)) with
  |none=>rw[hx]at hy;cases hy
  |some l=>
   rw[hx]at hy;obtain⟨_,_,_,_,_,_,_,hc⟩:=h.2 l hx;obtain⟨c,hc⟩:=hc.mem y hy;exact cq.SK hc n hn
 | .mR t,_,x,h,n,hn=>by
  simp only[cq]at h;cases hx:(x:Option t.den) with
  |none=>rw[hx]at hn;simp[iv]at hn
  |some y=>
   rw[hx]at hn;obtain⟨_,_,_,_,_,hc⟩:=h.2 y hx;exact cq.SK hc n (by simpa only[iv]using hn)
 | .gC t,_,x,h,n,hn=>by
  simp only[cq]at h;cases hx:(x:Option (Nat×t.den)) with
  |none=>rw[hx]at hn;simp[iv]at hn
  |some y=>
   rw[hx]at hn;obtain⟨_,_,_,_,hf,_,hc⟩:=h.2 y hx;rcases cz.1 (show n∈y.1::iv t y.2 by simpa only[iv]using hn) with rfl | hn
   ·exact hf.1
   ·exact cq.SK hc n hn
 | .eK t,_,x,h,n,hn=>by simp only[cq]at h;obtain⟨y,hy,hn⟩:=gL.1 (show n∈(x:Bool×List t.den).2.flatMap (iv t) from hn);obtain⟨_,_,_,_,_,_,hc,_⟩:=h;obtain⟨c,hc⟩:=hc.mem y hy;exact cq.SK hc n hn
 | .js _,_,_,_,_,hn=>by simp[iv]at hn
 | .jp _,_,_,_,_,hn=>by simp[iv]at hn
theorem Inv.PJ(h:Inv C g β s a w){v:aB}{y:Value}(hv:VS (s.env w g β) v y):∀n∈s.PJ v,g n= .free:=by
 intro n hn;unfold AS.PJ at hn;split at hn
 ·rename_i t x;obtain⟨cs,hV,_⟩:=hv.ee rfl;simp only[V]at hV;exact cq.SK hV n hn
 ·rename_i id _ _ _ _ _;split at hn
  ·rename_i ve fr e t l ko;have hO:=h.bD id ve fr _ (dA ko);obtain⟨_,hO⟩:=(hO:aEk (s.env w g β) id fr e t l);split at hO
   ·subst hO;simp at hn
   ·obtain⟨_,_,_,_,_,_,_,_,_,hc⟩:=hO;obtain⟨y,hy,hn⟩:=gL.1 hn;obtain⟨c,hc⟩:=hc.mem y hy;exact cq.SK hc n hn
  ·cases hn
 ·cases hn
theorem ahq{x:aEj}{R:Type}{r:R}{k:AS->Option R}(h:gl C s a w)(he:aww s x k=aw r):∃s',gl C s' a w/\k s'=aw r:=by
 obtain⟨g,β,h⟩:=h;unfold aww at he;split at he <;> try (cases he;done)
 rename_i id ver hj;split at he <;> try (cases he;done)
 rename_i v c ko;obtain⟨y,h1,FL⟩:=gG.1 he;obtain⟨y',h2,h3⟩:=ax.1 h1;obtain⟨h4,h5⟩:=aD.1 h3;obtain rfl:=ay.1 h5;simp only[al,dp,cD]at h4;obtain⟨⟨rfl,aGG⟩,adk⟩:=h4;have azQ:c.gI=aQ:=by cases c <;> first | rfl | (simp[aB.aEp]at aGG)
 have adk:id ∉ c.strip.shared:=by simpa using adk
 obtain⟨_,sz⟩:=O6 FL;have cQ:=dA ko;obtain⟨pl,cur,e,hp,hh,Mp,gT,hV⟩:=(h.bD id v aQ c cQ).box azQ;have hp:β id=aw pl:=hp;have hh:w.heap[pl.b]? =aw (.cells cur e (0,0)):=hh
 have Mp:g pl.b= .own (.id id) 0:=Mp;obtain⟨g1,i1,e1,t1,f1⟩:=e7 c.strip.shared h;have hR1:=uH rfl h.bD e1 c.strip x.t y' _ hV h2 f1;have od:(s.bq c.strip.shared).bV id=aw (.obj v aQ c):=(qD _ adk).trans cQ;obtain⟨g2,i2,e2,t2,f2⟩:=Mh i1 id;have aET:((s.bq c.strip.shared).freeze id).bV id=aw (.obj v aW c):=by unfold AS.freeze;rw[od];exact eg _ id _ (by rw[od];simp)
 obtain⟨pl2,cur2,e2',SF,aLf,aov,_,_⟩:=(i2.bD id v aW c aET).box azQ;have SF:β id=aw pl2:=SF;rw[hp]at SF;obtain rfl:=bu SF;have aov:g2 pl.b= .free:=aov;have hfresh:pl.b ∉ s.PJ (s.slot x.r):=λhn=>by have:=h.PJ (h.ck x.r) _ hn;rw[Mp]at this;cases this
 refine⟨_,⟨g2,β,i2.aDi x.j ?_⟩,sz pl.b hfresh⟩;have hs:=h.ck x.j;rw[hj]at hs;obtain⟨ad,hy,_,hc⟩:=tJ hs;obtain⟨pl',hp',akF⟩:=hc ⟨aQ,c,cQ⟩;have hp':β id=aw pl':=hp';rw[hp]at hp';obtain rfl:=bu hp';rw[hy,akF];refine⟨[.pointer (aw ⟨pl.b,0,aF⟩)],?_,rfl⟩;simp only[V,cq];refine⟨λhn=>by simp at hn,λz hz=> ?_⟩;have hz:(pl.b,y')=z:=bu hz;subst hz;refine⟨cur,e,cur.toList.take (c.tg cur.size),rfl,⟨aov,hh⟩,λi u hu=>⟨pl.b,0,rfl,?_,?_⟩,cq.mono e2.mem hR1⟩
 ·rw[cW]at hu;split at hu
  ·show w.cell? ⟨pl.b,0+i,aF⟩=aw u;rw[aH];simp[eQ,hh];simpa using hu
  ·cases hu
 ·show kr g2 pl.b _;unfold kr;rw[aov];trivial
theorem Rz:∀(l:List aEj) {s:AS} {R:Type} {r:R} {k:AS->Option R},gl C s a w->awx l s k=aw r->∃s',gl C s' a w/\k s'=aw r
 |[],s,_,_,_,h,he=>⟨s,h,he⟩
 |x::l,s,_,_,_,h,he=>by obtain⟨s',h',he'⟩:=ahq h he;exact Rz l h' he'
theorem Inv.aFO(h:Inv C g β s a w){j:Nat}{id:Id}{ver n k m v z:Nat}{p p':List C1}(hj:s.slot j= .ptr id ver p n){e:TypeId}{t:Ty}{l1 l2:List t.den}{u:aB}
  (ko:s.obj id=aw (v,aQ,.bx e z (.pr (.d (.arr k t) l1) (.pr u (.d (.arr m t) l2))))) (hz:z=t.size) (aCI:0 < z) (dd:id ∉ u.shared) {x:t.den} (hx:(s.ix t u).eval=aw x):
  gl C (((s.bq u.shared).aZ id (.obj v aQ (.vec e t (l1++x::l2)))).put (aw j) (.ptr id ver p' n)) a w:=by
 have cQ:=dA ko;obtain⟨pl0,cur0,e0,avC,avx,aF7,aDO,hV0⟩:=(h.bD id v aQ _ cQ).box rfl;obtain⟨g',h1,h2,h3,h4⟩:=e7 u.shared h;have od:(s.bq u.shared).bV id=aw (.obj v aQ (.bx e z (.pr (.d (.arr k t) l1) (.pr u (.d (.arr m t) l2))))):=(qD _ dd).trans cQ;obtain⟨pl,cur,e1,hp,hh,hg,hk,hV⟩:=(h1.bD id v aQ _ od).box rfl;have hp:β id=aw pl:=hp;have Jg:pl0=pl:=by have avC:β id=aw pl0:=avC;rw[avC]at hp;exact bu hp
 subst Jg;have fH:cur0=cur:=by
  have avx:w.heap[pl0.b]? =_:=avx
  have hh:w.heap[pl0.b]? =_:=hh
  rw[avx]at hh;simpa using(c7 (λo=>match o with | some (.cells x _ _)=>x | _=>cur0) hh)
 subst fH;obtain⟨rfl,q2,q4,q3⟩:=adQ aCI hk;rw[afX aCI]at hV0;have hV0:V (s.env w g β) (.pr (.d (.arr k t) l1) (.pr u (.d (.arr m t) l2))) _:=hV0;have aJ8:=hV0.size;simp only[V]at hV0;obtain⟨ca,cb,hR,hA,cu,cc,aCp,hU,hB⟩:=hV0;subst aCp;simp only[cq]at hA hB;have hX:=uH rfl h.bD h2 u t x cu hU hx h4;have ajW:∀c x,cq ((s.bq u.shared).env w g' β) t c x->c.length=t.size:=λc x hx=>hx.size
 have cA:=hA.2.mono λ_ _ hx=>hx.mono h2.mem
 have cB:=hB.2.mono λ_ _ hx=>hx.mono h2.mem
 have w8:bp (cq ((s.bq u.shared).env w g' β) t) (ca++(cu++cc)) (l1++x::l2):=bp.append cA ⟨cu,cc,rfl,hX,cB⟩;have hlen:=bp.length ajW w8;have aqp:(aB.pr (.d (.arr k t) l1) (.pr u (.d (.arr m t) l2))).size=(l1++x::l2).length*t.size:=by rw[<-hlen,<-hR];exact aJ8.symm
 rw[aqp]at hR q3;rw[hz]at q2;have akH:(l1++x::l2).length<=pl0.cap:=by rw[q2]at q3;exact Nat.le_of_mul_le_mul_right q3 ak
 have ht:=Trans.refl w g';have hle:cP ((s.bq u.shared).env w g' β) (((s.bq u.shared).aZ id (.obj v aQ (.vec e1 t (l1++x::l2)))).env w g' β):=cP.aZ od (az _) ht (λ_ _=>rfl) (λ_=>rfl);have hI:=h1.step (c9 _ _ _) ht hle (iH.aZ h1.bD (by rw[od];simp) hle (λ_ _=>rfl) (λ_ _ _ _ _ _ _ _=>⟨rfl,rfl⟩) (ajQ:=nF od λ_ _ _ e=>by cases e) (by
  refine⟨ak,?_⟩;show(match β id with
   |none=>l1++x::l2=[]
   |some pl=>_)
  rw[hp];exact⟨cur0,0,hh,q2,akH,q4,hg,aL _,λ_=>rfl,by rw[hR];exact w8.mono λ_ _ hx=>hx.mono hle.mem⟩))
 refine⟨g',β,hI.aDi j ?_⟩;have:=h.ck j;rw[hj]at this;exact ahH (VS.mono (h2.trans hle) this)
theorem acr:∀(l:List Nat) {s s1:AS},gl C s a w->(ayH s l).eval=aw s1->gl C s1 a w
 |[],s,s1,h,he=>by simp only[ayH]at he;obtain rfl:=ay.1 he;exact h
 |j::l,s,s1,h,he=>by
  obtain⟨g,β,h⟩:=h;simp only[ayH]at he;split at he
  ·rename_i id ver p n hj;split at he
   ·rename_i v e z k t l1 u m t' l2 ko;obtain⟨h1,he⟩:=aD.1 he;obtain⟨l2',h2,he⟩:=ax.1 he;obtain⟨x,h3,he⟩:=ax.1 he;simp only[al,dp,cD,fv]at h1;obtain⟨⟨⟨h5,h6⟩,h7⟩,h8⟩:=h1;obtain⟨et,hl⟩:=iY (gB.1 h2);have et':t'=t:=by simpa using et
    subst et';simp only at hl;subst hl;refine acr l (h.aFO hj ko h6 ak (λhi=> ?_) h3) he;have:(u.shared.any λi=>decide (i=id))=aW:=List.any_eq_true.2 ⟨id,hi,by simp⟩;rw[this]at h8;cases h8
   ·simp only[av]at he
  ·simp only[av]at he
theorem Inv.aB2(h:Inv C g β s a w){s1:AS}{g1:Nat->iF}(h1:Inv C g1 β s1 a w)(ajS:s1.ck=s.ck)(cQ:∀id v fr c,s1.bV id=aw (.obj v fr c)->s.bV id=aw (.obj v fr c))
  {j:Nat} {p:List C1} {u v:aB} (zU:(s.at j p).eval=aw u) (hc:u.ee=aW) (YT:v.agg=u.agg) (hv:∀cs,V (s.env w g β) u cs->V (s1.env w g1 β) v cs) {s':AS} (he:(s1.putAt j v p).eval=aw s'):gl C s' a w:=by
 have Mr:s1.slot j=s.slot j:=by simp only[AS.slot,ajS]
 cases p with
 |nil=>
  simp only[AS.at]at zU;have hj:=ay.1 zU;simp only[AS.putAt]at he;obtain rfl:=ay.1 he;have hs:=h.ck j;rw[hj]at hs;obtain⟨cs,h2,h3⟩:=hs.ee hc;exact⟨g1,β,h1.aDi j (VS.of (hv cs h2) (by rw[YT];exact h3))⟩
 |cons st p=>
  simp only[AS.at]at zU;simp only[AS.putAt]at he;rw[Mr]at he;split at zU
  ·rename_i id ver p0 nn hj;split at zU
   ·rename_i v0 fr c ko;obtain⟨_,zU⟩:=aD.1 zU;obtain⟨⟨n,u'⟩,hl,zU⟩:=ax.1 zU;have hu:=ay.1 zU;simp only at hu;subst hu;have aBA:=dA ko;simp only[hj]at he;split at he
    ·rename_i v1 fr1 c1 avz;have od:=dA avz;have e0:=cQ _ _ _ _ od;rw[aBA]at e0;cases e0;split at he
     ·simp only[av]at he
     ·rename_i c2 aEM;obtain⟨c',KB,he⟩:=ax.1 he;obtain rfl:=ay.1 he;have hn:c.gI=aQ:=by cases c <;> first | rfl | (exact(aEM _ _ _ rfl).elim) | (exact absurd KB LJ) | (exact absurd KB TU) | (exact absurd KB TV)
      obtain⟨pl0,cur0,e00,avC,avx,aF7,aDO,hV0⟩:=(h.bD id v0 fr c aBA).box hn;obtain⟨pl,cur,e0,hp,hh,hg,hk,hV⟩:=(h1.bD id v0 fr c od).box hn;have Jg:pl0=pl:=by have avC:β id=aw pl0:=avC;have hp:β id=aw pl:=hp;rw[avC]at hp;exact bu hp
      subst Jg;have fH:cur0=cur:=by
       have avx:w.heap[pl0.b]? =_:=avx
       have hh:w.heap[pl0.b]? =_:=hh
       rw[avx]at hh;simpa using(c7 (λo=>match o with | some (.cells x _ _)=>x | _=>cur0) hh)
      subst fH;obtain⟨cs,hVu,tw⟩:∃cs,V (s.env w g β) u' cs/\((cur0.toList.take (c.tg cur0.size)).drop n).take cs.length=cs:=by
       rcases pY (p0++st::p) c.strip (cur0.toList.take (c.tg cur0.size)) n u' (VO.of hV0) hl with⟨azH,Q5⟩ | ⟨q1,q2⟩
       ·refine⟨cur0.toList.take (c.tg cur0.size),by rw[Q5];exact hV0,?_⟩;rw[azH,aM,bt]
       ·refine⟨_,q1,?_⟩;rw[ct,da];congr 1;omega
      have hVx:=hv cs hVu;have ht':=Trans.refl w g1;have hle:=cP.aZ (s:=s1) (β:=β) (v':=v0) (fr':=fr) (c':=c.wrap c') od (az _) ht' (λ_ _=>rfl) (λ_=>rfl);refine⟨g1,β,h1.step (c9 _ _ _) ht' hle (iH.aZ h1.bD (by rw[od];simp) hle (λ_ _=>rfl) (λ_ _ _ _ _ _ _ _=>⟨rfl,rfl⟩) ?_ (nF od λk v1 l e=>by subst e;exact absurd KB LJ))⟩;obtain⟨u1,u2,u3⟩:=oG (p0++st::p) c.strip (cur0.toList.take (c.tg cur0.size)) n u' _ c' cs (VO.of hV) hl hVx KB;have u4:=u2.to (u3.qI hV.qI);rw[HH (vs:=cs) tw]at u4;have pd:c'.size=c.strip.size:=by have e1:=u4.size;have e2:=hV.size;omega
      exact Kd.obj ⟨pl0,cur0,e0,hp,hh,hg,C5 hk u4.uW pd,by rw[Em c u4.uW,Ik u4.uW pd];exact V.mono hle u4⟩
    ·simp only[av]at he
   ·simp only[av]at zU
  ·simp only[av]at zU
theorem Inv.nowAt(h:Inv C g β s a w){j:Nat}{p:List C1}{id:Id}{ver len:Nat}(zU:(s.at j p).eval=aw (.dx id ver [] 0 0 len)){e:TypeId}{t:Ty}{r:List t.den}(ko:s.obj id=aw (ver,aQ,.vec e t r))(hlen:len=r.length)
  {s':AS} (he:((s.aZ id .dead).putAt j (.d (.eK t) (aW,r)) p).eval=aw s'):gl C s' a w:=by
 have hs:=dA ko;have hO:=h.bD id ver aQ _ hs;obtain⟨hz,hO⟩:=hO;have hO:(match β id with
  |none=>r=[]
  |some pl=>∃cur k,w.heap[pl.b]? =aw (.cells cur e (0,0))/\cur.size=pl.cap*t.size/\r.length<=pl.cap/\pl.cap<=maxLen/\g pl.b= .own (.id id) k/\
    k<=r.length*t.size/\(aQ=aQ->k=0)/\bp (cq (s.env w g β) t) (cur.toList.take (r.length*t.size)) r):=hO
 have aBx:∀i v fr c,(s.aZ id .dead).bV i=aw (.obj v fr c)->s.bV i=aw (.obj v fr c):=λi v fr c hi=>by
  by_cases dd:i=id
  ·subst dd;rw[eg s i .dead (by rw[hs];simp)]at hi;cases hi
  ·rwa[cU s id i .dead dd]at hi
 cases hp:β id with
 |none=>
  rw[hp]at hO;obtain rfl:=hO;obtain⟨i1,_⟩:=h.aBS hs (Trans.refl w g) λ_ _ _ _ _ _ _ _=>⟨rfl,rfl⟩
  refine h.aB2 i1 (c9 _ _ _) aBx (v:= .d (.eK t) (aW,[])) zU rfl rfl (λcs hv=> ?_) he;simp only[V]at hv ⊢;obtain⟨ad,cap,e1,_,_,_,hc⟩:=hv;have:=hc ⟨aQ,_,hs⟩;have hp':(s.env w g β).β id=aF:=hp;rw[hp']at this;obtain⟨rfl,_,rfl⟩:=this;rw[e1,hlen];exact cq.awt
 |some pl=>
  rw[hp]at hO;obtain⟨cur,k,q1,q2,q3,q4,q5,q6,q7,q8⟩:=hO;have hk:=q7 rfl;subst hk;obtain⟨i1,hle⟩:=h.kill hs q5 rfl rfl ⟨rfl,az _⟩ rfl (λ_ _=>rfl) (lb:= .fresh) (.inr rfl);refine h.aB2 i1 (c9 _ _ _) aBx (v:= .d (.eK t) (aW,r)) zU rfl rfl (λcs hv=> ?_) he;simp only[V]at hv ⊢;obtain⟨ad,cap,e1,hl,pc,_,hc⟩:=hv;have:=hc ⟨aQ,_,hs⟩;have hp':(s.env w g β).β id=aw pl:=hp;rw[hp']at this;have ha:=this.1 (.inr trivial);simp only[cq];refine⟨ad,cap,_,by rw[e1,hlen],by rw[<-hlen];exact hl,by rw[<-hlen];exact pc,q8.mono λc x hx=>hx.mono hle.mem,(λhh=>by cases hh),λ_ i v hi=>⟨pl.b,0,ha,?_,fk _ _ _,cur,e,q1⟩⟩;show w.cell? ⟨pl.b,0+i,aF⟩=aw v;rw[aH,cell_of_row w pl.b i cur e (0,0) q1];rw[cW]at hi;split at hi
  ·simpa using hi
  ·cases hi
theorem DI:∀(l:List (Nat×List C1)) {s s1:AS},gl C s a w->(ahm s l).eval=aw s1->gl C s1 a w
 |[],s,s1,h,he=>by simp only[ahm]at he;obtain rfl:=ay.1 he;exact h
 |o::l,s,s1,h,he=>by
  obtain⟨g,β,h⟩:=h;unfold ahm at he;obtain⟨u,hu,he⟩:=ax.1 he;split at he
  ·rename_i id ver len;split at he
   ·rename_i v e t r ko;obtain⟨hv,he⟩:=aD.1 he;obtain⟨hl,he⟩:=bO.1 he;obtain⟨s',h1,h2⟩:=ax.1 he;have hv:v=ver:=by simpa using hv
    subst hv;exact DI l (h.nowAt hu ko (by simpa using hl) h1) h2
   ·simp only[av]at he
  ·exact DI l ⟨g,β,h⟩ he
theorem IM:∀(l:List (Id×Ty)) {s s1:AS},gl C s a w->(ana s l).eval=aw s1->gl C s1 a w
 |[],s,s1,h,he=>by simp only[ana]at he;obtain rfl:=ay.1 he;exact h
 |o::l,s,s1,h,he=>by
  obtain⟨g,β,h⟩:=h;unfold ana at he;split at he
  ·rename_i v fr e t r ko;rcases dN (t==o.2.Tk) with hq | hq;· simp only[hq,cond_true]at he;exact IM l ⟨g,β,h⟩ he
   obtain⟨pd,he⟩:=aD.1 (by simpa only[hq,cond_false]using he);obtain⟨r',hr,he⟩:=ax.1 he;have pd:o.2.size=t.size:=by simpa using pd
   have hs:=dA ko;obtain⟨c1,c2⟩:=aaK (E:=s.env w g β) (gB.1 hr);have ht:=Trans.refl w g;have hle:cP (s.env w g β) ((s.aZ o.1 (.obj v fr (.vec e o.2 r'))).env w g β):=cP.aZ hs (az _) ht (λ_ _=>rfl) (λ_=>rfl);refine IM l ⟨g,β,h.step (c9 _ _ _) ht hle (iH.aZ h.bD (by rw[hs];simp) hle (λ_ _=>rfl) (λ_ _ _ _ _ _ _ _=>⟨rfl,rfl⟩) ?_ (nF hs λk v1 l e=>by cases e))⟩ he;obtain⟨hz,hO⟩:=h.bD o.1 v fr _ hs;refine⟨by rw[pd];exact hz,?_⟩;have hO:(match β o.1 with
    |none=>r=[]
    |some pl=>∃cur k,w.heap[pl.b]? =aw (.cells cur e (0,0))/\cur.size=pl.cap*t.size/\r.length<=pl.cap/\pl.cap<=maxLen/\g pl.b= .own (.id o.1) k/\
      k<=r.length*t.size/\(fr=aQ->k=0)/\bp (cq (s.env w g β) t) (cur.toList.take (r.length*t.size)) r):=hO
   show(match β o.1 with
    |none=>r'=[]
    |some pl=>_)
   cases hp:β o.1 with
   |none=>
    rw[hp]at hO;have hO:r=[]:=hO;subst hO;exact bP c1
   |some pl=>
    rw[hp]at hO;obtain⟨cur,k,q1,q2,q3,q4,q5,q6,q7,q8⟩:=hO;exact⟨cur,k,q1,by rw[pd];exact q2,by rw[c1];exact q3,q4,q5,by rw[c1,pd];exact q6,q7,by rw[c1,pd];exact(c2 _ q8).mono λc x hx=>hx.mono hle.mem⟩
  ·exact IM l ⟨g,β,h⟩ he
theorem CX:∀t:Ty,t.Tk.size=t.size
 | .pair a b=>by simp only[Ty.Tk,Ty.size,CX a,CX b]
 | .eK _=>rfl
 | .int _ | .bool | .str | .slice _ | .unit | .arr _ _ | .fo _ | .mR _ | .gC _ | .js _ | .jp _=>rfl
theorem cq.Tk{E E1:Env}(hm:sM E E1)(hf:∀b,E.g b= .fresh->E1.g b= .gg)(hw:E1.w=E.w):∀ {t:Ty} {cs:List Value} {x:t.den},t.fW x=aW->cq E t cs x->cq E1 t.Tk cs (t.om x):=by
 intro t
 induction t with
 |eK t _=>
  intro cs x hn h;have hn:((x:Bool×List t.den).1 && !(t.size==0))=aW:=hn;simp only[al,cD,fv]at hn;simp only[cq]at h;obtain⟨a,cap,vs,e,hl,hs,hc,_,h2⟩:=h;have h2:=h2 hn.1;have hlen:=bp.length (λc x hx=>cq.size hx) hc;show cq E1 (.js t.size) cs (x:Bool×List t.den).2.length;simp only[cq];refine⟨a,cap,e,hl,λth=> ?_⟩;have YW:0 < vs.length:=by rw[hlen];exact Nat.mul_pos th ak
  obtain⟨b,off,ha,tw,hg,cur,e1,hh⟩:=h2 (vs.length - 1) vs[vs.length - 1] (cn ak);refine⟨b,off,ha,hf b hg,cur,e1,by rw[hw];exact hh,?_⟩;rw[cell_of_row E.w b _ cur e1 (0,0) hh]at tw;have jQ:off+(vs.length - 1) < cur.size:=by
   by_cases hc:off+(vs.length - 1) < cur.size
   ·exact hc
   ·have:cur.toList[off+(vs.length - 1)]? =aF:=dZ (by have e1:cur.toList.length=cur.size:=cG;omega)
    simp_all
  rw[<-hlen];omega
 |pair a b iha ihb=>
  intro cs x hn h;have hn:(a.fW x.1 && b.fW x.2)=aW:=hn;rw[al]at hn;simp only[cq]at h;obtain⟨ca,cb,e,ha,hb⟩:=h;show cq E1 (.pair a.Tk b.Tk) cs (a.om x.1,b.om x.2);simp only[cq];exact⟨ca,cb,e,iha hn.1 ha,ihb hn.2 hb⟩
 |_=>
  intro cs x hn h;exact h.gU hm (.inl hn)
theorem bp.ayd{α β:Type}{R:List Value->α->Prop}{R':List Value->β->Prop}{p:α->Bool}{f:α->β}(h:∀c x,p x=aW->R c x->R' c (f x)):∀ {cs:List Value} {l:List α},l.all p=aW->bp R cs l->bp R' cs (l.map f)
 |_,[],_,hc=>hc
 |_,x::xs,hp,⟨c,cs',e,hx,hr⟩=>by rw[fp,al]at hp;exact⟨c,cs',e,h c x hp.1 hx,bp.ayd h hp.2 hr⟩
def QA:iF->iF
 | .fresh=> .gg
 |l=>l
theorem atc{b:Bool}{s1:AS}(h:gl C s a w)(he:(aFI b s).eval=aw s1):gl C s1 a w:=by
 cases b with
 |false=>
  obtain rfl:=ay.1 he;exact h
 |true=>
  obtain⟨g,β,h⟩:=h;obtain⟨ajS,he⟩:=aD.1 he;obtain⟨Mo,he⟩:=bO.1 he;have he:=ay.1 he;rw[al]at Mo;have cQ:∀id,s1.bV id=(s.bV id).map dP.Tk:=λid=>by
   subst he;cases id with
   |eC k=>simp only[AS.bV,dK]
   |new i j=>
    simp only[AS.bV,aK,dK];cases s.news[i]? <;> simp
  have hslots:s1.ck=s.ck:=by rw[<-he]
  have gT:∀id e,s.bV id=aw e->e.fW=aW:=λid e hi=>by
   rcases aol hi with h1 | ⟨es,h1,h2⟩
   ·exact cf.1 Mo.1 _ h1
   ·exact cf.1 (cf.1 Mo.2 _ h1) _ h2
  have aqw:∀id v fr c,s1.bV id=aw (.obj v fr c)->∃c0,s.bV id=aw (.obj v fr c0)/\(dP.obj v fr c0).Tk= .obj v fr c:=λid v fr c hi=>by
   rw[cQ,di]at hi;obtain⟨e,h1,h2⟩:=hi;cases e with
   |dead=>cases h2
   |obj v0 fr0 c0=>
    have:v0=v/\fr0=fr:=by cases c0 <;> simp only[dP.Tk,dP.obj.injEq]at h2 <;> exact⟨h2.1,h2.2.1⟩
    obtain⟨rfl,rfl⟩:=this;exact⟨c0,h1,h2⟩
  have azE:∀x,QA (g x)=g x\/g x= .fresh:=λx=>by cases g x <;> first | exact .inl rfl | exact .inr rfl
  have hm:sM (s.env w g β) (s1.env w (λx=>QA (g x)) β):=by
   refine⟨λb off v ⟨h1,h2⟩=>⟨h1,?_⟩,λb ob h1 h2=>⟨?_,h2⟩,λb cur e h1 h2=>⟨?_,cur,h2,rfl⟩⟩
   ·have h2:kr g b off:=h2;show kr (λx=>QA (g x)) b off;rcases azE b with h3 | h3
    ·unfold kr at h2 ⊢;simp only[h3];exact h2
    ·unfold kr at h2;rw[h3]at h2;exact h2.elim
   ·have h1:g b= .free:=h1;show QA (g b)= .free;rw[h1];rfl
   ·have h1:g b= .gg:=h1;show QA (g b)= .gg;rw[h1];rfl
  have hle:z8 (s.env w g β) (s1.env w (λx=>QA (g x)) β):=by
   refine⟨hm,λid ver ⟨h1,h2⟩=>⟨?_,λv fr c hi=> ?_⟩,λid ver _ ⟨fr,c,hi⟩=> ?_⟩
   ·have h1:s.bV id≠aF:=h1;show s1.bV id≠aF;rw[cQ];simpa using h1
   ·obtain⟨c0,h3,_⟩:=aqw id v fr c hi;exact h2 v fr c0 h3
   ·obtain⟨c0,h3,_⟩:=aqw id ver fr c hi;exact⟨⟨fr,c0,h3⟩,rfl⟩
  refine⟨λx=>QA (g x),β,⟨⟨h.defers.1,λd hd=> ?_⟩,by rw[hslots];exact h.size,λi=> ?_,λid ver fr c hi=> ?_,?_,h.le.trans hle⟩⟩
  ·obtain⟨D,h1,h2,h3,h4⟩:=h.defers.2 d hd;exact⟨D,h1,h2,h3,by show QA (g D)=_;rw[h4];rfl⟩
  ·have e:s1.slot i=s.slot i:=by simp only[AS.slot,hslots]
   rw[e];refine(h.ck i).gU hle (.inl ?_);rcases abd (s:=s) i with hi | hi
   ·rw[hi];rfl
   ·exact cf.1 ajS _ hi
  ·obtain⟨c0,h1,h2⟩:=aqw id ver fr c hi;have hO:=h.bD id ver fr c0 h1;have hk:=gT id _ h1;have Mp:∀pl,β id=aw pl->QA (g pl.b)=g pl.b:=λpl hp=>by obtain⟨_,hl⟩:=hO.label (pl:=pl) hp;have hl:(∃k,g pl.b= .own (.id id) k)\/(fr=aW/\g pl.b= .free):=hl;rcases hl with⟨k,hl⟩ | ⟨_,hl⟩ <;> (rw[hl];rfl)
   by_cases hn:c0.gI=aQ
   ·have e:c0=c:=by cases c0 <;> first | (simp[aB.gI]at hn;done) | (simpa only[dP.Tk,dP.obj.injEq,hJ]using h2)
    subst e;have aqu:c0.pj=aW:=by cases c0 <;> first | (simp[aB.gI]at hn;done) | (simp only[dP.fW,al]at hk;exact hk.1)
    obtain⟨pl,cur,e,p1,p2,p3,p5,p4⟩:=hO.box hn;refine Kd.obj ⟨pl,cur,e,p1,p2,?_,p5,p4.gU hle (.inl (by cases c0 <;> exact aqu))⟩;show QA (g pl.b)=_;rw[Mp pl p1];exact p3
   ·cases c0 <;> first
     | (exact absurd rfl hn)
     | (simp only[dP.fW,aB.quiet,Bool.and_false,bU]at hk;done)
     |skip
    ·rename_i e t l;simp only[dP.Tk,dP.obj.injEq,hJ]at h2;subst h2;have hk:(l:List t.den).all t.fW=aW:=hk;obtain⟨hz,hO⟩:=hO;refine⟨by rw[CX];exact hz,?_⟩;show(match β id with
      |none=>_
      |some pl=>_)
     have hO':(match β id with
      |none=>_
      |some pl=>_):=hO
     cases hp:β id with
     |none=>rw[hp]at hO';have hO':l=[]:=hO';rw[hO'];rfl
     |some pl=>
      rw[hp]at hO';obtain⟨cur,k,q1,q2,q3,q4,q5,q6,q7,q8⟩:=hO';have q5:g pl.b= .own (.id id) k:=q5;refine⟨cur,k,q1,by rw[CX];exact q2,by rw[bR];exact q3,q4,by show QA (g pl.b)=_;rw[q5];rfl,by rw[bR,CX];exact q6,q7,?_⟩;rw[bR,CX];exact bp.ayd (λc x hx hr=>cq.Tk hm (λb hb=>by show QA (g b)= .gg;have hb:g b= .fresh:=hb;rw[hb];rfl) rfl hx hr) hk q8
    ·rename_i kt vt l;have h2:aB.mp kt vt l=c:=by simpa only[dP.Tk,dP.obj.injEq,hJ]using h2
     subst h2;simp only[dP.fW,aB.pj,al]at hk;obtain⟨pl,es,clock,p1,p2,p3,p4⟩:=hO;exact⟨pl,es,clock,p1,p2,by show QA (g pl.b)=_;rw[Mp pl p1];exact p3,⟨p4.1.1.gU hm (.inl hk.1.1) (.inl hk.1.2),p4.1.2⟩,p4.2⟩
  ·have h0:=h.trans;refine⟨h0.os,h0.tape,h0.output,h0.size,λx hx=> ?_⟩;have h1:=h0.YM x hx;cases hg:C.E.g x with
   |free=>rw[hg]at h1;exact⟨by rw[h1.1];rfl,h1.2⟩
   |own o k=>cases o with
    |dT=>rw[hg]at h1;exact⟨by rw[h1.1];rfl,h1.2⟩
    |id i=>
     rw[hg]at h1;refine⟨?_,h1.2⟩;rcases h1.1 with h2 | ⟨h0,h2 | h2⟩ | ⟨i',k',h2,h3⟩
     ·rw[h2];exact .inl rfl
     ·rw[h2];exact .inr (.inl ⟨h0,.inr rfl⟩)
     ·rw[h2];exact .inr (.inl ⟨h0,.inr rfl⟩)
     ·rw[h2];exact .inr (.inr ⟨i',k',rfl,h3⟩)
   |fresh=>
    rw[hg]at h1;rcases h1 with h2 | ⟨_,h2⟩
    ·exact .inr ⟨rfl,by rw[h2.1];rfl⟩
    ·exact .inr ⟨rfl,by rw[h2];rfl⟩
   |gg=>rw[hg]at h1;exact⟨by rw[h1.1];rfl,h1.2⟩
theorem Da:∀(l:List aFX) {s s1:AS},gl C s a w->(Q0 s l).eval=aw s1->gl C s1 a w
 |[],s,s1,h,he=>by simp only[Q0]at he;obtain rfl:=ay.1 he;exact h
 |o::l,s,s1,h,he=>by
  obtain⟨g,β,h⟩:=h;unfold Q0 at he;split at he
  ·exact Da l ⟨g,β,h⟩ he
  obtain⟨u,hu,he⟩:=ax.1 he;obtain⟨x,hx,he⟩:=ax.1 he;obtain⟨s',hs,he⟩:=ax.1 he;exact Da l (h.aEt hu hx hs) he
theorem oA(hC:C.ok):∀(l:List at7) {s s1:AS},gl C s a w->(vS P s l).eval=aw s1->gl C s1 a w
 |[],s,s1,h,he=>by simp only[vS]at he;obtain rfl:=ay.1 he;exact h
 |o::l,s,s1,h,he=>by
  obtain⟨g,β,h⟩:=h;unfold vS at he;split at he
  ·exact oA hC l ⟨g,β,h⟩ he
  obtain⟨u,hu,he⟩:=ax.1 he;split at he
  ·split at he
   ·rename_i e t b IS hv;obtain⟨s',h1,h2⟩:=ax.1 he;exact oA hC l (h.aFw hu hv (YR IS) h1) h2
   ·simp only[av]at he
  ·split at he
   ·rename_i b j ver aJa;split at he
    ·rename_i v fr c ko hm;split at he
     ·have aDJ:b < s.news.length:=by
       have:=dA ko;simp only[AS.bV,aK]at this;cases hn:s.news[b]? with
       |none=>rw[hn]at this;simp at this
       |some es=>exact(dE.1 hn).1
      obtain⟨g1,β1,h1⟩:=h.Ho hC aDJ (by simpa using hm);exact oA hC l ⟨g1,β1,h1⟩ he
     ·simp only[av]at he
    ·simp only[av]at he
   ·simp only[av]at he
theorem Ye:∀(l:List Nat) {s s1:AS},gl C s a w->(acn s l).eval=aw s1->gl C s1 a w
 |[],s,s1,h,he=>by simp only[acn]at he;obtain rfl:=ay.1 he;exact h
 |j::l,s,s1,h,he=>by
  obtain⟨g,β,h⟩:=h;simp only[acn]at he;split at he
  ·rename_i id ver len hj;split at he
   ·rename_i v e t r ko;split at he
    ·obtain⟨h1,h2⟩:=bO.1 he;have h1:len<=r.length:=by simpa using h1
     refine Ye l ?_ h2
     have cQ:=dA ko;have hO:tp (s.env w g β) id aQ (.vec e t r):=h.bD id v aQ _ cQ;have ht:=Trans.refl w g;have hle:cP (s.env w g β) ((s.aZ id (.obj v aQ (.vec e t (r.take len)))).env w g β):=cP.aZ cQ (az _) ht (λ_ _=>rfl) (λ_=>rfl);refine⟨g,β,h.step (c9 _ _ _) ht hle (iH.aZ h.bD (by rw[cQ];simp) hle (λ_ _=>rfl) (λ_ _ _ _ _ _ _ _=>⟨rfl,rfl⟩) ?_ (TC cQ))⟩;obtain⟨hz,hO⟩:=hO;refine⟨hz,?_⟩;have hO:(match β id with
      |none=>r=[]
      |some pl=>∃cur k,w.heap[pl.b]? =aw (.cells cur e (0,0))/\cur.size=pl.cap*t.size/\r.length<=pl.cap/\pl.cap<=maxLen/\g pl.b= .own (.id id) k/\
        k<=r.length*t.size/\(aQ=aQ->k=0)/\bp (cq (s.env w g β) t) (cur.toList.take (r.length*t.size)) r):=hO
     show(match β id with
      |none=>r.take len=[]
      |some pl=>_)
     cases hp:β id with
     |none=>rw[hp]at hO;simp only at hO;subst hO;simp
     |some pl=>
      rw[hp]at hO;obtain⟨cur,k,q1,q2,q3,q4,q5,q6,q7,q8⟩:=hO;have hk:=q7 rfl;subst hk;have hlen:(r.take len).length=len:=by simp;omega
      refine⟨cur,0,q1,q2,ak,q4,q5,aL _,λ_=>rfl,?_⟩;have:=bp.take (λ_ _ hx=>cq.size hx) len q8;rw[mC,fS (cM _ h1)]at this;rw[hlen];exact this.mono λ_ _ hx=>hx.mono hle.mem
    ·simp only[av]at he
   ·simp only[av]at he
  ·simp only[av]at he
theorem LS:∀(l:List (Nat×Ty)) {s s1:AS},gl C s a w->(asData s l).eval=aw s1->gl C s1 a w
 |[],s,s1,h,he=>by simp only[asData]at he;obtain rfl:=ay.1 he;exact h
 | (j,t)::l,s,s1,h,he=>by obtain⟨g,β,h⟩:=h;simp only[asData]at he;obtain⟨x,h1,h2⟩:=ax.1 he;obtain⟨g',i1,_,_,cs,hR,hO⟩:=zI h (h.ck j) h1;exact LS l ⟨g',β,i1.aDi j (VS.of (a:= .d t x) (cs:=cs) (by simpa only[V]using hR) hO)⟩ h2
theorem Inv.still:∀(l:List Nat) {s:AS},Inv C g β s a w->Inv C g β (s.still l) a w
 |[],s,h=>h
 |q::l,s,h=>by
  simp only[AS.still];split
  ·rename_i v fr i ver k t r cu ko;exact Inv.still l (h.aBN (dA ko) (.inr ⟨rfl,rfl,rfl⟩))
  ·exact Inv.still l h
theorem QW{α:Type}(l:List α):(akh l).Perm l:=Quotient.exact (s:=awN α) (Quotient.exists_rep (Quotient.mk (awN α) l)).choose_spec
theorem Inv.canon:∀(l:List Id) {s:AS},Inv C g β s a w->Inv C g β (s.canon l) a w
 |[],s,h=>h
 |id::l,s,h=>by
  simp only[AS.canon];split
  ·rename_i v fr k t r ko;have cQ:=dA ko;have ht:=Trans.refl w g;have hle:cP (s.env w g β) ((s.aZ id (.obj v fr (.mp k t (akh r)))).env w g β):=cP.aZ cQ (az _) ht (λ_ _=>rfl) (λ_=>rfl);obtain⟨pl,es,clock,h1,h2,h3,⟨⟨l',h4,h5⟩,h6⟩,h7⟩:=h.bD id v fr _ cQ
   refine Inv.canon l (h.step (c9 _ _ _) ht hle (iH.aZ h.bD (by rw[cQ];simp) hle (λ_ _=>rfl) (λ_ _ _ _ _ _ _ _=>⟨rfl,rfl⟩)
    ⟨pl,es,clock,h1,h2,h3,⟨⟨l',h4.mono λ_ _ he=>he.mono hle.mem,h5.trans (QW r).symm⟩,(((QW r).map _).nodup_iff).2 h6⟩,h7⟩ ?_))
   intro ver k' v' l2 hl;rw[cQ]at hl;simp only[aA,dP.obj.injEq]at hl;obtain⟨rfl,rfl,_⟩:=hl;exact⟨rfl,rfl,⟨_,_,_,rfl⟩,λ_ _=>⟨rfl,rfl⟩⟩
  ·exact Inv.canon l h
theorem QT(k v n:Nat)(i:Id)(ver:Nat):(i= .eC k/\ver=v/\uT k v n i ver=aw (.eC k,n))\/(i= .eC k/\uT k v n i ver=aF)\/(i≠ .eC k/\uT k v n i ver=aw (i,ver)):=by
 cases i with
 |new x j=>exact .inr (.inr ⟨by simp,rfl⟩)
 |eC j=>
  simp only[uT];cases h1:iL j k with
  |false=>exact .inr (.inr ⟨λe=>by injection e with e;subst e;simp at h1,rfl⟩)
  |true=>
   obtain rfl:=fx h1;cases h2:iL ver v with
   |false=>exact .inr (.inl ⟨rfl,rfl⟩)
   |true=>exact .inl ⟨rfl,fx h2,rfl⟩
theorem af3(hC:C.ok){s s1:AS}(h:Inv C g β s a w){k n:Nat}(he:(s.auy k n).eval=aw s1):Inv C g β s1 a w:=by
 unfold AS.auy at he;split at he;rotate_left
 ·exact(av.1 he).elim
 rename_i v fr c hk;obtain⟨aJo,he⟩:=aD.1 he;have aJo:v<=n\/1<=n:=(Bool.or_eq_true_iff.1 aJo).imp gz gz;have hz:∀ver,C.E.yK (.eC k) ver->ver=0:=λver hb=>by
  obtain⟨h1,h2⟩:=hb;cases hs:C.E.s (.eC k) with
  |none=>exact absurd hs h1
  |some en=>
   cases en with
   |dead=>
    have:=(h.le.yK (.eC k) (v+1) ⟨h1,λv' fr' c' hh=>by rw[hs]at hh;cases hh⟩).2 _ _ _ hk;omega
   |obj v0 fr0 c0=>
    have:=hC.2 _ _ _ _ hs;have:=h2 _ _ _ hs;omega
 obtain rfl:=ay.1 he;have aGT:k < s.dg.length:=by
  rcases pQ k s.dg.length with h | h
  ·exact h
  ·simp[AS.bV,dZ h]at hk
 generalize Q7:({ck:=s.ck.map (aB.iI (uT k v n)),dg:=(s.dg.map (dP.amU (uT k v n) (Ga k))).set k (.obj n fr (c.iI (uT k v n))),news:=s.news.map λes=>es.map (dP.amU (uT k v n) (Ga k))}:AS)=s1;have e0:s1.bV (.eC k)=aw (.obj n fr (c.iI (uT k v n))):=by rw[<-Q7];simp[AS.bV,aGT]
 have e1:∀i,i≠ .eC k->s1.bV i=(s.bV i).map (dP.amU (uT k v n) (Ga k)):=λi hi=>by
  rw[<-Q7];cases i with
  |eC j=>
   have:¬k=j:=λe=>hi (by rw[e])
   simp only[AS.bV];rw[ek this,dK]
  |new x j=>
   simp only[AS.bV,aK,dK];cases s.news[x]? <;> simp
 have e2:∀i v' fr' c',i≠ .eC k->s1.bV i=aw (.obj v' fr' c')->∃c0,s.bV i=aw (.obj v' fr' c0)/\c'=c0.asF (uT k v n) (Ga k):=λi v' fr' c' hi hh=>by
  rw[e1 i hi]at hh;cases hs:s.bV i with
  |none=>rw[hs]at hh;cases hh
  |some en=>
   rw[hs]at hh;cases en with
   |dead=>simp[dP.amU]at hh
   |obj v0 fr0 c0=>
    simp only[eZ,dP.amU,aA,dP.obj.injEq]at hh;obtain⟨rfl,rfl,rfl⟩:=hh;exact⟨c0,rfl,rfl⟩
 have e3:∀i,i≠ .eC k->s.bV i≠aF->s1.bV i≠aF:=λi hi hh=>by
  rw[e1 i hi];cases hs:s.bV i with
  |none=>exact absurd hs hh
  |some en=>simp
 have hle:EF (uT k v n) (s.env w g β) (s1.env w g β):=by
  refine⟨Trans.mem (E:=s.env w g β) (E':=s1.env w g β) (Trans.refl w g),λi ver r hr afC=> ?_⟩;rcases QT k v n i ver with⟨rfl,rfl,e⟩ | ⟨rfl,e⟩ | ⟨hi,e⟩
  ·rw[e]at hr;obtain rfl:=bu hr;refine⟨⟨by show s1.bV (.eC k)≠aF;rw[e0];simp,λv' fr' c' hh=> ?_⟩,λ_=>⟨⟨fr,c,hk⟩,rfl⟩⟩;have hh:s1.bV (.eC k)=aw (.obj v' fr' c'):=hh;rw[e0]at hh;simp only[aA,dP.obj.injEq]at hh;exact Nat.le_of_eq hh.1
  ·rw[e]at hr;cases hr
  ·rw[e]at hr;obtain rfl:=bu hr;obtain⟨k1,k2⟩:=afC;have k1:s.bV i≠aF:=k1;have k2:∀v' fr' c',s.bV i=aw (.obj v' fr' c')->ver<=v':=k2;refine⟨⟨e3 i hi k1,λv' fr' c' hh=> ?_⟩,λ⟨fr',c',hh⟩=> ?_⟩
   ·obtain⟨c0,Q5,_⟩:=e2 i v' fr' c' hi hh;exact k2 _ _ _ Q5
   ·obtain⟨c0,Q5,_⟩:=e2 i ver fr' c' hi hh;exact⟨⟨fr',c0,Q5⟩,rfl⟩
 refine⟨h.defers,by rw[<-Q7];simpa using h.size,λi=> ?_,λid ver fr' c' dd=> ?_,h.trans,?_⟩
 ·have:s1.slot i=(s.slot i).iI (uT k v n):=by rw[<-Q7];exact XC _ rfl _ _
  rw[this];exact OT hle (h.ck i)
 ·have dd:s1.bV id=aw (.obj ver fr' c'):=dd;by_cases hi:id= .eC k
  ·subst hi;rw[e0]at dd;simp only[aA,dP.obj.injEq]at dd;obtain⟨rfl,rfl,rfl⟩:=dd;exact yN hle (h.bD (.eC k) v fr c hk) (id':= .eC k) rfl λpl _=>⟨rfl,λ_ h=>h,λh=>h⟩
  ·obtain⟨c0,Q5,rfl⟩:=e2 id ver fr' c' hi dd;have h0:=h.bD id ver fr' c0 Q5;rcases akX c0 with⟨q2,vq,kt,vt,l,cu,rfl⟩ | ⟨aCD,_⟩
   ·simp only[aB.asF];cases aGa:Ga k q2 with
    |true=>
     have jR:q2≠ .eC k:=λe=>by subst e;simp[Ga]at aGa
     have hρq:∀vr,uT k v n q2 vr=aw (q2,vr):=λvr=>by
      rcases QT k v n q2 vr with⟨e,_⟩ | ⟨e,_⟩ | ⟨_,e⟩
      ·exact absurd e jR
      ·exact absurd e jR
      ·exact e
     refine aB5.aY hle.mem (λ_=>rfl) h0 rfl (λ_ _ h=>h) λvr _=>⟨λhb=>hle.ref q2 vr (q2,vr) (hρq vr) hb,λkt vt l ayQ=> ?_,λ_ _ h=>h⟩
     have ayQ:s.bV q2=aw (.obj vr aW (.mp kt vt l)):=ayQ;show s1.bV q2=_;rw[e1 q2 jR,ayQ];rfl
    |false=>
     obtain⟨pl,mb,since,seen,c0,h1,h2,h3,h4⟩:=h0;exact⟨pl,mb,since,seen,c0,h1,h2,h3,λvr ajT=>ak⟩
   ·rw[aCD];exact yN hle h0 (id':=id) rfl λpl _=>⟨rfl,λ_ h=>h,λh=>h⟩
 ·have hl:=h.le;refine⟨hl.mem.trans (kU.aAb (E:=s.env w g β) (E':=s1.env w g β) (Trans.refl w g)),λid ver hb=> ?_,λid ver hb hc=> ?_⟩
  ·obtain⟨h1,h2⟩:=hl.yK _ ver hb;have h1:s.bV id≠aF:=h1;have h2:∀v' fr' c',s.bV id=aw (.obj v' fr' c')->ver<=v':=h2;by_cases hi:id= .eC k
   ·subst hi;obtain rfl:=hz ver hb;exact⟨by show s1.bV (.eC k)≠aF;rw[e0];simp,λv' fr' c' hh=>aL _⟩
   ·exact⟨e3 id hi h1,λv' fr' c' hh=>let⟨c0,Q5,_⟩:=e2 id v' fr' c' hi hh;h2 _ _ _ Q5⟩
  ·obtain⟨fr',c',hc⟩:=hc;have hc:s1.bV id=aw (.obj ver fr' c'):=hc;by_cases hi:id= .eC k
   ·subst hi;obtain rfl:=hz ver hb;rw[e0]at hc;simp only[aA,dP.obj.injEq]at hc;have e4:=hc.1;obtain rfl:v=0:=ak;exact hl.cur _ _ hb ⟨fr,c,hk⟩
   ·obtain⟨c0,Q5,_⟩:=e2 id ver fr' c' hi hc;exact hl.cur _ _ hb ⟨fr',c0,Q5⟩
theorem Kj(hC:C.ok):∀(l:List (Nat×Nat)) {s s1:AS},Inv C g β s a w->(af4 s l).eval=aw s1->Inv C g β s1 a w
 |[],s,s1,h,he=>by obtain rfl:=ay.1 he;exact h
 |x::l,s,s1,h,he=>by obtain⟨s2,h1,h2⟩:=ax.1 he;exact Kj hC l (af3 hC h h1) h2
def MJ(ids:List Id)(q:Nat):iF->iF
 | .own (.id (.new x y)) k=>match idxOf (.new x y) ids with | some m=> .own (.id (.new q m)) k | none=> .free
 |l=>l
def aDc(β:Id->Option Pl)(ids:List Id)(q:Nat):Id->Option Pl
 | .eC k=>β (.eC k)
 | .new x y=>if x=q then(ids[y]?).bind β else aF
theorem Trans.MJ(w:cj)(g:Nat->iF)(ids:List Id)(q:Nat):Trans w w g λx=>MJ ids q (g x):=by
 refine⟨rfl,rfl,⟨rfl,az _⟩,az _,λy _=> ?_⟩;cases hg:g y with
 |free=>exact⟨by simp[Ab.MJ],rfl⟩
 |own o k=>cases o with
  |dT=>exact⟨by simp[Ab.MJ],rfl⟩
  |id x=>
   refine⟨?_,λ_ _ _ h=>h⟩;cases x with
   |eC m=>exact .inr (.inr ⟨_,_,rfl,az _⟩)
   |new x j=>
    simp only[Ab.MJ];split
    ·exact .inr (.inr ⟨_,_,rfl,az _⟩)
    ·exact .inl rfl
 |fresh=>exact .inl ⟨by simp[Ab.MJ],rfl⟩
 |gg=>exact⟨by simp[Ab.MJ],λcur e h=>⟨cur,h,rfl⟩⟩
theorem Inv.ada(h:Inv C g β s a w)(hC:C.ok){ids:List Id}{q:Nat}(hn:ids.Nodup)(FE:∀id∈ids,∃i j,id= .new i j)(aHa:q < s.news.length):
  ∃g1 β1,Inv C g1 β1 (s.F5 ids q) a w:=by
 let ρ:TY:=aqk s ids q
 obtain⟨s1,Q7⟩:∃s1,s1=s.F5 ids q:=⟨_,rfl⟩;have hold:∀k,s1.bV (.eC k)=(s.bV (.eC k)).map (dP.axz ρ):=λk=>by
  rw[Q7];show(s.dg.map (dP.axz ρ))[k]? =_
  rw[dK];rfl
 have mX:∀j,s1.bV (.new q j)=(ids[j]?).map λid=>((s.bV id).getD .dead).W8 ρ:=λj=>by rw[Q7];simp[AS.F5,AS.bV,aK,aHa,ρ]
 have Mq:∀x j,x≠q->s1.bV (.new x j)=aF:=λx j hx=>by
  have hx':¬q=x:=λe=>hx e.symm
  rw[Q7];simp only[AS.F5,AS.bV,aK];rw[ek hx',dK];cases s.news[x]? <;> simp
 let g1:Nat->iF:=λx=>MJ ids q (g x)
 let β1:=aDc β ids q
 have ht:Trans w w g g1:=Trans.MJ w g ids q;have hβ:∀j,β1 (.new q j)=(ids[j]?).bind β:=λj=>if_pos rfl
 have hρ:∀i ver r,ρ i ver=aw r->(∃k,i= .eC k/\r=(i,ver))\/∃j fr c,ids[j]? =aw i/\s.bV i=aw (.obj ver fr c)/\r=(.new q j,0):=λi ver r hr=>by
  replace hr:aqk s ids q i ver=aw r:=hr
  cases i with
  |eC k=>exact .inl ⟨k,rfl,(bu hr).symm⟩
  |new x y=>
   unfold aqk at hr;simp only at hr;split at hr
   ·rename_i j v fr c hj ho;split at hr
    ·rename_i hv;have hv:ver=v:=by simpa using hv
     subst hv;exact .inr ⟨j,fr,c,pf hj,dA ho,(bu hr).symm⟩
    ·cases hr
   ·cases hr
 have hrenA:∀e v fr c,dP.axz ρ e= .obj v fr c->∃c0,e= .obj v fr c0/\c0.iI ρ=c:=λe v fr c he=>by
  cases e with
  |dead=>cases he
  |obj v0 fr0 c0=>
   simp only[dP.axz,dP.obj.injEq]at he;obtain⟨rfl,rfl,rfl⟩:=he;exact⟨c0,rfl,rfl⟩
 have hle:EF ρ (s.env w g β) (s1.env w g1 β1):=by
  refine⟨Trans.mem (E:=s.env w g β) (E':=s1.env w g1 β1) ht,λi ver r hr afC=> ?_⟩;rcases hρ i ver r hr with⟨k,rfl,rfl⟩ | ⟨j,fr,c,hj,he,rfl⟩
  ·obtain⟨k1,k2⟩:=afC;have k1:s.bV (.eC k)≠aF:=k1;refine⟨⟨?_,λv' fr' c' hh=> ?_⟩,λ⟨fr',c',hh⟩=>⟨?_,rfl⟩⟩
   ·show s1.bV (.eC k)≠aF;rw[hold];cases hs:s.bV (.eC k) with
    |none=>exact absurd hs k1
    |some en=>simp
   ·have hh:s1.bV (.eC k)=aw (.obj v' fr' c'):=hh;rw[hold,di]at hh;obtain⟨e,he,hh⟩:=hh;obtain⟨c0,rfl,_⟩:=hrenA _ _ _ _ hh;exact k2 v' fr' c0 he
   ·have hh:s1.bV (.eC k)=aw (.obj ver fr' c'):=hh;rw[hold,di]at hh;obtain⟨e,he,hh⟩:=hh;obtain⟨c0,rfl,_⟩:=hrenA _ _ _ _ hh;exact⟨fr',c0,he⟩
  ·refine⟨⟨by show s1.bV (.new q j)≠aF;rw[mX,hj];simp,λ_ _ _ _=>aL _⟩,λ_=>⟨⟨fr,c,he⟩,?_⟩⟩;show β1 (.new q j)=β i;rw[hβ,hj];rfl
 have e1:s1.ck=s.ck.map (aB.iI ρ):=by rw[Q7];rfl
 rw[<-Q7];refine⟨g1,β1,h.Qb hC ρ (by rw[e1];simp) ht hle (λi=> ?_) (λid ver fr c dd=> .inr ?_) λk=>⟨λhk=> ?_,λv' fr' c' hh=> ?_,rfl⟩⟩
 ·have:s1.slot i=(s.slot i).iI ρ:=by unfold AS.slot;rw[e1];exact XC _ rfl _ _
  rw[this];exact OT hle (h.ck i)
 ·cases id with
  |eC k=>
   rw[hold,di]at dd;obtain⟨e,he,dd⟩:=dd;obtain⟨c0,rfl,hc⟩:=hrenA _ _ _ _ dd;exact⟨.eC k,ver,c0,he,hc,rfl,λpl _=>⟨λn hg=>by show MJ ids q (g pl.b)=_;rw[hg];rfl,λhg=>by show MJ ids q (g pl.b)=_;rw[hg];rfl⟩⟩
  |new x y=>
   by_cases hx:x=q
   ·subst hx;rw[mX,di]at dd;obtain⟨i,hi,dd⟩:=dd;obtain⟨i0,j0,rfl⟩:=FE i (cE hi);cases hs:s.bV (.new i0 j0) with
    |none=>rw[hs]at dd;cases dd
    |some e=>
     rw[hs]at dd;cases e with
     |dead=>cases dd
     |obj v0 fr0 c0=>
      simp only[eM,dP.W8,dP.obj.injEq]at dd;obtain⟨_,rfl,hc⟩:=dd;refine⟨.new i0 j0,v0,c0,hs,hc,by rw[hβ,hi];rfl,λpl _=>⟨λn hg=> ?_,λhg=>by show MJ ids _ (g pl.b)=_;rw[hg];rfl⟩⟩;show MJ ids _ (g pl.b)=_;rw[hg];simp only[MJ,wC hn hi]
   ·rw[Mq x y hx]at dd;cases dd
 ·show s1.bV (.eC k)≠aF;rw[hold];cases hs:s.bV (.eC k) with
  |none=>exact absurd hs hk
  |some en=>simp
 ·have hh:s1.bV (.eC k)=aw (.obj v' fr' c'):=hh;rw[hold,di]at hh;obtain⟨e,he,hh⟩:=hh;obtain⟨c0,rfl,_⟩:=hrenA _ _ _ _ hh;exact⟨c0,he⟩
theorem adb(hC:C.ok){s s1:AS}{o:Option Nat}(h:gl C s a w)(he:(s.ada o).eval=aw s1):gl C s1 a w:=by
 cases o with
 |none=>
  obtain rfl:=ay.1 he;exact h
 |some q=>
  obtain⟨h1,h2⟩:=aD.1 he;obtain rfl:=ay.1 h2;obtain⟨g,β,h⟩:=h;obtain⟨g1,β1,h3⟩:=h.ada hC (ids:=s.aEx) ((s7 s _ _ _ (by simp)).filter _) (λid dd=>by
   have:=(nY.1 dd).2;cases id with
   |eC k=>cases this
   |new i j=>exact⟨i,j,rfl⟩) (gz h1)
  exact⟨g1,β1,h3⟩
theorem pk(hC:C.ok){an:ru}{s1:AS}(h:gl C s a w)(he:(norm P an s).eval=aw s1):gl C s1 a w:=by unfold norm at he;obtain⟨sb,aJy,he⟩:=ax.1 he;obtain⟨su,aJz,he⟩:=ax.1 he;obtain⟨sn,aGz,he⟩:=ax.1 he;obtain⟨sd,aGy,he⟩:=ax.1 he;obtain⟨s0,h1,h2⟩:=ax.1 he;obtain⟨h3,h4⟩:=aD.1 h2;obtain⟨sf,h5,h6⟩:=ax.1 h4;obtain⟨sg,h6,h7⟩:=ax.1 h6;obtain⟨sr,h9,h7⟩:=ax.1 h7;obtain⟨sq,h8,h7⟩:=ax.1 h7;obtain⟨g0,β0,h0⟩:=h;obtain⟨g1,i1,_⟩:=e7 an.aon (Kj hC _ h0 aJy);obtain⟨g,β,h⟩:=LS _ (Da _ (DI _ (acr _ ⟨g1,β0,(i1.still an.aJr).canon an.aEq⟩ aJz) aGz) aGy) h1;exact adb hC (atc (IM _ (oA hC _ (Pd _ ⟨g,β,h.aY hC h3⟩ h5) h6) h9) h8) h7
end
end Go.Ab
namespace Go.Ab
section
variable {P:aR} {Γ:uO} {an:Ih} {C:Ctx}
open Classical in
def aHs(p:Prop):Option Unit:=if p then aw () else aF
theorem awA{p:Prop}(h:aHs p=aw ()):p:=by
 unfold aHs at h;split at h
 ·assumption
 ·cases h
def atU(P:aR)(Γ:uO)(an:Ih)(N:Nat)(b:Code):Prop:=∀le,an.fE (dS b)=aw le->(le.set=aF->∀s x,le.run s=aw x->∃n,Rj (norm P (an.loops (dS b))) (λe=>norm P (an.outs (dS b) (agO e))) (ev P Γ an N b) n s (λe s'=>aw (e,s'))=(le.out x).eval)/\∀S,le.set=aw S->∀s,(∃x,S s x)->∃n,Rj (norm P (an.loops (dS b))) (λe=>norm P (an.outs (dS b) (agO e))) (ev P Γ an N b) n s (λe s'=>aHs (∃x,S s x/\(le.out x).eval=aw (e,s')))=aw ()
def j8(P:aR)(Γ:uO)(an:Ih)(N:Nat):List Code->Prop
 |[]=>True
 |b::l=>atU P Γ an N b/\j8 P Γ an N l
theorem j8.append{N:Nat}:∀ {l l':List Code},j8 P Γ an N (l++l')->j8 P Γ an N l/\j8 P Γ an N l'
 |[],_,h=>⟨trivial,h⟩
 |_::_,_,⟨h1,h2⟩=>⟨⟨h1,(j8.append h2).1⟩,(j8.append h2).2⟩
theorem tf{c:Code}{b:Frame}{a:Act}{k:List Item}{cs:List Frame}{w:cj}:step P (lone (b.atR a (.code (.scope c)::k)) cs w)= .next (lone (b.atR a (.code c:: .inScope c::k)) cs w):=
 step_lone_go (by simp[stepG,stepG.exec,Frame.atR])
theorem Z8{c:Code}{b:Frame}{a:Act}{k:List Item}{cs:List Frame}{w:cj}:step P (lone (b.atR a (.inScope c::k)) cs w)= .next (lone (b.atR a k) cs w):=
 step_lone_go (by simp[stepG,stepG.exec,Frame.atR])
theorem I3{F:Fence}{n:Nat}{Q:Exit->Act->cj->Prop}{a:Act}{w:cj}{c:Code}(h:c.wpIn F n P (Exit.noGoto Q) a w):(Code.scope c).wpIn F n P Q a w:=by
 intro b k cs aJ6 hb hr;have h0:(lone (b.atR a (.code (.scope c)::k)) cs w).fenced P F:=fenced_calm hb hr rfl;obtain⟨e,a1,w1,hq,hx⟩:=h b (.inScope c::k) cs aJ6 hb hr;cases e with
 |normal=>exact⟨.normal,a1,w1,hq,.head h0 tf (StepsIn.trans hx (.one (fenced_calm hb hr rfl) Z8))⟩
 |exit i=>
  have e1:exitTo i (.inScope c::k)=exitTo i k:=by simp[exitTo]
  exact⟨.exit i,a1,w1,hq,λk' hk=> .head h0 tf (hx.1 k' (e1.trans hk)),λh1 hk=>let⟨k2,h2,h3⟩:=hx.2 h1 (e1.trans hk);⟨k2,h2,.head h0 tf h3⟩⟩
 |goto l=>exact hq.elim
 |ret=>exact⟨_,a1,w1,hq,.of_steps (.one h0 tf) hx⟩
 |panic ch=>exact⟨_,a1,w1,hq,.of_steps (.one h0 tf) hx⟩
 |outgrown=>exact⟨_,a1,w1,hq,.of_steps (.one h0 tf) hx⟩
theorem Dn{rd:Option Nat}{m:Nat}{R:Type}{r:R}{b:Code}{nrm:AS->Out AS}{nrmX:Exit->AS->Out AS}{body:AS->(Exit->AS->Option R)->Option R}
  (hn:∀s s1 a w,gl C s a w->(nrm s).eval=aw s1->gl C s1 a w) (hx:∀e s s1 a w,gl C s a w->(nrmX e s).eval=aw s1->gl C s1 a w)
  (hb:∀(s:AS) (a:Act) (w:cj) (k:Exit->AS->Option R) (Q:Exit->Act->cj->Prop),gl C s a w->body s k=aw r->(∀e s' a' w',gl C s' a' w'->k e s'=aw r->Q e a' w')->b.wpIn (Fr rd) m P Q a w)
  {k:Exit->AS->Option R} {Q:Exit->Act->cj->Prop} (hk:∀e s' a' w',gl C s' a' w'->k e s'=aw r->Q e a' w'):
  ∀(n:Nat) (s:AS) (a:Act) (w:cj),gl C s a w->Rj nrm nrmX body n s k=aw r->Code.roundsIn (Fr rd) m P b Q n a w
 | 0,s,a,w,_,h=>by simp[Rj]at h
 |n+1,s,a,w,hs,h=>by
  simp only[Rj]at h;rw[roundsIn_succ];refine hb s a w _ _ hs h λe s' a' w' hs' aE1=> ?_
  have exits:∀e,(nrmX e s').run (k e)=aw r->Q e a' w':=λe aE1=>by obtain⟨s1,h1,h2⟩:=gG.1 aE1;exact hk e s1 a' w' (hx e s' s1 a' w' hs' h1) h2
  cases e with
  |normal=>
   simp only at aE1;obtain⟨s1,h1,h2⟩:=gG.1 aE1;exact Dn hn hx hb hk n s1 a' w' (hn s' s1 a' w' hs' h1) h2
  |_=>exact exits _ aE1
theorem MH{rd:Option Nat}{n:Nat}(hC:C.ok){j:Option ay0}{run: {R:Type}->(Exit->AS->Option R)->Option R}{c:Code}{a:Act}{w:cj}
  (pU:∀ {R:Type} {r:R} (k:Exit->AS->Option R) (Q:Exit->Act->cj->Prop),run k=aw r->(∀e s' a' w',gl C s' a' w'->k e s'=aw r->Q e a' w')->c.wpIn (Fr rd) n P Q a w)
  {R:Type} {r:R} {k:Exit->AS->Option R} {Q:Exit->Act->cj->Prop} (h:adq P j run k=aw r) (hk:∀e s' a' w',gl C s' a' w'->k e s'=aw r->Q e a' w'):c.wpIn (Fr rd) n P Q a w:=by
 cases j with
 |none=>exact pU k Q h hk
 |some j=>
  simp only[adq]at h;cases hx:run λe s=>(norm P j.an s).run (j.aHp e) with
  |none=>rw[hx]at h;cases h
  |some x=>
   rw[hx]at h;simp only[aj]at h;obtain⟨y,hy,h⟩:=gG.1 h;refine pU _ Q hx λe s' a' w' hs' hK=> ?_
   obtain⟨s1,h1,h2⟩:=gG.1 hK;have he:=j.ok _ _ _ h2;rw[hy,aA]at he;subst he;exact hk e s1 a' w' (pk hC hs' h1) h
theorem Inv.aps{g:Nat->iF}{β:Id->Option Pl}{s:AS}{a:Act}{w:cj}(h:Inv C g β s a w):
  Inv C (nX g w.heap.size (.own .dT 0)) β s {a with defers:=vd w.heap.size::a.defers} (w.alloc (.deferred (aw []))):=by
 have ht:=Trans.alloc w g (.deferred (aw [])) (.own .dT 0);have he:cP (s.env w g β) (s.env (w.alloc (.deferred (aw []))) (nX g w.heap.size (.own .dT 0)) β):=cP.same ht;have h1:=h.step rfl ht he (iH.same h.bD he λi ver fr c pl hi hp=>by
  have hl:=((h.bD i ver fr c hi).label (pl:=pl) hp).1;have hl':pl.b < w.heap.size:=hl;exact⟨qO w _ hl',fy _ _ _ ak⟩)
 refine⟨⟨ia.2 ⟨λhm=> ?_,h1.defers.1⟩,λd hd=> ?_⟩,h1.size,h1.ck,h1.bD,h1.trans,h1.le⟩
 ·obtain⟨D,e,_,hh,_⟩:=h.defers.2 _ hm;have e:Deferred.mk (.collected w.heap.size) #[]=Deferred.mk (.collected D) #[]:=e;injection e with e _
  injection e with e
  have:=(bY.1 hh).1;omega
 ·rcases cz.1 hd with rfl | hd
  ·exact⟨w.heap.size,rfl,h.trans.size,tq w _,fk _ _ _⟩
  ·exact h1.defers.2 d hd
theorem Km:∀l:List aB,(L9 l).list=l
 |[]=>rfl
 |a::l=>by simp[L9,aB.list,Km l]
theorem Cm(aY:List Nat):∀(i:Nat) (l:List aB),(eN aY i l).length=l.length
 |_,[]=>rfl
 |i,_::l=>by simp[eN,Cm aY (i+1) l]
theorem Ji(aY:List Nat):∀(l:List aB) (i j:Nat),(eN aY i l).getD j .undef=l.getD j .undef\/(eN aY i l).getD j .undef= .undef
 |[],_,_=> .inl rfl
 |v::l,i,0=>by
  simp only[eN,jB];split
  ·exact .inl rfl
  ·exact .inr rfl
 |v::l,i,j+1=>by simpa[eN]using Ji aY l (i+1) j
theorem Inv.frame{g:Nat->iF}{β:Id->Option Pl}{s:AS}{a:Act}{w:cj}(h:Inv C g β s a w)(aY:List Nat):C0 (s.env w g β) (L9 (eN aY 0 s.ck)) a.tmps:=by
 refine⟨by rw[Km,Cm,h.size],λi=> ?_⟩;rw[Km];rcases Ji aY s.ck 0 i with e | e
 ·rw[e];exact h.ck i
 ·rw[e];exact VS.undef
theorem aAD(a:Act)(q:Nat)(x:Value):(a.put (aw q) x).put (aw q) (a.tmps.getD q undef)=a:=by
 obtain⟨t,d⟩:=a;simp only[Act.put];congr 1;apply Array.ext_getElem?;intro i;simp only[eL,Array.size_setIfInBounds];by_cases h:q=i
 ·subst h;by_cases hl:q < t.size
  ·simp[hl]
  ·simp[hl]
 ·simp[h]
theorem Tg{n:Nat}(hΓ:Sound P Γ){f:bH}{ps:Array Tmp}{as b:Code}{R:Type}{r:R}{k:Exit->AS->Option R}{Q:Exit->Act->cj->Prop}{s:AS}{a:Act}{w:cj}(h:gl C s a w)
  (he:Ee P Γ an s f ps as b k=aw r) (hk:∀e s' a' w',gl C s' a' w'->k e s'=aw r->Q e a' w'):(Code.rangeFunc f ps as b).wpIn (Fr aF) n P Q a w:=by
 obtain⟨g,β,h⟩:=h;unfold Ee at he;split at he;rotate_left
 ·cases he
 rename_i y aY h0 caps aJ5 aLn hF;split at he;rotate_left
 ·cases he
 rename_i en aEN Mo;simp only[al]at aEN;obtain⟨⟨⟨aqo,avL⟩,hq⟩,jQ⟩:=aEN;have hd:=(hΓ _ _ _ Mo).1 jQ;have hdR:=(hΓ _ _ _ Mo).2.2 jQ;generalize aHb:ps.getD 0 0=q at avL hq he Mo;have hq:q < s.ck.length:=gz hq;obtain⟨vs,hy,aBJ⟩:=Uv (hF▸h.ev f);refine wpIn_rangeFunc λfn _=> ?_
 have cQ:=run_enterLoop_outer (P:=P) (w:=w) fn a.tmps ps as b;have i1:=h.aps;generalize aKd:w.alloc (.deferred (aw []))=w1 at i1 cQ;have pd:w1.heap.size=w.heap.size+1:=by rw[<-aKd];exact World.size_alloc ..
 generalize aHc:({state:= .ready,pending:=aF,fn,tmps:=a.tmps,params:=ps,assign:=as,body:=b,defers:=w.heap.size}:Loop)=r0 at cQ;have ht:=Trans.alloc w1 (nX g w.heap.size (.own .dT 0)) (.loop r0) (.own (.id (.new q 0)) 0);obtain⟨i2,e2⟩:=i1.O0 avL (c:= .xx ⟨y,ps,as,b⟩ (L9 (eN aY 0 s.ck)) 0) (p:=aw ⟨w1.heap.size,0⟩) ht (λb hb=>⟨qO w1 _ hb,fy _ _ _ ak⟩) (λhe=>
  ⟨⟨w1.heap.size,0⟩,r0,kh _ _ _,tq w1 _,fk _ _ _,by subst aHc;exact⟨rfl,rfl,rfl⟩,by subst aHc;exact(i1.frame aY).mono he,by subst aHc;exact⟨rfl,rfl⟩⟩)
 generalize nX (nX g w.heap.size (.own .dT 0)) w1.heap.size (.own (.id (.new q 0)) 0)=g2 at i2 e2;generalize hβ2:Ic β (.new q 0) (aw ⟨w1.heap.size,0⟩)=β2 at i2 e2;generalize at1:w1.alloc (.loop r0)=w2 at i2 e2 cQ;have aJq:VS ((s.born q [.obj 0 aQ (.xx ⟨y,ps,as,b⟩ (L9 (eN aY 0 s.ck)) 0)]).env w2 g2 β2) (.yl (.new q 0) 0) (.func (.yield w1.heap.size) #[] #[]):=by refine⟨[.func (.yield w1.heap.size) #[] #[]],?_,rfl⟩;simp only[V];exact⟨_,rfl,pT avL _ _ _ _,λ_=>⟨⟨w1.heap.size,0⟩,by rw[<-hβ2];exact kh _ _ _,rfl⟩⟩
 have i3:=i2.put (aw q) aJq;have hF2:(s.born q [.obj 0 aQ (.xx ⟨y,ps,as,b⟩ (L9 (eN aY 0 s.ck)) 0)]).ev f= .fn h0 caps:=by rw[<-hF];cases f <;> rfl
 obtain⟨vs2,aD2,aHn⟩:=Uv (hF2▸i2.ev f);have YW:vs2=vs:=by
  have e:Value.func (.func h0) #[] vs2.toArray= .func (.func h0) #[] vs.toArray:=by rw[<-aD2,<-hy];cases f <;> rfl
  injection e with _ _ e
  simpa using c7 Array.toList e
 subst YW;have EN:EG (((s.born q [.obj 0 aQ (.xx ⟨y,ps,as,b⟩ (L9 (eN aY 0 s.ck)) 0)]).put (aw q) (.yl (.new q 0) 0)).env w2 g2 β2) (.yl (.new q 0) 0::caps.list) (.func (.yield w1.heap.size) #[] #[]::vs2):=by rw[acZ];exact⟨aJq,TZ aHn⟩
 have aI5:∀args:Array Value,(callFunc h0 args).run P w2= .ok (.enter h0 args) w2:=λargs=>by
  unfold aix at aqo;split at aqo
  ·rename_i fn' aCs;simp only[al,cD,fv]at aqo;obtain⟨c,hc⟩:=cv.1 aqo.2;unfold callFunc;simp[aCs,aqo.1,hc]
  ·cases aqo
 have post:∀ {s3:AS} {w3:cj} {v:Value},gl C s3 ((({a with defers:=vd w.heap.size::a.defers}:Act).put (aw q) (.func (.yield w1.heap.size) #[] #[])).put aF v) w3->∀ {c:uZ} {fr:aB} {p:Nat},s3.bV (.new q 0)=aw (.obj 0 aQ (.xx c fr p))->s3.slot q= .yl (.new q 0) 0->p≠1->
   ∃jump w4,(Instr.endLoop w1.heap.size).run P w3= .ok jump w4/\aB1 p (if p=0 then .ready else .done) jump/\gl C ((s3.aZ (.new q 0) .dead).put (aw q) .undef) {a with defers:=vd w.heap.size::a.defers} w4:=by
  intro s3 w3 v aFd c fr p UF avF aDU;obtain⟨g3,β3,i5⟩:=aFd;obtain⟨pl,r3,hp,hb,hg,_,_,uU⟩:=i5.bD (.new q 0) 0 aQ _ UF;have hp:β3 (.new q 0)=aw pl:=hp;have hb:w3.heap[pl.b]? =aw (.loop r3):=hb
  have hg:g3 pl.b= .own (.id (.new q 0)) 0:=hg;have aBK:=i5.ck q;rw[avF]at aBK;obtain⟨cs,hV,hO⟩:=aBK;simp only[V]at hV;obtain⟨l,rfl,_,fH⟩:=hV;obtain⟨pl',hp',rfl⟩:=fH ⟨aQ,_,UF⟩;have hp':β3 (.new q 0)=aw pl':=hp';rw[hp]at hp';obtain rfl:pl=pl':=by simpa using hp'
  have hO: [Value.func (.yield pl.b) #[] #[]]=[((({a with defers:=vd w.heap.size::a.defers}:Act).put (aw q) (.func (.yield w1.heap.size) #[] #[])).put aF v).tmps.getD q undef]:=hO;have Pj:q < ({a with defers:=vd w.heap.size::a.defers}:Act).tmps.size:=by show q < a.tmps.size;rw[h.size];exact hq
  have hO2:((({a with defers:=vd w.heap.size::a.defers}:Act).put (aw q) (.func (.yield w1.heap.size) #[] #[])).put aF v).tmps.getD q undef= .func (.yield w1.heap.size) #[] #[]:=by show((({a with defers:=vd w.heap.size::a.defers}:Act).put (aw q) (.func (.yield w1.heap.size) #[] #[]))).tmps.getD q undef=_;rw[ajs,if_pos ⟨rfl,Pj⟩]
  rw[hO2]at hO;have hl:pl.b=w1.heap.size:=by simpa using hO
  have aEL:r3.state≠ .busy:=by
   match p,uU,aDU with
   | 0,uU,_=>rw[uU.1];simp
   | 1,_,h=>exact absurd rfl h
   | 2,uU,_=>rw[uU.1];simp
   |_+3,uU,_=>rw[uU.1];simp
  have jQ:pl.b < w3.heap.size:=(bY.1 hb).1;refine⟨r3.pending,_,by rw[<-hl];exact run_endLoop hb aEL,?_,?_⟩
  ·match p,uU,aDU with
   | 0,uU,_=>exact⟨rfl,uU.2⟩
   | 1,_,h=>exact absurd rfl h
   | 2,uU,_=>exact⟨rfl,uU.2⟩
   |_+3,uU,_=>exact⟨rfl,uU.2⟩
  ·have i6:=(i5.kill UF hg (w':=w3.putObj pl.b (.loop {r3 with state:= .exhausted})) rfl rfl ⟨rfl,az _⟩ (by simp) (λb' hb'=>World.putObj_heap_other hb') (lb:= .free) (.inl rfl)).1;have i7:=i6.put (aw q) (v:= .undef) (x:=({a with defers:=vd w.heap.size::a.defers}:Act).tmps.getD q undef) VS.undef;have e:=aAD {a with defers:=vd w.heap.size::a.defers} q (.func (.yield w1.heap.size) #[] #[]);refine⟨nX g3 pl.b .free,β3,?_⟩;simp only[Act.put]at e i7;rw[e]at i7;exact i7
 generalize hK:(λs3:AS=>(match s3.bV (.new q 0),s3.slot q with
   |some (.obj 0 aQ (.xx _ _ p)),.yl (.new q' 0) 0=>match iL q' q,p with
    |true,0=>k .normal ((s3.aZ (.new q 0) .dead).put (aw q) .undef)
    |true,2=>k .ret ((s3.aZ (.new q 0) .dead).put (aw q) .undef)
    |true,i+3=>k (.exit i) ((s3.aZ (.new q 0) .dead).put (aw q) .undef)
    |_,_=>aF
   |_,_=>aF))=K at he
 have hc:Calls P h0 (.func (.yield w1.heap.size) #[] #[]::vs2).toArray w2 λe w'=>∃v,e= .returned v/\∃s3,gl C s3 ((({a with defers:=vd w.heap.size::a.defers}:Act).put (aw q) (.func (.yield w1.heap.size) #[] #[])).put aF v) w'/\K s3=aw r:=by
  unfold AS.aBq at he;split at he
  ·exact(QV (o:= {(default:Oper) with dst:=aF}) i3 hdR EN he).2
  ·obtain⟨s3,aBv,he⟩:=gG.1 he;unfold AS.call at aBv;obtain⟨r2,h1,h2⟩:=ax.1 aBv;obtain⟨g',i4,e4,_,f1⟩:=e7 r2.2 i3;obtain⟨x,hx,k1,k2,key⟩:=O9 (o:= {(default:Oper) with dst:=aF}) i4 (Ap _ _) (Cf rfl i3.bD e4 _ _ _ r2 EN h1 f1) h2;rcases hd _ _ _ _ _ _ _ k1 k2 hx with⟨_,hc⟩ | ⟨v,w',aDZ,_⟩
   ·exact hc.mono λe w' ⟨v,agy,ha⟩=>⟨v,agy,s3,key v w' ha,he⟩
   ·rw[aI5]at aDZ;cases aDZ
 refine⟨w1.heap.size,[vd w.heap.size],w2,⟨.fn (.func h0) vs2.toArray,#[.func (.yield w1.heap.size) #[] #[]]⟩,w2,h0,(.func (.yield w1.heap.size) #[] #[]::vs2).toArray,w2,?_,?_,λ_ _=>trivial,?_,λh=>(by cases h),?_⟩
 ·rw[pd];exact cQ
 ·have e:resolve a.eval (rangeCall f w1.heap.size) 0=Deferred.ofValue (a.eval f) #[.func (.yield w1.heap.size) #[] #[]]:=by simp[resolve,rangeCall,Act.eval]
  rw[e,hy];simp[Deferred.ofValue]
 ·have e:(#[.func (.yield w1.heap.size) #[] #[]]++vs2.toArray:Array Value)=(.func (.yield w1.heap.size) #[] #[]::vs2).toArray:=by simp
  rw[<-aI5,<-e];rfl
 ·have h1:CallsIn (Fr aF) (n - 1) P h0 (.func (.yield w1.heap.size) #[] #[]::vs2).toArray w2 _:=callsIn_wide.2 hc;refine h1.mono λe w3 ⟨v,agy,s3,aFd,he⟩=> ?_
  subst agy;subst hK;show ∃jump w4,_/\_;simp only at he;split at he;rotate_left
  ·cases he
  rename_i c3 fr3 p3 q' UF avF;split at he
  ·rename_i hq';obtain rfl:q'=q:=fx hq';obtain⟨jump,w4,avv,uU,aFe⟩:=post aFd UF avF gw;obtain⟨_,rfl⟩:=uU;exact⟨aF,w4,avv,hk _ _ _ _ aFe he⟩
  ·rename_i hq';obtain rfl:q'=q:=fx hq';obtain⟨jump,w4,avv,uU,aFe⟩:=post aFd UF avF gw;obtain⟨_,rfl⟩:=uU;exact⟨_,w4,avv,wpIn_ret (hk _ _ _ _ aFe he)⟩
  ·rename_i i hq';obtain rfl:q'=q:=fx hq';obtain⟨jump,w4,avv,uU,aFe⟩:=post aFd UF avF (by simp);obtain⟨_,rfl⟩:=uU;exact⟨_,w4,avv,wpIn_exit (hk _ _ _ _ aFe he)⟩
  ·cases he
theorem qQ{rd:Option Nat}{n:Nat}(hm:P.follows .mixedOrders=aW)(hΓ:Sound P Γ)(hC:C.ok){N:Nat}(aqv:rd=aF\/an.lX.isSome=aW):∀(c:Code),j8 P Γ an N (mw c)->∀ {R:Type} {r:R} (s:AS) (a:Act) (w:cj) (k:Exit->AS->Option R) (Q:Exit->Act->cj->Prop),
  gl C s a w->ev P Γ an N c s k=aw r->(∀e s' a' w',gl C s' a' w'->k e s'=aw r->Q e a' w')->c.wpIn (Fr rd) n P Q a w
 | .skip,hL,_,_,s,a,w,k,Q,hs,h,hk=>wpIn_skip (hk _ _ _ _ hs h)
 | .region id ops draw,hL,_,_,s,a,w,k,Q,hs,h,hk=>by
  simp only[ev]at h;obtain⟨s,hs,h⟩:=Rz _ hs h;refine MH hC (λk Q h hk=> ?_) h hk;cases draw with
  |true=>
   simp only at h;split at h
   ·rename_i hE;exact aiw hm hΓ hs hE h λs' a' w' hs' hk'=>hk _ _ _ _ hs' hk'
   ·cases h
  |false=>exact wpIn_region_list (Q2 hΓ ops.toList hs h λs' a' w' hs' hk'=>hk _ _ _ _ hs' hk')
 | .seq x y,hL,_,_,s,a,w,k,Q,hs,h,hk=>by
  simp only[ev]at h;refine wpIn_seq (MH hC (λk Q h hk=>qQ hm hΓ hC aqv x hL.append.1 s a w k Q hs h hk) h λe s' a' w' hs' hk'=> ?_);cases e with
  |normal=>exact qQ hm hΓ hC aqv y hL.append.2 s' a' w' k Q hs' hk' hk
  |_=>exact hk _ s' a' w' hs' hk'
 | .cond c x y,hL,_,_,s,a,w,k,Q,hs,h,hk=>by
  simp only[ev]at h;split at h
  ·rename_i b hb;have hc:a.eval c= .bool b:=by obtain⟨g,β,hi⟩:=hs;have:=hi.ev c;rw[hb]at this;exact LY this
   refine wpIn_cond hc ?_
   cases b with
   |true=>exact qQ hm hΓ hC aqv x hL.append.1 s a w k Q hs h hk
   |false=>exact qQ hm hΓ hC aqv y hL.append.2 s a w k Q hs h hk
  ·cases h
 | .block id b,hL,_,_,s,a,w,k,Q,hs,h,hk=>by
  simp only[ev]at h;refine wpIn_block (qQ hm hΓ hC aqv b hL s a w _ _ hs h λe s' a' w' hs' hk'=> ?_);cases e with
  |exit i=>
   simp only at hk';simp only[Exit.inBlock];by_cases hi:i=id
   ·rw[if_pos hi];simp only[hi,bA]at hk';exact hk _ s' a' w' hs' hk'
   ·rw[if_neg hi];simp only[hi,decide_false]at hk';exact hk _ s' a' w' hs' hk'
  |_=>exact hk _ s' a' w' hs' hk'
 | .loop b,hL,R,r,s,a,w,k,Q,hs,h,hk=>by
  simp only[ev]at h;obtain⟨s1,h1,h⟩:=gG.1 h;have Q7:=pk hC hs h1;obtain⟨hL1,hL2⟩:=(hL:atU P Γ an N b/\j8 P Γ an N (mw b));split at h
  ·rename_i le hle;unfold ayJ at h;cases adj:le.set with
   |some S=>
    rw[adj]at h;simp only at h;obtain⟨h2,h3⟩:=O6 h;obtain⟨n,hn⟩:=(hL1 le hle).2 S adj s1 h2;refine wpIn_loop_rounds n (Dn (λs s1 a w hs hn=>pk hC hs hn) (λe s s1 a w hs hn=>pk hC hs hn) (λs a w k Q hs hb hk=>qQ hm hΓ hC aqv b hL2 s a w k Q hs hb hk) (λe s' a' w' hs' he=> ?_) n s1 a w Q7 hn);obtain⟨x,aGf,aGg⟩:=awA he;obtain⟨y,hy,h4⟩:=gG.1 (h3 x aGf);rw[aGg,aA]at hy;subst hy;exact hk _ _ _ _ hs' h4
   |none=>
   rw[adj]at h;simp only at h;cases hr:le.run s1 with
   |none=>rw[hr]at h;cases h
   |some x=>
    rw[hr]at h;simp only[aj]at h;obtain⟨y,hy,h⟩:=gG.1 h;obtain⟨n,hn⟩:=(hL1 le hle).1 adj s1 x hr;rw[hy]at hn;refine wpIn_loop_rounds n (Dn (λs s1 a w hs hn=>pk hC hs hn) (λe s s1 a w hs hn=>pk hC hs hn) (λs a w k Q hs hb hk=>qQ hm hΓ hC aqv b hL2 s a w k Q hs hb hk) (λe s' a' w' hs' he=> ?_) n s1 a w Q7 hn);simp only[aA]at he;subst he;exact hk e s' a' w' hs' h
  ·exact wpIn_loop_rounds N (Dn (λs s1 a w hs hn=>pk hC hs hn) (λe s s1 a w hs hn=>pk hC hs hn) (λs a w k Q hs hb hk=>qQ hm hΓ hC aqv b hL2 s a w k Q hs hb hk) hk N s1 a w Q7 h)
 | .exit id,hL,_,_,s,a,w,k,Q,hs,h,hk=>wpIn_exit (hk _ _ _ _ hs h)
 | .ret,hL,_,_,s,a,w,k,Q,hs,h,hk=>wpIn_ret (hk _ _ _ _ hs h)
 | .rangeFunc f ps as b,_,_,_,s,a,w,k,Q,hs,h,hk=>by
  simp only[ev]at h;obtain⟨s1,h1,h⟩:=gG.1 h;have hs:=oA hC _ hs h1;rcases aqv with rfl | aqv
  ·exact Tg hΓ hs h hk
  ·unfold Ee at h;split at h
   ·rename_i h0 _ _;rw[h0]at aqv;cases aqv
   ·cases h
 | .scope b,hL,_,_,s,a,w,k,Q,hs,h,hk=>by
  simp only[ev]at h;refine I3 (qQ hm hΓ hC aqv b hL s a w _ _ hs h λe s' a' w' hs' hk'=> ?_);cases e with
  |goto l=>cases hk'
  |_=>exact hk _ s' a' w' hs' hk'
 | .label _,hL,_,_,s,a,w,k,Q,hs,h,hk=>wpIn_label (hk _ _ _ _ hs h)
 | .goto _,_,_,_,_,_,_,_,_,_,h,_=>by simp[ev]at h
 | .refuse _,_,_,_,_,_,_,_,_,_,h,_=>by simp[ev]at h
variable {g:Nat->iF} {β:Id->Option Pl} {s:AS} {a:Act} {w:cj}
def Xa(tmps:Array Value)(r:ResultVar):Sem Value:=
 match r with
 | .tmp t=>pure (tmps.getD t undef)
 | .cell a t=>do loadVar t (<-asAddr (tmps.getD a undef))
theorem NM(h:Inv C g β s a w){r:ResultVar}{v:aB}(he:(Xc P s r).eval=aw v):∃x,(Xa a.tmps r).run P w= .ok x w/\VS (s.env w g β) v x:=by
 cases r with
 |tmp t=>
  simp only[Xc]at he;obtain rfl:=ay.1 he;exact⟨_,by simp[Xa],h.ck t⟩
 |cell t T=>
  simp only[Xc]at he;obtain⟨ad,z,hy,hr,hv⟩:=UU h (h.ck t) he;exact⟨z,by simp[Xa,hy,asAddr,hr],hv⟩
theorem NL(h:Inv C g β s a w){r:ResultVar}{o:Option Ty}{y:AS×aB}(he:(Xb P s r o).eval=aw y):
  ∃x g',(Xa a.tmps r).run P w= .ok x w/\Inv C g' β y.1 a w/\cP (s.env w g β) (y.1.env w g' β)/\VS (y.1.env w g' β) y.2 x:=by
 cases o with
 |none=>
  simp only[Xb]at he;obtain⟨v,h1,h2⟩:=ax.1 he;obtain rfl:=ay.1 h2;obtain⟨x,hx,hv⟩:=NM h h1;exact⟨x,g,hx,h,cP.refl _,hv⟩
 |some t=>
  simp only[Xb]at he;obtain⟨v,h1,h2⟩:=ax.1 he;obtain⟨d,h3,h4⟩:=ax.1 h2;obtain rfl:=ay.1 h4;obtain⟨x,hx,hv⟩:=NM h h1;obtain⟨g',i1,e1,_,cs,hR,hO⟩:=zI h hv h3;exact⟨x,g',hx,i1,e1,VS.of (a:= .d t d) (cs:=cs) (by simpa only[V]using hR) hO⟩
theorem JT:∀(l:List ResultVar) (ts:List (Option Ty)) {s:AS} {g:Nat->iF} (_:Inv C g β s a w) {y:AS×aB},(NN P s l ts).eval=aw y->
  ∃(xs:List Value) (g':Nat->iF),(l.mapM (Xa a.tmps)).run P w= .ok xs w/\Inv C g' β y.1 a w/\cP (s.env w g β) (y.1.env w g' β)/\VC (y.1.env w g' β) y.2 xs/\xs.length=l.length
 |[],ts,s,g,h,y,he=>by simp only[NN]at he;obtain rfl:=ay.1 he;exact⟨[],g,by simp,h,cP.refl _,by simp[VC],rfl⟩
 |r::l,ts,s,g,h,y,he=>by simp only[NN]at he;obtain⟨u,h1,h2⟩:=ax.1 he;obtain⟨hc,h2⟩:=aD.1 h2;obtain⟨us,h3,h4⟩:=ax.1 h2;obtain rfl:=ay.1 h4;obtain⟨x,g1,hx,i1,e1,hv⟩:=NL h h1;obtain⟨xs,g2,ajU,i2,e2,YW,hl⟩:=JT l ts.tail i1 h3;obtain⟨cs,hV,hO⟩:=(hv.mono e2).ee hc;refine⟨x::xs,g2,?_,i2,e1.trans e2,by simp only[VC];exact⟨x,xs,cs,rfl,hV,hO,YW⟩,by simp[hl]⟩;simp only[List.mapM_cons,cg,hx,bE,ajU,dF]
theorem aua{E:Env}{v:aB}{xs:List Value}(h:VC E v xs):VS E v (.tuple xs.toArray):=by
 cases v <;> first
  | (simp only[VC]at h;done)
  |exact⟨xs,rfl,h⟩
  | (simp only[VC]at h;subst h;rfl)
theorem ZZ(h:Inv C g β s a w){fn:Func}{ts:List (Option Ty)}{y:AS×aB}(he:(aeL P fn ts s).eval=aw y):
  ∃x g',(results fn a.tmps).run P w= .ok x w/\Inv C g' β y.1 a w/\VS (y.1.env w g' β) y.2 x:=by
 have key:∀xs:List Value,(fn.results.toList.mapM (Xa a.tmps)).run P w= .ok xs w->(results fn a.tmps).run P w= .ok (if h:xs.length=1 then xs[0] else .tuple xs.toArray) w:=λxs ajU=>by
  have e:results fn a.tmps=(do
   let vs <-fn.results.mapM (Xa a.tmps)
   pure (if h:vs.size=1 then vs[0] else .tuple vs)):=rfl
  rw[e,Array.mapM_eq_mapM_toList];simp only[map_eq_pure_bind,cg,ajU,bE,dF];congr 1
 unfold aeL at he;split at he
 ·rename_i r hr;obtain⟨x,g',hx,hi,_,hv⟩:=NL h he;refine⟨x,g',?_,hi,hv⟩;rw[key [x] (by simp[hr,hx])];simp
 ·rename_i rs jR;obtain⟨xs,g',hx,hi,_,hv,hl⟩:=JT _ _ h he;refine⟨.tuple xs.toArray,g',?_,hi,aua hv⟩;rw[key xs hx,dif_neg];rw[hl];intro h1;obtain⟨r,hr⟩:=List.length_eq_one_iff.1 h1;exact jR r hr
end
end Go.Ab
namespace Go.Ab
def mK(ids:List Id):iF->iF
 | .own (.id (.new i j)) k=> .own (.id (match idxOf (.new i j) ids with | some m=> .new 0 m | none=> .new 1 0)) k
 |l=>l
def awO(β:Id->Option Pl)(ids:List Id):Id->Option Pl
 | .eC k=>β (.eC k)
 | .new 0 m=>(ids[m]?).bind β
 | .new (_+1) _=>aF
theorem aqF{ids:List Id}{g:Nat->iF}{b off:Nat}(h:kr g b off):kr (λb=>mK ids (g b)) b off:=by
 unfold kr at*;simp only;cases hg:g b with
 |free=>simp[mK]
 |own o k=>
  rw[hg]at h;cases o with
  |dT=>exact h
  |id i=>cases i <;> exact h
 |fresh=>rw[hg]at h;exact h.elim
 |gg=>rw[hg]at h;exact h.elim
theorem ac7(s:AS)(v:aB):(s.Pc v).Nodup:=(s7 s _ _ _ (by simp)).filter _
theorem akz{s:AS}{v:aB}{id:Id}(h:id∈s.Pc v):∃i j,id= .new i j:=by
 unfold AS.Pc at h;have:=(nY.1 h).2;cases id with
 |eC k=>simp[Id.aBP]at this
 |new i j=>exact⟨i,j,rfl⟩
section
variable {P:aR} {Γ:uO} {C:Ctx} {g:Nat->iF} {β:Id->Option Pl} {s:AS} {a:Act} {w:cj}
theorem ap9(h:Inv C g β s a w)(hC:C.ok){v:aB}{x:Value}(hv:VS (s.env w g β) v x):FM C.E (s.fin v) x w:=by
 unfold AS.fin;have hn:=ac7 s v;have FE:∀id∈s.Pc v,∃i j,id= .new i j:=λid dd=>akz dd
 generalize s.Pc v=ids at hn FE;generalize hG:s.aBs ids v=G;have u9:G.val=v.iI (Kv ids):=by rw[<-hG];rfl
 have hold:∀k,G.st.bV (.eC k)=(s.bV (.eC k)).map (dP.fin ids):=λk=>by
  rw[<-hG];show(s.dg.map (dP.fin ids))[k]? =_
  rw[dK];rfl
 have aJj:∀m,G.st.bV (.new 0 m)=(ids[m]?).map λid=>((s.bV id).getD .dead).fin ids:=λm=>by
  rw[<-hG];show(ids.map λid=>((s.bV id).getD .dead).fin ids)[m]? =_
  rw[dK]
 have aJ0:∀i m,G.st.bV (.new (i+1) m)=aF:=λi m=>by simp[oH.st,AS.bV]
 let g':Nat->iF:=λb=>mK ids (g b)
 let β':=awO β ids
 have aqr:∀e ver fr c,dP.fin ids e= .obj ver fr c->∃c0,e= .obj ver fr c0/\c=c0.iI (Kv ids):=λe ver fr c he=>by
  cases e with
  |dead=>cases he
  |obj v0 fr0 c0=>
   simp only[dP.fin,dP.obj.injEq]at he;obtain⟨rfl,rfl,rfl⟩:=he;exact⟨c0,rfl,rfl⟩
 have hle:EF (Kv ids) (s.env w g β) (G.st.env w g' β'):=by
  refine⟨⟨⟨λb off v ⟨h1,h2⟩=>⟨h1,aqF h2⟩,λb ob h1 h2=>⟨by show mK ids (g b)= .free;have h1:g b= .free:=h1;rw[h1];rfl,h2⟩,
   λb cur e h1 h2=>⟨by show mK ids (g b)= .gg;have h1:g b= .gg:=h1;rw[h1];rfl,cur,h2,rfl⟩⟩,λb ob h1 h2=>⟨by show mK ids (g b)= .fresh;have h1:g b= .fresh:=h1;rw[h1];rfl,h2⟩⟩,λid ver r hr hb=> ?_⟩
  obtain⟨OM,ON⟩:=hb;have OM:s.bV id≠aF:=OM;have ON:∀v fr c,s.bV id=aw (.obj v fr c)->ver<=v:=ON;cases id with
  |eC k=>
   simp only[Kv,aA]at hr;subst hr;refine⟨⟨?_,λv fr c hh=> ?_⟩,λ⟨fr,c,hh⟩=>⟨?_,rfl⟩⟩
   ·show G.st.bV (.eC k)≠aF;rw[hold];simpa using OM
   ·have hh:G.st.bV (.eC k)=aw (.obj v fr c):=hh;rw[hold,di]at hh;obtain⟨e,he,hh⟩:=hh;obtain⟨c0,rfl,_⟩:=aqr _ _ _ _ hh;exact ON v fr c0 he
   ·have hh:G.st.bV (.eC k)=aw (.obj ver fr c):=hh;rw[hold,di]at hh;obtain⟨e,he,hh⟩:=hh;obtain⟨c0,rfl,_⟩:=aqr _ _ _ _ hh;exact⟨fr,c0,he⟩
  |new i j=>
   simp only[Kv]at hr;split at hr
   ·rename_i m hm;simp only[aA]at hr;subst hr;have dd:=pf hm;obtain⟨e,he⟩:=Option.ne_none_iff_exists'.1 OM;have hg:G.st.bV (.new 0 m)=aw (e.fin ids):=by rw[aJj,dd];simp[he]
    refine⟨⟨?_,λv fr c hh=> ?_⟩,λ⟨fr,c,hh⟩=>⟨?_,?_⟩⟩
    ·show G.st.bV (.new 0 m)≠aF;rw[hg];simp
    ·have hh:G.st.bV (.new 0 m)=aw (.obj v fr c):=hh;rw[hg,aA]at hh;obtain⟨c0,rfl,_⟩:=aqr _ _ _ _ hh;exact ON v fr c0 he
    ·have hh:G.st.bV (.new 0 m)=aw (.obj ver fr c):=hh;rw[hg,aA]at hh;obtain⟨c0,rfl,_⟩:=aqr _ _ _ _ hh;exact⟨fr,c0,he⟩
    ·show(ids[m]?).bind β=β (.new i j);rw[dd];rfl
   ·cases hr
 have akP:kU aQ C.E.w w C.E.g g':=by
  have h0:=h.trans;refine⟨h0.os,h0.tape,h0.output,h0.size,λb hb=> ?_⟩;have h1:=h0.YM b hb;show match C.E.g b with | .free=>mK ids (g b)= .free/\_ | .own .dT k=>mK ids (g b)= .own .dT k/\_ | .own (.id _) k=>(mK ids (g b)= .free\/(k=0/\(mK ids (g b)= .fresh\/mK ids (g b)= .gg))\/∃i k',mK ids (g b)= .own (.id i) k'/\k<=k')/\_ | .fresh=>(mK ids (g b)= .fresh/\_)\/(_/\mK ids (g b)= .gg) | .gg=>mK ids (g b)= .gg/\_
  cases IT:C.E.g b with
  |free=>simp only[IT]at h1 ⊢;rw[h1.1];exact⟨rfl,h1.2⟩
  |own o k=>cases o with
   |dT=>simp only[IT]at h1 ⊢;rw[h1.1];exact⟨rfl,h1.2⟩
   |id i=>
    simp only[IT]at h1 ⊢;refine⟨?_,h1.2⟩;rcases h1.1 with h2 | ⟨h0,h2⟩ | ⟨i',k',h2,h3⟩
    ·rw[h2];exact .inl rfl
    ·exact .inr (.inl ⟨h0,h2.imp (λe=>by rw[e];rfl) λe=>by rw[e];rfl⟩)
    ·rw[h2];right;right;cases i' with
     |eC m=>exact⟨_,k',rfl,h3⟩
     |new i j=>exact⟨_,k',rfl,h3⟩
  |fresh=>
   simp only[IT]at h1 ⊢;rcases h1 with⟨h2,h3⟩ | ⟨h2,h3⟩
   ·exact .inl ⟨by rw[h2];rfl,h3⟩
   ·exact .inr ⟨h2,by rw[h3];rfl⟩
  |gg=>simp only[IT]at h1 ⊢;rw[h1.1];exact⟨rfl,h1.2⟩
 have azJ:iH (G.st.env w g' β'):=by
  intro id ver fr c dd;have dd:G.st.bV id=aw (.obj ver fr c):=dd;cases id with
  |eC k=>
   rw[hold,di]at dd;obtain⟨e,he,dd⟩:=dd;obtain⟨c0,rfl,rfl⟩:=aqr _ _ _ _ dd;refine yN hle (h.bD (.eC k) ver fr c0 he) rfl λpl _=>⟨rfl,λn hg=> ?_,λhg=> ?_⟩
   ·have hg:g pl.b= .own (.id (.eC k)) n:=hg;show mK ids (g pl.b)=_;rw[hg];rfl
   ·have hg:g pl.b= .free:=hg;show mK ids (g pl.b)=_;rw[hg];rfl
  |new i m=>
   cases i with
   |succ i=>rw[aJ0]at dd;cases dd
   |zero=>
    rw[aJj,di]at dd;obtain⟨id0,aCv,dd⟩:=dd;obtain⟨c0,he,rfl⟩:=aqr _ _ _ _ dd;have cQ:s.bV id0=aw (.obj ver fr c0):=by
     cases hs:s.bV id0 with
     |none=>rw[hs]at he;cases he
     |some e=>rw[hs]at he;simp only[eM]at he;rw[he]
    obtain⟨i0,j0,rfl⟩:=FE id0 (cE aCv);refine yN hle (h.bD (.new i0 j0) ver fr c0 cQ) (by show(ids[m]?).bind β=_;rw[aCv];rfl) λpl _=>⟨rfl,λn hg=> ?_,λhg=> ?_⟩
    ·have hg:g pl.b= .own (.id (.new i0 j0)) n:=hg;show mK ids (g pl.b)=_;rw[hg];simp only[mK,wC hn aCv]
    ·have hg:g pl.b= .free:=hg;show mK ids (g pl.b)=_;rw[hg];rfl
 have ho:∀id ver,C.E.yK id ver->∃k,id= .eC k:=λid ver hb=>by
  cases id with
  |eC k=>exact⟨k,rfl⟩
  |new i j=>exact absurd (hC.1 i j) hb.1
 refine⟨g',β',by rw[u9];exact OT hle hv,azJ,akP,kU.aAb (E:=C.E) (E':=G.st.env w g' β') akP,λid ver hb=> ?_,λid ver hb hc=> ?_⟩
 ·obtain⟨k,rfl⟩:=ho id ver hb;exact(hle.ref (.eC k) ver (.eC k,ver) rfl (h.le.yK _ _ hb)).1
 ·obtain⟨k,rfl⟩:=ho id ver hb;obtain⟨h1,h2⟩:=(hle.ref (.eC k) ver (.eC k,ver) rfl (h.le.yK _ _ hb)).2 hc;obtain⟨h3,h4⟩:=h.le.cur _ _ hb h1;exact⟨h3,h2.trans h4⟩
theorem EG.len{E:Env}:∀ {as:List aB} {vs:List Value},EG E as vs->as.length=vs.length
 |[],[],_=>rfl
 |_::_,_::_,⟨_,h⟩=>by simp[EG.len h]
 |[],_::_,h=>h.elim
 |_::_,[],h=>h.elim
theorem EG.get{E:Env}:∀ {as:List aB} {vs:List Value},EG E as vs->∀i,VS E (as.getD i .undef) (vs.getD i undef)
 |[],[],_,i=>by simpa using VS.undef
 |_::_,_::_,⟨h,_⟩,0=>by simpa using h
 |_::_,_::_,⟨_,h⟩,i+1=>by simpa using EG.get h i
 |[],_::_,h,_=>h.elim
 |_::_,[],h,_=>h.elim
theorem atg{w:cj}{g:Nat->iF}{β:Id->Option Pl}{fn:Func}{args:List aB}{dg:List dP}{qM:List Value}(hv:EG ((lZ dg).env w g β) args qM)(ho:iH ((lZ dg).env w g β)):
  Inv ⟨(lZ dg).env w g β⟩ g β (start fn args dg) {tmps:=qM.toArray++Array.replicate (fn.ntmps - qM.toArray.size) undef,defers:=[]} w:=by
 have hl:=hv.len;have cQ:(start fn args dg).bV=(lZ dg).bV:=by
  funext id;cases id with
  |eC k=>rfl
  |new i j=>
   simp only[start,lZ,AS.bV,aK,List.getElem?_replicate];split <;> simp
 have aCr:(start fn args dg).env w g β=(lZ dg).env w g β:=by simp only[AS.env,cQ]
 refine⟨⟨List.nodup_nil,λ_ h=>by cases h⟩,by simp[start,hl],λi=> ?_,by rw[aCr];exact ho,kU.refl _ _,by rw[aCr];exact z8.refl _⟩;rw[aCr];have h1:(start fn args dg).slot i=args.getD i .undef:=by
  simp only[start,AS.slot,aK,List.getElem?_append,List.getElem?_replicate];split
  ·rfl
  ·rw[dZ (l:=args) ak];split <;> rfl
 have h2:(qM.toArray++Array.replicate (fn.ntmps - qM.toArray.size) undef).getD i undef=qM.getD i undef:=by
  simp only[du,aK,Array.getElem?_append,Array.getElem?_replicate];simp only[gm,List.getElem?_toArray];split
  ·rfl
  ·rw[dZ (l:=qM) ak];split <;> rfl
 rw[h1,h2];exact hv.get i
theorem Inv.aDz{C:Ctx}{g:Nat->iF}{β:Id->Option Pl}{s:AS}{a:Act}{w:cj}(h:Inv C g β s a w){D:Nat}{ds:List Deferred}(hd:a.defers=vd D::ds):
  (Instr.takeDeferred D).run P w= .ok [] (w.putObj D (.deferred aF))/\Inv C g β s {a with defers:=ds} (w.putObj D (.deferred aF)):=by
 obtain⟨hn,sz⟩:=h.defers;rw[hd]at hn sz;obtain⟨D',e,hD,hh,hg⟩:=sz _ (bf ..);have e:Deferred.mk (.collected D) #[]=Deferred.mk (.collected D') #[]:=e;injection e with e _
 injection e with e
 subst e;have jQ:=(bY.1 hh).1;refine⟨run_takeDeferred hh,?_⟩;have other:∀b,b≠D->(w.putObj D (.deferred aF)).heap[b]? =w.heap[b]? :=λb hb=>World.putObj_heap_other hb
 have tw:∀b off v,w.cell? ⟨b,off,aF⟩=aw v->b≠D:=λb off v hv e=>by subst e;simp[eQ,hh]at hv
 have IU:wy (s.env w g β) (s.env (w.putObj D (.deferred aF)) g β):=by
  refine⟨⟨λb off v ⟨h1,h2⟩=>⟨?_,h2⟩,λb ob h1 h2=>⟨h1,?_⟩,λb cur e h1 h2=>⟨h1,cur,?_,rfl⟩⟩,λb ob h1 h2=>⟨h1,?_⟩⟩
  ·have h1:w.cell? ⟨b,off,aF⟩=aw v:=h1;show(w.putObj D (.deferred aF)).cell? ⟨b,off,aF⟩=aw v;rw[World.cell?_of_block (other b (tw b off v h1))];exact h1
  ·have h1:g b= .free:=h1;have h2:w.heap[b]? =aw ob:=h2
   show(w.putObj D (.deferred aF)).heap[b]? =aw ob
   rw[other b λe=>by rw[e,hg]at h1;cases h1];exact h2
  ·have h1:g b= .gg:=h1;have h2:w.heap[b]? =aw (.cells cur e (0,0)):=h2
   show(w.putObj D (.deferred aF)).heap[b]? =aw (.cells cur e (0,0))
   rw[other b λe=>by rw[e,hg]at h1;cases h1];exact h2
  ·have h1:g b= .fresh:=h1;have h2:w.heap[b]? =aw ob:=h2
   show(w.putObj D (.deferred aF)).heap[b]? =aw ob
   rw[other b λe=>by rw[e,hg]at h1;cases h1];exact h2
 have hle:cP (s.env w g β) (s.env (w.putObj D (.deferred aF)) g β):=⟨IU,λ_ _ h=>h,λ_ _ _ h=>⟨h,rfl⟩⟩;have jR:∀ {id:Id} {v:Nat} {fr:Bool} {c:aB} {pl:Pl},s.bV id=aw (.obj v fr c)->β id=aw pl->pl.b≠D:=λhs hp e=>by
  have:=((h.bD _ _ _ _ hs).label hp).2;have this:(∃k,g _= .own (.id _) k)\/(_/\g _= .free):=this;rw[e,hg]at this;rcases this with⟨k,hk⟩ | ⟨_,hk⟩
  ·cases hk
  ·cases hk
 refine⟨⟨(ia.1 hn).2,λd hd'=> ?_⟩,h.size,λi=>(h.ck i).mono hle,λid ver fr c hs=> ?_,?_,h.le.trans hle.l0⟩
 ·obtain⟨D2,e1,e2,e3,e4⟩:=sz d (aV _ hd');refine⟨D2,e1,e2,?_,e4⟩;rw[other D2 λe=>(ia.1 hn).1 (by rw[<-e,<-e1];exact hd')];exact e3
 ·exact tp.mono hle (h.bD id ver fr c hs) rfl (λpl hp=>⟨other _ (jR hs hp),rfl⟩) λq vq k v l hq _=>⟨⟨k,v,l,hq⟩,λpl hp=>⟨other _ (jR hq hp),rfl⟩⟩
 ·have ht:=h.trans;refine⟨ht.os,ht.tape,ht.output,?_,λb hb=> ?_⟩
  ·have:=ht.size;simpa[World.putObj]using this
  ·have h1:=ht.YM b hb;have hbD:b≠D:=ak;have hc:∀off v,w.cell? ⟨b,off,aF⟩=aw v->(w.putObj D (.deferred aF)).cell? ⟨b,off,aF⟩=aw v:=λoff v hv=>by rw[World.cell?_of_block (other b hbD)];exact hv
   rw[other b hbD];split at h1
   ·exact h1
   ·exact h1
   ·exact⟨h1.1,λoff v ho hv=>hc off v (h1.2 off v ho hv)⟩
   ·exact h1
   ·exact h1
theorem Rm{C:Ctx}{g:Nat->iF}{β:Id->Option Pl}{s:AS}{fn:Func}{R:Ending->cj->Prop}:∀(ds:List Deferred) {a:Act} {w:cj},Inv C g β s a w->a.defers=ds->
  (∀a2 w2,Inv C g β s a2 w2->a2.tmps=a.tmps->∃v,(results fn a.tmps).run P w2= .ok v w2/\R (.returned v) w2)->LeavesInM Fence.wide 0 P fn a.tmps R ds .returning w
 |[],a,w,h,hd,hk=>hk a w h rfl
 |d::ds,a,w,h,hd,hk=>by obtain⟨D,e,_⟩:=h.defers.2 d (by rw[hd];exact bf ..);subst e;obtain⟨h1,h2⟩:=h.aDz (P:=P) hd;exact⟨by simp,.inl ⟨D,_,rfl,h1,Rm (fn:=fn) (R:=R) ds (a:= {a with defers:=ds}) h2 rfl hk⟩⟩
theorem avf{dg:List dP}{w:cj}{g:Nat->iF}{β:Id->Option Pl}(h:dg.all dP.first=aW){k v:Nat}{fr:Bool}{c:aB}(hk:((lZ dg).env w g β).s (.eC k)=aw (.obj v fr c)):v=0:=by
 have hk:dg[k]? =aw (.obj v fr c):=by simpa[AS.env,lZ,AS.bV]using hk
 have:=cf.1 h _ (cE hk);exact fx this
theorem acL(hm:P.follows .mixedOrders=aW)(hΓ:Sound P Γ){f:jF}{fn:Func}(hf:P.funcs[f]? =aw fn)(hb:fn.body.isSome=aW)(UG:(fn.name== "runtime.NumGoroutine")=aQ){an:Ih}{N:Nat}(hL:∀c,fn.body=aw c->j8 P Γ an N (mw c))
  {args:List aB} {dg:List dP} {R:Type} {k:oH->Option R} {r:R} (hN:auc P Γ an N fn args dg k=aw r) (ayR:an.lX=aF)
  {qM:List Value} (hv:EG ((lZ dg).env w g β) args qM) (ho:iH ((lZ dg).env w g β)):(callFunc f qM.toArray).run P w= .ok (.enter f qM.toArray) w/\
   Calls P f qM.toArray w λe w'=>∃v G,e= .returned v/\k G=aw r/\FM ((lZ dg).env w g β) G v w':=by
 obtain⟨c,hc⟩:=cv.1 hb;refine⟨?_,?_⟩
 ·unfold callFunc;have hname':¬fn.name= "runtime.NumGoroutine" :=by simpa using UG
  simp[hf,hname',hc]
 ·unfold auc at hN;rw[ayR,hc]at hN;simp only at hN;split at hN
  ·cases hN
  rename_i hF;have hC:(Ctx.mk ((lZ dg).env w g β)).ok:=⟨λi j=>by simp[AS.env,lZ,AS.bV],λk v fr c hk=>avf hF hk⟩;refine callsIn_wide.1 (callsIn_of_wp_marks (F:=Fence.wide) (n:=0) hf hc trivial (qQ (rd:=aF) (C:=⟨(lZ dg).env w g β⟩) hm hΓ hC (.inl rfl) c (hL c hc) _ _ w _ _ ⟨g,β,atg hv ho⟩ hN λe s' a' w' hs' hk'=> ?_));have fin:(finish P an fn s').run k=aw r->LeavesInM Fence.wide 0 P fn a'.tmps (λe w'=>∃v G,e= .returned v/\k G=aw r/\FM ((lZ dg).env w g β) G v w') a'.defers .returning w':=λhr=>by
   obtain⟨G,h1,h2⟩:=gG.1 hr;unfold finish at h1;obtain⟨sn,aGz,h1⟩:=ax.1 h1;obtain⟨sd,aGy,h1⟩:=ax.1 h1;obtain⟨s2,h3,h4⟩:=ax.1 h1;obtain⟨s3,aJB,h4⟩:=ax.1 h4;obtain⟨s4,aJC,h4⟩:=ax.1 h4;obtain⟨y,h5,h6⟩:=ax.1 h4;obtain⟨g1,β1,aEZ⟩:=hs';refine Rm a'.defers aEZ rfl λa2 w2 aJO aDX=> ?_
   obtain⟨g0,β0,aCu⟩:=Da _ (DI _ ⟨g1,β1,aJO⟩ aGz) aGy;obtain⟨g',β',hi⟩:=Ye _ (oA hC _ ⟨g0,β0,aCu.drop _⟩ h3) aJB;have hi:=Kj hC _ hi aJC;obtain⟨z,g2,h7,h8,h9⟩:=ZZ hi h5;refine⟨z,by rw[<-aDX];exact h7,z,G,rfl,h2,?_⟩;rw[<-ay.1 h6];exact ap9 h8 hC h9
  cases e with
  |normal=>exact fin hk'
  |ret=>exact fin hk'
  |_=>cases hk'
theorem A7.KT(hm:P.follows .mixedOrders=aW)(hΓ:Sound P Γ){f:jF}{fn:Func}(hf:P.funcs[f]? =aw fn)(hb:fn.body.isSome=aW)(UG:(fn.name== "runtime.NumGoroutine")=aQ){en:Entry}{an:Ih}{N:Nat}(hL:∀c,fn.body=aw c->j8 P Γ an N (mw c))
  (h:∀args dg x,en.run args dg=aw x->auc P Γ an N fn args dg aw=aw (en.out args dg x)) (ayR:an.lX=aF):A7 P f en:=by
 intro w g β args dg qM x hv ho hx;obtain⟨h1,h2⟩:=acL hm hΓ hf hb UG hL (h args dg x hx) ayR hv ho;exact .inl ⟨h1,h2.mono λe w' ⟨v,G,e1,e2,e3⟩=>⟨v,e1,by rw[<-bu e2];exact e3⟩⟩
end
end Go.Ab
namespace Go.Ab
def dC(k:kN)(n:Int):Int:=k.wrap n
def bB(k:kN)(x y:Int):Int:=k.wrap (x+y)
def dD(k:kN)(x y:Int):Int:=k.wrap (x - y)
def eB(k:kN)(x y:Int):Int:=k.wrap (x*y)
def qG(k:kN)(x y:Int):Int:=k.wrap (x.tdiv y)
def gN(x y:Int):Int:=x.tmod y
def mH(k:kN)(x y:Int):Int:=k.wrap (x*2^(min y.toNat k.bits))
def cl(k:kN)(x y:Int):Int:=x.fdiv (2^(min y.toNat k.bits))
def azZ(k:kN)(x:Int):Int:=cF .xor k (if k.signed then -1 else k.max) x
def wD(x y:Int):Bool:=x==y
def Ak(x y:Int):Bool:=x !=y
def fV(x y:Int):Bool:=decide (x < y)
def aoy(x y:Int):Bool:=decide (x<=y)
def xS(x y:Int):Bool:=decide (x > y)
def B8(x y:Int):Bool:=decide (x>=y)
def seq(x y:ByteArray):Bool:=x.toList==y.toList
def aGk(x y:ByteArray):Bool:= !(x.toList==y.toList)
def ai4(a:ByteArray)(i:Int):Int:=((a.data.toList.getD i.toNat 0).toNat:Int)
def ei(i n:Int):Bool:=decide (0<=i/\i < n)
def inc(i n:Int):Bool:=decide (0<=i/\i<=n)
def mL(y:Int):Bool:=decide (0<=y)
def rB(y:Int):Bool:= !(decide (y=0))
open Classical in
def eu.of{D X:Type}(st:D->AS)(ka:D->Prop)(F:D->X)(out:X->Out (Exit×AS)):eu:= {X,run:=λs=>if h:∃d,st d=s/\ka d then aw (F h.choose) else aF,out}
open Classical in
theorem eu.KT{D X:Type}{st:D->AS}{ka:D->Prop}{F:D->X}{out:X->Out (Exit×AS)}(adh:∀d d',st d=st d'->d=d'){d:D}(h:ka d):(eu.of st ka F out).run (st d)=aw (F d):=by have hex:∃d',st d'=st d/\ka d':=⟨d,rfl,h⟩;show(if h:∃d',st d'=st d/\ka d' then aw (F h.choose) else aF)=_;rw[dif_pos hex,adh _ _ hex.choose_spec.1]
open Classical in
open Classical in
open Classical in
theorem atU.of{P:aR}{Γ:uO}{an:Ih}{N:Nat}{fn:Func}{i:Nat}{D X:Type}{st:D->AS}{ka:D->Prop}{F:D->X}{out:X->Out (Exit×AS)}
  (hle:an.fE (dS (sy fn i))=aw (eu.of st ka F out)) (h:∀d,ka d->∃n,ag1 P Γ an N fn i n (st d) (λe s=>aw (e,s))=(out (F d)).eval):atU P Γ an N (sy fn i):=by
 intro le hle';rw[hle]at hle';simp only[aA]at hle';subst hle';refine⟨λ_ s x hx=> ?_,λS hS=>by cases hS⟩;change (if h:∃d',st d'=s/\ka d' then aw (F h.choose) else aF)=aw x at hx;split at hx
 ·rename_i hex;obtain rfl:=bu hx;obtain⟨h1,h2⟩:=hex.choose_spec;obtain⟨n,hn⟩:=h _ h2;refine⟨n,?_⟩;show ag1 P Γ an N fn i n s _=_;rw[h1]at hn;exact hn
 ·cases hx
theorem abb(P:aR)(Γ:uO)(an:Ih)(N:Nat)(fn:Func)(i:Nat){R:Type}(n:Nat)(s:AS)(k:Exit->AS->Option R):ag1 P Γ an N fn i (n+1) s k=PC P Γ an N fn i s (λs1=>ag1 P Γ an N fn i n s1 k) k:=rfl
theorem aoE{P:aR}{Γ:uO}{an:Ih}{N:Nat}{fn:Func}{i:Nat}{D X:Type}{st:D->AS}{ka:D->Prop}{F:D->X}{out:X->Out (Exit×AS)}(μ:D->Nat)
  (h:∀d,ka d->(∃d',ka d'/\μ d' < μ d/\F d'=F d/\∀ {R:Type} (kn:AS->Option R) (kx:Exit->AS->Option R),PC P Γ an N fn i (st d) kn kx=kn (st d'))\/
   (∃r,(out (F d)).eval=aw r/\∀ {R:Type} (kn:AS->Option R) (kx:Exit->AS->Option R),PC P Γ an N fn i (st d) kn kx=kx r.1 r.2)):
  ∀d,ka d->∃n,ag1 P Γ an N fn i n (st d) (λe s=>aw (e,s))=(out (F d)).eval:=by
 have key:∀m d,μ d=m->ka d->∃n,ag1 P Γ an N fn i n (st d) (λe s=>aw (e,s))=(out (F d)).eval:=by
  intro m
  induction m using Nat.strongRecOn with
  |_ m ih=>
   intro d hm hp;rcases h d hp with⟨d',hp',jQ,hF,hr⟩ | ⟨r,hr,hx⟩
   ·obtain⟨n,hn⟩:=ih (μ d') ak d' rfl hp';exact⟨n+1,by rw[abb,hr,hn,hF]⟩
   ·exact⟨1,by rw[abb,hx,hr]⟩
 exact λd hp=>key _ d rfl hp
open Classical in
theorem ag2{P:aR}{Γ:uO}{an:Ih}{N:Nat}{fn:Func}{i:Nat}{D X:Type}{st:D->AS}{ka:D->Prop}{F:D->X}{ex:X->Exit×AS}(μ:D->Nat)(h:∀d,ka d->(∃d',ka d'/\μ d' < μ d/\F d'=F d/\∀ {R:Type} (kn:AS->Option R) (kx:Exit->AS->Option R),PC P Γ an N fn i (st d) kn kx=kn (st d'))\/(∀ {R:Type} (kn:AS->Option R) (kx:Exit->AS->Option R),PC P Γ an N fn i (st d) kn kx=kx (ex (F d)).1 (ex (F d)).2)):∀d,ka d->∃n,ag1 P Γ an N fn i n (st d) (λe s=>aw (e,s))=(Out.ok (ex (F d))).eval:=aoE (out:=λx=> .ok (ex x)) μ λd hp=>(h d hp).imp id λh=>⟨_,rfl,h⟩
open Classical in
def Entry.of{D X:Type}(params:List (Option Ty))(st:D->List aB×List dP)(ka:D->Prop)(F:D->X)(out:X->oH):Entry:= {params,X,run:=λargs dg=>if h:∃d,st d=(args,dg)/\ka d then aw (F h.choose) else aF,out:=λ_ _=>out}
open Classical in
theorem Entry.KT{D X:Type}{params:List (Option Ty)}{st:D->List aB×List dP}{ka:D->Prop}{F:D->X}{out:X->oH}(adh:∀d d',st d=st d'->d=d'){d:D}(h:ka d):
  (Entry.of params st ka F out).run (st d).1 (st d).2=aw (F d):=by
 have hex:∃d',st d'=((st d).1,(st d).2)/\ka d':=⟨d,rfl,h⟩;show(if h:∃d',st d'=((st d).1,(st d).2)/\ka d' then aw (F h.choose) else aF)=_;rw[dif_pos hex,adh _ _ hex.choose_spec.1]
open Classical in
theorem aAo{D X:Type}{params:List (Option Ty)}{st:D->List aB×List dP}{ka:D->Prop}{F:D->X}{out:X->oH}{args:List aB}{dg:List dP}{x:X}(hx:(Entry.of params st ka F out).run args dg=aw x):∃d,st d=(args,dg)/\ka d/\x=F d:=by
 change (if h:∃d',st d'=(args,dg)/\ka d' then aw (F h.choose) else aF)=aw x at hx;split at hx
 ·rename_i hex;obtain rfl:=bu hx;exact⟨_,hex.choose_spec.1,hex.choose_spec.2,rfl⟩
 ·cases hx
theorem A7.of{P:aR}{Γ:uO}(hm:P.follows .mixedOrders=aW)(hΓ:Sound P Γ){f:jF}{fn:Func}(hf:P.funcs[f]? =aw fn)(hb:fn.body.isSome=aW)(UG:(fn.name== "runtime.NumGoroutine")=aQ){an:Ih}{N:Nat}
  (hL:∀c,fn.body=aw c->j8 P Γ an N (mw c)) {D X:Type} {params:List (Option Ty)} {st:D->List aB×List dP} {ka:D->Prop} {F:D->X} {out:X->oH}
  (h:∀d,ka d->auc P Γ an N fn (st d).1 (st d).2 aw=aw (out (F d))) (ayR:an.lX=aF:=by exact rfl):A7 P f (Entry.of params st ka F out):=by
 refine A7.KT hm hΓ hf hb UG hL (λargs dg x hx=> ?_) ayR;obtain⟨d,e1,e2,rfl⟩:=aAo hx;have:=h d e2;rw[e1]at this;exact this
def aBl(P:aR)(Γ:uO)(an:Ih)(N:Nat)(fn:Func):Nat->Nat->Prop
 | 0,_=>True
 |n+1,i=>atU P Γ an N (sy fn i)/\aBl P Γ an N fn n (i+1)
theorem aBl.get{P:aR}{Γ:uO}{an:Ih}{N:Nat}{fn:Func}:∀ {n i:Nat},aBl P Γ an N fn n i->∀j,j < n->atU P Γ an N (sy fn (i+j))
 | 0,_,_,j,hj=>ak
 |n+1,i,h,0,_=>h.1
 |n+1,i,h,j+1,hj=>by have:=aBl.get h.2 j ak;rwa[show i+1+j=i+(j+1) by omega]at this
theorem j8.awy{P:aR}{Γ:uO}{an:Ih}{N:Nat}:∀(l:List Code),(∀j,j < l.length->atU P Γ an N (l.getD j .skip))->j8 P Γ an N l
 |[],_=>trivial
 |b::l,h=>⟨h 0 (by simp),j8.awy l λj hj=>by have:=h (j+1) (by simpa using hj);simpa using this⟩
theorem j8.fn{P:aR}{Γ:uO}{an:Ih}{N:Nat}{fn:Func}(n:Nat)(hn:(match fn.body with | some c=>(mw c).length | none=>0)=n)(h:aBl P Γ an N fn n 0):∀c,fn.body=aw c->j8 P Γ an N (mw c):=by
 intro c hc;refine j8.awy _ λj hj=> ?_
 rw[hc]at hn;simp only at hn;have:=h.get j ak;unfold sy at this;rw[hc]at this;simpa using this
theorem atU.none{P:aR}{Γ:uO}{an:Ih}{N:Nat}{fn:Func}{i:Nat}(h:an.fE (dS (sy fn i))=aF):atU P Γ an N (sy fn i):=λle hle=>by
 rw[h]at hle;cases hle
def aCm:uO:=λ_ _=>aF
theorem Sound.nil(P:aR):Sound P aCm:=λ_ _ _ h=>by cases h
def aoq(f:jF)(p:List aB->Bool)(en:Entry)(Γ:uO):uO:=λg vs=>match iL g f with | true=>(match p vs with | true=>aw en | false=>Γ g vs) | false=>Γ g vs
theorem Sound.cons{P:aR}{f:jF}{p:List aB->Bool}{en:Entry}{Γ:uO}(h:LP P f en)(hΓ:Sound P Γ):Sound P (aoq f p en Γ):=λg vs e hg=>by
 unfold aoq at hg;split at hg
 ·rename_i he;have:g=f:=fx he;split at hg
  ·simp only[aA]at hg;subst hg this;exact h
  ·exact hΓ g vs e hg
 ·exact hΓ g vs e hg
def Tn:List aB->Bool:=λ_=>aW
def aq5:List aB->Bool | .cw::_=>aW | _=>aQ
def ate:List aB->Bool | .dx .. ::_=>aW | _=>aQ
@[simp] theorem ao{α:Type}(x y:Option α):aG aW x y=x:=rfl
@[simp] theorem au{α:Type}(x y:Option α):aG aQ x y=y:=rfl
@[simp] theorem ah{α β:Type}(x:α)(f:α->Option β):aj (aw x) f=f x:=rfl
@[simp] theorem aEb{α:Type}(c:uZ)(x:Option α):same c c x=x:=by simp[same]
@[simp] theorem DH{α:Type}(x:Option α):nd x x=x:=by simp[nd]
structure SG(P:aR) where
 f:jF
 p:List aB->Bool
 e:Entry
 h:LP P f e
def oc{P:aR}:List (SG P)->uO
 |[]=>aCm
 |a::l=>aoq a.f a.p a.e (oc l)
theorem Sound.oc{P:aR}:∀l:List (SG P),Sound P (oc l)
 |[]=>Sound.nil P
 |a::l=>Sound.cons a.h (Sound.oc l)
abbrev SA:=List aB×List dP
def ayY(P:aR)(G:uO)(an:Ih)(N:Nat)(fn:Func){D:Type}(st:D->SA){R:Type}(d:D)(k:oH->Option R):Option R:=auc P G an N fn (st d).1 (st d).2 k
def fO(P:aR)(G:uO)(an:Ih)(N:Nat)(fn:Func)(i:Nat){D:Type}(st:D->AS){R:Type}(d:D)(kn:AS->Option R)(kx:Exit->AS->Option R):Option R:=PC P G an N fn i (st d) kn kx
abbrev aEg{D X Y:Type}(A: {R:Type}->D->(oH->Option R)->Option R)(ka:D->Prop)(add:D->Y->X)(F:D->Y)(out:X->oH):Prop:=∀d,ka d->A d aw=aw (out (add d (F d)))
abbrev oT(P:aR)(G:uO)(an:Ih)(N:Nat)(fn:Func)(i:Nat){D X Y:Type}(st:D->AS)(ka:D->Prop)(add:D->Y->X)(F:D->Y)(out:X->Out (Exit×AS)):Prop:=∀d,ka d->∃n,ag1 P G an N fn i n (st d) (λe s=>aw (e,s))=(out (add d (F d))).eval
abbrev aB4{D X Y:Type}(R: {R:Type}->D->(AS->Option R)->(Exit->AS->Option R)->Option R)(st:D->AS)(ka:D->Prop)(add:D->Y->X)(F:D->Y)(ex:X->Exit×AS)(C:Prop):Prop:=∀μ:D->Nat,(∀d,ka d->(∃d',ka d'/\μ d' < μ d/\add d' (F d')=add d (F d)/\∀ {T:Type} (kn:AS->Option T) (kx:Exit->AS->Option T),R d kn kx=kn (st d'))\/(∀ {T:Type} (kn:AS->Option T) (kx:Exit->AS->Option T),R d kn kx=kx (ex (add d (F d))).1 (ex (add d (F d))).2))->C
abbrev qN{D X Y:Type}(R: {R:Type}->D->(AS->Option R)->(Exit->AS->Option R)->Option R)(st:D->AS)(ka:D->Prop)(add:D->Y->X)(F:D->Y)(out:X->Out (Exit×AS))(C:Prop):Prop:=∀μ:D->Nat,(∀d,ka d->(∃d',ka d'/\μ d' < μ d/\add d' (F d')=add d (F d)/\∀ {T:Type} (kn:AS->Option T) (kx:Exit->AS->Option T),R d kn kx=kn (st d'))\/(∃r,(out (add d (F d))).eval=aw r/\∀ {T:Type} (kn:AS->Option T) (kx:Exit->AS->Option T),R d kn kx=kx r.1 r.2))->C
theorem aGw{P:aR}{G:uO}{an:Ih}{N:Nat}{fn:Func}{i:Nat}{D X Y:Type}{st:D->AS}{ka:D->Prop}{add:D->Y->X}{F:D->Y}{ex:X->Exit×AS}:aB4 (fO P G an N fn i st) st ka add F ex (oT P G an N fn i st ka add F λx=> .ok (ex x)):=λ μ h=>ag2 (F:=λd=>add d (F d)) μ h
theorem sk{P:aR}{G:uO}{an:Ih}{N:Nat}{fn:Func}{i:Nat}{D X Y:Type}{st:D->AS}{ka:D->Prop}{add:D->Y->X}{F:D->Y}{out:X->Out (Exit×AS)}:qN (fO P G an N fn i st) st ka add F out (oT P G an N fn i st ka add F out):=λ μ h=>aoE (F:=λd=>add d (F d)) (out:=out) μ h
def oN:List (Nat×ru)->Nat->ru
 |[],_=> {}
 |a::l,r=>bif iL r a.1 then a.2 else oN l r
def oM:List (Nat×ru×ru)->Nat->Bool->ru
 |[],_,_=> {}
 |a::l,r,b=>bif iL r a.1 then(bif b then a.2.2 else a.2.1) else oM l r b
def pX.{v} {α:Type v}:List (Nat×α)->Nat->Option α
 |[],_=>aF
 |a::l,r=>bif iL r a.1 then aw a.2 else pX l r
inductive Lf where
 |d (t:Ty)
 |n
@[reducible] def Lf.den:Lf->Type
 | .d t=>t.den
 | .n=>Nat
@[reducible] def Lf.atN:List Lf->Type
 |[]=>Unit
 |[a]=>a.den
 |a::b::l=>a.den×Lf.atN (b::l)
abbrev aEi:=List (Sigma Lf.den)
def Lf.mk:(ts:List Lf)->Lf.atN ts->aEi
 |[],_=> []
 |[a],x=> [⟨a,x⟩]
 |a::b::l,x=>⟨a,x.1⟩::Lf.mk (b::l) x.2
theorem Lf.mk_inj:∀(ts:List Lf) (x y:Lf.atN ts),Lf.mk ts x=Lf.mk ts y->x=y
 |[],_,_,_=>rfl
 |[a],x,y,h=>by
  injection h with h _
  injection h
 |a::b::l,(x,u),(y,v),h=>by
  injection h with h h2
  injection h with _ h
  have h:x=y:=h;rw[h,Lf.mk_inj (b::l) u v h2]
def aB.leaves:aB->aEi
 | .d .unit _=> []
 | .d (.arr _ t) l=> [⟨.d (.slice t),l⟩]
 | .d t x=> [⟨.d t,x⟩]
 | .dB t x=> [⟨.d t,x⟩]
 | .vec _ t l=> [⟨.d (.slice t),l⟩]
 | .mp k v l=> [⟨.d (.slice (.pair k v)),l⟩]
 | .rA _ _ k v l _=> [⟨.d (.slice (.pair k v)),l⟩]
 | .xx _ f _=>f.leaves
 | .dx _ _ _ _ _ n=> [⟨.n,n⟩]
 | .pr a b=>a.leaves++b.leaves
 | .cons a b=>a.leaves++b.leaves
 | .fn _ c=>c.leaves
 | .bx _ _ c=>c.leaves
 |_=> []
def dP.leaves:dP->aEi
 | .obj _ _ c=>c.leaves
 | .dead=> []
def SA.leaves(s:SA):aEi:=s.1.flatMap aB.leaves++s.2.flatMap dP.leaves
def AS.leaves(s:AS):aEi:=s.ck.flatMap aB.leaves++(s.dg.flatMap dP.leaves++s.news.flatMap (·.flatMap dP.leaves))
theorem aCK(ts:List Lf){st:Lf.atN ts->SA}(h:∀d,SA.leaves (st d)=Lf.mk ts d)(d d':Lf.atN ts)(e:st d=st d'):d=d':=Lf.mk_inj ts d d' (by rw[<-h,<-h,e])
theorem qF(ts:List Lf){st:Lf.atN ts->AS}(h:∀d,AS.leaves (st d)=Lf.mk ts d)(d d':Lf.atN ts)(e:st d=st d'):d=d':=Lf.mk_inj ts d d' (by rw[<-h,<-h,e])
def Entry.fD{D X Y:Type}(params:List (Option Ty))(st:D->SA)(ka:D->Prop)(add:D->Y->X)(F:D->Y)(out:X->oH):Entry:=Entry.of params st ka (λd=>add d (F d)) out
def aJv{X Y:Type}(x:X⊕Y):Out (X⊕Y):= .br x.isLeft (.get x.getLeft? λa=> .ok (.inl a)) (.get x.getRight? λb=> .ok (.inr b))
theorem aDq{X Y:Type}(x y:X⊕Y)(h:(aJv x).eval=aw y):y=x:=by cases x <;> exact(bu h).symm
def Entry.aCY{D X X' Y:Type}(params:List (Option Ty))(st:D->SA)(ka:D->Prop)(add:D->Y->X⊕X')(F:D->Y)(out:X⊕X'->oH):Entry:= {Entry.fD params st ka add F out with sp:=aJv,ajb:=aDq}
theorem A7.aKp{P:aR}{f:jF}{D X X' Y:Type}{params:List (Option Ty)}{st:D->SA}{ka:D->Prop}{add:D->Y->X⊕X'}{F:D->Y}{out:X⊕X'->oH}(h:A7 P f (Entry.fD params st ka add F out)):A7 P f (Entry.aCY params st ka add F out):=h
def eu.fD{D X Y:Type}(st:D->AS)(ka:D->Prop)(add:D->Y->X)(F:D->Y)(out:X->Out (Exit×AS)):eu:=eu.of st ka (λd=>add d (F d)) out
def aog{D:Type}(E:Entry)(st:D->SA):D->Option E.X:=λd=>E.run (st d).1 (st d).2
def jq{D:Type}(E:eu)(st:D->AS):D->Option E.X:=λd=>E.run (st d)
abbrev nw{D X Y:Type}(call:D->Option X)(ka:D->Prop)(add:D->Y->X)(F:D->Y):Prop:=∀ {d:D},ka d->call d=aw (add d (F d))
theorem aFC{D X Y:Type}{params:List (Option Ty)}{st:D->SA}{ka:D->Prop}{add:D->Y->X}{F:D->Y}{out:X->oH}(adh:∀d d',st d=st d'->d=d'):nw (aog (Entry.fD params st ka add F out) st) ka add F:=λh=>Entry.KT adh h
theorem aFD{D X X' Y:Type}{params:List (Option Ty)}{st:D->SA}{ka:D->Prop}{add:D->Y->X⊕X'}{F:D->Y}{out:X⊕X'->oH}(adh:∀d d',st d=st d'->d=d'){d:D}(h:ka d):(Entry.aCY params st ka add F out).run (st d).1 (st d).2=aw (add d (F d)):=aFC (params:=params) (out:=out) adh h
theorem qL{D X Y:Type}{st:D->AS}{ka:D->Prop}{add:D->Y->X}{F:D->Y}{out:X->Out (Exit×AS)}(adh:∀d d',st d=st d'->d=d'):nw (jq (eu.fD st ka add F out) st) ka add F:=λh=>eu.KT adh h
def azs(P:aR)(fn:Func):Bool:=P.follows .mixedOrders && fn.body.isSome && !(fn.name== "runtime.NumGoroutine")
def aCj(fn:Func):Nat:=match fn.body with | some c=>(mw c).length | none=>0
theorem A7.fn{P:aR}{l:List (SG P)}{f:jF}{fn:Func}{an:Ih}{N:Nat}{D X Y:Type}{params:List (Option Ty)}{st:D->SA}{ka:D->Prop}{add:D->Y->X}{F:D->Y}{out:X->oH}(n:Nat)
  (hc:(P.funcs[f]?,azs P fn,aCj fn)=(aw fn,aW,n))
  (h:aEg (@ayY P (oc l) an N fn D st) ka add F out)
  (hL:aBl P (oc l) an N fn n 0) (ayR:an.lX=aF:=by exact rfl):A7 P f (Entry.fD params st ka add F out):=by
 injection hc with h1 h2
 injection h2 with h2 h3
 unfold azs at h2;simp only[al,cD]at h2;exact A7.of h2.1.1 (Sound.oc l) h1 h2.1.2 h2.2 (j8.fn n h3 hL) h ayR
theorem atU.fD{P:aR}{Γ:uO}{an:Ih}{N:Nat}{fn:Func}{i:Nat}{D X Y:Type}{st:D->AS}{ka:D->Prop}{add:D->Y->X}{F:D->Y}{out:X->Out (Exit×AS)}
  (h:oT P Γ an N fn i st ka add F out) (hle:an.fE (dS (sy fn i))=aw (eu.fD st ka add F out):=by kernel_rfl):atU P Γ an N (sy fn i):=atU.of hle h
abbrev K1(R:Type):=oH->Option R
abbrev K2(R:Type):=AS->Option R
abbrev K3(R:Type):=Exit->AS->Option R
@[reducible] def bm{D Y:Type}(_:D)(y:Y):Y:=y
structure Ls{D Y X:Type}(ka:D->Prop)(add:D->Y->X)(F:D->Y) where
 st:D->AS
 ex:X->Exit×AS
noncomputable def oP{D Y X:Type}{ka:D->Prop}{add:D->Y->X}{F:D->Y}(st:D->AS)(ex:X->Exit×AS):Ls ka add F:=⟨st,ex⟩
section
variable {D Y X:Type} {ka:D->Prop} {add:D->Y->X} {F:D->Y} (L:Ls ka add F)
def Ls.out:X->Out (Exit×AS):=λx=> .ok (L.ex x)
def Ls.E:eu:=eu.fD L.st ka add F L.out
def Ls.call:D->Option X:=jq L.E L.st
abbrev Ls.go{R:Type}(kx:K3 R)(x:X):Option R:=kx (L.ex x).1 (L.ex x).2
abbrev Ls.RS:Prop:=nw L.call ka add F
end
theorem rL(ts:List Lf){Y X:Type}{ka:Lf.atN ts->Prop}{add:Lf.atN ts->Y->X}{F:Lf.atN ts->Y}(L:Ls ka add F)(h:∀d,AS.leaves (L.st d)=Lf.mk ts d:=by exact λ_=>cK):nw L.call ka add F:=qL (qF ts h)
structure Fs(P:aR){D Y X:Type}(ka:D->Prop)(add:D->Y->X)(F:D->Y) where
 i:jF
 fn:Func
 st:D->SA
 out:X->oH
 ps:List (Option Ty)
 G:List (SG P)
 an:Ih
 N:Nat
noncomputable def fg{P:aR}{D Y X:Type}{ka:D->Prop}{add:D->Y->X}{F:D->Y}(i:jF)(fn:Func)(st:D->SA)(out:X->oH)(ps:List (Option Ty))(G:List (SG P):=[])(an:Ih:= {})(N:Nat:=0):Fs P ka add F:=⟨i,fn,st,out,ps,G,an,N⟩
section
variable {P:aR} {D Y X:Type} {ka:D->Prop} {add:D->Y->X} {F:D->Y} (f:Fs P ka add F) {D' Y' X':Type} {Pre':D'->Prop} {add':D'->Y'->X'} {F':D'->Y'}
def Fs.A{R:Type}(d:D)(k:K1 R):Option R:=ayY P (oc f.G) f.an f.N f.fn f.st d k
def Fs.R(i:Nat)(L:Ls Pre' add' F'){R:Type}(d:D')(kn:K2 R)(kx:K3 R):Option R:=fO P (oc f.G) f.an f.N f.fn i L.st d kn kx
abbrev Fs.Ok:Prop:=∀d,ka d->f.A d aw=aw (f.out (add d (F d)))
abbrev Fs.j8(i:Nat)(L:Ls Pre' add' F'):Prop:=oT P (oc f.G) f.an f.N f.fn i L.st Pre' add' F' L.out
def Fs.E:Entry:=Entry.fD f.ps f.st ka add F f.out
def Fs.call:D->Option X:=aog f.E f.st
theorem Fs.lX(i:Nat)(L:Ls Pre' add' F'):aB4 (@Fs.R P D Y X ka add F f D' Y' X' Pre' add' F' i L) L.st Pre' add' F' L.ex (f.j8 i L):=λ μ h=>ag2 (F:=λd=>add' d (F' d)) μ h
abbrev Fs.RS:Prop:=nw f.call ka add F
def Fs.aHI(p:List aB->Bool)(ok:f.Ok)(n:Nat:=0)(hL:aBl P (oc f.G) f.an f.N f.fn n 0:=by exact trivial)(hc:(P.funcs[f.i]?,azs P f.fn,aCj f.fn)=(aw f.fn,aW,n):=by kernel_rfl)(hy:Nat.blt f.i yB=aW:=by exact rfl)(hn:f.an.lX=aF:=by exact rfl):SG P:=⟨f.i,p,f.E,.of (A7.fn n hc ok hL hn) hy⟩
def Fs.fh(ok:f.Ok)(n:Nat:=0)(hL:aBl P (oc f.G) f.an f.N f.fn n 0:=by exact trivial)(hc:(P.funcs[f.i]?,azs P f.fn,aCj f.fn)=(aw f.fn,aW,n):=by kernel_rfl)(hy:Nat.blt f.i yB=aW:=by exact rfl)(hn:f.an.lX=aF:=by exact rfl):SG P:=f.aHI Tn ok n hL hc hy hn
end
theorem rE(ts:List Lf){P:aR}{Y X:Type}{ka:Lf.atN ts->Prop}{add:Lf.atN ts->Y->X}{F:Lf.atN ts->Y}(f:Fs P ka add F)(h:∀d,SA.leaves (f.st d)=Lf.mk ts d:=by exact λ_=>cK):nw f.call ka add F:=aFC (aCK ts h)
abbrev tu:Ty:=(.int .u64)
abbrev ti:Ty:=(.int .i64)
abbrev tb:Ty:=(.int .u8)
abbrev tB:Ty:=(.slice tb)
abbrev Bs:=(List Int)
abbrev tH:Ty:=(.arr 32 tb)
abbrev tU:Ty:=(.slice tu)
abbrev oS:Ty:=(.pair tH (.pair ti .unit))
abbrev tj:=(Bs×(Int×Unit))
abbrev oE:Ty:=(.pair tu (.pair tu .unit))
abbrev Sg:=(Int×(Int×Unit))
abbrev TS:Ty:=(.pair ti (.pair (.slice oE) (.pair tu .unit)))
abbrev FB:=(Int×((List Sg)×(Int×Unit)))
abbrev dM:Ty:=(.pair oS (.pair TS .unit))
abbrev fB:=(tj×(FB×Unit))
abbrev gW:Ty:=(.pair tU (.pair ti (.pair ti (.pair tu .unit))))
abbrev mr:=(Bs×(Int×(Int×(Int×Unit))))
abbrev zV:Ty:=(.pair (.slice gW) .unit)
abbrev Lk:=((List mr)×Unit)
abbrev dO:Ty:=(.pair ti (.pair zV .unit))
abbrev gb:=(Int×(Lk×Unit))
abbrev eU:Ty:=(.pair (.slice dM) (.pair (.slice dO) (.pair ti .unit)))
abbrev eT:=((List fB)×((List gb)×(Int×Unit)))
abbrev gK:Ty:=(.pair tB (.pair .bool .unit))
abbrev dQ:=(Bs×(Bool×Unit))
abbrev aKo:Ty:=(.pair ti (.pair (.fo oE) (.pair tu .unit)))
abbrev aGs:=(Int×((Option (List Sg))×(Int×Unit)))
abbrev rh:Ty:=(.pair oS (.pair aKo .unit))
abbrev A8:=(tj×(aGs×Unit))
end Go.Ab
namespace Go.Ab
theorem tx{n:Int}(h1: -9223372036854775808<=n)(h2:n<=9223372036854775807):IntKind.i64.wrap n=n:=by simp[IntKind.wrap,IntKind.bits,IntKind.signed];split <;> omega
theorem iC{x y:Int}(h1: -9223372036854775808<=x+y)(h2:x+y<=9223372036854775807):bB .i64 x y=x+y:=tx h1 h2
theorem gY{x y:Int}(h1: -9223372036854775808<=x - y)(h2:x - y<=9223372036854775807):dD .i64 x y=x - y:=tx h1 h2
theorem wE{x y:Int}(h1: -9223372036854775808<=x*y)(h2:x*y<=9223372036854775807):eB .i64 x y=x*y:=tx h1 h2
theorem azT{x:Int}(h1: -9223372036854775808<=x)(h2:x<=9223372036854775807):dC .i64 x=x:=tx h1 h2
def vw{n:Nat}(w:BitVec n):Int:=(w.toNat:Int)
theorem gh(n:Nat)(x:Int):vw (bk n x)=x%((2^n:Nat):Int):=by unfold vw;rw[si];have:0<=x%((2^n:Nat):Int):=jv _ (by have:=Nat.two_pow_pos n;omega);omega
theorem QL{n:Nat}(w:BitVec n):0<=vw w:=gJ _
theorem ayK{n:Nat}(w:BitVec n):vw w < ((2^n:Nat):Int):=by have:=w.isLt;unfold vw;omega
theorem tI{n:Nat}(w:BitVec n):bk n (vw w)=w:=by apply BitVec.eq_of_toNat_eq;have:=gh n (vw w);unfold vw at this ⊢;have h:=w.isLt;rw[dU (gJ _) ak]at this;omega
theorem wrap_u32(x:Int):IntKind.u32.wrap x=vw (bk 32 x):=by rw[gh];simp[IntKind.wrap,IntKind.bits,IntKind.signed]
theorem wrap_u64(x:Int):IntKind.u64.wrap x=vw (bk 64 x):=by rw[gh];simp[IntKind.wrap,IntKind.bits,IntKind.signed]
theorem wrap_u8(x:Int):IntKind.u8.wrap x=vw (bk 8 x):=by rw[gh];simp[IntKind.wrap,IntKind.bits,IntKind.signed]
theorem Ck(x y:BitVec 32):bB .u32 (vw x) (vw y)=vw (x+y):=by rw[bB,wrap_u32,BitVec.ofInt_add,tI,tI]
theorem aox(x:Int):dC .u32 x=vw (bk 32 x):=wrap_u32 x
theorem Mz(x:Int):dC .u64 x=vw (bk 64 x):=wrap_u64 x
theorem Pr(x:Int):dC .u8 x=vw (bk 8 x):=wrap_u8 x
theorem awo{n:Nat}(x:BitVec n):bk n ((x.toNat:Nat):Int)=x:=tI x
theorem pR(op:BinOp)(x y:BitVec 32):cF op .u32 (vw x) (vw y)=vw (match op with | .and=>x &&& y | .or=>x ||| y | .xor=>x^^^y | _=>x &&& ~~~y):=by unfold cF;split <;> (simp only[IntKind.bits,tI,wrap_u32,awo];rfl)
theorem apA(op:BinOp)(x y:BitVec 64):cF op .u64 (vw x) (vw y)=vw (match op with | .and=>x &&& y | .or=>x ||| y | .xor=>x^^^y | _=>x &&& ~~~y):=by unfold cF;split <;> (simp only[IntKind.bits,tI,wrap_u64,awo];rfl)
theorem avb(x y:Nat):Int.fdiv (x:Int) (y:Int)=((x / y:Nat):Int):=by rw[kj _ (gJ _)];rfl
theorem OE(k:Nat):(2:Int)^k=((2^k:Nat):Int):=by simp
theorem aDm{n:Nat}(w:BitVec n)(k:Nat):Int.fdiv (vw w) (2^(min k n))=vw (w >>> k):=by
 rw[OE];unfold vw;rw[avb,BitVec.toNat_ushiftRight,Nat.shiftRight_eq_div_pow];congr 1;rcases Nat.le_total k n with hk | hk
 ·rw[fS hk]
 ·rw[Nat.min_eq_right hk,Nat.div_eq_of_lt w.isLt,Nat.div_eq_of_lt];exact Nat.lt_of_lt_of_le w.isLt (lu ak hk)
theorem F9(w:BitVec 32)(k:Int):cl .u32 (vw w) k=vw (w >>> k.toNat):=aDm w k.toNat
theorem aDl{n:Nat}(w:BitVec n)(k:Nat):bk n (vw w*2^(min k n))=w <<< k:=by
 apply BitVec.eq_of_toNat_eq;rw[si,BitVec.toNat_shiftLeft,Nat.shiftLeft_eq];unfold vw;rw[OE];have e:((w.toNat:Int)*((2^min k n:Nat):Int))=((w.toNat*2^min k n:Nat):Int):=by simp
 rw[e];have:(((w.toNat*2^min k n:Nat):Int)%((2^n:Nat):Int)).toNat=(w.toNat*2^min k n)%2^n:=ak;rw[this];rcases Nat.le_total k n with hk | hk
 ·rw[fS hk]
 ·rw[Nat.min_eq_right hk,Nat.mul_mod_left];obtain⟨m,rfl⟩:=Nat.exists_eq_add_of_le hk;rw[oX,<-Nat.mul_assoc,Nat.mul_right_comm,Nat.mul_mod_left]
theorem MF(w:BitVec 32)(k:Int):mH .u32 (vw w) k=vw (w <<< k.toNat):=by rw[mH,wrap_u32];congr 1;exact aDl w k.toNat
theorem bo{i n:Int}(h1:0<=i)(h2:i < n):ei i n=aW:=by simp[ei,h1,h2]
theorem tz{i n:Int}(h1:0<=i)(h2:i<=n):inc i n=aW:=by simp[inc,h1,h2]
theorem aU{x y:Int}(h:x < y):fV x y=aW:=by simp[fV,h]
theorem aT{x y:Int}(h:¬x < y):fV x y=aQ:=by simp[fV];omega
theorem yV{x y:Int}(h:x<=y):aoy x y=aW:=by simp[aoy,h]
theorem sS{x y:Int}(h:¬x<=y):aoy x y=aQ:=by simp[aoy];omega
theorem dk{x y:Int}(h:x > y):xS x y=aW:=by simp[xS];omega
theorem cJ{x y:Int}(h:¬x > y):xS x y=aQ:=by simp[xS];omega
theorem gf{x y:Int}(h:x>=y):B8 x y=aW:=by simp[B8];omega
theorem eH{x y:Int}(h:¬x>=y):B8 x y=aQ:=by simp[B8];omega
theorem dJ{x y:Int}(h:x=y):wD x y=aW:=by simp[wD,h]
theorem fj{x y:Int}(h:¬x=y):wD x y=aQ:=by simp[wD,h]
theorem eR{x y:Int}(h:¬x=y):Ak x y=aW:=by simp[Ak,h]
theorem cZ{x y:Int}(h:x=y):Ak x y=aQ:=by simp[Ak,h]
theorem s5{x:Int}(h:0<=x):mL x=aW:=by simp[mL,h]
theorem aI{p:Prop} [Decidable p] (h:p):decide p=aW:=by simp[h]
theorem aJ{p:Prop} [Decidable p] (h:¬p):decide p=aQ:=by simp[h]
theorem cV{n b:Nat}(h:n*b<=140737488355328)(h2:n<=9223372036854775807):db n b=aW:=by simp[db,h,h2]
def from_{α:Type}(f:Nat->α->α)(t:Nat)(l:List α):List α:=l.mapIdx λi x=>if i < t then x else f i x
theorem Ip{α:Type}(f:Nat->α->α)(l:List α)(t:Nat)(h:t < l.length):from_ f (t+1) (l.set t (f t l[t]))=from_ f t l:=by
 unfold from_;apply pN (by simp);intro i h1 h2;simp only[List.getElem_mapIdx,List.getElem_set];by_cases hi:t=i
 ·subst hi;simp
 ·simp only[if_neg hi];by_cases h3:i < t
  ·rw[if_pos ak,if_pos h3]
  ·rw[if_neg ak,if_neg h3]
theorem Mk{α:Type}(f:Nat->α->α)(l:List α)(t:Nat)(h:l.length<=t):from_ f t l=l:=by unfold from_;apply pN (by simp);intro i h1 h2;simp only[List.getElem_mapIdx];rw[if_pos ak]
theorem Uz{α:Type}(f:Nat->α->α)(n:Nat)(x:α):from_ f 0 (ag n x)=(List.range n).map λi=>f i x:=by unfold from_;apply pN (by simp);intro i h1 h2;simp
theorem cC{t:Ty}{l:List t.den}{i:Nat}(h:i < l.length):nth t l i=l[i]:=by simp[nth,h]
end Go.Ab
namespace Go.Ab.N
section
variable {α:Type} {x y:Option α} {a b n:Nat} {i j:Int}
theorem lt:aG (fV i j) x y=if i < j then x else y:=by unfold fV;split <;> rename_i h <;> simp[h]
theorem le:aG (aoy i j) x y=if i<=j then x else y:=by unfold aoy;split <;> rename_i h <;> simp[h]
theorem gt:aG (xS i j) x y=if j < i then x else y:=by unfold xS;split <;> rename_i h <;> simp[h]
theorem ge:aG (B8 i j) x y=if j<=i then x else y:=by unfold B8;split <;> rename_i h <;> simp[h]
theorem eq:aG (wD i j) x y=if i=j then x else y:=by
 by_cases h:i=j
 ·rw[dJ h,if_pos h];rfl
 ·rw[fj h,if_neg h];rfl
theorem ne:aG (Ak i j) x y=if i=j then y else x:=by
 by_cases h:i=j
 ·rw[cZ h,if_pos h];rfl
 ·rw[eR h,if_neg h];rfl
theorem ib:aG (ei i j) x y=if 0<=i/\i < j then x else y:=by unfold ei;split <;> rename_i h <;> simp[h]
theorem ic:aG (inc i j) x y=if 0<=i/\i<=j then x else y:=by unfold inc;split <;> rename_i h <;> simp[h]
theorem nn:aG (mL i) x y=if 0<=i then x else y:=by unfold mL;split <;> rename_i h <;> simp[h]
theorem nz:aG (rB i) x y=if i=0 then y else x:=by unfold rB;split <;> rename_i h <;> simp[h]
theorem dc{p:Prop} [Decidable p]:aG (decide p) x y=if p then x else y:=by split <;> rename_i h <;> simp[h]
theorem rm:aG (db n b) x y=if n*b<=140737488355328/\n<=9223372036854775807 then x else y:=by unfold db;exact dc
theorem an{c d:Bool}:aG (c && d) x y=aG c (aG d x y) y:=by cases c <;> rfl
theorem or{c d:Bool}:aG (c || d) x y=aG c x (aG d x y):=by cases c <;> rfl
theorem no{c:Bool}:aG (!c) x y=aG c y x:=by cases c <;> rfl
theorem aEl(h:a+b<=9223372036854775807):bB .i64 (a:Int) (b:Int)=((a+b:Nat):Int):=by rw[iC ak ak];omega
theorem ot(h:a+dr n<=9223372036854775807):bB .i64 (a:Int) (no_index (dr n))=((a+dr n:Nat):Int):=aEl h
theorem aIY(h:dr n+a<=9223372036854775807):bB .i64 (no_index (dr n)) (a:Int)=((dr n+a:Nat):Int):=aEl h
theorem aGj(h:b<=a)(h2:a<=9223372036854775807):dD .i64 (a:Int) (b:Int)=((a - b:Nat):Int):=by rw[gY ak ak];omega
theorem aJu(h:dr n<=a)(h2:a<=9223372036854775807):dD .i64 (a:Int) (no_index (dr n))=((a - dr n:Nat):Int):=aGj h h2
theorem aJt(h:a<=dr n)(h2:(dr n:Nat)<=9223372036854775807):dD .i64 (no_index (dr n)) (a:Int)=((dr n - a:Nat):Int):=aGj h h2
theorem aFs(h:a*b<=9223372036854775807):eB .i64 (a:Int) (b:Int)=((a*b:Nat):Int):=by
 have e:(a:Int)*(b:Int)=((a*b:Nat):Int):=by simp
 rw[wE ak ak,e]
theorem aJs(h:a*dr n<=9223372036854775807):eB .i64 (a:Int) (no_index (dr n))=((a*dr n:Nat):Int):=aFs h
theorem aD5(h:dr n*a<=9223372036854775807):eB .i64 (no_index (dr n)) (a:Int)=((dr n*a:Nat):Int):=aFs h
theorem aHz(h:a<=9223372036854775807):qG .i64 (a:Int) (b:Int)=((a / b:Nat):Int):=by
 have:(a:Int).tdiv (b:Int)=((a / b:Nat):Int):=by rw[kk ak];simp
 have hl:a / b<=a:=Nat.div_le_self a b;unfold qG;rw[this];generalize a / b=c at hl;exact tx ak ak
theorem aHy(h:a<=9223372036854775807):qG .i64 (a:Int) (no_index (dr n))=((a / dr n:Nat):Int):=aHz h
theorem aHA:gN (a:Int) (b:Int)=((a%b:Nat):Int):=by unfold gN;rw[gX ak];simp
theorem aFz:gN (a:Int) (no_index (dr n))=((a%dr n:Nat):Int):=aHA
theorem cN(h:a<=9223372036854775807):dC .i64 (a:Int)=(a:Int):=azT ak ak
theorem cL(h:(dr n:Nat)<=9223372036854775807):dC .i64 (no_index (dr n))=dr n:=cN h
theorem tL:ab (no_index (dr n))=dr n:=rfl
end
end Go.Ab.N
namespace Go.Ab
section
variable {P:aR}
def aGu{X Y:Type} [Inhabited Y] (x:Option X):Option (X×Y):=aj x λy=>aw (y,default)
def aGv{X Y:Type} [Inhabited X] (x:Option Y):Option (X×Y):=aj x λy=>aw (default,y)
@[simp] theorem aDF{X Y:Type} [Inhabited Y] (x:X):aGu (Y:=Y) (aw x)=aw (x,default):=rfl
@[simp] theorem aDG{X Y:Type} [Inhabited X] (x:Y):aGv (X:=X) (aw x)=aw (default,x):=rfl
end
theorem S1:(type_of% @N.lt)/\(type_of% @N.le)/\(type_of% @N.gt)/\(type_of% @N.ge)/\(type_of% @N.eq)/\(type_of% @N.ne)/\(type_of% @N.ib)/\(type_of% @N.ic)/\(type_of% @N.nn)/\(type_of% @N.nz)/\(type_of% @N.dc)/\(type_of% @N.rm)/\(type_of% @N.an)/\(type_of% @N.or)/\(type_of% @N.no)/\(type_of% @ao)/\(type_of% @au)/\(type_of% @ah):=⟨@N.lt,@N.le,@N.gt,@N.ge,@N.eq,@N.ne,@N.ib,@N.ic,@N.nn,@N.nz,@N.dc,@N.rm,@N.an,@N.or,@N.no,@ao,@au,@ah⟩
theorem S2:(type_of% @ah)/\(type_of% @N.aEl)/\(type_of% @N.ot)/\(type_of% @N.aIY)/\(type_of% @N.aGj)/\(type_of% @N.aJu)/\(type_of% @N.aJt)/\(type_of% @N.aFs)/\(type_of% @N.aJs)/\(type_of% @N.aD5)/\(type_of% @N.aHz)/\(type_of% @N.aHy)/\(type_of% @N.aHA)/\(type_of% @N.aFz)/\(type_of% @N.cN)/\(type_of% @N.cL)/\(type_of% @N.tL)/\(type_of% @aa)/\(type_of% @eW)/\(type_of% @hJ)/\(type_of% @eF):=⟨@ah,@N.aEl,@N.ot,@N.aIY,@N.aGj,@N.aJu,@N.aJt,@N.aFs,@N.aJs,@N.aD5,@N.aHz,@N.aHy,@N.aHA,@N.aFz,@N.cN,@N.cL,@N.tL,@aa,@eW,@hJ,@eF⟩
end Go.Ab
namespace Go.Ab
open Go.ChangeShapes Go.WideShapes Go.ChangeAt Go.RowKit Go.Deep
def afG:(t:Ty)->t.den->Prop
 | .int k,x=>(Lit.int k x).wf=aW
 | .bool,_=>True
 | .str,s=>(s:ByteArray).size<=maxLen
 | .slice t,l=>(l:List t.den).length<=maxLen/\∀x∈(l:List t.den),afG t x
 | .unit,_=>True
 | .pair a b,x=>afG a x.1/\afG b x.2
 | .arr n t,l=>(l:List t.den).length=n/\∀x∈(l:List t.den),afG t x
 | .fo _,_ | .mR _,_ | .gC _,_ | .eK _,_ | .js _,_ | .jp _,_=>False
def yT(P:aR)(rd:TypeId->Ty->Bool):Nat->List Field->Ty->Bool
 |_,[],.unit=>aW
 |off,f::fs,.pair a b=>iL f.offset off && (rd f.type a && (iL (P.cellsOf f.type) a.size && yT P rd (off+a.size) fs b))
 |_,_,_=>aQ
def BT(P:aR):Nat->TypeId->Ty->Bool
 | 0,_,_=>aQ
 |n+1,T,ty=>
  match P.underlying T,ty with
  |some (.int k),.int k'=>decide (k=k')
  |some .bool,.bool=>aW
  |some .string,.str=>aW
  |some (.slice e),.slice t=>BT P n e t && iL (P.cellsOf e) t.size
  |some (.array k e),.arr k' t=>iL k k' && (BT P n e t && (iL (P.cellsOf e) t.size && iL (P.cellsOf T) (k*t.size)))
  |some (.struct fs),ty=>yT P (BT P n) 0 fs.toList ty && iL (P.cellsOf T) ty.size
  |_,_=>aQ
theorem ay8{a b:Nat}:(iL a b=aW)=(a=b):=propext ⟨fx,λh=>by subst h;exact Nat.beq_refl a⟩
theorem ag4{α β:Type}{f:α->Option β}:∀ {l:List α} {r:List β},l.mapM f=aw r->r.length=l.length/\∀(i:Nat) (x:α),l[i]? =aw x->f x=r[i]?
 |[],r,h=>by simp only[List.mapM_nil,Option.pure_def,aA]at h;subst h;exact⟨rfl,λi x h=>by simp at h⟩
 |y::l,r,h=>by
  simp only[List.mapM_cons,Option.bind_eq_bind,Option.pure_def,Option.bind_eq_some_iff,aA]at h;obtain⟨b,hb,r',hr,rfl⟩:=h;obtain⟨h1,h2⟩:=ag4 hr;refine⟨by simp[h1],λi x hi=> ?_⟩;cases i with
  |zero=>
   simp only[fF,aA]at hi;subst hi;simpa using hb
  |succ i=>
   simp only[mA]at hi ⊢;exact h2 i x hi
theorem apM{w:cj}{base:Nat}{a:Addr}{n:Nat}{cs:List Value}(h:w.cells? base a n=aw cs):cs.length=n/\∀i,i < n->w.cell? (a.add i)=cs[i]? :=by
 unfold World.cells? at h;split at h
 ·obtain⟨h1,h2⟩:=ag4 h;exact⟨by simpa using h1,λi hi=>h2 i i (by simp[hi])⟩
 ·cases h
theorem add_add(a:Addr)(x y:Nat):(a.add x).add y=a.add (x+y):=by unfold Addr.add;by_cases hx:x=0 <;> by_cases hy:y=0 <;> simp[hx,hy,dz]
theorem atd{w:cj}{a:Addr}{v:Value}(h:w.cell? a=aw v):a.spot=aF:=by
 unfold eQ at h;split at h
 ·split at h
  ·cases h
  ·rename_i hs;cases hh:a.spot with
   |none=>rfl
   |some _=>simp[hh]at hs
 ·cases h
theorem aDg{E:Env}(hg:∀b,E.g b= .free){a:Addr}{vs:List Value}(h:∀i,i < vs.length->E.w.cell? (a.add i)=vs[i]?):wz E (aw a) vs:=by
 intro i v hv;have hi:i < vs.length:=(dE.1 hv).1;have h0:=h 0 ak;rw[cn ak]at h0;have hs:a.spot=aF:=atd (a:=a) (by simpa[Addr.add]using h0);obtain⟨b,off,sp⟩:=a;simp only at hs;subst hs;refine⟨b,off,rfl,?_,?_⟩
 ·have:=h i hi;rw[hv]at this;rw[<-this];unfold Addr.add;split
  ·rename_i h;subst h;rfl
  ·rfl
 ·unfold kr;rw[hg b];trivial
section
variable {H:Type} {enc:TypeId×Value->H} {P:aR} {base:Nat} {spare:Nat->Bool} {held:Bool} {E:Env}
theorem ao8{t:Ty}{R:List Value->t.den->Prop}{G:t.den->Prop}{w:cj}{a:Addr}{z:Nat}(hR:∀c x,R c x->c.length=z):∀(len:Nat),(∀i,i < len->∃c x,R c x/\G x/\∀j,j < z->w.cell? (a.add (i*z+j))=c[j]?)->
  ∃(vs:List Value) (l:List t.den),vs.length=len*z/\l.length=len/\(∀i,i < vs.length->w.cell? (a.add i)=vs[i]?)/\bp R vs l/\∀x∈l,G x
 | 0,_=>⟨[],[],by simp,rfl,λi h=>by simp at h,rfl,λ_ h=>by cases h⟩
 |len+1,h=>by
  obtain⟨vs,l,h1,h2,h3,h4,h5⟩:=ao8 hR len λi hi=>h i ak
  obtain⟨c,x,g1,g2,g3⟩:=h len ak;have hc:=hR c x g1;refine⟨vs++c,l++ [x],by rw[ai,h1,hc,eG,iW],by rw[ai,h2];rfl,λi hi=> ?_,bp.append h4 ⟨c,[],by simp,g1,rfl⟩,λy hy=> ?_⟩
  ·rw[ai,h1,hc]at hi;by_cases hl:i < vs.length
   ·rw[h3 i hl,iy hl]
   ·rw[List.getElem?_append_right ak,h1,<-g3 (i - len*z) ak,show len*z+(i - len*z)=i by omega]
  ·rcases bJ.1 hy with hy | hy
   ·exact h5 y hy
   ·rw[cX.1 hy];exact g2
theorem aaH{t:Ty}{R:List Value->t.den->Prop}{G:t.den->Prop}{z:Nat}:∀(n:Nat) (cs:List Value),cs.length=n*z->(∀i,i < n->∃x,R ((cs.drop (i*z)).take z) x/\G x)->
  ∃l:List t.den,l.length=n/\bp R cs l/\∀x∈l,G x
 | 0,cs,h,_=>⟨[],rfl,bP (by simpa using h),λ_ h=>by cases h⟩
 |n+1,cs,h,hi=>by
  obtain⟨x,g1,g2⟩:=hi 0 ak;obtain⟨l,h1,h2,h3⟩:=aaH (R:=R) (G:=G) (z:=z) n (cs.drop z) (by rw[da,h,eG];omega) λi aaZ=>by obtain⟨y,k1,k2⟩:=hi (i+1) ak;refine⟨y,?_,k2⟩;rw[fL,show z+i*z=(i+1)*z by rw[eG];omega];exact k1
  refine⟨x::l,by simp[h1],⟨cs.take z,cs.drop z,(dm z cs).symm,by simpa using g1,h2⟩,λy hy=> ?_⟩;rcases cz.1 hy with rfl | hy
  ·exact g2
  ·exact h3 y hy
theorem R5{rd:TypeId->Ty->Bool}{cs:List Value}:∀(fs:List Field) (off:Nat) (ty:Ty),yT P rd off fs ty=aW->off+ty.size<=cs.length->
  (∀f∈fs,∀t,rd f.type t=aW->P.cellsOf f.type=t.size->∃v,cq E t ((cs.drop f.offset).take (P.cellsOf f.type)) v/\afG t v)->∃v,cq E ty ((cs.drop off).take ty.size) v/\afG ty v
 |[],off,ty,h,hl,_=>by
  cases ty <;> simp only[yT]at h <;> first | cases h | skip
  exact⟨(),by simp[cq,Ty.size],trivial⟩
 |f::fs,off,ty,h,hl,hf=>by
  cases ty <;> simp only[yT]at h <;> first | cases h | skip
  rename_i a b;simp only[al,ay8]at h;obtain⟨h1,h2,h3,h4⟩:=h;have hl:off+(a.size+b.size)<=cs.length:=hl;obtain⟨v,k1,k2⟩:=hf f (bf ..) a h2 h3;obtain⟨u,k3,k4⟩:=R5 fs (off+a.size) b h4 ak λf' hf'=>hf f' (aV _ hf')
  refine⟨(v,u),⟨(cs.drop off).take a.size,(cs.drop (off+a.size)).take b.size,?_,?_,k3⟩,k2,k4⟩
  ·rw[show Ty.size (.pair a b)=a.size+b.size from rfl,List.take_add,fL]
  ·rw[h1,h3]at k1;exact k1
theorem NG(hg:∀b,E.g b= .free):∀(n:Nat) (T:TypeId) (ty:Ty),BT P n T ty=aW->∀ {fuel:Nat} {cs:List Value} {x:DataW H×List MemPlace},DataW.trod enc P E.w base spare held fuel T cs=aw x->∃v,cq E ty cs v/\afG ty v
 | 0,_,_,h,_,_,_,_=>by simp[BT]at h
 |n+1,T,ty,h,fuel,cs,x,hx=>by
  unfold BT at h;split at h
  ·rename_i k k' hu;obtain rfl:=of_decide_eq_true h;obtain⟨m,rfl,_,hw⟩:=DataW.trod_int hu hx;exact⟨m,rfl,hw⟩
  ·rename_i hu;obtain⟨b,rfl,_⟩:=DataW.trod_bool hu hx;exact⟨b,rfl,trivial⟩
  ·rename_i hu;obtain⟨s,rfl,_,hs⟩:=DataW.trod_string hu hx;exact⟨s,rfl,hs⟩
  ·rename_i e t hu;simp only[al,ay8]at h;obtain⟨h1,h2⟩:=h;rcases open_slice hu hx with⟨rfl,_⟩ | ⟨a,len,cap,m,f,D,Pl,rfl,_,hl,hm,aE7,_,he⟩
   ·exact⟨([]:List t.den),⟨aF,0,[],rfl,az _,λh=>by simp at h,λi v hv=>by simp at hv,rfl⟩,aL _,λ_ h=>by cases h⟩
   ·have aGb:len<=m:=by rw[aE7];split <;> omega
    obtain⟨vs,l,k1,k2,k3,k4,k5⟩:=ao8 (t:=t) (R:=cq E t) (G:=afG t) (w:=E.w) (a:=a) (z:=t.size) (λc x h=>cq.size h) len λi hi=>by obtain⟨cs',g1,g2⟩:=he i ak;obtain⟨v,g3,g4⟩:=NG hg n e t h1 g2;obtain⟨g5,g6⟩:=apM g1;refine⟨cs',v,g3,g4,λj hj=> ?_⟩;rw[<-g6 j ak,add_add,h2]
    refine⟨l,⟨aw a,cap,vs,by rw[k2],by rw[k2];exact hl,λ_=>rfl,aDg hg k3,k4⟩,by rw[k2];omega,k5⟩
  ·rename_i k e k' t hu;simp only[al,ay8]at h;obtain⟨rfl,h1,h2,h3⟩:=h;obtain⟨xs,m,rfl,_,hl,ayT,he⟩:=DataW.trod_array hu hx;obtain⟨l,k1,k2,k3⟩:=aaH (t:=t) (R:=cq E t) (G:=afG t) (z:=t.size) k cs (by rw[hl,h3]) λi hi=>by have:=he i hi;rw[cn ak,h2]at this;exact NG hg n e t h1 this
   exact⟨l,⟨k1,k2⟩,k1,k3⟩
  ·rename_i ty fs hu;simp only[al,ay8]at h;obtain⟨h1,h2⟩:=h;obtain⟨xs,m,rfl,_,hl,ayT,he⟩:=DataW.trod_struct hu hx;obtain⟨v,k1,k2⟩:=R5 (E:=E) (cs:=cs) fs.toList 0 _ h1 (by rw[hl,h2];omega) λf hf t ht hc=>by
    obtain⟨i,hi,aJK⟩:=List.mem_iff_getElem.1 hf;have hi':i < fs.size:=by simpa using hi
    have:=he i f (by rw[<-aJK];simp[hi']);rw[cn ak]at this;exact NG hg n f.type t ht this
   refine⟨v,?_,k2⟩;rwa[aM,bg ak]at k1
  ·cases h
end
end Go.Ab
namespace Go.Ab
open Go.ChangeShapes Go.WideShapes Go.ChangeAt Go.RowKit Go.Deep
section
variable {H:Type} {enc:TypeId×Value->H} {P:aR} {base b0:Nat} {spare:Nat->Bool} {held:Bool} {E:Env} {W:cj}
theorem aky{rd:TypeId->Ty->Bool}{fs:List Field}{off:Nat}{ty:Ty}(h:yT P rd off fs ty=aW):ty.agg=aW:=by cases fs <;> cases ty <;> first | rfl | (simp[yT]at h)
theorem axv(hw:E.w=W)(hg:∀b,E.g b= .free){n:Nat}{t:TypeId}{ty:Ty}(h:BT P n t ty=aW){v:Value}{d:DataW H}{ps:List MemPlace}(u9:Value.okWide P W .any base t v)(hd:DataW.Trod enc P W b0 spare held t v d ps):
  ∃x:ty.den,VS E (.d ty x) v/\afG ty x:=by
 subst hw;obtain⟨fuel,hf⟩:=hd;obtain⟨x,h1,h2⟩:=NG hg n t ty h hf;refine⟨x,⟨v.cells.toList,h1,?_⟩,h2⟩;cases n with
 |zero=>simp[BT]at h
 |succ n=>
  unfold BT at h;split at h
  ·rename_i k k' hu;obtain⟨m,rfl⟩:=okWide_int hu u9;rfl
  ·rename_i hu;obtain⟨m,rfl⟩:=okWide_bool hu u9;rfl
  ·rename_i hu;obtain⟨m,rfl⟩:=okWide_string hu u9;rfl
  ·rename_i hu;obtain⟨a,len,cap,rfl⟩:=okWide_slice hu u9;rfl
  ·rename_i hu;simp only[Value.okWide,hu]at u9;obtain⟨cs,rfl,_⟩:=u9;show _=_;simp[Value.cells]
  ·rename_i fs hu;simp only[Value.okWide,hu]at u9;obtain⟨cs,rfl,_⟩:=u9;simp only[al]at h;have:=aky h.1;simp only[aB.agg,this,gr,Value.cells,Array.toArray_toList]
  ·cases h
def DV:List Ty->Type
 |[]=>Unit
 |t::ts=>t.den×DV ts
def DV.qM:(ts:List Ty)->DV ts->List aB
 |[],_=> []
 |t::ts,x=> .d t x.1::DV.qM ts x.2
def DV.aHG:(ts:List Ty)->DV ts->Prop
 |[],_=>True
 |t::ts,x=>afG t x.1/\DV.aHG ts x.2
def v8(P:aR)(n:Nat):List TypeId->List Ty->Bool
 |[],[]=>aW
 |T::Ts,t::ts=>BT P n T t && v8 P n Ts ts
 |_,_=>aQ
theorem abQ(hw:E.w=W)(hg:∀b,E.g b= .free){n:Nat}:∀ {Ts:List TypeId} {ts:List Ty} {vs:List Value} {ds:List (DataW H)} {ps:List MemPlace},v8 P n Ts ts=aW->
  (∀(j:Nat) t v,Ts[j]? =aw t->vs[j]? =aw v->Value.okWide P W .any base t v)->DataW.TrodAll enc P W b0 spare held Ts vs ds ps->∃x:DV ts,EG E (DV.qM ts x) vs/\DV.aHG ts x
 |[],[],vs,ds,ps,_,_,h=>by obtain⟨rfl,rfl,rfl⟩:=trodAll_nil h;exact⟨(),trivial,trivial⟩
 |T::Ts,[],_,_,_,h,_,_=>by simp[v8]at h
 |[],t::ts,_,_,_,h,_,_=>by simp[v8]at h
 |T::Ts,t::ts,vs,ds,ps,h,u9,hd=>by simp only[v8,al]at h;obtain⟨v,vs',d,ds',p,q,rfl,rfl,rfl,h1,h2⟩:=trodAll_cons hd;obtain⟨x,k1,k2⟩:=axv hw hg h.1 (u9 0 T v rfl rfl) h1;obtain⟨y,k3,k4⟩:=abQ hw hg h.2 (λj t v hj hv=>u9 (j+1) t v (by simpa using hj) (by simpa using hv)) h2;exact⟨(x,y),⟨k1,k3⟩,⟨k2,k4⟩⟩
def wR(P:aR)(Ts:List TypeId):Bool:=Ts.all λt=>P.readableRec t && decide (t < P.types.size)
theorem J8(hl:laidOutB P=aW){W':cj}(hb:Below W.heap.size W W')(sp:Nat->Bool):∀ {Ts:List TypeId} {vs:List Value} {ds:List (DataW H)} {ps:List MemPlace},wR P Ts=aW->(∀p∈ps,p.block < W.heap.size)->(∀p∈ps,sp p.block=aW)->
  DataW.TrodAll enc P W 0 (λ_=>aW) aW Ts vs ds ps->DataW.TrodAll enc P W' 0 sp aW Ts vs ds ps
 |[],vs,ds,ps,_,_,_,h=>by obtain⟨rfl,rfl,rfl⟩:=trodAll_nil h;exact trodAll_mk0
 |T::Ts,vs,ds,ps,hr,jQ,hs,h=>by obtain⟨v,vs',d,ds',p,q,rfl,rfl,rfl,h1,h2⟩:=trodAll_cons h;simp only[wR,fp,al,bh]at hr;have h3:=WideElems.Trod_stays hl hr.1.1 hr.1.2 h1 (λx hx=>hb.same (jQ x (bJ.2 (.inl hx)))) (λx hx=>hs x (bJ.2 (.inl hx)));exact⟨p,q,h3,J8 hl hb sp (by simpa[wR]using hr.2) (λx hx=>jQ x (bJ.2 (.inr hx))) (λx hx=>hs x (bJ.2 (.inr hx))) h2,rfl⟩
end
theorem H2{H:Type}{enc:TypeId×Value->H}{P:aR}{W:cj}{b0:Nat}{spare:Nat->Bool}{held:Bool}:∀ {Ts:List TypeId} {vs:List Value} {ds:List (DataW H)} {ps:List MemPlace},DataW.TrodAll enc P W b0 spare held Ts vs ds ps->ds.length=Ts.length
 |[],_,_,_,h=>by obtain⟨_,rfl,_⟩:=trodAll_nil h;rfl
 |_::_,_,_,_,h=>by obtain⟨v,vs',d,ds',p,q,rfl,rfl,rfl,h1,h2⟩:=trodAll_cons h;simp[H2 h2]
theorem ahE{H:Type}{enc:TypeId×Value->H}{P:aR}{f:Func}{s:ChangeSpec}{W W':cj}{args:Array Value}{v:Value}{ds gs:List (DataW H)}{before:List MemPlace}{tb:TypeId}
  (hl:laidOutB P=aW) (ajR:wR P f.params.toList=aW) (agH:s.vars=[]) (aHi:f.resultTypes= #[tb]) (aHk:P.underlying tb=aw .bool)
  (hW:DataW.Whole enc P f.params.toList s.vars aQ W args.toList ds gs before) (aCs:s.fn H (ds++gs)= {results:=[.lit (.bool aW)],args:=ds}) (hb:Below W.heap.size W W') (hv:v= .bool aW):
  s.post enc P f aQ aW aQ aQ W args v W':=by
 subst hv;have hW':=hW;have hold:∀p∈before,(λb=>decide (b < W.heap.size)) p.block=aW:=λp hp=>by simpa using hW.lt p hp
 obtain⟨p,q,hA,hV,rfl,hz,_⟩:=hW;rw[agH]at hV;obtain⟨rfl,rfl⟩:=trodVars_none hV;have jQ:∀x∈p,x.block < W.heap.size:=λx hx=>hW'.lt x (bJ.2 (.inl hx))
 have EN:∀sp:Nat->Bool,(∀x∈p,sp x.block=aW)->DataW.TrodAll enc P W' 0 sp aW f.params.toList args.toList (s.fn H (ds++ [])).args p:=λsp hs=>by rw[aCs];exact J8 hl hb sp ajR jQ hs hA
 have aHe:∀(b:Nat) (sp:Nat->Bool) (hd:Bool),DataW.TrodAll enc P W' b sp hd f.resultTypes.toList ((Value.bool aW).resultList f.resultTypes.size) (s.fn H (ds++ [])).results []:=λb sp hd=>by rw[aCs,aHi];exact trodAll_mk1 (shut_bool aHk _)
 have YW:∀sp:Nat->Bool,DataW.TrodVars enc P W' sp s.vars (s.fn H (ds++ [])).vars []:=λsp=>by rw[aCs,agH];rfl
 refine⟨ds,[],p++ [],[],p,[],hW',aHe _ _ _,EN _ (λx hx=>hold x (bJ.2 (.inl hx))),YW _,hb.frame _,λh=>by cases h⟩
theorem Hn{P:aR}{n:Nat}:∀ {Ts:List TypeId} {ts:List Ty},v8 P n Ts ts=aW->Ts.length=ts.length
 |[],[],_=>rfl
 |[],_::_,h=>by simp[v8]at h
 |_::_,[],h=>by simp[v8]at h
 |_::_,_::_,h=>by simp only[v8,al]at h;simp[Hn h.2]
theorem aqG{H:Type}{enc:TypeId×Value->H}{P:aR}{f:jF}{fn:Func}{en:Entry}{s:ChangeSpec}{tb:TypeId}(n:Nat)(tys:List Ty)(hD:A7 P f en)(hf:P.funcs[f]? =aw fn)(aEJ:fn.body.isSome=aW)(UG:(fn.name== "runtime.NumGoroutine")=aQ)
  (hl:laidOutB P=aW) (aBH:v8 P n fn.params.toList tys=aW) (ajR:wR P fn.params.toList=aW) (agH:s.vars=[]) (aHi:fn.resultTypes= #[tb]) (aHk:P.underlying tb=aw .bool)
  (aCs:∀ds:List (DataW H),ds.length=tys.length->s.fn H (ds++ [])= {results:=[.lit (.bool aW)],args:=ds})
  (pU:∀x:DV tys,DV.aHG tys x->∃r,en.run (DV.qM tys x) []=aw r/\en.out (DV.qM tys x) [] r=⟨.d .bool aW,[],[]⟩)
  {W:cj} {base:Nat} {args:Array Value} {ds gs:List (DataW H)} {before:List MemPlace}
  (u9:∀(j:Nat) t v,fn.params[j]? =aw t->args[j]? =aw v->Value.okWide P W .any base t v)
  (hW:DataW.Whole enc P fn.params.toList s.vars aQ W args.toList ds gs before):
  Calls P f args W λe W'=>∃v,e= .returned v/\s.post enc P fn aQ aW aQ aQ W args v W':=by
 have hW':=hW;obtain⟨p,q,hA,hV,_,_,_⟩:=hW;rw[agH]at hV;obtain⟨rfl,rfl⟩:=trodVars_none hV;obtain⟨x,aGf,aGg⟩:=abQ (E:=(lZ []).env W (λ_=> .free) (λ_=>aF)) rfl (λ_=>rfl) aBH (λj t v hj hv=>u9 j t v (by simpa using hj) (by simpa using hv)) hA;obtain⟨r,aCB,aow⟩:=pU x aGg;have cQ:(callFunc f args).run P W= .ok (.enter f args) W:=by
  unfold callFunc;obtain⟨c,hc⟩:=cv.1 aEJ;have hname':¬fn.name= "runtime.NumGoroutine" :=by simpa using UG
  simp[hf,hname',hc]
 have hlen:ds.length=tys.length:=by rw[H2 hA,Hn aBH]
 have ho:iH ((lZ []).env W (λ_=> .free) (λ_=>aF)):=λid ver fr c h=>by
  exfalso;cases id with
  |eC k=>simp[AS.env,AS.bV,lZ]at h
  |new i j=>simp[AS.env,AS.bV,lZ]at h
 rcases hD W (λ_=> .free) (λ_=>aF) (DV.qM tys x) [] args.toList r aGf ho aCB with⟨_,hc⟩ | ⟨v,w',hc,_⟩
 ·refine hc.mono λe w' he=> ?_
  obtain⟨v,rfl,g',β',h1,_,h2,_⟩:=he;rw[aow]at h1;refine⟨v,rfl,ahE hl ajR agH aHi aHk hW' (aCs ds hlen) ⟨h2.os,h2.tape,h2.output.1,h2.size,λb hb=>(h2.YM b hb).2⟩ ?_⟩;obtain⟨cs,k1,k2⟩:=h1;have k1:cs=[.bool aW]:=k1;subst k1;have k2: [Value.bool aW]=[v]:=k2;simpa using k2.symm
 ·rw[show args.toList.toArray=args from Array.toArray_toList ..,cQ]at hc;cases hc
end Go.Ab
namespace Go.Ab
abbrev W:=BitVec 32
def vA(w:W)(k:Nat):W:=w <<< (32 - k) ||| w >>> k
def aEo(a b c d:Int):W:=bk 32 a <<< 24 ||| bk 32 b <<< 16 ||| bk 32 c <<< 8 ||| bk 32 d
def be(l:List Int)(i:Nat):W:=aEo (l.getD (4*i) 0) (l.getD (4*i+1) 0) (l.getD (4*i+2) 0) (l.getD (4*i+3) 0)
structure St where
 a:W
 b:W
 c:W
 d:W
 e:W
 f:W
 g:W
 h:W
def St.l(s:St):List Int:=[vw s.a,vw s.b,vw s.c,vw s.d,vw s.e,vw s.f,vw s.g,vw s.h]
def aHK(x:W):W:=vA x 7^^^vA x 18^^^x >>> 3
def aHL(y:W):W:=vA y 17^^^vA y 19^^^y >>> 10
def aBX(l:List W)(i:Nat):W:=l.getD (i - 16) 0+aHK (l.getD (i - 15) 0)+l.getD (i - 7) 0+aHL (l.getD (i - 2) 0)
def ext(l:List W):List W:=l++ [aBX l l.length]
def ayX(m:List W):Nat->List W
 | 0=>m
 |n+1=>ext (ayX m n)
def words(b:List Int):List W:=(List.range 16).map (be b)
def sched(b:List Int):List W:=ayX (words b) 48
def kl:List Nat:=[0x428a2f98,0x71374491,0xb5c0fbcf,0xe9b5dba5,0x3956c25b,0x59f111f1,0x923f82a4,0xab1c5ed5,0xd807aa98,0x12835b01,0x243185be,0x550c7dc3,0x72be5d74,0x80deb1fe,0x9bdc06a7,0xc19bf174,0xe49b69c1,0xefbe4786,0x0fc19dc6,0x240ca1cc,0x2de92c6f,0x4a7484aa,0x5cb0a9dc,0x76f988da,0x983e5152,0xa831c66d,0xb00327c8,0xbf597fc7,0xc6e00bf3,0xd5a79147,0x06ca6351,0x14292967,0x27b70a85,0x2e1b2138,0x4d2c6dfc,0x53380d13,0x650a7354,0x766a0abb,0x81c2c92e,0x92722c85,0xa2bfe8a1,0xa81a664b,0xc24b8b70,0xc76c51a3,0xd192e819,0xd6990624,0xf40e3585,0x106aa070,0x19a4c116,0x1e376c08,0x2748774c,0x34b0bcb5,0x391c0cb3,0x4ed8aa4a,0x5b9cca4f,0x682e6ff3,0x748f82ee,0x78a5636f,0x84c87814,0x8cc70208,0x90befffa,0xa4506ceb,0xbef9a3f7,0xc67178f2]
def kw(i:Nat):W:=BitVec.ofNat 32 (kl.getD i 0)
def Px:List Int:=kl.map λ(n:Nat)=>(n:Int)
def lX(s:St)(k w:W):St:=
 let t:=s.h+(vA s.e 6^^^vA s.e 11^^^vA s.e 25)+(s.g^^^s.e &&& (s.f^^^s.g))+k+w
 let r:=vA s.a 2^^^vA s.a 13^^^vA s.a 22
 let most:=s.a &&& s.b ||| s.c &&& (s.a ||| s.b)
 ⟨t+r+most,s.a,s.b,s.c,s.d+t,s.e,s.f,s.g⟩
def rounds(ws:List W)(s:St):Nat->St
 | 0=>s
 |n+1=>lX (rounds ws s n) (kw n) (ws.getD n 0)
def PF(s:St)(b:List Int):St:=
 let v:=rounds (sched b) s 64
 ⟨v.a+s.a,v.b+s.b,v.c+s.c,v.d+s.d,v.e+s.e,v.f+s.f,v.g+s.g,v.h+s.h⟩
def sx:St:=⟨0x6a09e667,0xbb67ae85,0x3c6ef372,0xa54ff53a,0x510e527f,0x9b05688c,0x1f83d9ab,0x5be0cd19⟩
def Ac:Nat->St->List Int->St
 | 0,s,_=>s
 |n+1,s,l=>Ac n (PF s (l.take 64)) (l.drop 64)
def blocks(s:St)(l:List Int):St:=Ac (l.length / 64) s l
def aF0(w:W)(k:Nat):Int:=vw ((w >>> (24 - 8*k)).setWidth 8)
def aza(w:W):List Int:=[aF0 w 0,aF0 w 1,aF0 w 2,aF0 w 3]
def aAq(s:St):List Int:=aza s.a++aza s.b++aza s.c++aza s.d++aza s.e++aza s.f++aza s.g++aza s.h
def gV(n:Int):List Int:=[n / 2^56%256,n / 2^48%256,n / 2^40%256,n / 2^32%256,n / 2^24%256,n / 2^16%256,n / 2^8%256,n%256]
def za(n:Nat):Nat:=(119 - n%64)%64
def pad(b:List Int):List Int:=b++128::(ag (za b.length) 0++gV (8*b.length))
def aDk(b:List Int):List Int:=aAq (blocks sx (pad b))
def oU(parts:List (List Int)):List Int:=parts.flatMap λp=>gV p.length++p
def QC(name:List Int)(parts:List (List Int)):List Int:=gV name.length++name++oU parts
def tag(name:List Int)(parts:List (List Int)):List Int:=aDk (QC name parts)
theorem ano(b:List Int):(aDk b).length=32:=rfl
theorem bT(n:Int):(gV n).length=8:=rfl
theorem u7(l:List W):(ext l).length=l.length+1:=by simp[ext]
theorem zS(m:List W):∀n,(ayX m n).length=m.length+n
 | 0=>rfl
 |n+1=>by rw[ayX,u7,zS m n];omega
theorem eY(b:List Int):(words b).length=16:=by simp[words]
theorem FV:∀(n:Nat) (s:St) (a b:List Int),a.length=64*n->∀m,Ac (n+m) s (a++b)=Ac m (Ac n s a) b
 | 0,s,a,b,h,m=>by have:a=[]:=bP ak;subst this;simp[Ac]
 |n+1,s,a,b,h,m=>by rw[show n+1+m=(n+m)+1 by omega,Ac,Ac];rw[iV ak,List.drop_append_of_le_length ak];exact FV n _ _ _ (by simp;omega) m
theorem I7(s:St)(a b:List Int)(h:a.length%64=0):blocks s (a++b)=blocks (blocks s a) b:=by
 unfold blocks;have e:(a++b).length / 64=a.length / 64+b.length / 64:=by simp;omega
 rw[e];exact FV _ _ _ _ ak _
theorem FW(s:St)(l:List Int)(h:64<=l.length):blocks s l=blocks (PF s (l.take 64)) (l.drop 64):=by unfold blocks;rw[show l.length / 64=(l.drop 64).length / 64+1 by simp;omega];rfl
theorem C4(s:St)(l:List Int)(h:l.length < 64):blocks s l=s:=by unfold blocks;rw[show l.length / 64=0 by omega];rfl
def SB(x:Int):Prop:=0<=x/\x < 256
def Bytes(l:List Int):Prop:=∀x∈l,SB x
theorem azb(w:BitVec 8):SB (vw w):=⟨QL w,ayK w⟩
theorem akf(s:St):Bytes (aAq s):=by intro x hx;simp only[aAq,aza,bJ,cz,j9,or_false]at hx;rcases hx with((((((hx | hx) | hx) | hx) | hx) | hx) | hx) | hx <;> rcases hx with rfl | rfl | rfl | rfl <;> exact azb _
theorem apJ(b:List Int):Bytes (aDk b):=akf _
theorem Ce(n:Int):Bytes (gV n):=by intro x hx;simp only[gV,cz,j9,or_false]at hx;rcases hx with rfl | rfl | rfl | rfl | rfl | rfl | rfl | rfl <;> exact⟨ak,ak⟩
end Go.Ab
end
