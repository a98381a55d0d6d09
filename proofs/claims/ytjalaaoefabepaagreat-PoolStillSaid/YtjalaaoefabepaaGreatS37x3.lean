/-
  Made short by a program of mine (wip/tools/mini.py).
-/
import Derived.Test.YtjalaaoefabepaaGreatS37x2
import Derived.Scope
import Derived.Laws.Externs
import Derived.KernelRfl
import Derived.ProofKit
import Derived.OpenShut
import Derived.Deep.Slices
import Derived.Carry
set_option linter.unusedVariables false
set_option linter.unusedSimpArgs false
set_option maxRecDepth 100000
set_option synthInstance.maxSize 5000
open Go renaming IntKind->kY,Operand->bB
open List renaming replicate->ae
open BitVec renaming ofInt->bn
open Nat renaming blt->lM,beq->jD
open Go.World renaming cell?->eL
open Go.Sem renaming run_bind->dM
open Go.Result renaming andThen_ok->cU
open Go.Op renaming operands->bU
open Go.Call renaming operands->dU
open OfNat renaming ofNat->dE
open Int renaming toNat->ab
open Option renaming some->aj,none->aF
open Bool renaming true->aL,false->aS
noncomputable section
namespace Go.Ab
section
variable {P:Program} {Γ:pb} {bu:List Nat} {ops:Array Oper} {o:Oper} {s t:AS}
def Loc(P:Program)(Γ:pb)(bu:List Nat)(ops:Array Oper)(o:Oper)(s s':AS):Prop:=∃E,App o.dst E s s'/\CK (eN Γ ops s o) s E/\∀t,gi (eN Γ ops s o) s t->∃t',Vm P Γ bu ops o t=aj t'/\App o.dst E t t'
theorem atE{s':AS}(he:Vm P Γ bu ops o s=aj s'):Loc P Γ bu ops o s s':=by
 unfold Vm at he;split at he
 ·obtain⟨E,h1,h2,h3⟩:=ahI (ops:=ops) he;grind [Vm,Loc]
 ·rename_i j want hg;split at he
  ·rename_i q hq;split at he
   ·rename_i b hb;have af0:∀t,gi (eN Γ ops s o) s t->t.slot q= .d .bool b:=λt ht=>by rw[ht.bZ q (bg.2 (.inr (by grind [Gu])))];exact hb
    by_cases e:b=want
    ·rw[if_pos e]at he;obtain⟨E,h1,h2,h3⟩:=ahI (ops:=ops) he;grind [Vm,Loc]
    ·rw[if_neg e]at he;simp at he;subst he;exact⟨⟨.nil,λ_=>aF,[]⟩,App.BA _ _ _,⟨λ_ _ h=>by grind,λ_ h=>by grind⟩,λt ht=>⟨_,by grind [Vm],App.BA _ _ _⟩⟩
   ·rename_i hb;have af0:∀t,gi (eN Γ ops s o) s t->t.slot q= .nil:=λt ht=>by rw[ht.bZ q (bg.2 (.inr (by grind [Gu])))];exact hb
    simp at he;subst he;exact⟨⟨.nil,λ_=>aF,[]⟩,App.BA _ _ _,⟨λ_ _ h=>by grind,λ_ h=>by grind⟩,λt ht=>⟨_,by grind [Vm],App.BA _ _ _⟩⟩
   grind
  grind
open Classical in
def ayk(p:Prop):Option Unit:=if p then aj () else aF
theorem tA{p:Prop}(h:ayk p=aj ()):p:=by grind [ayk]
theorem H2{p:Prop}(h:p):ayk p=aj ():=by grind [ayk]
theorem yy{c:Call}{F:bB}(eK:o.op= .call c)(hc:c.callee= .value F)(ht:gi (eN Γ ops s o) s t):t.ev F=s.ev F/\c.args.toList.map t.ev=c.args.toList.map s.ev:=by
 have xU:∀z,z=F\/z∈c.args.toList->z∈o.op.operands.toList:=λz hz=>by
  rw[eK];simp only[bU,dU,hc,df,bg];rcases hz with rfl | hz
  ·exact .inl (by simp)
  ·exact .inr hz
 exact⟨ht.ev (xU F (.inl rfl)),eY λx hx=>ht.ev (xU x (.inr hx))⟩
theorem Ge.plain{R0:Type}{k0:AS->Option R0}{r0:R0}(h:∀t,gi (eN Γ ops s o) s t->∀ {R:Type} (k:AS->Option R),wh P Γ bu ops o t k=afW P Γ bu ops o t k)(he:afW P Γ bu ops o s k0=aj r0):Ge P Γ bu ops o s:=by
 obtain⟨s1,h1,_⟩:=Sh he;obtain⟨E,a1,w1,l1⟩:=atE h1;refine⟨λE'=>E'=E,⟨E,rfl⟩,λ_ e=>e▸w1,λt ht=> ?_⟩;obtain⟨t',h2,h3⟩:=l1 t ht;refine⟨λ_ e=>e▸⟨t',h3⟩,λk r=> ?_⟩;rw[h t ht,aL2];constructor
 ·rintro⟨t2,h4,h5⟩ E' t3 rfl h6;rw[h2]at h4;obtain rfl:=bh h4;rw[App.aKT h6 h3];exact h5
 ·exact λh4=>⟨t',h2,h4 E t' rfl h3⟩
theorem Ge.put(v:aA)(h:∀t,gi (eN Γ ops s o) s t->∀ {R:Type} (k:AS->Option R),wh P Γ bu ops o t k=k (t.put o.dst v)):Ge P Γ bu ops o s:=by
 refine⟨λE=>E=⟨v,λ_=>aF,[]⟩,⟨_,rfl⟩,λ_ e=>e▸⟨λ_ _ h=>by simp at h,λ_ h=>by simp at h⟩,λt ht=>⟨λ_ e=>e▸⟨_,App.BA _ _ _⟩,λk r=> ?_⟩⟩;rw[h t ht];constructor
 ·rintro h4 E' t3 rfl h6;rw[App.aKT h6 (App.BA _ _ _)];exact h4
 ·exact λh4=>h4 _ _ rfl (App.BA _ _ _)
theorem HL{R0:Type}{k0:AS->Option R0}{r0:R0}(he:wh P Γ bu ops o s k0=aj r0):Ge P Γ bu ops o s:=by
 have aih:=he;unfold wh at he;split at he
 ·rename_i c hg ho;split at he
  ·rename_i F hc;split at he
   ·rename_i en vs hr;have atJ:=hr;obtain⟨f,caps,hF,rfl,D3,iB⟩:=vD hr;obtain⟨s1,Hh,_⟩:=ea.1 he;obtain⟨v,hv⟩:=WU (ops:=ops) ho hc hF D3 Hh;refine Ge.put v λt ht R k=> ?_
    obtain⟨e1,e2⟩:=yy ho hc ht;unfold wh;simp only[hg,ho,hc,e1,e2,atJ];rw[run_eq,hv t ht];rfl
   rename_i aS5;split at he
   ·rename_i en vs hr;have atJ:=hr;obtain⟨f,caps,hF,rfl,D3,iB⟩:=Iy hr;obtain⟨S,h1,h2,h3⟩:=WV (ops:=ops) ho hc hF D3 he;refine⟨S,h1,h2,λt ht=>⟨(h3 t ht).1,λk r=> ?_⟩⟩;rw[<-(h3 t ht).2];obtain⟨e1,e2⟩:=yy ho hc ht;unfold wh;simp only[hg,ho,hc,e1,e2,aS5,atJ]
   ·rename_i hr;refine Ge.plain (λt ht R k=> ?_) he;obtain⟨e1,e2⟩:=yy ho hc ht;unfold wh;simp only[hg,ho,hc,e1,e2,aS5,hr]
  ·rename_i hc;refine Ge.plain (λt ht R k=> ?_) he;unfold wh;simp only[hg,ho]
 ·rename_i j want c hg ho;split at he
  ·rename_i F hc;split at he
   ·rename_i en vs q hr hq;have atJ:=hr;obtain⟨f,caps,hF,rfl,D3,iB⟩:=vD hr;have af0:∀t,gi (eN Γ ops s o) s t->t.slot q=s.slot q:=λt ht=>
     ht.bZ q (bg.2 (.inr (by unfold Gu;simp only[hg,hq];simp)))
    split at he
    ·rename_i b hb;have key:b=want->(s.AL en o.dst (c.args.toList.map s.ev++caps.list)).run k0=aj r0->Ge P Γ bu ops o s:=λaQb he=>by
      obtain⟨s1,Hh,_⟩:=ea.1 he;obtain⟨v,hv⟩:=WU (ops:=ops) ho hc hF D3 Hh;refine Ge.put v λt ht R k=> ?_
      obtain⟨e1,e2⟩:=yy ho hc ht;have akJ:=(af0 t ht).trans hb;have e:=wN akJ (zk akJ);subst aQb;have e3:(t.AL en o.dst (c.args.toList.map s.ev++caps.list)).run k=k (t.put o.dst v):=by rw[run_eq,hv t ht];rfl
      unfold wh;simp only[hg,ho,hc,e1,e2,atJ,hq,akJ];cases b <;> simp only[aG] <;> rw[e,e3]
     have keyN:b≠want->Ge P Γ bu ops o s:=λaQb=>by
      refine Ge.put .nil λt ht R k=> ?_
      obtain⟨e1,e2⟩:=yy ho hc ht;have akJ:=(af0 t ht).trans hb;have e:=wN akJ (zk akJ);unfold wh;simp only[hg,ho,hc,e1,e2,atJ,hq,akJ];cases want <;> cases b <;> first | exact(aQb rfl).elim | (simp only[aG];rw[e])
     have e:=wN hb (zk hb);cases want <;> cases b <;> simp only[aG]at he <;> rw[e]at he
     ·exact key rfl he
     ·exact keyN eG
     ·exact keyN eG
     ·exact key rfl he
    ·rename_i hb;refine Ge.put .nil λt ht R k=> ?_
     obtain⟨e1,e2⟩:=yy ho hc ht;have akJ:=(af0 t ht).trans hb;unfold wh;simp only[hg,ho,hc,e1,e2,atJ,hq,akJ]
    ·cases he
   rename_i aS5;have aX0:∀ {R:Type} (X:Entry->List aA->Tmp->Option R) (Y:Option R),(match H9 Γ (at2 bu o.dst) (s.ev F) (c.args.toList.map s.ev),(ops[j]?).bind (·.dst) with | some (en,vs),aj q=>X en vs q | _,_=>Y)=Y:=λX Y=>by
    split
    ·rename_i en vs q h1 h2;exact(aS5 en vs q h1 h2).elim
    ·rfl
   split at he
   ·rename_i en vs q hr hq;have atJ:=hr;obtain⟨f,caps,hF,rfl,D3,iB⟩:=Iy hr;have aQo:H9 Γ (at2 bu o.dst) (s.ev F) (c.args.toList.map s.ev)=aF:=by
     cases hx:H9 Γ (at2 bu o.dst) (s.ev F) (c.args.toList.map s.ev) with
     |none=>rfl
     |some x=>exact(aS5 x.1 x.2 q hx hq).elim
    have af0:∀t,gi (eN Γ ops s o) s t->t.slot q=s.slot q:=λt ht=>
     ht.bZ q (bg.2 (.inr (by unfold Gu;simp only[hg,hq];simp)))
    split at he
    ·rename_i b hb;have key:∀ {k0:AS->Option R0},b=want->s.xy en o.dst (c.args.toList.map s.ev++caps.list) k0=aj r0->Ge P Γ bu ops o s:=λaQb he=>by obtain⟨S,h1,h2,h3⟩:=WV (ops:=ops) ho hc hF D3 he;refine⟨S,h1,h2,λt ht=>⟨(h3 t ht).1,λk r=> ?_⟩⟩;rw[<-(h3 t ht).2];obtain⟨e1,e2⟩:=yy ho hc ht;have akJ:=(af0 t ht).trans hb;have e:=wN akJ (zk akJ);subst aQb;unfold wh;simp only[hg,ho,hc,e1,e2,aQo,atJ,hq,akJ];cases b <;> simp only[aG] <;> rw[e]
     have keyN:b≠want->Ge P Γ bu ops o s:=λaQb=>by
      refine Ge.put .nil λt ht R k=> ?_
      obtain⟨e1,e2⟩:=yy ho hc ht;have akJ:=(af0 t ht).trans hb;have e:=wN akJ (zk akJ);unfold wh;simp only[hg,ho,hc,e1,e2,aQo,atJ,hq,akJ];cases want <;> cases b <;> first | exact(aQb rfl).elim | (simp only[aG];rw[e])
     have e:=wN hb (zk hb);cases want <;> cases b <;> simp only[aG]at he <;> rw[e]at he
     ·exact key rfl he
     ·exact keyN eG
     ·exact keyN eG
     ·exact key rfl he
    ·rename_i hb;refine Ge.put .nil λt ht R k=> ?_
     obtain⟨e1,e2⟩:=yy ho hc ht;have akJ:=(af0 t ht).trans hb;unfold wh;simp only[hg,ho,hc,e1,e2,aQo,atJ,hq,akJ]
    ·cases he
   ·rename_i hx;refine Ge.plain (λt ht R k=> ?_) he;obtain⟨e1,e2⟩:=yy ho hc ht;unfold wh;simp only[hg,ho,hc,e1,e2]
  ·rename_i hc;refine Ge.plain (λt ht R k=> ?_) he;unfold wh;simp only[hg,ho]
 ·rename_i h1 h2;refine Ge.plain (λt ht R k=> ?_) he;unfold wh;split
  ·rename_i c hg ho;exact(h1 c hg ho).elim
  ·rename_i j want c hg ho;exact(h2 j want c hg ho).elim
  ·rfl
theorem Gt{R R':Type}{k:AS->Option R}{k':AS->Option R'}{r:R}{r':R'}(h:wh P Γ bu ops o s k=aj r)(hk:∀s',k s'=aj r->k' s'=aj r'):wh P Γ bu ops o s k'=aj r':=by obtain⟨S,_,_,h3⟩:=HL h;obtain⟨_,h4⟩:=h3 s (gi.refl _ _);exact(h4 k' r').2 λE t' hE ha=>hk _ ((h4 k r).1 h E t' hE ha)
theorem ans(h:gi (eN Γ ops s o) s t):writes Γ t o=writes Γ s o:=by
 have aOQ:∀id∈writes Γ s o,t.bT id=s.bT id:=h.ws;unfold writes at aOQ ⊢;split
 ·rw[h.ev (by grind [bU])]
 ·rw[h.ev (by grind [bU])]
 ·rw[h.ev (by grind [bU])]
 ·rw[h.ev (by grind [bU])]
 ·rename_i c eK;obtain⟨cal,args,tys⟩:=c;simp;split
  ·split
   ·rw[h.ev (by grind [bU,dU])]
   ·rfl
  ·split
   ·rw[h.ev (by grind [bU,dU])]
   ·rfl
  ·split
   ·rw[h.ev (by grind [bU,dU])]
   ·rfl
  ·split
   ·rw[h.ev (by grind [bU,dU])]
   ·rfl
  ·rename_i F;have hm:∀z,z=F\/z∈args.toList->z∈o.op.operands.toList:=λz hz=>by grind [bU,dU]
   have h1:=h.ev (hm F (.inl rfl));have h2:=eY λx hx=>h.ev (hm x (.inr hx))
   split
   all_goals grind [zV]
  ·rfl
 ·rfl
theorem abm(h:gi (eN Γ ops s o) s t):eN Γ ops t o=eN Γ ops s o:=by
 have h1:=ans h;have h2:ap4 t o=ap4 s o:=by
  unfold ap4;split
  ·rfl
  unfold List.flatMap;congr 1;exact eY λi hi=>by rw[h.bZ i (bg.2 (.inl hi))]
 grind [eN]
theorem Eu{xs ys:List Id}(h:meets xs ys=aS){id:Id}(hx:id∈xs):id ∉ ys:=by grind [meets]
theorem Cd{d:Option Tmp}{ids:List Id}(h:WA d ids=aS){q:Nat}(hd:d=aj q)(j:Nat):Id.new q j ∉ ids:=by grind [WA]
theorem MW{f g:D0}(h:f.aST g=aS){q:Nat}(hd:f.dst=aj q):q ∉ g.bZ/\g.dst≠aj q:=by grind [D0.aST]
theorem ar1(s:AS)(d:Option Tmp)(v:aA)(i:Nat)(h:d≠aj i):(s.put d v).slot i=s.slot i:=by
 cases d with
 |none=>rfl
 |some q=>grind [aeL]
theorem App.slot{d:Option Tmp}{E:aLc}{s s':AS}(h:App d E s s')(i:Nat)(hi:d≠aj i):s'.slot i=s.slot i:=by rw[<-ar1 s d E.v i hi];simp[AS.slot,h.bZ]
theorem anI{f f':D0}{E:aLc}{s s1:AS}(ha:App f.dst E s s1)(hw:CK f s E)(af1:∀id∈f'.ws,id∈f'.rs)(h1:f.aST f'=aS)(h2:meets f.ws f'.rs=aS)(h3:meets f'.ws f.rs=aS)
  (h4:WA f.dst f'.rs=aS):(∀i∈f'.bZ,s1.slot i=s.slot i)/\(∀id∈f'.ws,s1.bT id=s.bT id)/\(∀id∈f'.rs,sM (s1.bT id) (s.bT id))/\∀q,f'.dst=aj q->s1.dY q=s.dY q:=by
 have P3:∀id∈f'.rs,E.up id=aF:=λid dy=>by
  cases hu:E.up id with
  |none=>rfl
  |some e=>
   rcases hw.up id e hu with⟨h,_⟩ | ⟨q,j,hd,rfl⟩
   all_goals grind [meets,WA]
 refine⟨λi hi=>ha.slot i λhd=>(MW h1 hd).1 hi,λid dy=> ?_,λid dy=> ?_,λq hq=> ?_⟩
 ·rw[ha.bT];have:=λhz=>Eu h3 dy (hw.fz id hz)
  grind
 ·rw[ha.bT];grind [aDd,ajp]
 ·have kJ:∀j,(s1.bT (.new q j)=aF↔s.bT (.new q j)=aF):=λj=>by
   rw[ha.bT];cases hu:E.up (.new q j) with
   |none=>
    simp;split <;> simp
   |some e=>
    rcases hw.up _ e hu with⟨_,h⟩ | ⟨q',j',hd,he⟩
    ·simp[h]
    ·obtain⟨rfl,_⟩:=he;exact absurd hq (MW h1 hd).2
  rw[tM,IX,IX,ha.len];grind
theorem Sb(s:AS)(o:Oper):∀id∈(eN Γ ops s o).ws,id∈(eN Γ ops s o).rs:=λ_ dy=>bg.2 (.inr dy)
theorem App.comm{f f':D0}{E E':aLc}{s s1 s2 t1 t2:AS}(Vq:∀id∈f.ws,id∈f.rs)(ZZ:∀id∈f'.ws,id∈f'.rs)(hi:f.indep f'=aL)(w1:CK f s E)(w2:CK f' s E')(a1:App f.dst E s s1)(a2:App f'.dst E' s1 s2)(k2:App f'.dst E' s t1)(k4:App f.dst E t1 t2):t2=s2:=by
 unfold D0.indep at hi;simp only[ax,dv]at hi;obtain⟨⟨⟨⟨⟨i1,i2⟩,i3⟩,i4⟩,i5⟩,i6⟩:=hi;have aTf:∀id e,E.up id=aj e->E'.up id=aF/\id ∉ E'.fz:=λid e hu=>by
  rcases w1.up id e hu with⟨h,hn⟩ | ⟨q,j,hd,rfl⟩
  ·refine⟨?_,λhz=>Eu i3 h (w2.fz id hz)⟩;cases hu':E'.up id with
   |none=>rfl
   |some e'=>
    rcases w2.up id e' hu' with⟨h',_⟩ | ⟨q,j,hd,rfl⟩
    ·exact absurd (ZZ id h') (Eu i3 h)
    ·exact absurd (Vq _ h) (Cd i6 hd j)
  ·refine⟨?_,λhz=>Cd i5 hd j (w2.fz _ hz)⟩;cases hu':E'.up (.new q j) with
   |none=>rfl
   |some e'=>
    rcases w2.up _ e' hu' with⟨h',_⟩ | ⟨q',j',hd',he⟩
    ·exact absurd (ZZ _ h') (Cd i5 hd j)
    ·simp only[Id.new.injEq]at he;obtain⟨rfl,_⟩:=he;exact absurd hd' (MW i1 hd).2
 have aVg:∀id e,E'.up id=aj e->E.up id=aF/\id ∉ E.fz:=λid e hu=>by
  have hn:E.up id=aF:=by
   cases aYc:E.up id with
   |none=>rfl
   |some e1=>rw[(aTf id e1 aYc).1]at hu;cases hu
  refine⟨hn,λhz=> ?_⟩;rcases w2.up id e hu with⟨h,_⟩ | ⟨q,j,hd,rfl⟩
  ·exact Eu i4 h (w1.fz id hz)
  ·exact Cd i6 hd j (w1.fz _ hz)
 refine AS.aFU ?_ (by rw[k4.len,k2.len,a2.len,a1.len]) λid=> ?_
 ·have e1:∀(u u':AS) (d:Option Tmp) (v:aA),u.bZ=u'.bZ->(u.put d v).bZ=(u'.put d v).bZ:=λu u' d v h=>by cases d <;> simp[AS.put,h]
  rw[k4.bZ,a2.bZ,e1 t1 (s.put f'.dst E'.v) _ _ k2.bZ,e1 s1 (s.put f.dst E.v) _ _ a1.bZ];cases hd:f.dst with
  |none=>cases f'.dst <;> rfl
  |some q=>
   cases hd':f'.dst with
   |none=>rfl
   |some q'=>
    have kJ:q'≠q:=λe=>(MW i1 hd).2 (by rw[hd',e])
    simp only[AS.put];exact List.set_comm _ _ kJ
 ·rw[k4.bT,k2.bT,a2.bT,a1.bT];cases hu:E.up id with
  |some e=>
   obtain⟨h3,h4⟩:=aTf id e hu;simp only[h3,if_neg h4]
  |none=>
   simp only;cases hu':E'.up id with
   |some e=>
    obtain⟨_,h4⟩:=aVg id e hu';simp only[if_neg h4]
   |none=>
    simp only;by_cases z1:id∈E.fz <;> by_cases z2:id∈E'.fz <;> simp only[if_pos,if_neg,z1,z2,not_false_eq_true]
theorem aDe{a b:Option dT}(h:sM a b):sM b a:=by
 revert h
 cases a <;> cases b <;> simp only[sM] <;> intro h <;> first | trivial | exact h | skip
 rename_i a b;cases a <;> cases b <;> simp_all [dT.amM]
theorem awk{a b c:Option dT}(h:sM a b)(h2:sM b c):sM a c:=by
 revert h h2
 cases a <;> cases b <;> cases c <;> simp only[sM] <;> intro h h2 <;> first | trivial | exact h | exact h2 | exact h.elim | exact h2.elim | skip
 rename_i a b c;cases a <;> cases b <;> cases c <;> simp_all [dT.amM]
theorem aTD{o':Oper}{Φ:AS->Prop}{p:D0->Prop}
  (h:wh P Γ bu ops o s (λs1=>ayk ((eN Γ ops s o).indep (eN Γ ops s1 o')=aL/\p (eN Γ ops s1 o')/\wh P Γ bu ops o' s1 (λs2=>ayk (Φ s2))=aj ()))=aj ()):
  p (eN Γ ops s o')/\wh P Γ bu ops o' s (λt1=>ayk (eN Γ ops t1 o=eN Γ ops s o/\wh P Γ bu ops o t1 (λt2=>ayk (Φ t2))=aj ()))=aj ():=by
 obtain⟨Sj,⟨E0,hE0⟩,wj,lj⟩:=HL h;obtain⟨totj,iffj⟩:=lj s (gi.refl _ _);obtain⟨s1,a1⟩:=totj E0 hE0;obtain⟨hi,hp,hg⟩:=tA ((iffj _ _).1 h E0 s1 hE0 a1);have aOF:=hi;unfold D0.indep at hi;simp only[ax,dv]at hi;obtain⟨⟨⟨⟨⟨i1,i2⟩,i3⟩,i4⟩,i5⟩,i6⟩:=hi;have ag:∀E s1',Sj E->App o.dst E s s1'->gi (eN Γ ops s1 o') s s1':=λE s1' hE a=>by obtain⟨g1,g2,g3,g4⟩:=anI (f:=eN Γ ops s o) (f':=eN Γ ops s1 o') a (wj E hE) (Sb _ _) i1 i3 i4 i5;exact⟨g1,g2,g3,g4⟩
 have hb:=ag E0 s1 hE0 a1;have Oe:gi (eN Γ ops s1 o') s1 s:=⟨λi hi=>(hb.bZ i hi).symm,λid dy=>(hb.ws id dy).symm,λid dy=>aDe (hb.rs id dy),λq hq=>(hb.dY q hq).symm⟩;obtain⟨Si,_,wi,li⟩:=HL hg;have hf':=abm Oe;obtain⟨toti,iffi⟩:=li s Oe;refine⟨by rw[hf'];exact hp,(iffi _ _).2 λEi t1 hEi k2=> ?_⟩;have w2:CK (eN Γ ops s1 o') s Ei:=⟨λid e hu=>by
  rcases(wi Ei hEi).up id e hu with⟨h,hn⟩ | h
  ·exact .inl ⟨h,by rw[<-hb.ws id h];exact hn⟩
  ·exact .inr h,(wi Ei hEi).fz⟩
 obtain⟨m1,m2,m3,m4⟩:=anI (f:=eN Γ ops s1 o') (f':=eN Γ ops s o) k2 w2 (Sb _ _) i2 i4 i3 i6;have aSx:gi (eN Γ ops s o) s t1:=⟨m1,m2,m3,m4⟩;obtain⟨_,iffj1⟩:=lj t1 aSx;refine H2 ⟨abm aSx,(iffj1 _ _).2 λEj t2 hEj k4=>H2 ?_⟩;obtain⟨s1',a1'⟩:=totj Ej hEj;obtain⟨_,_,hg'⟩:=tA ((iffj _ _).1 h Ej s1' hEj a1');have hc:=ag Ej s1' hEj a1';have aUD:gi (eN Γ ops s1 o') s1 s1':=⟨λi hi=>(hc.bZ i hi).trans (Oe.bZ i hi),λid dy=>(hc.ws id dy).trans (Oe.ws id dy),λid dy=>awk (hc.rs id dy) (Oe.rs id dy),λq hq=>(hc.dY q hq).trans (Oe.dY q hq)⟩;obtain⟨toti1,iffi1⟩:=li s1' aUD;obtain⟨s2,a2⟩:=toti1 Ei hEi;have:=tA ((iffi1 _ _).1 hg' Ei s2 hEi a2);rw[App.comm (f:=eN Γ ops s o) (f':=eN Γ ops s1 o') (Sb _ _) (Sb _ _) aOF (wj Ej hEj) w2 a1' a2 k2 k4];exact this
end
end Go.Ab
namespace Go.Ab
section
variable {P:Program} {Γ:pb} {bu:List Nat} {ops:Array Oper}
def Po(P:Program)(Γ:pb)(bu:List Nat)(ops:Array Oper)(anc:List Nat)(Φ:AS->Prop):List Nat->List (Nat×D0)->AS->Prop
 |[],_,s=>Φ s
 |i::l,acc,s=>∃o,ops[i]? =aj o/\(∀x∈acc,(anc.getD i 0).testBit x.1=aL\/x.2.indep (eN Γ ops s o)=aL)/\
  wh P Γ bu ops o s (λs'=>ayk (Po P Γ bu ops anc Φ l ((i,eN Γ ops s o)::acc) s'))=aj ()
theorem Po.weaken{anc:List Nat}{Φ:AS->Prop}:∀(l:List Nat) {acc acc':List (Nat×D0)} {s:AS},(∀x∈acc',x∈acc)->Po P Γ bu ops anc Φ l acc s->Po P Γ bu ops anc Φ l acc' s
 |[],_,_,_,_,h=>h
 |i::l,acc,acc',s,hs,⟨o,h1,h2,h3⟩=>⟨o,h1,λx hx=>h2 x (hs x hx),Gt h3 λs' h=>H2 (Po.weaken l (λx hx=>by
   rcases bI.1 hx with rfl | hx
   ·exact aC ..
   ·exact az _ (hs x hx)) (tA h))⟩
theorem Po.as5{anc:List Nat}{Φ:AS->Prop}{i:Nat}{l2:List Nat}:∀(l1:List Nat) {acc:List (Nat×D0)} {s:AS},Po P Γ bu ops anc Φ (l1++i::l2) acc s->(∀j∈l1,(anc.getD i 0).testBit j=aS)->
  ∃o,ops[i]? =aj o/\(∀x∈acc,(anc.getD i 0).testBit x.1=aL\/x.2.indep (eN Γ ops s o)=aL)/\wh P Γ bu ops o s (λs'=>ayk (Po P Γ bu ops anc Φ (l1++l2) acc s'))=aj ()
 |[],acc,s,⟨o,h1,h2,h3⟩,_=>⟨o,h1,h2,Gt h3 λs' h=>H2 (Po.weaken _ (λx hx=>az _ hx) (tA h))⟩
 |j::l1,acc,s,⟨oj,h1,h2,h3⟩,hi=>by
  have hex:∃oi,ops[i]? =aj oi:=by
   obtain⟨S,⟨E,hE⟩,_,h4⟩:=HL h3;obtain⟨h5,h6⟩:=h4 s (gi.refl _ _);obtain⟨s1,h7⟩:=h5 E hE;obtain⟨oi,h8,_⟩:=Po.as5 l1 (tA ((h6 _ _).1 h3 E s1 hE h7)) λj hj=>hi j (az _ hj)
   exact⟨oi,h8⟩
  obtain⟨oi,aWQ⟩:=hex;obtain⟨k1,k2⟩:=aTD (o':=oi) (p:=λf=>∀x∈acc,(anc.getD i 0).testBit x.1=aL\/x.2.indep f=aL) (Φ:=λs2=>Po P Γ bu ops anc Φ (l1++l2) ((j,eN Γ ops s oj)::acc) s2) (Gt h3 λs1 h=>by
   obtain⟨oi',h8,h9,aP8⟩:=Po.as5 l1 (tA h) λj hj=>hi j (az _ hj)
   obtain rfl:oi=oi':=by rw[aWQ]at h8;simpa using h8
   refine H2 ⟨?_,λx hx=>h9 x (az _ hx),aP8⟩;rcases h9 _ (aC ..) with h | h
   ·rw[hi j (aC ..)]at h;cases h
   ·exact h)
  refine⟨oi,aWQ,k1,Gt k2 λt1 h=> ?_⟩;obtain⟨e,h5⟩:=tA h;exact H2 ⟨oj,h1,by rw[e];exact h2,by rw[e];exact h5⟩
theorem aid{R:Type}{anc:List Nat}{k:AS->Option R}{r:R}:∀(l:List Oper) (i:Nat) (acc:List (Nat×D0)) (s:AS),(∀n o,l[n]? =aj o->ops[i+n]? =aj o)->
  aoP P Γ bu ops anc i l acc s k=aj r->Po P Γ bu ops anc (λsn=>k sn=aj r) (List.range' i l.length) acc s
 |[],i,acc,s,_,h=>h
 |o::l,i,acc,s,ho,h=>by
  unfold aoP at h;split at h
  ·rename_i rV;simp only[AS.Nt]at h;rw[aE,List.range'_succ];refine⟨o,ho 0 o rfl,λx hx=> ?_,Gt h λs' h=>H2 (aid l (i+1) _ s' (λn o' hn=>by have:=ho (n+1) o' (by simpa using hn);rw[<-this];congr 1;omega) h)⟩;have:=bQ.1 rV x hx;simpa only[tN]using this
  ·cases h
theorem anM{acc:List Nat}{j:Nat}:∀ {l:List Edge},(l.foldr (λe m=>Nat.lor (Nat.lor (Nat.pow 2 e.on) (acc.getD e.on 0)) m) 0).testBit j=aL->∃e∈l,j=e.on\/(acc.getD e.on 0).testBit j=aL
 |[],h=>by grind
 |e::l,h=>by
  simp at h;rcases h with(h | h) | h
  ·grind
  ·grind
  ·obtain⟨e',h1,h2⟩:=anM h;grind
theorem ahH:∀(l:List Oper) (acc:List Nat),(∀i,i < acc.length->(l.foldl (λacc o=>acc++ [anL acc o]) acc)[i]? =acc[i]?)/\
  ∀i o,l[i]? =aj o->(l.foldl (λacc o=>acc++ [anL acc o]) acc)[acc.length+i]? =aj (anL ((l.foldl (λacc o=>acc++ [anL acc o]) acc).take (acc.length+i)) o)
 |[],acc=>⟨λ_ _=>rfl,λi o h=>by grind⟩
 |x::l,acc=>by
  obtain⟨h1,h2⟩:=ahH l (acc++ [anL acc x]);refine⟨λi hi=> ?_,λi o hi=> ?_⟩
  ·grind
  ·cases i with
   |zero=>
    grind [anL]
   |succ i=>
    grind
theorem aEC{l:List Oper}{i:Nat}{o:Oper}(hi:l[i]? =aj o){j:Nat}(hj:((ajO l).getD i 0).testBit j=aL):∃e∈o.after.toList,Region.binds .any e=aL/\(j=e.on\/((ajO l).getD e.on 0).testBit j=aL):=by have h:=(ahH l []).2 i o hi;have e:ajO l=l.foldl (λacc o=>acc++ [anL acc o]) []:=rfl;rw[<-e]at h;simp at h;rw[bS,h]at hj;obtain⟨e,h1,h3⟩:=anM hj;grind
def ajH(n:Nat)(listed:Array Bool):List Nat:=(List.range n).filter λi=> !listed.getD i aL
theorem M7{n:Nat}{listed:Array Bool}{i:Nat}:i∈ajH n listed↔i < n/\listed.getD i aL=aS:=by simp[ajH]
theorem Ri(n:Nat)(listed:Array Bool):(ajH n listed).Pairwise (· < ·):=(List.pairwise_lt_range).filter _
theorem abr{listed:Array Bool}{i j:Nat}(d:Bool)(hi:i < listed.size):(listed.setIfInBounds i aL).getD j d=if j=i then aL else listed.getD j d:=by simp;grind
theorem aOa{listed:Array Bool}{i:Nat}(hi:i < listed.size){l1 l2:List Nat}(h:ajH listed.size listed=l1++i::l2):ajH listed.size (listed.setIfInBounds i aL)=l1++l2:=by
 have hs:=Ri listed.size listed;rw[h]at hs;obtain⟨p1,p2,p3⟩:=jg.1 hs;obtain⟨p4,_⟩:=ov.1 p2;have e:ajH listed.size (listed.setIfInBounds i aL)=(ajH listed.size listed).filter λj=>decide (j≠i):=by
  unfold ajH;rw[List.filter_filter];refine List.filter_congr λj _=> ?_
  rw[abr aL hi];grind
 grind [sZ]
theorem azm{rd:Option Nat}{n:Nat}{C:Ctx}(hΓ:Sound P Γ){Φ:AS->Prop}{Q:Exit->Act->World->Prop}(hE:akq ops.toList=aL)
  (hQ:∀s a w,gh C s a w->Φ s->Q .normal a w):
  ∀(fuel:Nat) (listed:Array Bool) (s:AS) (a:Act) (w:World),listed.size=ops.size->(ajH ops.size listed).length=fuel->
   (∀i,i < ops.size->listed.getD i aL=aL->∀j,((ajO ops.toList).getD i 0).testBit j=aL->listed.getD j aS=aL)->Po P Γ bu ops (ajO ops.toList) Φ (ajH ops.size listed) [] s->gh C s a w->wpAnyIn (Fr rd) n P .any ops Q fuel listed a w:=by
 have aOB:∀i o,ops[i]? =aj o->∀e∈o.after.toList,Region.binds .any e=aL->e.on < i:=λi o hi e he hb=>by have:=bQ.1 hE (o,i) (List.mem_zipIdx_iff_getElem?.2 (by simpa using hi));have:=bQ.1 this e he;simpa[hb]using this
 have aQp:∀(listed:Array Bool),listed.size=ops.size->∀i,i∈Region.ready .any ops listed↔i∈ajH ops.size listed/\∀o,ops[i]? =aj o->∀e∈o.after.toList,Region.binds .any e=aL->listed.getD e.on aS=aL:=λlisted _ i=>by
  rw[M7];unfold Region.ready;simp only[List.mem_filter,List.mem_range,ax,dv];constructor
  ·rintro⟨h1,h2,h3⟩;refine⟨⟨h1,h2⟩,λo ho e he hb=> ?_⟩;rw[ho]at h3;simp only[iC,eB,Array.all_eq_true',tN,dv]at h3;rcases h3 e (by simpa using he) with h | h
   ·rw[hb]at h;cases h
   ·exact h
  ·rintro⟨⟨h1,h2⟩,h3⟩;refine⟨h1,h2,?_⟩;obtain⟨o,ho⟩:∃o,ops[i]? =aj o:=⟨ops[i],by simp[h1]⟩
   rw[ho];simp only[iC,eB,Array.all_eq_true',tN,dv];intro e he;cases hb:Region.binds .any e with
   |false=>exact .inl rfl
   |true=>exact .inr (h3 o ho e (by simpa using he) hb)
 have AO:∀(listed:Array Bool),listed.size=ops.size->Region.ready .any ops listed=[]->ajH ops.size listed=[]:=λlisted hs hr=>by
  cases hu:ajH ops.size listed with
  |nil=>rfl
  |cons i l=>
   exfalso;have hi:i∈ajH ops.size listed:=by rw[hu];exact aC ..
   have aT9:=Ri ops.size listed;rw[hu]at aT9;have:i∈Region.ready .any ops listed:=(aQp listed hs i).2 ⟨hi,λo ho e he hb=>by
    have iB:=aOB i o ho e he hb;have abB:=(M7.1 hi).1;cases hl:listed.getD e.on aL with
    |false=>
     have hm:e.on∈ajH ops.size listed:=M7.2 ⟨au,hl⟩;rw[hu]at hm;rcases bI.1 hm with h | h
     ·omega
     ·have:=(ov.1 aT9).1 _ h;omega
    |true=>
     have:e.on < listed.size:=au;simp only[ek,Array.getElem?_eq_getElem this,eB]at hl ⊢;exact hl⟩
   rw[hr]at this;cases this
 intro fuel
 induction fuel with
 |zero=>
  intro listed s a w hs hl _ hr vR;have hn:ajH ops.size listed=[]:=bD hl;refine⟨?_,?_⟩
  ·cases aRO:Region.ready .any ops listed with
   |nil=>rfl
   |cons i l=>
    have:i∈Region.ready .any ops listed:=by rw[aRO];exact aC ..
    have:=((aQp listed hs i).1 this).1;rw[hn]at this;cases this
  ·rw[hn]at hr;exact hQ s a w vR hr
 |succ fuel ih=>
  intro listed s a w hs hl aKW hr vR;refine⟨λaRO=> ?_,λi hi=> ?_⟩
  ·have:=AO listed hs aRO;rw[this]at hl;simp at hl
  ·obtain⟨hu,aSI⟩:=(aQp listed hs i).1 hi;obtain⟨abB,aYX⟩:=M7.1 hu;obtain⟨o,ho⟩:∃o,ops[i]? =aj o:=⟨ops[i],by simp[abB]⟩
   obtain⟨l1,l2,aAy⟩:=uG hu;have aT9:=Ri ops.size listed;rw[aAy]at aT9;have aSy:∀j,((ajO ops.toList).getD i 0).testBit j=aL->listed.getD j aS=aL:=λj hj=>by
    obtain⟨e,he,hb,h | h⟩:=aEC (by simpa using ho) hj
    ·rw[h];exact aSI o ho e he hb
    ·have h1:=aSI o ho e he hb;have h2:=aOB i o ho e he hb;refine aKW e.on au ?_ j h
     have:e.on < listed.size:=au;simp only[ek,Array.getElem?_eq_getElem this,eB]at h1 ⊢;exact h1
   rw[aAy]at hr;obtain⟨o',ho',_,hg⟩:=Po.as5 l1 hr λj hj=>by
    cases h:((ajO ops.toList).getD i 0).testBit j with
    |false=>rfl
    |true=>
     have h1:=aSy j h;have aWI:j∈ajH ops.size listed:=by rw[aAy];exact bg.2 (.inl hj)
     have h2:=(M7.1 aWI).2;have iB:=(M7.1 aWI).1;have:j < listed.size:=au;simp only[ek,Array.getElem?_eq_getElem this,eB]at h1 h2;rw[h1]at h2;cases h2
   obtain rfl:o=o':=by rw[ho]at ho';simpa using ho'
   have akM:ajH ops.size (listed.setIfInBounds i aL)=l1++l2:=by rw[<-hs]at aAy ⊢;exact aOa au aAy
   refine((aAp hΓ vR hg).mono λa' w' ⟨s',hst',pV⟩=>ih (listed.setIfInBounds i aL) s' a' w' (by simpa using hs) ?_ ?_ (by rw[akM];exact tA pV) hst').wpOpIn ho
   ·rw[akM];rw[aAy]at hl;simp only[ai,aE]at hl ⊢;omega
   ·intro m hm aT1 j hj;rw[abr aS au];split
    ·rfl
    ·rw[abr aL au]at aT1;split at aT1
     ·rename_i aXW;subst aXW;exact aSy j hj
     ·exact aKW m hm aT1 j hj
theorem arl{rd:Option Nat}{n:Nat}{C:Ctx}(hm:P.follows .mixedOrders=aL)(hΓ:Sound P Γ){id:Nat}{R:Type}{Q:Exit->Act->World->Prop}{s:AS}{a:Act}{w:World}{k:AS->Option R}{r:R}(h:gh C s a w)(hE:akq ops.toList=aL)
  (he:aoP P Γ bu ops (ajO ops.toList) 0 ops.toList [] s k=aj r) (hk:∀s' a' w',gh C s' a' w'->k s'=aj r->Q .normal a' w'):(Code.region id ops aL).wpIn (Fr rd) n P Q a w:=by
 have g2:=aid ops.toList 0 [] s (λn o hn=>by simpa using hn) he;refine wpIn_region_any hm ?_
 obtain⟨g,β,h⟩:=h;have hu:ajH ops.size (Array.replicate ops.size aS)=List.range' 0 ops.toList.length:=by
  unfold ajH;rw[sZ.2]
  ·simp[List.range_eq_range']
  ·intro i hi;have hi:i < ops.size:=by simpa using hi
   simp[ek,hi]
 refine azm (bu:=bu) hΓ hE (Φ:=λsn=>k sn=aj r) (λs' a' w' hs h=>hk s' a' w' hs h) ops.size _ s a _ (by simp) (by rw[hu];simp) (λi hi hl=> ?_) (by rw[hu];exact g2) ⟨g,β,h.drew⟩;simp[ek,hi]at hl
end
end Go.Ab
namespace Go.Ab
theorem zY{ρ:aat}{s:AS}(h:∀id,(s.obj id).isSome=aL->∀ver,ρ id ver=aj (id,ver)):∀(v:aA),v.there s=aL->v.iT ρ=v
 | .ptr id ver p n,ht=>by grind [aA.iT,aA.there]
 | .cg id ver p c i len,ht=>by grind [aA.iT,aA.there]
 | .pr a b,ht=>by simp[aA.there]at ht;simp only[aA.iT];rw[zY h a ht.1,zY h b ht.2]
 | .cons a b,ht=>by simp[aA.there]at ht;simp only[aA.iT];rw[zY h a ht.1,zY h b ht.2]
 | .fn f c,ht=>by simp[aA.iT];rw[zY h c ht]
 | .bx e z c,ht=>by simp[aA.iT];rw[zY h c ht]
 | .cK id ver,ht=>by grind [aA.iT,aA.there]
 | .yl id ver,ht=>by grind [aA.iT,aA.there]
 | .Ay k f p,ht=>by simp[aA.iT];rw[zY h f ht]
 | .rW ..,ht=>by cases ht
 | .undef,_ | .gone,_ | .cT,_ | .iQ,_ | .xu,_ | .Dh,_ | .d _ _,_ | .dx _ _,_ | .nil,_ | .vec ..,_ | .mp ..,_ | .sb _,_=>rfl
theorem aPq.aV{E E':Env}(hm:zB E E')(hh:∀b:Nat,E'.w.heap[b]? =E.w.heap[b]?){i q:Id}{ver:Nat}{kt vt:Ty}{rest:List (kt.den×vt.den)}{cur:Option (kt.den×vt.den)}(h:aPq E i q ver kt vt rest cur)(hβ:E'.β i=E.β i)
  (hg:∀pl,E.β i=aj pl->E.g pl.b= .own (.id i) 0->E'.g pl.b= .own (.id i) 0)
  (hq:∀vr,ver=vr+1->(E.Ct q vr->E'.Ct q vr/\(E'.cur q vr->E.cur q vr/\E'.β q=E.β q))/\(∀k v l,E.s q=aj (.obj vr aL (.mp k v l))->E'.s q=aj (.obj vr aL (.mp k v l)))/\
   ∀pl,E.β q=aj pl->E.g pl.b= .own (.id q) 0->E'.g pl.b= .own (.id q) 0):aPq E' i q ver kt vt rest cur:=by
 obtain⟨pl,mb,since,seen,c0,h1,h2,h3,h4⟩:=h;refine⟨pl,mb,since,seen,c0,by grind,by grind,hg pl h1 h3,λvr ain=> ?_⟩;obtain⟨h5,h6⟩:=h4 vr ain;obtain⟨q1,q2,q3⟩:=hq vr ain;obtain⟨b1,b2⟩:=q1 h5;refine⟨b1,λhc=> ?_⟩;obtain⟨c1,c2⟩:=b2 hc;obtain⟨⟨k,v,l,k0⟩,plq,es,clock,k1,k2,k3,k4,k5,k6,k7,k8,k9⟩:=h6 c1;exact⟨⟨k,v,l,q2 _ _ _ k0⟩,plq,es,clock,by grind,k2,by grind,q3 _ k1 k4,k5,k6,k7,k8.mono hm,λx hx=>
  let⟨e,se,a1,a2,a3,a4⟩:=k9 x hx
  ⟨e,se,a1,a2,a3,a4.mono hm⟩⟩
theorem at3(c:aA):(∃q ver k v l cu,c= .rW q ver k v l cu)\/(∀ρ kp,c.aCP ρ kp=c.iT ρ)/\∀s v fr,dT.there s (.obj v fr c)=c.there s:=by cases c <;> first | exact .inl ⟨_,_,_,_,_,_,rfl⟩ | exact .inr ⟨λ_ _=>rfl,λ_ _ _=>rfl⟩
section
variable {P:Program} {C:Ctx} {g:Nat->iU} {β:Id->Option Pl} {s:AS} {a:Act} {w:World}
theorem Inv.We(h:Inv C g β s a w)(hC:C.ok){s1:AS}{g1:Nat->iU}{β1:Id->Option Pl}(ρ:aat)(hlen:s1.bZ.length=s.bZ.length)(ht:Trans w w g g1)(hle:I0 ρ (s.env w g β) (s1.env w g1 β1))
  (So:∀i,VS (s1.env w g1 β1) (s1.slot i) (a.tmps.getD i undef))
  (di:∀id ver fr c,s1.bT id=aj (.obj ver fr c)->xo (s1.env w g1 β1) id fr c\/∃id0 v0 c0,s.bT id0=aj (.obj v0 fr c0)/\c0.iT ρ=c/\β1 id=β id0/\∀pl,β id0=aj pl->(∀k,g pl.b= .own (.id id0) k->g1 pl.b= .own (.id id) k)/\(g pl.b= .free->g1 pl.b= .free))
  (hold:∀k,(s.bT (.bW k)≠aF->s1.bT (.bW k)≠aF)/\(∀v fr c,s1.bT (.bW k)=aj (.obj v fr c)->∃c0,s.bT (.bW k)=aj (.obj v fr c0))/\β1 (.bW k)=β (.bW k)):Inv C g1 β1 s1 a w:=by
 refine⟨h.defers.mono ht,by rw[hlen];exact h.size,So,λid ver fr c dy=> ?_,h.trans.trans ht.aTK,?_⟩
 ·rcases di id ver fr c dy with ho | ⟨id0,v0,c0,h1,h2,h3,h4⟩
  ·exact ho
  have:=CJ hle (h.bu id0 v0 fr c0 h1) (id':=id) h3 λpl hp=>⟨rfl,(h4 pl hp).1,(h4 pl hp).2⟩
  rw[h2]at this;exact this
 ·have hl:=h.le;have ho:∀id ver,C.E.Ct id ver->∃k,id= .bW k:=λid ver hb=>by
   cases id with
   |bW k=>exact⟨k,rfl⟩
   |new i j=>exact absurd (hC.1 i j) hb.1
  refine⟨hl.mem.trans (kG.aMF (E:=s.env w g β) (E':=s1.env w g1 β1) ht),λid ver hb=> ?_,λid ver hb hc=> ?_⟩
  ·obtain⟨k,rfl⟩:=ho id ver hb;obtain⟨h1,h2⟩:=hl.Ct _ ver hb;obtain⟨e1,e2,_⟩:=hold k;exact⟨e1 h1,λv fr c hh=>let⟨c0,afY⟩:=e2 v fr c hh;h2 v fr c0 afY⟩
  ·obtain⟨k,rfl⟩:=ho id ver hb;obtain⟨fr,c,hc⟩:=hc;obtain⟨_,e2,e3⟩:=hold k;obtain⟨c0,afY⟩:=e2 _ _ _ hc;obtain⟨h1,h2⟩:=hl.cur _ ver hb ⟨fr,c0,afY⟩;exact⟨h1,e3.trans h2⟩
theorem Inv.renamed(h:Inv C g β s a w)(hC:C.ok){s1:AS}{β1:Id->Option Pl}(ρ:aat)(hlen:s1.bZ.length=s.bZ.length)(hle:I0 ρ (s.env w g β) (s1.env w g β1))
  (So:∀i,VS (s1.env w g β1) (s1.slot i) (a.tmps.getD i undef)) (di:∀id ver fr c,s1.bT id=aj (.obj ver fr c)->xo (s1.env w g β1) id fr c\/∃v0,s.bT id=aj (.obj v0 fr c)/\c.iT ρ=c/\β1 id=β id)
  (hold:∀k,s1.bT (.bW k)=s.bT (.bW k)/\β1 (.bW k)=β (.bW k)):Inv C g β1 s1 a w:=
 h.We hC ρ hlen (Trans.refl w g) hle So (λid ver fr c dy=>(di id ver fr c dy).imp (λh=>h) λ⟨v0,h1,h2,h3⟩=>⟨id,v0,c,h1,h2,h3,λ_ _=>⟨λ_ h=>h,λh=>h⟩⟩)
  λk=>⟨λhh=>by grind,λv fr c hh=>⟨c,(hold k).1.symm.trans hh⟩,(hold k).2⟩
theorem Inv.aQ8(h:Inv C g β s a w)(j:Nat){v:aA}(hv:VS (s.env w g β) v (a.tmps.getD j undef)):Inv C g β (s.put (aj j) v) a w:=by
 refine⟨h.defers,by simpa[AS.put]using h.size,λi=> ?_,by simpa using h.bu,h.trans,by simpa using h.le⟩;rw[axK,aeL];split
 ·grind
 ·exact h.bZ i
theorem WB(aV:List Nat):∀(l:List aA) (n i:Nat),(eT aV n l).getD i .undef= .undef\/(eT aV n l).getD i .undef=l.getD i .undef
 |[],n,i=>by simp[eT]
 |v::l,n,0=>by grind [eT]
 |v::l,n,i+1=>by exact WB aV l (n+1) i
theorem Fk(aV:List Nat):∀(l:List aA) (n:Nat),(eT aV n l).length=l.length
 |[],n=>rfl
 |v::l,n=>by simp[eT,Fk aV l]
theorem ajq(aV:List Nat):∀(l:List (List dT)) (n i:Nat),(rX aV n l).getD i []=[]\/(rX aV n l).getD i []=l.getD i []
 |[],n,i=>by simp[rX]
 |v::l,n,0=>by grind [rX]
 |v::l,n,i+1=>by exact ajq aV l (n+1) i
theorem aiz{s:AS}(i:Nat):s.slot i= .undef\/s.slot i∈s.bZ:=by grind [AS.slot]
theorem axJ{s:AS}{id:Id}{e:dT}(h:s.bT id=aj e):e∈s.cH\/∃es∈s.news,e∈es:=by
 cases id with
 |bW k=>grind [AS.bT]
 |new i j=>
  simp[AS.bT]at h;cases hi:s.news[i]? with
  |none=>grind
  |some es=>rw[hi]at h;exact .inr ⟨es,dD hi,dD h⟩
theorem Inv.aV(h:Inv C g β s a w)(hC:C.ok){an:p9}(ht:(SF an s).anJ=aL):Inv C g β (SF an s) a w:=by
 obtain⟨ks,kt,_,_,_⟩:=an;obtain⟨s1,Vq⟩:∃s1:AS,s1= {bZ:=eT ks 0 s.bZ,cH:=s.cH,news:=rX kt 0 s.news}:=⟨_,rfl⟩;have e1:s1.bZ=eT ks 0 s.bZ:=by rw[Vq]
 have e2:s1.cH=s.cH:=by rw[Vq]
 have e3:s1.news=rX kt 0 s.news:=by rw[Vq]
 have ht:(s1.bZ.all (aA.there s1) && s1.cH.all (dT.there s1) && s1.news.all λes=>es.all (dT.there s1))=aL:=by rw[Vq];exact ht
 show Inv C g β {bZ:=eT ks 0 s.bZ,cH:=s.cH,news:=rX kt 0 s.news} a w;rw[<-Vq];rw[ax,ax]at ht;obtain⟨⟨t1,t2⟩,t3⟩:=ht;have di:∀id,s1.bT id=aF\/s1.bT id=s.bT id:=λid=>by
  cases id with
  |bW k=>right;simp only[AS.bT,e2]
  |new i j=>
   simp only[AS.bT,e3];rcases ajq kt s.news 0 i with h | h
   ·rw[h];exact .inl rfl
   ·rw[h];exact .inr rfl
 have aL9:∀id,(s1.obj id).isSome=aL->s1.bT id=s.bT id:=λid hi=>by
  rcases di id with h | h
  ·simp[AS.obj,h]at hi
  ·exact h
 let ρ:aat:=λid ver=>if(s1.obj id).isSome=aL then aj (id,ver) else aF
 have hρ:∀v:aA,v.there s1=aL->v.iT ρ=v:=zY λid dy ver=>if_pos dy
 have hle:I0 ρ (s.env w g β) (s1.env w g β):=by
  refine⟨⟨⟨λ_ _ _ h=>h,λ_ _ h h'=>⟨h,h'⟩,λ_ cur _ h h'=>⟨h,cur,h',rfl⟩⟩,λ_ _ h h'=>⟨h,h'⟩⟩,λid ver r hr hb=> ?_⟩;by_cases hi:(s1.obj id).isSome=aL
  ·have:ρ id ver=aj (id,ver):=if_pos hi;rw[this,bf]at hr;subst hr;have e:=aL9 id hi;obtain⟨b1,b2⟩:=hb;exact⟨⟨by show s1.bT id≠aF;rw[e];exact b1,λv fr c hh=>b2 v fr c (e.symm.trans hh)⟩,λ⟨fr,c,hc⟩=>⟨⟨fr,c,e.symm.trans hc⟩,rfl⟩⟩
  ·have:ρ id ver=aF:=if_neg hi;rw[this]at hr;cases hr
 refine h.renamed hC ρ (by rw[e1,Fk]) hle (λi=> ?_) (λid ver fr c dy=> ?_) λk=>⟨by simp only[AS.bT,e2],rfl⟩
 ·rcases aiz (s:=s1) i with hi | hi
  ·rw[hi];exact VS.undef
  ·have aVe:=bQ.1 t1 _ hi;rcases WB ks s.bZ 0 i with h1 | h1
   ·have:s1.slot i= .undef:=by simp only[AS.slot,e1,h1]
    rw[this];exact VS.undef
   ·have:s1.slot i=s.slot i:=by simp only[AS.slot,e1,h1]
    have hv:=UU hle (h.bZ i);rw[<-this,hρ _ aVe]at hv;exact hv
 ·have:s1.bT id=s.bT id:=by
   rcases di id with h | h
   ·rw[h]at dy;cases dy
   ·exact h
  have hc:dT.there s1 (.obj ver fr c)=aL:=by
   rcases axJ dy with h | ⟨es,h1,h2⟩
   ·exact bQ.1 t2 _ h
   ·exact bQ.1 (bQ.1 t3 _ h1) _ h2
  rcases at3 c with⟨q,vq,k,v,l,cu,rfl⟩ | ⟨_,aVe⟩
  ·have e:=aL9 q hc;refine .inl (aPq.aV hle.mem (λ_=>rfl) (h.bu id ver fr _ (this.symm.trans dy)) rfl (λ_ _ h=>h) λvr _=>⟨λhb=>hle.ref q vr (q,vr) (if_pos hc) hb,λk v l hk=>e.trans hk,λ_ _ h=>h⟩)
  ·rw[aVe]at hc;exact .inr ⟨ver,this.symm.trans dy,hρ c hc,rfl⟩
theorem Inv.drop(h:Inv C g β s a w)(ks:List Nat):Inv C g β (s.drop ks) a w:=by
 refine⟨h.defers,by simpa[AS.drop,Fk]using h.size,λi=> ?_,h.bu,h.trans,h.le⟩;rcases WB ks s.bZ 0 i with h1 | h1
 ·have:(s.drop ks).slot i= .undef:=h1;grind [VS.undef]
 ·have:(s.drop ks).slot i=s.slot i:=h1;rw[this];exact h.bZ i
def DK(b q:Nat):iU->iU
 | .own (.id (.new x j)) k=>if x=b then .own (.id (.new q j)) k else .own (.id (.new x j)) k
 |l=>l
theorem Trans.aTu(w:World)(g:Nat->iU)(b q:Nat):Trans w w g λx=>DK b q (g x):=by
 refine⟨rfl,rfl,⟨rfl,aB _⟩,aB _,λy _=> ?_⟩;cases hg:g y with
 |free=>exact⟨by simp[DK],rfl⟩
 |own o k=>cases o with
  |dX=>exact⟨by simp[DK],rfl⟩
  |id x=>
   refine⟨.inr (.inr ?_),λ_ _ _ h=>h⟩;cases x with
   |bW m=>exact⟨_,_,rfl,aB _⟩
   |new x j=>
    simp only[DK];split
    ·exact⟨_,_,rfl,aB _⟩
    ·exact⟨_,_,rfl,aB _⟩
 |fresh=>exact .inl ⟨by simp[DK],rfl⟩
 |gD=>exact⟨by simp[DK],λcur e h=>⟨cur,h,rfl⟩⟩
theorem ar0(f:aA->aA)(hf:f .undef= .undef)(l:List aA)(i:Nat):(l.map f).getD i .undef=f (l.getD i .undef):=by grind
theorem Inv.LC(h:Inv C g β s a w)(hC:C.ok){b q:Nat}(aQa:b < s.news.length)(aX3:q < s.news.length):
  ∃g1 β1,Inv C g1 β1 (s.LC b q (s.news.getD b [])) a w:=by
 generalize aTW:s.news.getD b []=es;have aUI:∀j,s.bT (.new b j)=es[j]? :=λj=>by rw[<-aTW];rfl
 let ρ:aat:=O5 es b q
 let s1:=s.LC b q es
 have qK:∀j',s1.bT (.new q j')=(es[j']?).map (dT.ZK ρ):=λj'=>by grind [AS.LC,AS.bT]
 have aWD:b≠q->∀j',s1.bT (.new b j')=aF:=λaTS j'=>by grind [AS.LC,AS.bT]
 have P1:∀i,(∀j',i≠ .new q j')->(∀j',i≠ .new b j')->s1.bT i=(s.bT i).map (dT.agU ρ (M3 b q)):=λi hi hi'=>by
  cases i with
  |bW k=>grind [AS.LC,AS.bT]
  |new x y=>
   grind [AS.LC,AS.bT]
 let g1:Nat->iU:=λx=>DK b q (g x)
 let β1:Id->Option Pl:=λi=>match i with | .new x j=>if x=q then β (.new b j) else β (.new x j) | .bW k=>β (.bW k)
 have hβ1:∀i,(∀j',i≠ .new q j')->β1 i=β i:=λi hi=>by grind
 have ht:Trans w w g g1:=Trans.aTu w g _ _;have hρ:∀i ver r,ρ i ver=aj r->(∃j fr c,i= .new b j/\es[j]? =aj (.obj ver fr c)/\r=(.new q j,0))\/((∀j',i≠ .new q j')/\(∀j',i≠ .new b j')/\r=(i,ver)):=λi ver r hr=>by
  replace hr:O5 es b q i ver=aj r:=hr
  cases i with
  |bW k=>grind [O5]
  |new x j=>
   grind [O5]
 have hle:I0 ρ (s.env w g β) (s1.env w g1 β1):=by
  refine⟨Trans.mem (E:=s.env w g β) (E':=s1.env w g1 β1) ht,λi ver r hr atG=> ?_⟩;rcases hρ i ver r hr with⟨j,fr,c,rfl,he,rfl⟩ | ⟨hi,hi',rfl⟩
  ·refine⟨⟨by show s1.bT (.new q j)≠aF;grind,λ_ _ _ _=>aK _⟩,λ_=>⟨⟨fr,c,(aUI j).trans he⟩,if_pos rfl⟩⟩
  ·obtain⟨k1,k2⟩:=atG;have k1:s.bT i≠aF:=k1;have e:s1.bT i=(s.bT i).map (dT.agU ρ (M3 b q)):=P1 i hi hi';have back:∀v' fr' c',s1.bT i=aj (.obj v' fr' c')->∃c0,s.bT i=aj (.obj v' fr' c0):=λv' fr' c' hh=>by
    rw[e]at hh;cases hs:s.bT i with
    |none=>grind
    |some en=>
     rw[hs]at hh;cases en with
     |dead=>grind [dT.agU]
     |obj v0 fr0 c0=>
      grind [dT.agU]
   refine⟨⟨by
    show s1.bT i≠aF;simp_all,λv' fr' c' hh=> ?_⟩,λ⟨fr',c',hh⟩=> ?_⟩
   ·obtain⟨c0,afY⟩:=back v' fr' c' hh;exact k2 v' fr' c0 afY
   ·obtain⟨c0,afY⟩:=back ver fr' c' hh;exact⟨⟨fr',c0,afY⟩,hβ1 i hi⟩
 have aUL:∀(i:Id),(∀j',i≠ .new b j')->∀(x:Nat) (k:Nat),g x= .own (.id i) k->g1 x= .own (.id i) k:=λi hi x k hk=>by
  show DK b q (g x)=_;rw[hk];cases i with
  |bW m=>rfl
  |new y j=>grind [DK]
 refine⟨g1,β1,h.We hC ρ (by simp[AS.LC]) ht hle (λi=> ?_) (λid ver fr' c' dy=> ?_) λk=>⟨λhk=> ?_,λv' fr' c' hh=> ?_,rfl⟩⟩
 ·have:(s.LC b q es).slot i=(s.slot i).iT ρ:=ar0 _ rfl _ _;rw[this];exact UU hle (h.bZ i)
 ·have dy:s1.bT id=aj (.obj ver fr' c'):=dy;by_cases hi:∃j',id= .new q j'
  ·obtain⟨j',rfl⟩:=hi;rw[qK]at dy;cases he:es[j']? with
   |none=>grind
   |some en=>
    rw[he]at dy;cases en with
    |dead=>grind [dT.ZK]
    |obj v0 fr0 c0=>
     grind [dT.ZK,DK]
  ·by_cases hi':∃j',id= .new b j'
   ·grind
   ·have aU1:∀j',id≠ .new q j':=λj' e=>hi ⟨j',e⟩
    have hni':∀j',id≠ .new b j':=λj' e=>hi' ⟨j',e⟩
    have e:=P1 id aU1 hni';rw[e]at dy;cases hs:s.bT id with
    |none=>grind
    |some en=>
     rw[hs]at dy;cases en with
     |dead=>grind [dT.agU]
     |obj v0 fr0 c0=>
      simp only[iC,dT.agU,bf,dT.obj.injEq]at dy;obtain⟨rfl,rfl,rfl⟩:=dy;rcases at3 c0 with⟨q2,vq,k,v2,l,cu,rfl⟩ | ⟨aS8,_⟩
      ·have h0:=h.bu id v0 fr0 _ hs;left;simp only[aA.aCP];cases aWJ:M3 b q q2 with
       |true=>
        have aSU:(∀j',q2≠ .new b j')/\(∀j',q2≠ .new q j')/\∀vr,ρ q2 vr=aj (q2,vr):=by
         cases q2 with
         |bW k=>grind [O5]
         |new x y=>
          grind [M3,O5]
        obtain⟨aSU,asB,hρq⟩:=aSU;refine aPq.aV hle.mem (λ_=>rfl) h0 (hβ1 id aU1) (λpl _ hk=>aUL id hni' _ _ hk) λvr _=>⟨λhb=>hle.ref q2 vr (q2,vr) (hρq vr) hb,λk v l hk=> ?_,λpl _ hk=>aUL q2 aSU _ _ hk⟩
        have hk:s.bT q2=aj (.obj vr aL (.mp k v l)):=hk;show s1.bT q2=_;rw[P1 q2 asB aSU,hk];rfl
       |false=>
        obtain⟨pl,mb,since,seen,c0,h1,h2,h3,h4⟩:=h0;exact⟨pl,mb,since,seen,c0,(hβ1 id aU1).trans h1,h2,aUL id hni' _ _ h3,λvr ain=>au⟩
      grind [DK]
 ·grind [AS.bT]
 ·have e:=P1 (.bW k) (λ_=>by simp) (λ_=>by simp);have hh:s1.bT (.bW k)=aj (.obj v' fr' c'):=hh;rw[e]at hh;cases hs:s.bT (.bW k) with
  |none=>grind
  |some en=>
   rw[hs]at hh;cases en with
   |dead=>grind [dT.agU]
   |obj v0 fr0 c0=>
    grind [dT.agU]
theorem Rj{k t:Ty}{l:List (k.den×t.den)}:∀ {p:List Hk} {x c':aA},¬(AH (.mp k t l) p x).eval=aj c'
 |[],x,c',h=>by grind [AH,av]
 | .arr::p,x,c',h=>by simp[AH]at h;exact Rj h
 | .idx i::p,x,c',h=>by grind [AH,av]
 | .fst::p,x,c',h=>by grind [AH,av]
 | .snd::p,x,c',h=>by grind [AH,av]
theorem aaq{q:Id}{vq:Nat}{k t:Ty}{l:List (k.den×t.den)}{cu:Option (k.den×t.den)}:∀ {p:List Hk} {x c':aA},¬(AH (.rW q vq k t l cu) p x).eval=aj c'
 |[],x,c',h=>by grind [AH,av]
 | .arr::p,x,c',h=>by simp[AH]at h;exact aaq h
 | .idx i::p,x,c',h=>by grind [AH,av]
 | .fst::p,x,c',h=>by grind [AH,av]
 | .snd::p,x,c',h=>by grind [AH,av]
theorem aar{k:xO}{f:aA}{m:Nat}:∀ {p:List Hk} {x c':aA},¬(AH (.Ay k f m) p x).eval=aj c'
 |[],x,c',h=>by grind [AH,av]
 | .arr::p,x,c',h=>by simp[AH]at h;exact aar h
 | .idx i::p,x,c',h=>by grind [AH,av]
 | .fst::p,x,c',h=>by grind [AH,av]
 | .snd::p,x,c',h=>by grind [AH,av]
theorem Inv.aTq(h:Inv C g β s a w){j:Nat}{p:List Hk}(Gv:(s.at j p).eval=aj .cT){q:Nat}(hq:s.dY q=aL){e:TypeId}{t:Ty}(hz:0 < t.size){s':AS}
  (he:((s.born q [.obj 0 aS (.vec e t [])]).putAt j (.cg (.new q 0) 0 [] 0 0 0) p).eval=aj s'):gh C s' a w:=by
 obtain⟨β',h1,h2,h3⟩:=h.aHB hq (e:=e) hz;cases p with
 |nil=>
  have hj:=aw.1 Gv;obtain rfl:=aw.1 he;refine⟨g,β',h1.aQ8 j ?_⟩;have:=h.bZ j;grind [lZ]
 |cons st p=>
  simp[AS.at]at Gv;simp[AS.putAt]at he;have So:(s.born q [.obj 0 aS (.vec e t [])]).slot j=s.slot j:=rfl;rw[So]at he;split at Gv
  ·rename_i id ver p0 nn hj;split at Gv
   ·rename_i v fr c mw;obtain⟨hv,Gv⟩:=aD.1 Gv;obtain⟨⟨n,u⟩,hl,Gv⟩:=ay.1 Gv;have hu:=aw.1 Gv;subst hu;have di:=dI mw;have hne':∀j',id≠ .new q j':=λj' e=>by simp_all [o9]
    have xz:(s.born q [.obj 0 aS (.vec e t [])]).bT id=aj (.obj v fr c):=(jl _ hne').trans di;have aGt:(s.born q [.obj 0 aS (.vec e t [])]).obj id=aj (v,fr,c):=by grind [AS.obj]
    simp[hj,aGt]at he;split at he
    ·grind [av]
    ·rename_i c1 aSE;obtain⟨c',P3,he⟩:=ay.1 he;obtain rfl:=aw.1 he;have hn:c.iD=aS:=by cases c <;> first | rfl | (exact(aSE _ _ _ rfl).elim) | (exact absurd P3 Rj) | (exact absurd P3 aaq) | (exact absurd P3 aar)
     have hO:=h1.bu id v fr c xz;obtain⟨pl,cur,e0,hp,hh,hg,hk,hV⟩:=hO.box hn;have ht:=Trans.refl w g;have hle:=cM.ba (s:=s.born q [.obj 0 aS (.vec e t [])]) (β:=β') (v':=v) (fr':=fr) (c':=c.wrap c') xz (aB _) ht (λ_ _=>rfl) (λ_=>rfl);refine⟨g,β',h1.step (cZ _ _ _) ht hle (iL.ba h1.bu (by grind) hle (λ_ _=>rfl) (λ_ _ _ _ _ _ _ _=>⟨rfl,rfl⟩) ?_ (oG xz λk v1 l e=>by subst e;exact absurd P3 Rj))⟩;obtain⟨cs,k1,k2⟩:=h3;subst k2;obtain⟨u1,u2,u3⟩:=pR (p0++st::p) c.strip (cur.toList.take (c.v7 cur.size)) n .cT _ c' [.slice aF 0 0] (VO.of hV) hl k1 P3;have u4:=u2.to (u3.s9 hV.s9);have tp:((cur.toList.take (c.v7 cur.size)).drop n).take 1=[.slice aF 0 0]:=by
      rcases r9 (p0++st::p) c.strip (cur.toList.take (c.v7 cur.size)) n .cT (VO.of hV) hl with⟨aQl,afY⟩ | ⟨q1,q2⟩
      all_goals grind [V]
     rw[EW (vs:=[.slice aF 0 0]) tp]at u4;have xr:c'.size=c.strip.size:=by have e1:=u4.size;have e2:=hV.size;omega
     exact Nw.obj ⟨pl,cur,e0,hp,hh,hg,Ho hk u4.xI xr,by rw[II c u4.xI,MM u4.xI xr];grind [V.mono]⟩
   grind [av]
  grind [av]
theorem N5:∀(ids:List Id) {s:AS} {i:Id} {v:Nat} {fr:Bool} {c:aA},s.bT i=aj (.obj v fr c)->∃fr',(s.bj ids).bT i=aj (.obj v fr' c)
 |[],s,i,v,fr,c,h=>⟨fr,h⟩
 |id::ids,s,i,v,fr,c,h=>by obtain⟨fr',h'⟩:=abe (id:=id) h;exact N5 ids h'
theorem Inv.aSj(h:Inv C g β s a w){j:Nat}{p:List Hk}{u:aA}(Gv:(s.at j p).eval=aj u){t:Ty}{x:t.den}(ht:(s.jd t u).eval=aj x){s':AS}
  (he:((s.bj u.shared).putAt j (.d t x) p).eval=aj s'):gh C s' a w:=by
 cases p with
 |nil=>
  have hj:=aw.1 Gv;obtain rfl:=aw.1 he;have hs:=h.bZ j;rw[hj]at hs;obtain⟨g',i1,_,_,cs,hR,hO⟩:=DS h hs ht;exact⟨g',β,i1.aQ8 j (VS.of (a:= .d t x) (cs:=cs) (by grind [V]) hO)⟩
 |cons st p=>
  simp[AS.at]at Gv;simp[AS.putAt]at he;have So:(s.bj u.shared).slot j=s.slot j:=by simp[AS.slot,py]
  rw[So]at he;split at Gv
  ·rename_i id ver p0 nn hj;split at Gv
   ·rename_i v fr c mw;obtain⟨hv,Gv⟩:=aD.1 Gv;obtain⟨⟨n,u'⟩,hl,Gv⟩:=ay.1 Gv;have hu:=aw.1 Gv;subst hu;have di:=dI mw;obtain⟨g',h1,h2,h3,h4⟩:=fa u'.shared h;obtain⟨fr',xz⟩:=N5 u'.shared di;have aGt:(s.bj u'.shared).obj id=aj (v,fr',c):=by grind [AS.obj]
    simp[hj,aGt]at he;split at he
    ·grind [av]
    ·rename_i c1 aSE;obtain⟨c',P3,he⟩:=ay.1 he;obtain rfl:=aw.1 he;have hn:c.iD=aS:=by cases c <;> first | rfl | (exact(aSE _ _ _ rfl).elim) | (exact absurd P3 Rj) | (exact absurd P3 aaq) | (exact absurd P3 aar)
     obtain⟨pl0,cur0,e00,aMb,atH,aSR,aT0,hV0⟩:=(h.bu id v fr c di).box hn;obtain⟨pl,cur,e0,hp,hh,hg,hk,hV⟩:=(h1.bu id v fr' c xz).box hn;have P2:pl0=pl:=by have aMb:β id=aj pl0:=aMb;have hp:β id=aj pl:=hp;grind
     subst P2;have iA:cur0=cur:=by
      have atH:w.heap[pl0.b]? =_:=atH
      have hh:w.heap[pl0.b]? =_:=hh
      grind
     subst iA;obtain⟨cs,hVu,tp⟩:∃cs,V (s.env w g β) u' cs/\((cur0.toList.take (c.v7 cur0.size)).drop n).take cs.length=cs:=by
      rcases r9 (p0++st::p) c.strip (cur0.toList.take (c.v7 cur0.size)) n u' (VO.of hV0) hl with⟨aQl,afY⟩ | ⟨q1,q2⟩
      all_goals grind
     have hR:=xh rfl h.bu h2 u' t x cs hVu ht h4;have hVx:V ((s.bj u'.shared).env w g' β) (.d t x) cs:=by grind [V]
     have ht':=Trans.refl w g';have hle:=cM.ba (s:=s.bj u'.shared) (β:=β) (v':=v) (fr':=fr') (c':=c.wrap c') xz (aB _) ht' (λ_ _=>rfl) (λ_=>rfl);refine⟨g',β,h1.step (cZ _ _ _) ht' hle (iL.ba h1.bu (by grind) hle (λ_ _=>rfl) (λ_ _ _ _ _ _ _ _=>⟨rfl,rfl⟩) ?_ (oG xz λk v1 l e=>by subst e;exact absurd P3 Rj))⟩;obtain⟨u1,u2,u3⟩:=pR (p0++st::p) c.strip (cur0.toList.take (c.v7 cur0.size)) n u' _ c' cs (VO.of hV) hl hVx P3;have u4:=u2.to (u3.s9 hV.s9);rw[EW (vs:=cs) tp]at u4;have xr:c'.size=c.strip.size:=by have e1:=u4.size;have e2:=hV.size;omega
     exact Nw.obj ⟨pl0,cur0,e0,hp,hh,hg,Ho hk u4.xI xr,by rw[II c u4.xI,MM u4.xI xr];grind [V.mono]⟩
   grind [av]
  grind [av]
theorem PR{E:Env}:∀(t:Ty) (x:t.den) (u:aA),(JH t x).eval=aj u->∀cs,cn E t cs x->V E u cs
 | .fx t,x,u,h,cs,hr=>by simp only[JH]at h;obtain⟨h1,h2⟩:=bP.1 h;obtain rfl:=aw.1 h2;simp only[cn]at hr;simp only[V];exact hr.1 (Option.isNone_iff_eq_none.1 h1)
 | .pair a b,x,u,h,cs,hr=>by simp only[JH]at h;obtain⟨u1,h1,h2⟩:=ay.1 h;obtain⟨u2,h3,h4⟩:=ay.1 h2;obtain rfl:=aw.1 h4;simp only[cn]at hr;obtain⟨ca,cb,rfl,ha,hb⟩:=hr;exact asR (PR a x.1 u1 h1 ca ha) (PR b x.2 u2 h3 cb hb)
 | .int k,x,u,h,cs,hr=>by simp only[JH]at h;obtain rfl:=aw.1 h;simpa only[V]using hr
 | .bool,x,u,h,cs,hr=>by simp only[JH]at h;obtain rfl:=aw.1 h;simpa only[V]using hr
 | .str,x,u,h,cs,hr=>by simp only[JH]at h;obtain rfl:=aw.1 h;simpa only[V]using hr
 | .slice t,x,u,h,cs,hr=>by simp only[JH]at h;obtain rfl:=aw.1 h;simpa only[V]using hr
 | .unit,x,u,h,cs,hr=>by simp only[JH]at h;obtain rfl:=aw.1 h;simpa only[V]using hr
 | .arr n t,x,u,h,cs,hr=>by simp only[JH]at h;obtain rfl:=aw.1 h;simpa only[V]using hr
 | .nK t,x,u,h,cs,hr=>by simp only[JH]at h;obtain rfl:=aw.1 h;simpa only[V]using hr
 | .gF t,x,u,h,cs,hr=>by simp only[JH]at h;obtain rfl:=aw.1 h;simpa only[V]using hr
 | .eP t,x,u,h,cs,hr=>by simp only[JH]at h;obtain rfl:=aw.1 h;simpa only[V]using hr
 | .js z,x,u,h,cs,hr=>by simp only[JH]at h;obtain rfl:=aw.1 h;simpa only[V]using hr
 | .jp z,x,u,h,cs,hr=>by simp only[JH]at h;obtain rfl:=aw.1 h;simpa only[V]using hr
theorem azy{e:TypeId}{z:Nat}{c:aA}{pl:Pl}{n:Nat}(hz:0 < z)(h1:n=pl.cap*z)(h2:pl.cap<=maxLen)(h3:c.size<=n):(aA.bx e z c).JU pl n e:=by
 cases z with
 |zero=>omega
 |succ z=>exact⟨rfl,h1,h2,h3⟩
theorem anY{e:TypeId}{z:Nat}{c:aA}{n:Nat}(hz:0 < z):(aA.bx e z c).v7 n=c.size:=by
 cases z with
 |zero=>omega
 |succ z=>rfl
theorem alo{e e':TypeId}{z:Nat}{c:aA}{pl:Pl}{n:Nat}(hz:0 < z)(h:(aA.bx e z c).JU pl n e'):e'=e/\n=pl.cap*z/\pl.cap<=maxLen/\c.size<=n:=by
 cases z with
 |zero=>omega
 |succ z=>exact h
theorem aqP{E:Env}{id:Id}{ver n:Nat}{p p':List Hk}{y:Value}(h:VS E (.ptr id ver p n) y):VS E (.ptr id ver p' n) y:=by obtain⟨cs,h1,h2⟩:=h;exact⟨cs,by grind [V],h2⟩
theorem Inv.aSq(h:Inv C g β s a w){j:Nat}{id:Id}{ver n k v:Nat}{p p':List Hk}(hj:s.slot j= .ptr id ver p n){e:TypeId}{t:Ty}{r:List t.den}(mw:s.obj id=aj (v,aS,.vec e t r))
  (hk:k < r.length) {u:aA} (hu:(JH t (nth t r k)).eval=aj u):
  gh C ((s.ba id (.obj v aS (.bx e t.size (.pr (.d (.arr k t) (r.take k)) (.pr u (.d (.arr (r.drop (k+1)).length t) (r.drop (k+1)))))))).put (aj j) (.ptr id ver p' n)) a w:=by
 have di:=dI mw;obtain⟨hz,hO⟩:xo (s.env w g β) id aS (.vec e t r):=h.bu id v aS _ di;have hO:(match β id with
  |none=>r=[]
  |some pl=>∃cur k,w.heap[pl.b]? =aj (.cells cur e (0,0))/\cur.size=pl.cap*t.size/\r.length<=pl.cap/\pl.cap<=maxLen/\g pl.b= .own (.id id) k/\
    k<=r.length*t.size/\(aS=aS->k=0)/\bo (cn (s.env w g β) t) (cur.toList.take (r.length*t.size)) r):=hO
 have ht:=Trans.refl w g
 have hle:cM (s.env w g β) ((s.ba id (.obj v aS (.bx e t.size (.pr (.d (.arr k t) (r.take k)) (.pr u (.d (.arr (r.drop (k+1)).length t) (r.drop (k+1)))))))).env w g β):=
  cM.ba di (aB _) ht (λ_ _=>rfl) (λ_=>rfl)
 have hI:=h.step (cZ _ _ _) ht hle (iL.ba h.bu (by grind) hle (λ_ _=>rfl) (λ_ _ _ _ _ _ _ _=>⟨rfl,rfl⟩) (Zn:=Z5 di) (by
  cases hp:β id with
  |none=>grind
  |some pl=>
   rw[hp]at hO;obtain⟨cur,k0,q1,q2,q3,q4,q5,q6,q7,q8⟩:=hO;have aT0:=q7 rfl;subst aT0;have asD:∀c x,cn (s.env w g β) t c x->c.length=t.size:=λc x hx=>hx.size
   have c1:=bo.take asD k q8;have c2:=(q8.get asD k hk);have c3:=bo.drop asD (k+1) q8;have aAz:=PR t _ u (by grind [nth]) _ c2;have aY2:=aAz.size;have hlen:=bo.length asD q8;have aSU:=Nat.succ_mul k t.size;have hm:(r.drop (k+1)).length*t.size=r.length*t.size - (k+1)*t.size:=by grind
   have aL5:(aA.pr (.d (.arr k t) (r.take k)) (.pr u (.d (.arr (r.drop (k+1)).length t) (r.drop (k+1))))).size=r.length*t.size:=by grind [aA.size,Ty.size]
   refine Nw.obj ⟨pl,cur,e,hp,q1,q5,azy hz q2 q4 (by grind),?_⟩;rw[anY hz];refine V.mono hle ?_
   show V _ (.pr (.d (.arr k t) (r.take k)) (.pr u (.d (.arr (r.drop (k+1)).length t) (r.drop (k+1))))) _;simp[V];grind [eJ,cn,gO]))
 refine⟨g,β,hI.aQ8 j ?_⟩;have:=h.bZ j;grind [aqP,VS.mono]
theorem Vi:∀(l:List Nat) {s s1:AS},gh C s a w->(aAg s l).eval=aj s1->gh C s1 a w
 |[],s,s1,h,he=>by grind [aAg,aw]
 |j::l,s,s1,h,he=>by
  obtain⟨g,β,h⟩:=h;simp[aAg]at he;split at he
  ·rename_i id ver k p n hj;split at he
   ·rename_i v e t r mw;obtain⟨h1,he⟩:=aD.1 he;obtain⟨h2,he⟩:=bP.1 he;obtain⟨u,h3,he⟩:=ay.1 he;exact Vi l (h.aSq hj mw (of_decide_eq_true h2) h3) he
   grind [av]
  ·exact Vi l ⟨g,β,h⟩ he
  grind [av]
theorem Vf{s:AS}{id i:Id}(h:i≠id):(s.freeze id).bT i=s.bT i:=by grind [AS.freeze,cQ]
theorem s7:∀(ids:List Id) {s:AS} {i:Id},i ∉ ids->(s.bj ids).bT i=s.bT i
 |[],_,_,_=>rfl
 |id::ids,s,i,h=>by
  have h1:i≠id:=λe=>h (by grind)
  exact(s7 ids λhi=>h (az _ hi)).trans (Vf h1)
theorem bo.mem{α:Type}{R:List Value->α->Prop}:∀ {cs:List Value} {l:List α},bo R cs l->∀x∈l,∃c,R c x
 |_,[],_,x,hx=>by cases hx
 |_,_::_,⟨c,cs',_,hc,hr⟩,x,hx=>by
  rcases bI.1 hx with rfl | hx
  ·grind
  ·exact bo.mem hr x hx
theorem cn.VR{E:Env}:∀ {t:Ty} {cs:List Value} {x:t.den},cn E t cs x->∀n∈fy t x,E.g n= .free
 | .int _,_,_,_,n,hn=>by simp[fy]at hn
 | .bool,_,_,_,n,hn=>by simp[fy]at hn
 | .str,_,_,_,n,hn=>by simp[fy]at hn
 | .unit,_,_,_,n,hn=>by simp[fy]at hn
 | .slice t,_,x,h,n,hn=>by simp only[cn]at h;obtain⟨_,_,_,_,_,_,_,hc⟩:=h;obtain⟨y,hy,hn⟩:=hJ.1 (show n∈(x:List t.den).flatMap (fy t) from hn);obtain⟨c,hc⟩:=hc.mem y hy;exact cn.VR hc n hn
 | .arr _ t,_,x,h,n,hn=>by simp only[cn]at h;obtain⟨y,hy,hn⟩:=hJ.1 (show n∈(x:List t.den).flatMap (fy t) from hn);obtain⟨c,hc⟩:=h.2.mem y hy;exact cn.VR hc n hn
 | .pair a b,_,x,h,n,hn=>by
  simp only[cn]at h;obtain⟨_,_,_,ha,hb⟩:=h;rcases bg.1 (show n∈fy a x.1++fy b x.2 from hn) with hn | hn
  ·exact cn.VR ha n hn
  ·exact cn.VR hb n hn
 | .fx t,_,x,h,n,hn=>by
  simp only[cn]at h;obtain⟨y,hy,hn⟩:=hJ.1 (show n∈((x:Option (List t.den)).getD []).flatMap (fy t) from hn);cases hx:(x:Option (List t.den)) with
  |none=>rw[hx]at hy;cases hy
  |some l=>
   rw[hx]at hy;obtain⟨_,_,_,_,_,_,_,hc⟩:=h.2 l hx;obtain⟨c,hc⟩:=hc.mem y hy;exact cn.VR hc n hn
 | .nK t,_,x,h,n,hn=>by
  simp only[cn]at h;cases hx:(x:Option t.den) with
  |none=>rw[hx]at hn;simp[fy]at hn
  |some y=>
   rw[hx]at hn;obtain⟨_,_,_,_,_,hc⟩:=h.2 y hx;exact cn.VR hc n (by simpa only[fy]using hn)
 | .gF t,_,x,h,n,hn=>by
  simp only[cn]at h;cases hx:(x:Option (Nat×t.den)) with
  |none=>rw[hx]at hn;simp[fy]at hn
  |some y=>
   rw[hx]at hn;obtain⟨_,_,_,_,hf,_,hc⟩:=h.2 y hx;rcases bI.1 (show n∈y.1::fy t y.2 by simpa only[fy]using hn) with rfl | hn
   ·exact hf.1
   ·exact cn.VR hc n hn
 | .eP t,_,x,h,n,hn=>by simp only[cn]at h;obtain⟨y,hy,hn⟩:=hJ.1 (show n∈(x:Bool×List t.den).2.flatMap (fy t) from hn);obtain⟨_,_,_,_,_,_,hc,_⟩:=h;obtain⟨c,hc⟩:=hc.mem y hy;exact cn.VR hc n hn
 | .js _,_,_,_,_,hn=>by simp[fy]at hn
 | .jp _,_,_,_,_,hn=>by simp[fy]at hn
theorem Inv.VT(h:Inv C g β s a w){v:aA}{y:Value}(hv:VS (s.env w g β) v y):∀n∈s.VT v,g n= .free:=by
 intro n hn;unfold AS.VT at hn;split at hn
 ·obtain⟨cs,hV,_⟩:=hv.eg rfl;exact cn.VR hV n hn
 ·rename_i id _ _ _ _ _;split at hn
  ·rename_i ve fr e t l mw;have hO:=h.bu id ve fr _ (dI mw);obtain⟨_,hO⟩:=(hO:aSb (s.env w g β) id fr e t l);split at hO
   ·grind
   ·obtain⟨_,_,_,_,_,_,_,_,_,hc⟩:=hO;obtain⟨y,hy,hn⟩:=hJ.1 hn;obtain⟨c,hc⟩:=hc.mem y hy;exact cn.VR hc n hn
  grind
 grind
theorem ap2{x:aSa}{R:Type}{r:R}{k:AS->Option R}(h:gh C s a w)(he:aHI s x k=aj r):∃s',gh C s' a w/\k s'=aj r:=by
 obtain⟨g,β,h⟩:=h;unfold aHI at he;split at he <;> try (cases he)
 rename_i id ver hj;split at he <;> try (cases he)
 rename_i v c mw;obtain⟨y,h1,Hh⟩:=ea.1 he;obtain⟨y',h2,h3⟩:=ay.1 h1;obtain⟨h4,h5⟩:=aD.1 h3;obtain rfl:=aw.1 h5;simp at h4;obtain⟨⟨rfl,aYO⟩,aGy⟩:=h4;have aMj:c.iD=aS:=by cases c <;> first | rfl | grind [aA.aSf]
 obtain⟨_,rV⟩:=Gq Hh;have di:=dI mw;obtain⟨pl,cur,e,hp,hh,Vo,gb,hV⟩:=(h.bu id v aS c di).box aMj;have hp:β id=aj pl:=hp;have hh:w.heap[pl.b]? =aj (.cells cur e (0,0)):=hh
 have Vo:g pl.b= .own (.id id) 0:=Vo;obtain⟨g1,i1,e1,t1,f1⟩:=fa c.strip.shared h;have hR1:=xh rfl h.bu e1 c.strip x.t y' _ hV h2 f1;have xz:=(s7 _ aGy).trans di;obtain⟨g2,i2,e2,t2,f2⟩:=Sc i1 id;have aSL:((s.bj c.strip.shared).freeze id).bT id=aj (.obj v aL c):=by grind [AS.freeze,eh]
 obtain⟨pl2,cur2,e2',abD,aTY,aGr,_,_⟩:=(i2.bu id v aL c aSL).box aMj;have abD:β id=aj pl2:=abD;rw[hp]at abD;obtain rfl:=bh abD;have aGr:g2 pl.b= .free:=aGr;have hfresh:pl.b ∉ s.VT (s.slot x.r):=λhn=>by have:=h.VT (h.bZ x.r) _ hn;grind
 refine⟨_,⟨g2,β,i2.aQ8 x.j ?_⟩,rV pl.b hfresh⟩;have hs:=h.bZ x.j;rw[hj]at hs;obtain⟨ad,hy,_,hc⟩:=wJ hs;obtain⟨pl',hp',atF⟩:=hc ⟨aS,c,di⟩;have hp':β id=aj pl':=hp';rw[hp]at hp';obtain rfl:=bh hp';rw[hy,atF];refine⟨[.pointer (aj ⟨pl.b,0,aF⟩)],?_,rfl⟩;refine⟨λhn=>by grind,λz hz=> ?_⟩;have hz:=bh hz;subst hz;refine⟨cur,e,cur.toList.take (c.v7 cur.size),rfl,⟨aGr,hh⟩,λi u hu=>⟨pl.b,0,rfl,?_,?_⟩,cn.mono e2.mem hR1⟩
 ·rw[dA]at hu;split at hu
  ·show w.cell? ⟨pl.b,0+i,aF⟩=aj u;grind [eL]
  grind
 ·show ku g2 pl.b _;grind [ku]
theorem XP:∀(l:List aSa) {s:AS} {R:Type} {r:R} {k:AS->Option R},gh C s a w->aHJ l s k=aj r->∃s',gh C s' a w/\k s'=aj r
 |[],s,_,_,_,h,he=>⟨s,h,he⟩
 |x::l,s,_,_,_,h,he=>by obtain⟨s',h',he'⟩:=ap2 h he;exact XP l h' he'
theorem Inv.aTI(h:Inv C g β s a w){j:Nat}{id:Id}{ver n k m v z:Nat}{p p':List Hk}(hj:s.slot j= .ptr id ver p n){e:TypeId}{t:Ty}{l1 l2:List t.den}{u:aA}
  (mw:s.obj id=aj (v,aS,.bx e z (.pr (.d (.arr k t) l1) (.pr u (.d (.arr m t) l2))))) (hz:z=t.size) (aRS:0 < z) (dy:id ∉ u.shared) {x:t.den} (hx:(s.jd t u).eval=aj x):
  gh C (((s.bj u.shared).ba id (.obj v aS (.vec e t (l1++x::l2)))).put (aj j) (.ptr id ver p' n)) a w:=by
 have di:=dI mw;obtain⟨pl0,cur0,e0,aMb,atH,aSR,aT0,hV0⟩:=(h.bu id v aS _ di).box rfl;obtain⟨g',h1,h2,h3,h4⟩:=fa u.shared h;have xz:=(s7 _ dy).trans di;obtain⟨pl,cur,e1,hp,hh,hg,hk,hV⟩:=(h1.bu id v aS _ xz).box rfl;have hp:β id=aj pl:=hp;have P2:pl0=pl:=by have aMb:β id=aj pl0:=aMb;grind
 subst P2;have iA:cur0=cur:=by
  have atH:w.heap[pl0.b]? =_:=atH
  have hh:w.heap[pl0.b]? =_:=hh
  grind
 subst iA;obtain⟨rfl,q2,q4,q3⟩:=alo aRS hk;rw[anY aRS]at hV0;obtain⟨ca,cb,hR,hA,cu,cc,aSF,hU,hB⟩:=hV0;subst aSF;have hX:=xh rfl h.bu h2 u t x cu hU hx h4;have asD:∀c x,cn ((s.bj u.shared).env w g' β) t c x->c.length=t.size:=λc x hx=>hx.size
 have cA:=hA.2.mono λ_ _ hx=>hx.mono h2.mem
 have cB:=hB.2.mono λ_ _ hx=>hx.mono h2.mem
 have zE:bo (cn ((s.bj u.shared).env w g' β) t) (ca++(cu++cc)) (l1++x::l2):=bo.append cA ⟨cu,cc,rfl,hX,cB⟩;have hlen:=bo.length asD zE;have aL5:(aA.pr (.d (.arr k t) l1) (.pr u (.d (.arr m t) l2))).size=(l1++x::l2).length*t.size:=by grind
 rw[aL5]at hR q3;rw[hz]at q2;have atI:=by rw[q2]at q3;exact Nat.le_of_mul_le_mul_right q3 au
 have ht:=Trans.refl w g';have hle:cM ((s.bj u.shared).env w g' β) (((s.bj u.shared).ba id (.obj v aS (.vec e1 t (l1++x::l2)))).env w g' β):=cM.ba xz (aB _) ht (λ_ _=>rfl) (λ_=>rfl);have hI:=h1.step (cZ _ _ _) ht hle (iL.ba h1.bu (by grind) hle (λ_ _=>rfl) (λ_ _ _ _ _ _ _ _=>⟨rfl,rfl⟩) (Zn:=oG xz λ_ _ _ e=>by cases e) (by
  refine⟨au,?_⟩;show(match β id with
   |none=>l1++x::l2=[]
   |some pl=>_)
  rw[hp];exact⟨cur0,0,hh,q2,atI,q4,hg,aK _,λ_=>rfl,by rw[hR];exact zE.mono λ_ _ hx=>hx.mono hle.mem⟩))
 refine⟨g',β,hI.aQ8 j ?_⟩;have:=h.bZ j;grind [aqP,VS.mono]
theorem ajG:∀(l:List Nat) {s s1:AS},gh C s a w->(aKD s l).eval=aj s1->gh C s1 a w
 |[],s,s1,h,he=>by grind [aKD,aw]
 |j::l,s,s1,h,he=>by
  obtain⟨g,β,h⟩:=h;simp[aKD]at he;split at he
  ·rename_i id ver p n hj;split at he
   ·rename_i v e z k t l1 u m t' l2 mw;obtain⟨h1,he⟩:=aD.1 he;obtain⟨l2',h2,he⟩:=ay.1 he;obtain⟨x,h3,he⟩:=ay.1 he;simp at h1;obtain⟨⟨⟨h5,h6⟩,h7⟩,h8⟩:=h1;obtain⟨et,hl⟩:=jj (gS.1 h2);have et':t'=t:=by grind
    subst et';subst hl;refine ajG l (h.aTI hj mw h6 au (λhi=> ?_) h3) he;grind
   grind [av]
  grind [av]
theorem Inv.aPe(h:Inv C g β s a w){s1:AS}{g1:Nat->iU}(h1:Inv C g1 β s1 a w)(af0:s1.bZ=s.bZ)(di:∀id v fr c,s1.bT id=aj (.obj v fr c)->s.bT id=aj (.obj v fr c))
  {j:Nat} {p:List Hk} {u v:aA} (Gv:(s.at j p).eval=aj u) (hc:u.eg=aL) (akI:v.agg=u.agg) (hv:∀cs,V (s.env w g β) u cs->V (s1.env w g1 β) v cs) {s':AS} (he:(s1.putAt j v p).eval=aj s'):gh C s' a w:=by
 have So:s1.slot j=s.slot j:=by simp only[AS.slot,af0]
 cases p with
 |nil=>
  simp only[AS.at]at Gv;have hj:=aw.1 Gv;simp only[AS.putAt]at he;obtain rfl:=aw.1 he;have hs:=h.bZ j;rw[hj]at hs;obtain⟨cs,h2,h3⟩:=hs.eg hc;exact⟨g1,β,h1.aQ8 j (VS.of (hv cs h2) (by rw[akI];exact h3))⟩
 |cons st p=>
  simp only[AS.at]at Gv;simp only[AS.putAt]at he;rw[So]at he;split at Gv
  ·rename_i id ver p0 nn hj;split at Gv
   ·rename_i v0 fr c mw;obtain⟨_,Gv⟩:=aD.1 Gv;obtain⟨⟨n,u'⟩,hl,Gv⟩:=ay.1 Gv;have hu:=aw.1 Gv;simp only at hu;subst hu;have aOC:=dI mw;simp only[hj]at he;split at he
    ·rename_i v1 fr1 c1 aGt;have xz:=dI aGt;have e0:=di _ _ _ _ xz;rw[aOC]at e0;cases e0;split at he
     ·simp only[av]at he
     ·rename_i c2 aSE;obtain⟨c',P3,he⟩:=ay.1 he;obtain rfl:=aw.1 he;have hn:c.iD=aS:=by cases c <;> first | rfl | (exact(aSE _ _ _ rfl).elim) | (exact absurd P3 Rj) | (exact absurd P3 aaq) | (exact absurd P3 aar)
      obtain⟨pl0,cur0,e00,aMb,atH,aSR,aT0,hV0⟩:=(h.bu id v0 fr c aOC).box hn;obtain⟨pl,cur,e0,hp,hh,hg,hk,hV⟩:=(h1.bu id v0 fr c xz).box hn;have P2:pl0=pl:=by have aMb:β id=aj pl0:=aMb;have hp:β id=aj pl:=hp;rw[aMb]at hp;exact bh hp
      subst P2;have iA:cur0=cur:=by
       have atH:w.heap[pl0.b]? =_:=atH
       have hh:w.heap[pl0.b]? =_:=hh
       rw[atH]at hh;simpa using(congrArg (λo=>match o with | some (.cells x _ _)=>x | _=>cur0) hh)
      subst iA;obtain⟨cs,hVu,tp⟩:∃cs,V (s.env w g β) u' cs/\((cur0.toList.take (c.v7 cur0.size)).drop n).take cs.length=cs:=by
       rcases r9 (p0++st::p) c.strip (cur0.toList.take (c.v7 cur0.size)) n u' (VO.of hV0) hl with⟨aQl,afY⟩ | ⟨q1,q2⟩
       ·refine⟨cur0.toList.take (c.v7 cur0.size),by rw[afY];exact hV0,?_⟩;rw[aQl,aO,bK]
       ·refine⟨_,q1,?_⟩;rw[dw,gm];congr 1;omega
      have hVx:=hv cs hVu;have ht':=Trans.refl w g1;have hle:=cM.ba (s:=s1) (β:=β) (v':=v0) (fr':=fr) (c':=c.wrap c') xz (aB _) ht' (λ_ _=>rfl) (λ_=>rfl);refine⟨g1,β,h1.step (cZ _ _ _) ht' hle (iL.ba h1.bu (by rw[xz];simp) hle (λ_ _=>rfl) (λ_ _ _ _ _ _ _ _=>⟨rfl,rfl⟩) ?_ (oG xz λk v1 l e=>by subst e;exact absurd P3 Rj))⟩;obtain⟨u1,u2,u3⟩:=pR (p0++st::p) c.strip (cur0.toList.take (c.v7 cur0.size)) n u' _ c' cs (VO.of hV) hl hVx P3;have u4:=u2.to (u3.s9 hV.s9);rw[EW (vs:=cs) tp]at u4;have xr:c'.size=c.strip.size:=by have e1:=u4.size;have e2:=hV.size;omega
      exact Nw.obj ⟨pl0,cur0,e0,hp,hh,hg,Ho hk u4.xI xr,by rw[II c u4.xI,MM u4.xI xr];exact V.mono hle u4⟩
    ·simp only[av]at he
   ·simp only[av]at Gv
  ·simp only[av]at Gv
theorem Inv.nowAt(h:Inv C g β s a w){j:Nat}{p:List Hk}{id:Id}{ver len:Nat}(Gv:(s.at j p).eval=aj (.cg id ver [] 0 0 len)){e:TypeId}{t:Ty}{r:List t.den}(mw:s.obj id=aj (ver,aS,.vec e t r))(hlen:len=r.length)
  {s':AS} (he:((s.ba id .dead).putAt j (.d (.eP t) (aL,r)) p).eval=aj s'):gh C s' a w:=by
 have hs:=dI mw;have hO:=h.bu id ver aS _ hs;obtain⟨hz,hO⟩:=hO;have hO:(match β id with
  |none=>r=[]
  |some pl=>∃cur k,w.heap[pl.b]? =aj (.cells cur e (0,0))/\cur.size=pl.cap*t.size/\r.length<=pl.cap/\pl.cap<=maxLen/\g pl.b= .own (.id id) k/\
    k<=r.length*t.size/\(aS=aS->k=0)/\bo (cn (s.env w g β) t) (cur.toList.take (r.length*t.size)) r):=hO
 have aOA:∀i v fr c,(s.ba id .dead).bT i=aj (.obj v fr c)->s.bT i=aj (.obj v fr c):=λi v fr c hi=>by
  by_cases dy:i=id
  ·subst dy;rw[eh s i .dead (by rw[hs];simp)]at hi;cases hi
  ·rwa[cQ s id i .dead dy]at hi
 cases hp:β id with
 |none=>
  rw[hp]at hO;obtain rfl:=hO;obtain⟨i1,_⟩:=h.aOY hs (Trans.refl w g) λ_ _ _ _ _ _ _ _=>⟨rfl,rfl⟩
  refine h.aPe i1 (cZ _ _ _) aOA (v:= .d (.eP t) (aL,[])) Gv rfl rfl (λcs hv=> ?_) he;simp only[V]at hv ⊢;obtain⟨ad,cap,e1,_,_,_,hc⟩:=hv;have:=hc ⟨aS,_,hs⟩;have hp':(s.env w g β).β id=aF:=hp;rw[hp']at this;obtain⟨rfl,_,rfl⟩:=this;rw[e1,hlen];exact cn.aHF
 |some pl=>
  rw[hp]at hO;obtain⟨cur,k,q1,q2,q3,q4,q5,q6,q7,q8⟩:=hO;have hk:=q7 rfl;subst hk;obtain⟨i1,hle⟩:=h.kill hs q5 rfl rfl ⟨rfl,aB _⟩ rfl (λ_ _=>rfl) (lb:= .fresh) (.inr rfl);refine h.aPe i1 (cZ _ _ _) aOA (v:= .d (.eP t) (aL,r)) Gv rfl rfl (λcs hv=> ?_) he;simp only[V]at hv ⊢;obtain⟨ad,cap,e1,hl,AO,_,hc⟩:=hv;have:=hc ⟨aS,_,hs⟩;have hp':(s.env w g β).β id=aj pl:=hp;rw[hp']at this;have ha:=this.1 (.inr trivial);simp only[cn];refine⟨ad,cap,_,by rw[e1,hlen],by rw[<-hlen];exact hl,by rw[<-hlen];exact AO,q8.mono λc x hx=>hx.mono hle.mem,(λhh=>by cases hh),λ_ i v hi=>⟨pl.b,0,ha,?_,fV _ _ _,cur,e,q1⟩⟩;show w.cell? ⟨pl.b,0+i,aF⟩=aj v;rw[aU,cell_of_row w pl.b i cur e (0,0) q1];rw[dA]at hi;split at hi
  ·simpa using hi
  ·cases hi
theorem HZ:∀(l:List (Nat×List Hk)) {s s1:AS},gh C s a w->(apY s l).eval=aj s1->gh C s1 a w
 |[],s,s1,h,he=>by simp only[apY]at he;obtain rfl:=aw.1 he;exact h
 |o::l,s,s1,h,he=>by
  obtain⟨g,β,h⟩:=h;unfold apY at he;obtain⟨u,hu,he⟩:=ay.1 he;split at he
  ·rename_i id ver len;split at he
   ·rename_i v e t r mw;obtain⟨hv,he⟩:=aD.1 he;obtain⟨hl,he⟩:=bP.1 he;obtain⟨s',h1,h2⟩:=ay.1 he;have hv:v=ver:=by simpa using hv
    subst hv;exact HZ l (h.nowAt hu mw (by simpa using hl) h1) h2
   ·simp only[av]at he
  ·exact HZ l ⟨g,β,h⟩ he
theorem Ns:∀(l:List (Id×Ty)) {s s1:AS},gh C s a w->(av7 s l).eval=aj s1->gh C s1 a w
 |[],s,s1,h,he=>by simp only[av7]at he;obtain rfl:=aw.1 he;exact h
 |o::l,s,s1,h,he=>by
  obtain⟨g,β,h⟩:=h;unfold av7 at he;split at he
  ·rename_i v fr e t r mw;rcases my (t==o.2.ZN) with hq | hq;· simp only[hq,cond_true]at he;exact Ns l ⟨g,β,h⟩ he
   obtain⟨xr,he⟩:=aD.1 (by simpa only[hq,cond_false]using he);obtain⟨r',hr,he⟩:=ay.1 he;have xr:o.2.size=t.size:=by simpa using xr
   have hs:=dI mw;obtain⟨c1,c2⟩:=ahT (E:=s.env w g β) (gS.1 hr);have ht:=Trans.refl w g;have hle:cM (s.env w g β) ((s.ba o.1 (.obj v fr (.vec e o.2 r'))).env w g β):=cM.ba hs (aB _) ht (λ_ _=>rfl) (λ_=>rfl);refine Ns l ⟨g,β,h.step (cZ _ _ _) ht hle (iL.ba h.bu (by rw[hs];simp) hle (λ_ _=>rfl) (λ_ _ _ _ _ _ _ _=>⟨rfl,rfl⟩) ?_ (oG hs λk v1 l e=>by cases e))⟩ he;obtain⟨hz,hO⟩:=h.bu o.1 v fr _ hs;refine⟨by rw[xr];exact hz,?_⟩;have hO:(match β o.1 with
    |none=>r=[]
    |some pl=>∃cur k,w.heap[pl.b]? =aj (.cells cur e (0,0))/\cur.size=pl.cap*t.size/\r.length<=pl.cap/\pl.cap<=maxLen/\g pl.b= .own (.id o.1) k/\
      k<=r.length*t.size/\(fr=aS->k=0)/\bo (cn (s.env w g β) t) (cur.toList.take (r.length*t.size)) r):=hO
   show(match β o.1 with
    |none=>r'=[]
    |some pl=>_)
   cases hp:β o.1 with
   |none=>
    rw[hp]at hO;have hO:r=[]:=hO;subst hO;exact bD c1
   |some pl=>
    rw[hp]at hO;obtain⟨cur,k,q1,q2,q3,q4,q5,q6,q7,q8⟩:=hO;exact⟨cur,k,q1,by rw[xr];exact q2,by rw[c1];exact q3,q4,q5,by rw[c1,xr];exact q6,q7,by rw[c1,xr];exact(c2 _ q8).mono λc x hx=>hx.mono hle.mem⟩
  ·exact Ns l ⟨g,β,h⟩ he
theorem Hf:∀t:Ty,t.ZN.size=t.size
 | .pair a b=>by simp only[Ty.ZN,Ty.size,Hf a,Hf b]
 | .eP _=>rfl
 | .int _ | .bool | .str | .slice _ | .unit | .arr _ _ | .fx _ | .nK _ | .gF _ | .js _ | .jp _=>rfl
theorem cn.ZN{E E1:Env}(hm:vd E E1)(hf:∀b,E.g b= .fresh->E1.g b= .gD)(hw:E1.w=E.w):∀ {t:Ty} {cs:List Value} {x:t.den},t.mr x=aL->cn E t cs x->cn E1 t.ZN cs (t.AF x):=by
 intro t
 induction t with
 |eP t _=>
  intro cs x hn h;have hn:((x:Bool×List t.den).1 && !(t.size==0))=aL:=hn;simp only[ax,dv,mS]at hn;simp only[cn]at h;obtain⟨a,cap,vs,e,hl,hs,hc,_,h2⟩:=h;have h2:=h2 hn.1;have hlen:=bo.length (λc x hx=>cn.size hx) hc;show cn E1 (.js t.size) cs (x:Bool×List t.den).2.length;simp only[cn];refine⟨a,cap,e,hl,λxq=> ?_⟩;have ao3:0 < vs.length:=by rw[hlen];exact Nat.mul_pos xq au
  obtain⟨b,off,ha,tp,hg,cur,e1,hh⟩:=h2 (vs.length - 1) vs[vs.length - 1] (cm au);refine⟨b,off,ha,hf b hg,cur,e1,by rw[hw];exact hh,?_⟩;rw[cell_of_row E.w b _ cur e1 (0,0) hh]at tp;have iB:off+(vs.length - 1) < cur.size:=by
   by_cases hc:off+(vs.length - 1) < cur.size
   ·exact hc
   ·have:cur.toList[off+(vs.length - 1)]? =aF:=kZ (by have e1:cur.toList.length=cur.size:=eX;omega)
    simp_all
  rw[<-hlen];omega
 |pair a b iha ihb=>
  intro cs x hn h;have hn:(a.mr x.1 && b.mr x.2)=aL:=hn;rw[ax]at hn;simp only[cn]at h;obtain⟨ca,cb,e,ha,hb⟩:=h;show cn E1 (.pair a.ZN b.ZN) cs (a.AF x.1,b.AF x.2);simp only[cn];exact⟨ca,cb,e,iha hn.1 ha,ihb hn.2 hb⟩
 |_=>
  intro cs x hn h;exact h.ik hm (.inl hn)
theorem bo.aJ0{α β:Type}{R:List Value->α->Prop}{R':List Value->β->Prop}{p:α->Bool}{f:α->β}(h:∀c x,p x=aL->R c x->R' c (f x)):∀ {cs:List Value} {l:List α},l.all p=aL->bo R cs l->bo R' cs (l.map f)
 |_,[],_,hc=>hc
 |_,x::xs,hp,⟨c,cs',e,hx,hr⟩=>by rw[eR,ax]at hp;exact⟨c,cs',e,h c x hp.1 hx,bo.aJ0 h hp.2 hr⟩
def WC:iU->iU
 | .fresh=> .gD
 |l=>l
theorem aDm{b:Bool}{s1:AS}(h:gh C s a w)(he:(aTA b s).eval=aj s1):gh C s1 a w:=by
 cases b with
 |false=>
  obtain rfl:=aw.1 he;exact h
 |true=>
  obtain⟨g,β,h⟩:=h;obtain⟨af0,he⟩:=aD.1 he;obtain⟨D3,he⟩:=bP.1 he;have he:=aw.1 he;rw[ax]at D3;have di:∀id,s1.bT id=(s.bT id).map dT.ZN:=λid=>by
   subst he;cases id with
   |bW k=>simp only[AS.bT,gI]
   |new i j=>
    simp only[AS.bT,bS,gI];cases s.news[i]? <;> simp
  have hslots:s1.bZ=s.bZ:=by rw[<-he]
  have gb:∀id e,s.bT id=aj e->e.mr=aL:=λid e hi=>by
   rcases axJ hi with h1 | ⟨es,h1,h2⟩
   ·exact bQ.1 D3.1 _ h1
   ·exact bQ.1 (bQ.1 D3.2 _ h1) _ h2
  have aAA:∀id v fr c,s1.bT id=aj (.obj v fr c)->∃c0,s.bT id=aj (.obj v fr c0)/\(dT.obj v fr c0).ZN= .obj v fr c:=λid v fr c hi=>by
   rw[di,dL]at hi;obtain⟨e,h1,h2⟩:=hi;cases e with
   |dead=>cases h2
   |obj v0 fr0 c0=>
    have:v0=v/\fr0=fr:=by cases c0 <;> simp only[dT.ZN,dT.obj.injEq]at h2 <;> exact⟨h2.1,h2.2.1⟩
    obtain⟨rfl,rfl⟩:=this;exact⟨c0,h1,h2⟩
  have aL7:∀x,WC (g x)=g x\/g x= .fresh:=λx=>by cases g x <;> first | exact .inl rfl | exact .inr rfl
  have hm:vd (s.env w g β) (s1.env w (λx=>WC (g x)) β):=by
   refine⟨λb off v ⟨h1,h2⟩=>⟨h1,?_⟩,λb ob h1 h2=>⟨?_,h2⟩,λb cur e h1 h2=>⟨?_,cur,h2,rfl⟩⟩
   ·have h2:ku g b off:=h2;show ku (λx=>WC (g x)) b off;rcases aL7 b with h3 | h3
    ·unfold ku at h2 ⊢;simp only[h3];exact h2
    ·unfold ku at h2;rw[h3]at h2;exact h2.elim
   ·have h1:g b= .free:=h1;show WC (g b)= .free;rw[h1];rfl
   ·have h1:g b= .gD:=h1;show WC (g b)= .gD;rw[h1];rfl
  have hle:CI (s.env w g β) (s1.env w (λx=>WC (g x)) β):=by
   refine⟨hm,λid ver ⟨h1,h2⟩=>⟨?_,λv fr c hi=> ?_⟩,λid ver _ ⟨fr,c,hi⟩=> ?_⟩
   ·have h1:s.bT id≠aF:=h1;show s1.bT id≠aF;rw[di];simpa using h1
   ·obtain⟨c0,h3,_⟩:=aAA id v fr c hi;exact h2 v fr c0 h3
   ·obtain⟨c0,h3,_⟩:=aAA id ver fr c hi;exact⟨⟨fr,c0,h3⟩,rfl⟩
  refine⟨λx=>WC (g x),β,⟨⟨h.defers.1,λd hd=> ?_⟩,by rw[hslots];exact h.size,λi=> ?_,λid ver fr c hi=> ?_,?_,h.le.trans hle⟩⟩
  ·obtain⟨D,h1,h2,h3,h4⟩:=h.defers.2 d hd;exact⟨D,h1,h2,h3,by show WC (g D)=_;rw[h4];rfl⟩
  ·have e:s1.slot i=s.slot i:=by simp only[AS.slot,hslots]
   rw[e];refine(h.bZ i).ik hle (.inl ?_);rcases aiz (s:=s) i with hi | hi
   ·rw[hi];rfl
   ·exact bQ.1 af0 _ hi
  ·obtain⟨c0,h1,h2⟩:=aAA id ver fr c hi;have hO:=h.bu id ver fr c0 h1;have hk:=gb id _ h1;have Vo:∀pl,β id=aj pl->WC (g pl.b)=g pl.b:=λpl hp=>by obtain⟨_,hl⟩:=hO.label (pl:=pl) hp;have hl:(∃k,g pl.b= .own (.id id) k)\/(fr=aL/\g pl.b= .free):=hl;rcases hl with⟨k,hl⟩ | ⟨_,hl⟩ <;> (rw[hl];rfl)
   by_cases hn:c0.iD=aS
   ·have e:c0=c:=by cases c0 <;> first | (simp[aA.iD]at hn;done) | (simpa only[dT.ZN,dT.obj.injEq,iw]using h2)
    subst e;have aAw:c0.qh=aL:=by cases c0 <;> first | (simp[aA.iD]at hn;done) | (simp only[dT.mr,ax]at hk;exact hk.1)
    obtain⟨pl,cur,e,p1,p2,p3,p5,p4⟩:=hO.box hn;refine Nw.obj ⟨pl,cur,e,p1,p2,?_,p5,p4.ik hle (.inl (by cases c0 <;> exact aAw))⟩;show WC (g pl.b)=_;rw[Vo pl p1];exact p3
   ·cases c0 <;> first
     | (exact absurd rfl hn)
     | (simp only[dT.mr,aA.quiet,Bool.and_false,bw]at hk;done)
     |skip
    ·rename_i e t l;simp only[dT.ZN,dT.obj.injEq,iw]at h2;subst h2;have hk:(l:List t.den).all t.mr=aL:=hk;obtain⟨hz,hO⟩:=hO;refine⟨by rw[Hf];exact hz,?_⟩;show(match β id with
      |none=>_
      |some pl=>_)
     have hO':(match β id with
      |none=>_
      |some pl=>_):=hO
     cases hp:β id with
     |none=>rw[hp]at hO';have hO':l=[]:=hO';rw[hO'];rfl
     |some pl=>
      rw[hp]at hO';obtain⟨cur,k,q1,q2,q3,q4,q5,q6,q7,q8⟩:=hO';have q5:g pl.b= .own (.id id) k:=q5;refine⟨cur,k,q1,by rw[Hf];exact q2,by rw[List.length_map];exact q3,q4,by show WC (g pl.b)=_;rw[q5];rfl,by rw[List.length_map,Hf];exact q6,q7,?_⟩;rw[List.length_map,Hf];exact bo.aJ0 (λc x hx hr=>cn.ZN hm (λb hb=>by show WC (g b)= .gD;have hb:g b= .fresh:=hb;rw[hb];rfl) rfl hx hr) hk q8
    ·rename_i kt vt l;have h2:aA.mp kt vt l=c:=by simpa only[dT.ZN,dT.obj.injEq,iw]using h2
     subst h2;simp only[dT.mr,aA.qh,ax]at hk;obtain⟨pl,es,clock,p1,p2,p3,p4⟩:=hO;exact⟨pl,es,clock,p1,p2,by show WC (g pl.b)=_;rw[Vo pl p1];exact p3,⟨p4.1.1.ik hm (.inl hk.1.1) (.inl hk.1.2),p4.1.2⟩,p4.2⟩
  ·have h0:=h.trans;refine⟨h0.os,h0.tape,h0.output,h0.size,λx hx=> ?_⟩;have h1:=h0.afP x hx;cases hg:C.E.g x with
   |free=>rw[hg]at h1;exact⟨by rw[h1.1];rfl,h1.2⟩
   |own o k=>cases o with
    |dX=>rw[hg]at h1;exact⟨by rw[h1.1];rfl,h1.2⟩
    |id i=>
     rw[hg]at h1;refine⟨?_,h1.2⟩;rcases h1.1 with h2 | ⟨h0,h2 | h2⟩ | ⟨i',k',h2,h3⟩
     ·rw[h2];exact .inl rfl
     ·rw[h2];exact .inr (.inl ⟨h0,.inr rfl⟩)
     ·rw[h2];exact .inr (.inl ⟨h0,.inr rfl⟩)
     ·rw[h2];exact .inr (.inr ⟨i',k',rfl,h3⟩)
   |fresh=>
    rw[hg]at h1;rcases h1 with h2 | ⟨_,h2⟩
    ·exact .inr ⟨rfl,by rw[h2.1];rfl⟩
    ·exact .inr ⟨rfl,by rw[h2];rfl⟩
   |gD=>rw[hg]at h1;exact⟨by rw[h1.1];rfl,h1.2⟩
theorem HB:∀(l:List aTN) {s s1:AS},gh C s a w->(Xc s l).eval=aj s1->gh C s1 a w
 |[],s,s1,h,he=>by grind [Xc,aw]
 |o::l,s,s1,h,he=>by
  obtain⟨g,β,h⟩:=h;unfold Xc at he;split at he
  ·exact HB l ⟨g,β,h⟩ he
  obtain⟨u,hu,he⟩:=ay.1 he;obtain⟨x,hx,he⟩:=ay.1 he;obtain⟨s',hs,he⟩:=ay.1 he;exact HB l (h.aSj hu hx hs) he
theorem pI(hC:C.ok):∀(l:List aEu) {s s1:AS},gh C s a w->(yV P s l).eval=aj s1->gh C s1 a w
 |[],s,s1,h,he=>by grind [yV,aw]
 |o::l,s,s1,h,he=>by
  obtain⟨g,β,h⟩:=h;unfold yV at he;split at he
  ·exact pI hC l ⟨g,β,h⟩ he
  obtain⟨u,hu,he⟩:=ay.1 he;split at he
  ·split at he
   ·rename_i e t b Rk hv;obtain⟨s',h1,h2⟩:=ay.1 he;exact pI hC l (h.aTq hu hv (afU Rk) h1) h2
   grind [av]
  ·split at he
   ·rename_i b j ver aWE;split at he
    ·rename_i v fr c mw hm;split at he
     ·have aQa:b < s.news.length:=by have:=dI mw;grind [AS.bT]
      obtain⟨g1,β1,h1⟩:=h.LC hC aQa (by simpa using hm);exact pI hC l ⟨g1,β1,h1⟩ he
     grind [av]
    grind [av]
   grind [av]
theorem afj:∀(l:List Nat) {s s1:AS},gh C s a w->(ajE s l).eval=aj s1->gh C s1 a w
 |[],s,s1,h,he=>by grind [ajE,aw]
 |j::l,s,s1,h,he=>by
  obtain⟨g,β,h⟩:=h;simp[ajE]at he;split at he
  ·rename_i id ver len hj;split at he
   ·rename_i v e t r mw;split at he
    ·obtain⟨h1,h2⟩:=bP.1 he;have h1:len<=r.length:=by grind
     refine afj l ?_ h2
     have di:=dI mw;have hO:=h.bu id v aS _ di;have ht:=Trans.refl w g;have hle:cM (s.env w g β) ((s.ba id (.obj v aS (.vec e t (r.take len)))).env w g β):=cM.ba di (aB _) ht (λ_ _=>rfl) (λ_=>rfl);refine⟨g,β,h.step (cZ _ _ _) ht hle (iL.ba h.bu (by grind) hle (λ_ _=>rfl) (λ_ _ _ _ _ _ _ _=>⟨rfl,rfl⟩) ?_ (Z5 di))⟩;obtain⟨hz,hO⟩:=hO;refine⟨hz,?_⟩;have hO:(match β id with
      |none=>r=[]
      |some pl=>∃cur k,w.heap[pl.b]? =aj (.cells cur e (0,0))/\cur.size=pl.cap*t.size/\r.length<=pl.cap/\pl.cap<=maxLen/\g pl.b= .own (.id id) k/\
        k<=r.length*t.size/\(aS=aS->k=0)/\bo (cn (s.env w g β) t) (cur.toList.take (r.length*t.size)) r):=hO
     show(match β id with
      |none=>r.take len=[]
      |some pl=>_)
     cases hp:β id with
     |none=>grind
     |some pl=>
      rw[hp]at hO;obtain⟨cur,k,q1,q2,q3,q4,q5,q6,q7,q8⟩:=hO;have hk:=q7 rfl;subst hk;have hlen:(r.take len).length=len:=by grind
      refine⟨cur,0,q1,q2,au,q4,q5,aK _,λ_=>rfl,?_⟩;have:=bo.take (λ_ _ hx=>cn.size hx) len q8;rw[List.take_take,Nat.min_eq_left (Nat.mul_le_mul_right _ h1)]at this;rw[hlen];exact this.mono λ_ _ hx=>hx.mono hle.mem
    grind [av]
   grind [av]
  grind [av]
theorem Rt:∀(l:List (Nat×Ty)) {s s1:AS},gh C s a w->(asData s l).eval=aj s1->gh C s1 a w
 |[],s,s1,h,he=>by grind [asData,aw]
 | (j,t)::l,s,s1,h,he=>by obtain⟨g,β,h⟩:=h;obtain⟨x,h1,h2⟩:=ay.1 he;obtain⟨g',i1,_,_,cs,hR,hO⟩:=DS h (h.bZ j) h1;exact Rt l ⟨g',β,i1.aQ8 j (VS.of (a:= .d t x) (cs:=cs) (by grind [V]) hO)⟩ h2
theorem Inv.still:∀(l:List Nat) {s:AS},Inv C g β s a w->Inv C g β (s.still l) a w
 |[],s,h=>h
 |q::l,s,h=>by
  simp[AS.still];split
  ·rename_i v fr i ver k t r cu mw;exact Inv.still l (h.aOT (dI mw) (.inr ⟨rfl,rfl,rfl⟩))
  ·exact Inv.still l h
theorem nQ{α:Type}(l:List α):(dq l).Perm l:=Quotient.exact (s:=aqn α) (Quotient.exists_rep (Quotient.mk (aqn α) l)).choose_spec
theorem azF{α:Type}{l l':List α}(h:l.Perm l'):dq l=dq l':=by have e:Quotient.mk (aqn α) l=Quotient.mk (aqn α) l':=Quotient.sound h;grind [dq]
theorem Inv.canon:∀(l:List Id) {s:AS},Inv C g β s a w->Inv C g β (s.canon l) a w
 |[],s,h=>h
 |id::l,s,h=>by
  simp[AS.canon];split
  ·rename_i v fr k t r mw;have di:=dI mw;have ht:=Trans.refl w g;have hle:cM (s.env w g β) ((s.ba id (.obj v fr (.mp k t (dq r)))).env w g β):=cM.ba di (aB _) ht (λ_ _=>rfl) (λ_=>rfl);obtain⟨pl,es,clock,h1,h2,h3,⟨⟨l',h4,h5⟩,h6⟩,h7⟩:=h.bu id v fr _ di
   refine Inv.canon l (h.step (cZ _ _ _) ht hle (iL.ba h.bu (by grind) hle (λ_ _=>rfl) (λ_ _ _ _ _ _ _ _=>⟨rfl,rfl⟩)
    ⟨pl,es,clock,h1,h2,h3,⟨⟨l',h4.mono λ_ _ he=>he.mono hle.mem,h5.trans (nQ r).symm⟩,(((nQ r).map _).nodup_iff).2 h6⟩,h7⟩ ?_))
   grind
  ·exact Inv.canon l h
theorem WT(k v n:Nat)(i:Id)(ver:Nat):(i= .bW k/\ver=v/\v8 k v n i ver=aj (.bW k,n))\/(i= .bW k/\v8 k v n i ver=aF)\/(i≠ .bW k/\v8 k v n i ver=aj (i,ver)):=by
 cases i with
 |new x j=>simp[v8]
 |bW j=>
  simp[v8];cases h1:jD j k with
  |false=>exact .inr (.inr ⟨λe=>by simp_all,rfl⟩)
  |true=>
   grind [gM]
theorem an2(hC:C.ok){s s1:AS}(h:Inv C g β s a w){k n:Nat}(he:(s.aE1 k n).eval=aj s1):Inv C g β s1 a w:=by
 unfold AS.aE1 at he;split at he;rotate_left
 ·exact(av.1 he).elim
 rename_i v fr c hk;obtain⟨aWX,he⟩:=aD.1 he;have aWX:v<=n\/1<=n:=(Bool.or_eq_true_iff.1 aWX).imp dH dH;have hz:∀ver,C.E.Ct (.bW k) ver->ver=0:=λver hb=>by
  obtain⟨h1,h2⟩:=hb;cases hs:C.E.s (.bW k) with
  |none=>exact absurd hs h1
  |some en=>
   cases en with
   |dead=>
    have:=(h.le.Ct (.bW k) (v+1) ⟨h1,λv' fr' c' hh=>by rw[hs]at hh;cases hh⟩).2 _ _ _ hk;omega
   |obj v0 fr0 c0=>
    have:=hC.2 _ _ _ _ hs;have:=h2 _ _ _ hs;omega
 obtain rfl:=aw.1 he;have aSV:k < s.cH.length:=by
  rcases Nat.lt_or_ge k s.cH.length with h | h
  ·exact h
  ·simp[AS.bT,kZ h]at hk
 generalize Vq:({bZ:=s.bZ.map (aA.iT (v8 k v n)),cH:=(s.cH.map (dT.avR (v8 k v n) (Kf k))).set k (.obj n fr (c.iT (v8 k v n))),news:=s.news.map λes=>es.map (dT.avR (v8 k v n) (Kf k))}:AS)=s1;have e0:s1.bT (.bW k)=aj (.obj n fr (c.iT (v8 k v n))):=by rw[<-Vq];simp[AS.bT,aSV]
 have e1:∀i,i≠ .bW k->s1.bT i=(s.bT i).map (dT.avR (v8 k v n) (Kf k)):=λi hi=>by
  rw[<-Vq];cases i with
  |bW j=>
   have:¬k=j:=λe=>hi (by rw[e])
   simp only[AS.bT];rw[lK this,gI]
  |new x j=>
   simp only[AS.bT,bS,gI];cases s.news[x]? <;> simp
 have e2:∀i v' fr' c',i≠ .bW k->s1.bT i=aj (.obj v' fr' c')->∃c0,s.bT i=aj (.obj v' fr' c0)/\c'=c0.aCP (v8 k v n) (Kf k):=λi v' fr' c' hi hh=>by
  rw[e1 i hi]at hh;cases hs:s.bT i with
  |none=>rw[hs]at hh;cases hh
  |some en=>
   rw[hs]at hh;cases en with
   |dead=>simp[dT.avR]at hh
   |obj v0 fr0 c0=>
    simp only[iC,dT.avR,bf,dT.obj.injEq]at hh;obtain⟨rfl,rfl,rfl⟩:=hh;exact⟨c0,rfl,rfl⟩
 have e3:∀i,i≠ .bW k->s.bT i≠aF->s1.bT i≠aF:=λi hi hh=>by
  rw[e1 i hi];cases hs:s.bT i with
  |none=>exact absurd hs hh
  |some en=>simp
 have hle:I0 (v8 k v n) (s.env w g β) (s1.env w g β):=by
  refine⟨Trans.mem (E:=s.env w g β) (E':=s1.env w g β) (Trans.refl w g),λi ver r hr atG=> ?_⟩;rcases WT k v n i ver with⟨rfl,rfl,e⟩ | ⟨rfl,e⟩ | ⟨hi,e⟩
  ·rw[e]at hr;obtain rfl:=bh hr;refine⟨⟨by show s1.bT (.bW k)≠aF;rw[e0];simp,λv' fr' c' hh=> ?_⟩,λ_=>⟨⟨fr,c,hk⟩,rfl⟩⟩;have hh:s1.bT (.bW k)=aj (.obj v' fr' c'):=hh;rw[e0]at hh;simp only[bf,dT.obj.injEq]at hh;exact vX hh.1
  ·rw[e]at hr;cases hr
  ·rw[e]at hr;obtain rfl:=bh hr;obtain⟨k1,k2⟩:=atG;have k1:s.bT i≠aF:=k1;have k2:∀v' fr' c',s.bT i=aj (.obj v' fr' c')->ver<=v':=k2;refine⟨⟨e3 i hi k1,λv' fr' c' hh=> ?_⟩,λ⟨fr',c',hh⟩=> ?_⟩
   ·obtain⟨c0,afY,_⟩:=e2 i v' fr' c' hi hh;exact k2 _ _ _ afY
   ·obtain⟨c0,afY,_⟩:=e2 i ver fr' c' hi hh;exact⟨⟨fr',c0,afY⟩,rfl⟩
 refine⟨h.defers,by rw[<-Vq];simpa using h.size,λi=> ?_,λid ver fr' c' dy=> ?_,h.trans,?_⟩
 ·have:s1.slot i=(s.slot i).iT (v8 k v n):=by rw[<-Vq];exact ar0 _ rfl _ _
  rw[this];exact UU hle (h.bZ i)
 ·have dy:s1.bT id=aj (.obj ver fr' c'):=dy;by_cases hi:id= .bW k
  ·subst hi;rw[e0]at dy;simp only[bf,dT.obj.injEq]at dy;obtain⟨rfl,rfl,rfl⟩:=dy;exact CJ hle (h.bu (.bW k) v fr c hk) (id':= .bW k) rfl λpl _=>⟨rfl,λ_ h=>h,λh=>h⟩
  ·obtain⟨c0,afY,rfl⟩:=e2 id ver fr' c' hi dy;have h0:=h.bu id ver fr' c0 afY;rcases at3 c0 with⟨q2,vq,kt,vt,l,cu,rfl⟩ | ⟨aS8,_⟩
   ·simp only[aA.aCP];cases aWJ:Kf k q2 with
    |true=>
     have kJ:q2≠ .bW k:=λe=>by subst e;simp[Kf]at aWJ
     have hρq:∀vr,v8 k v n q2 vr=aj (q2,vr):=λvr=>by
      rcases WT k v n q2 vr with⟨e,_⟩ | ⟨e,_⟩ | ⟨_,e⟩
      ·exact absurd e kJ
      ·exact absurd e kJ
      ·exact e
     refine aPq.aV hle.mem (λ_=>rfl) h0 rfl (λ_ _ h=>h) λvr _=>⟨λhb=>hle.ref q2 vr (q2,vr) (hρq vr) hb,λkt vt l asB=> ?_,λ_ _ h=>h⟩
     have asB:s.bT q2=aj (.obj vr aL (.mp kt vt l)):=asB;show s1.bT q2=_;rw[e1 q2 kJ,asB];rfl
    |false=>
     obtain⟨pl,mb,since,seen,c0,h1,h2,h3,h4⟩:=h0;exact⟨pl,mb,since,seen,c0,h1,h2,h3,λvr ain=>au⟩
   ·rw[aS8];exact CJ hle h0 (id':=id) rfl λpl _=>⟨rfl,λ_ h=>h,λh=>h⟩
 ·have hl:=h.le;refine⟨hl.mem.trans (kG.aMF (E:=s.env w g β) (E':=s1.env w g β) (Trans.refl w g)),λid ver hb=> ?_,λid ver hb hc=> ?_⟩
  ·obtain⟨h1,h2⟩:=hl.Ct _ ver hb;have h1:s.bT id≠aF:=h1;have h2:∀v' fr' c',s.bT id=aj (.obj v' fr' c')->ver<=v':=h2;by_cases hi:id= .bW k
   ·subst hi;obtain rfl:=hz ver hb;exact⟨by show s1.bT (.bW k)≠aF;rw[e0];simp,λv' fr' c' hh=>aK _⟩
   ·exact⟨e3 id hi h1,λv' fr' c' hh=>let⟨c0,afY,_⟩:=e2 id v' fr' c' hi hh;h2 _ _ _ afY⟩
  ·obtain⟨fr',c',hc⟩:=hc;have hc:s1.bT id=aj (.obj ver fr' c'):=hc;by_cases hi:id= .bW k
   ·subst hi;obtain rfl:=hz ver hb;rw[e0]at hc;simp only[bf,dT.obj.injEq]at hc;have e4:=hc.1;obtain rfl:v=0:=au;exact hl.cur _ _ hb ⟨fr,c,hk⟩
   ·obtain⟨c0,afY,_⟩:=e2 id ver fr' c' hi hc;exact hl.cur _ _ hb ⟨fr',c0,afY⟩
theorem Pw(hC:C.ok):∀(l:List (Nat×Nat)) {s s1:AS},Inv C g β s a w->(ahO s l).eval=aj s1->Inv C g β s1 a w
 |[],s,s1,h,he=>by grind [aw,ahO]
 |x::l,s,s1,h,he=>by obtain⟨s2,h1,h2⟩:=ay.1 he;exact Pw hC l (an2 hC h h1) h2
def VF(ids:List Id)(q:Nat):iU->iU
 | .own (.id (.new x y)) k=>match idxOf (.new x y) ids with | some m=> .own (.id (.new q m)) k | none=> .free
 |l=>l
def aIr(β:Id->Option Pl)(ids:List Id)(q:Nat):Id->Option Pl
 | .bW k=>β (.bW k)
 | .new x y=>if x=q then(ids[y]?).bind β else aF
theorem Trans.VF(w:World)(g:Nat->iU)(ids:List Id)(q:Nat):Trans w w g λx=>VF ids q (g x):=by
 refine⟨rfl,rfl,⟨rfl,aB _⟩,aB _,λy _=> ?_⟩;cases hg:g y with
 |free=>exact⟨by simp[Ab.VF],rfl⟩
 |own o k=>cases o with
  |dX=>exact⟨by simp[Ab.VF],rfl⟩
  |id x=>
   refine⟨?_,λ_ _ _ h=>h⟩;cases x with
   |bW m=>exact .inr (.inr ⟨_,_,rfl,aB _⟩)
   |new x j=>
    simp only[Ab.VF];split
    ·exact .inr (.inr ⟨_,_,rfl,aB _⟩)
    ·exact .inl rfl
 |fresh=>exact .inl ⟨by simp[Ab.VF],rfl⟩
 |gD=>exact⟨by simp[Ab.VF],λcur e h=>⟨cur,h,rfl⟩⟩
theorem Inv.akF(h:Inv C g β s a w)(hC:C.ok){ids:List Id}{q:Nat}(hn:ids.Nodup)(J9:∀id∈ids,∃i j,id= .new i j)(aX3:q < s.news.length):
  ∃g1 β1,Inv C g1 β1 (s.Gs ids q) a w:=by
 let ρ:aat:=atD s ids q
 obtain⟨s1,Vq⟩:∃s1,s1=s.Gs ids q:=⟨_,rfl⟩;have hold:∀k,s1.bT (.bW k)=(s.bT (.bW k)).map (dT.aNu ρ):=λk=>by grind [AS.Gs,AS.bT]
 have qK:∀j,s1.bT (.new q j)=(ids[j]?).map λid=>((s.bT id).getD .dead).ZK ρ:=λj=>by grind [AS.Gs,AS.bT]
 have P1:∀x j,x≠q->s1.bT (.new x j)=aF:=λx j hx=>by grind [AS.Gs,AS.bT]
 let g1:Nat->iU:=λx=>VF ids q (g x)
 let β1:=aIr β ids q
 have ht:Trans w w g g1:=Trans.VF w g ids q;have hβ:∀j,β1 (.new q j)=(ids[j]?).bind β:=λj=>if_pos rfl
 have hρ:∀i ver r,ρ i ver=aj r->(∃k,i= .bW k/\r=(i,ver))\/∃j fr c,ids[j]? =aj i/\s.bT i=aj (.obj ver fr c)/\r=(.new q j,0):=λi ver r hr=>by
  replace hr:atD s ids q i ver=aj r:=hr
  cases i with
  |bW k=>grind [atD]
  |new x y=>
   unfold atD at hr;simp only at hr;split at hr
   ·rename_i j v fr c hj ho;split at hr
    ·rename_i hv;have hv:ver=v:=by grind
     subst hv;exact .inr ⟨j,fr,c,qL hj,dI ho,(bh hr).symm⟩
    grind
   grind
 have hrenA:∀e v fr c,dT.aNu ρ e= .obj v fr c->∃c0,e= .obj v fr c0/\c0.iT ρ=c:=λe v fr c he=>by
  cases e with
  |dead=>cases he
  |obj v0 fr0 c0=>
   grind [dT.aNu]
 have hle:I0 ρ (s.env w g β) (s1.env w g1 β1):=by
  refine⟨Trans.mem (E:=s.env w g β) (E':=s1.env w g1 β1) ht,λi ver r hr atG=> ?_⟩;rcases hρ i ver r hr with⟨k,rfl,rfl⟩ | ⟨j,fr,c,hj,he,rfl⟩
  ·obtain⟨k1,k2⟩:=atG;have k1:s.bT (.bW k)≠aF:=k1;refine⟨⟨?_,λv' fr' c' hh=> ?_⟩,λ⟨fr',c',hh⟩=>⟨?_,rfl⟩⟩
   ·show s1.bT (.bW k)≠aF;simp_all
   ·have hh:s1.bT (.bW k)=aj (.obj v' fr' c'):=hh;rw[hold,dL]at hh;obtain⟨e,he,hh⟩:=hh;obtain⟨c0,rfl,_⟩:=hrenA _ _ _ _ hh;exact k2 v' fr' c0 he
   ·have hh:s1.bT (.bW k)=aj (.obj ver fr' c'):=hh;rw[hold,dL]at hh;obtain⟨e,he,hh⟩:=hh;obtain⟨c0,rfl,_⟩:=hrenA _ _ _ _ hh;exact⟨fr',c0,he⟩
  ·refine⟨⟨by show s1.bT (.new q j)≠aF;grind,λ_ _ _ _=>aK _⟩,λ_=>⟨⟨fr,c,he⟩,?_⟩⟩;show β1 (.new q j)=β i;grind
 have e1:s1.bZ=s.bZ.map (aA.iT ρ):=by rw[Vq];rfl
 rw[<-Vq];refine⟨g1,β1,h.We hC ρ (by grind) ht hle (λi=> ?_) (λid ver fr c dy=> .inr ?_) λk=>⟨λhk=> ?_,λv' fr' c' hh=> ?_,rfl⟩⟩
 ·have:s1.slot i=(s.slot i).iT ρ:=by grind [AS.slot,aA.iT]
  rw[this];exact UU hle (h.bZ i)
 ·cases id with
  |bW k=>
   grind [VF,AS.bT,aIr]
  |new x y=>
   by_cases hx:x=q
   ·subst hx;rw[qK,dL]at dy;obtain⟨i,hi,dy⟩:=dy;obtain⟨i0,j0,rfl⟩:=J9 i (dD hi);cases hs:s.bT (.new i0 j0) with
    |none=>grind [dT.ZK]
    |some e=>
     rw[hs]at dy;cases e with
     |dead=>cases dy
     |obj v0 fr0 c0=>
      simp only[eB,dT.ZK,dT.obj.injEq]at dy;obtain⟨_,rfl,hc⟩:=dy;refine⟨.new i0 j0,v0,c0,hs,hc,by grind,λpl _=>⟨λn hg=> ?_,λhg=>by grind [VF]⟩⟩;show VF ids _ (g pl.b)=_;rw[hg];simp only[VF,zF hn hi]
   grind
 all_goals grind [AS.bT]
theorem akG(hC:C.ok){s s1:AS}{o:Option Nat}(h:gh C s a w)(he:(s.akF o).eval=aj s1):gh C s1 a w:=by
 cases o with
 |none=>
  obtain rfl:=aw.1 he;exact h
 |some q=>
  obtain⟨h1,h2⟩:=aD.1 he;obtain rfl:=aw.1 h2;obtain⟨g,β,h⟩:=h;obtain⟨g1,β1,h3⟩:=h.akF hC (ids:=s.aSr) ((vH s _ _ _ (by simp)).filter _) (λid dy=>by
   have:=(List.mem_filter.1 dy).2;grind) (dH h1)
  grind [gh]
theorem oK(hC:C.ok){an:p9}{s1:AS}(h:gh C s a w)(he:(norm P an s).eval=aj s1):gh C s1 a w:=by unfold norm at he;obtain⟨sb,aXv,he⟩:=ay.1 he;obtain⟨su,aXw,he⟩:=ay.1 he;obtain⟨sn,aUz,he⟩:=ay.1 he;obtain⟨sd,aUy,he⟩:=ay.1 he;obtain⟨s0,h1,h2⟩:=ay.1 he;obtain⟨h3,h4⟩:=aD.1 h2;obtain⟨sf,h5,h6⟩:=ay.1 h4;obtain⟨sg,h6,h7⟩:=ay.1 h6;obtain⟨sr,h9,h7⟩:=ay.1 h7;obtain⟨sq,h8,h7⟩:=ay.1 h7;obtain⟨g0,β0,h0⟩:=h;obtain⟨g1,i1,_⟩:=fa an.axN (Pw hC _ h0 aXv);obtain⟨g,β,h⟩:=Rt _ (HB _ (HZ _ (ajG _ ⟨g1,β0,(i1.still an.aRV).canon an.aPJ⟩ aXw) aUz) aUy) h1;exact akG hC (aDm (Ns _ (pI hC _ (Vi _ ⟨g,β,h.aV hC h3⟩ h5) h6) h9) h8) h7
end
end Go.Ab
namespace Go.Ab
section
variable {P:Program} {Γ:pb} {an:Ae} {C:Ctx}
theorem akm{X R:Type}{S:X->Prop}{k:X->Option R}{x:Option R}(hn:∃y,S y)(h:∀y,S y->k y=x):xS S k=x:=by
 unfold xS;cases x with
 |none=>grind
 |some r=>
  have hx:∃r,(∃x,S x)/\∀x,S x->k x=aj r:=⟨r,hn,h⟩;rw[yC hx];grind
def aw8(P:Program)(Γ:pb)(an:Ae)(N:Nat)(b:Code):Prop:=∀le,an.fE (dS b)=aj le->(le.set=aF->∀s x,le.run s=aj x->∃n,ab2 (norm P (an.loops (dS b))) (λe=>norm P (an.outs (dS b) (apa e))) (ev P Γ an N b) n s (λe s'=>aj (e,s'))=(le.out x).eval)/\∀S,le.set=aj S->∀s,(∃x,S s x)->∃n,ab2 (norm P (an.loops (dS b))) (λe=>norm P (an.outs (dS b) (apa e))) (ev P Γ an N b) n s (λe s'=>ayk (∃x,S s x/\(le.out x).eval=aj (e,s')))=aj ()
def kA(P:Program)(Γ:pb)(an:Ae)(N:Nat):List Code->Prop
 |[]=>True
 |b::l=>aw8 P Γ an N b/\kA P Γ an N l
theorem kA.append{N:Nat}:∀ {l l':List Code},kA P Γ an N (l++l')->kA P Γ an N l/\kA P Γ an N l'
 |[],_,h=>⟨trivial,h⟩
 |_::_,_,⟨h1,h2⟩=>⟨⟨h1,(kA.append h2).1⟩,(kA.append h2).2⟩
theorem vO{c:Code}{b:Frame}{a:Act}{k:List Item}{cs:List Frame}{w:World}:step P (lone (b.atR a (.code (.scope c)::k)) cs w)= .next (lone (b.atR a (.code c:: .inScope c::k)) cs w):=
 step_lone_go (by simp[stepG,stepG.exec,Frame.atR])
theorem ag7{c:Code}{b:Frame}{a:Act}{k:List Item}{cs:List Frame}{w:World}:step P (lone (b.atR a (.inScope c::k)) cs w)= .next (lone (b.atR a k) cs w):=
 step_lone_go (by simp[stepG,stepG.exec,Frame.atR])
theorem NM{F:Fence}{n:Nat}{Q:Exit->Act->World->Prop}{a:Act}{w:World}{c:Code}(h:c.wpIn F n P (Exit.noGoto Q) a w):(Code.scope c).wpIn F n P Q a w:=by
 intro b k cs aRP hb hr;have h0:(lone (b.atR a (.code (.scope c)::k)) cs w).fenced P F:=fenced_calm hb hr rfl;obtain⟨e,a1,w1,hq,hx⟩:=h b (.inScope c::k) cs aRP hb hr;cases e with
 |normal=>exact⟨.normal,a1,w1,hq,.head h0 vO (StepsIn.trans hx (.one (fenced_calm hb hr rfl) ag7))⟩
 |exit i=>
  have e1:exitTo i (.inScope c::k)=exitTo i k:=by simp[exitTo]
  exact⟨.exit i,a1,w1,hq,λk' hk=> .head h0 vO (hx.1 k' (e1.trans hk)),λh1 hk=>let⟨k2,h2,h3⟩:=hx.2 h1 (e1.trans hk);⟨k2,h2,.head h0 vO h3⟩⟩
 |goto l=>exact hq.elim
 |ret=>exact⟨_,a1,w1,hq,.of_steps (.one h0 vO) hx⟩
 |panic ch=>exact⟨_,a1,w1,hq,.of_steps (.one h0 vO) hx⟩
 |outgrown=>exact⟨_,a1,w1,hq,.of_steps (.one h0 vO) hx⟩
theorem HO{rd:Option Nat}{m:Nat}{R:Type}{r:R}{b:Code}{nrm:AS->Out AS}{nrmX:Exit->AS->Out AS}{body:AS->(Exit->AS->Option R)->Option R}
  (hn:∀s s1 a w,gh C s a w->(nrm s).eval=aj s1->gh C s1 a w) (hx:∀e s s1 a w,gh C s a w->(nrmX e s).eval=aj s1->gh C s1 a w)
  (hb:∀(s:AS) (a:Act) (w:World) (k:Exit->AS->Option R) (Q:Exit->Act->World->Prop),gh C s a w->body s k=aj r->(∀e s' a' w',gh C s' a' w'->k e s'=aj r->Q e a' w')->b.wpIn (Fr rd) m P Q a w)
  {k:Exit->AS->Option R} {Q:Exit->Act->World->Prop} (hk:∀e s' a' w',gh C s' a' w'->k e s'=aj r->Q e a' w'):
  ∀(n:Nat) (s:AS) (a:Act) (w:World),gh C s a w->ab2 nrm nrmX body n s k=aj r->Code.roundsIn (Fr rd) m P b Q n a w
 | 0,s,a,w,_,h=>by grind [ab2]
 |n+1,s,a,w,hs,h=>by
  refine hb s a w _ _ hs h λe s' a' w' hs' aUS=> ?_
  have exits:∀e,(nrmX e s').run (k e)=aj r->Q e a' w':=λe aUS=>by grind [ea]
  cases e with
  |normal=>
   obtain⟨s1,h1,h2⟩:=ea.1 aUS;exact HO hn hx hb hk n s1 a' w' (hn s' s1 a' w' hs' h1) h2
  |_=>exact exits _ aUS
theorem SE{rd:Option Nat}{n:Nat}(hC:C.ok){j:Option JL}{run: {R:Type}->(Exit->AS->Option R)->Option R}{c:Code}{a:Act}{w:World}
  (pV:∀ {R:Type} {r:R} (k:Exit->AS->Option R) (Q:Exit->Act->World->Prop),run k=aj r->(∀e s' a' w',gh C s' a' w'->k e s'=aj r->Q e a' w')->c.wpIn (Fr rd) n P Q a w)
  {R:Type} {r:R} {k:Exit->AS->Option R} {Q:Exit->Act->World->Prop} (h:VB P j run k=aj r) (hk:∀e s' a' w',gh C s' a' w'->k e s'=aj r->Q e a' w'):c.wpIn (Fr rd) n P Q a w:=by
 cases j with
 |none=>exact pV k Q h hk
 |some j=>
  simp only[VB]at h;cases aS7:j.rel with
  |true=>
   rw[aS7]at h;simp only[Xs]at h;refine pV _ Q h λe s' a' w' hs' hK=> ?_
   obtain⟨s1,h1,h2⟩:=ea.1 hK;cases hx:j.aK0 e s1 with
   |none=>rw[hx]at h2;cases h2
   |some x=>
    rw[hx]at h2;obtain⟨y,hy,h2⟩:=ea.1 (show(j.out x).run _=aj r from h2);have he:=j.ok _ _ _ hx;rw[hy,bf]at he;subst he;exact hk e s1 a' w' (oK hC hs' h1) h2
  |false=>
  rw[aS7]at h;simp only at h;cases hx:run λe s=>(norm P j.an s).run (j.aK0 e) with
  |none=>rw[hx]at h;cases h
  |some x=>
   rw[hx]at h;simp only[al]at h;obtain⟨y,hy,h⟩:=ea.1 h;refine pV _ Q hx λe s' a' w' hs' hK=> ?_
   obtain⟨s1,h1,h2⟩:=ea.1 hK;have he:=j.ok _ _ _ h2;rw[hy,bf]at he;subst he;exact hk e s1 a' w' (oK hC hs' h1) h
theorem Inv.azj{g:Nat->iU}{β:Id->Option Pl}{s:AS}{a:Act}{w:World}(h:Inv C g β s a w):
  Inv C (mQ g w.heap.size (.own .dX 0)) β s {a with defers:=wx w.heap.size::a.defers} (w.alloc (.deferred (aj []))):=by
 have ht:=Trans.alloc w g (.deferred (aj [])) (.own .dX 0);have he:cM (s.env w g β) (s.env (w.alloc (.deferred (aj []))) (mQ g w.heap.size (.own .dX 0)) β):=cM.same ht;have h1:=h.step rfl ht he (iL.same h.bu he λi ver fr c pl hi hp=>by
  have hl:=((h.bu i ver fr c hi).label (pl:=pl) hp).1;have hl':pl.b < w.heap.size:=hl;grind [tl,mQ])
 refine⟨⟨ee.2 ⟨λhm=> ?_,h1.defers.1⟩,λd hd=> ?_⟩,h1.size,h1.bZ,h1.bu,h1.trans,h1.le⟩
 ·obtain⟨D,e,_,hh,_⟩:=h.defers.2 _ hm;grind [wx]
 ·rcases bI.1 hd with rfl | hd
  ·exact⟨w.heap.size,rfl,h.trans.size,vZ w _,fV _ _ _⟩
  ·exact h1.defers.2 d hd
theorem Pz:∀l:List aA,(RG l).list=l
 |[]=>rfl
 |a::l=>by simp[RG,aA.list,Pz l]
theorem GA(aV:List Nat):∀(i:Nat) (l:List aA),(eT aV i l).length=l.length
 |_,[]=>rfl
 |i,_::l=>by simp[eT,GA aV (i+1) l]
theorem Oh(aV:List Nat):∀(l:List aA) (i j:Nat),(eT aV i l).getD j .undef=l.getD j .undef\/(eT aV i l).getD j .undef= .undef
 |[],_,_=> .inl rfl
 |v::l,i,0=>by grind [eT]
 |v::l,i,j+1=>by simpa[eT]using Oh aV l (i+1) j
theorem Inv.frame{g:Nat->iU}{β:Id->Option Pl}{s:AS}{a:Act}{w:World}(h:Inv C g β s a w)(aV:List Nat):Hj (s.env w g β) (RG (eT aV 0 s.bZ)) a.tmps:=by
 refine⟨by rw[Pz,GA,h.size],λi=> ?_⟩;rw[Pz];rcases Oh aV s.bZ 0 i with e | e
 ·rw[e];exact h.bZ i
 grind [VS.undef]
theorem aNt(a:Act)(q:Nat)(x:Value):(a.put (aj q) x).put (aj q) (a.tmps.getD q undef)=a:=by
 obtain⟨t,d⟩:=a;simp[Act.put];apply Array.ext_getElem?;intro i;by_cases h:q=i
 ·by_cases hl:q < t.size
  all_goals simp_all
 grind
theorem ZI{n:Nat}(hΓ:Sound P Γ){f:bB}{ps:Array Tmp}{as b:Code}{R:Type}{r:R}{k:Exit->AS->Option R}{Q:Exit->Act->World->Prop}{s:AS}{a:Act}{w:World}(h:gh C s a w)
  (he:Iw P Γ an s f ps as b k=aj r) (hk:∀e s' a' w',gh C s' a' w'->k e s'=aj r->Q e a' w'):(Code.rangeFunc f ps as b).wpIn (Fr aF) n P Q a w:=by
 obtain⟨g,β,h⟩:=h;unfold Iw at he;split at he;rotate_left
 ·cases he
 rename_i y aV h0 caps aX7 aY1 hF;split at he;rotate_left
 ·cases he
 rename_i en aSG D3;simp only[ax]at aSG;obtain⟨⟨⟨aAt,aGD⟩,hq⟩,iB⟩:=aSG;have hd:=(hΓ _ _ _ D3).1 iB;have hdR:=(hΓ _ _ _ D3).2.2 iB;generalize aU8:ps.getD 0 0=q at aGD hq he D3;have hq:q < s.bZ.length:=dH hq;obtain⟨vs,hy,aON⟩:=abl (hF▸h.ev f);refine wpIn_rangeFunc λfn _=> ?_
 have di:=run_enterLoop_outer (P:=P) (w:=w) fn a.tmps ps as b;have i1:=h.azj;generalize aYe:w.alloc (.deferred (aj []))=w1 at i1 di;have xr:w1.heap.size=w.heap.size+1:=by rw[<-aYe];exact World.size_alloc ..
 generalize atJ:({state:= .ready,pending:=aF,fn,tmps:=a.tmps,params:=ps,assign:=as,body:=b,defers:=w.heap.size}:Loop)=r0 at di;have ht:=Trans.alloc w1 (mQ g w.heap.size (.own .dX 0)) (.loop r0) (.own (.id (.new q 0)) 0);obtain⟨i2,e2⟩:=i1.U4 aGD (c:= .Ay ⟨y,ps,as,b⟩ (RG (eT aV 0 s.bZ)) 0) (p:=aj ⟨w1.heap.size,0⟩) ht (λb hb=>⟨tl w1 _ hb,gZ _ _ _ au⟩) (λhe=>
  ⟨⟨w1.heap.size,0⟩,r0,nH _ _ _,vZ w1 _,fV _ _ _,by subst atJ;exact⟨rfl,rfl,rfl⟩,by subst atJ;exact(i1.frame aV).mono he,by subst atJ;exact⟨rfl,rfl⟩⟩)
 generalize mQ (mQ g w.heap.size (.own .dX 0)) w1.heap.size (.own (.id (.new q 0)) 0)=g2 at i2 e2;generalize hβ2:MG β (.new q 0) (aj ⟨w1.heap.size,0⟩)=β2 at i2 e2;generalize aEf:w1.alloc (.loop r0)=w2 at i2 e2 di;have aW1:VS ((s.born q [.obj 0 aS (.Ay ⟨y,ps,as,b⟩ (RG (eT aV 0 s.bZ)) 0)]).env w2 g2 β2) (.yl (.new q 0) 0) (.func (.yield w1.heap.size) #[] #[]):=by refine⟨[.func (.yield w1.heap.size) #[] #[]],?_,rfl⟩;simp only[V];exact⟨_,rfl,rS aGD _ _ _ _,λ_=>⟨⟨w1.heap.size,0⟩,by rw[<-hβ2];exact nH _ _ _,rfl⟩⟩
 have i3:=i2.put (aj q) aW1;have hF2:(s.born q [.obj 0 aS (.Ay ⟨y,ps,as,b⟩ (RG (eT aV 0 s.bZ)) 0)]).ev f= .fn h0 caps:=by rw[<-hF];cases f <;> rfl
 obtain⟨vs2,aQu,aVh⟩:=abl (hF2▸i2.ev f);have ao3:vs2=vs:=by
  have e:Value.func (.func h0) #[] vs2.toArray= .func (.func h0) #[] vs.toArray:=by rw[<-aQu,<-hy];cases f <;> rfl
  injection e with _ _ e
  simpa using congrArg Array.toList e
 subst ao3;have I6:D7 (((s.born q [.obj 0 aS (.Ay ⟨y,ps,as,b⟩ (RG (eT aV 0 s.bZ)) 0)]).put (aj q) (.yl (.new q 0) 0)).env w2 g2 β2) (.yl (.new q 0) 0::caps.list) (.func (.yield w1.heap.size) #[] #[]::vs2):=by rw[axK];exact⟨aW1,aau aVh⟩
 have aWt:∀args:Array Value,(callFunc h0 args).run P w2= .ok (.enter h0 args) w2:=λargs=>by
  unfold arn at aAt;split at aAt
  ·rename_i fn' aSP;simp only[ax,dv,mS]at aAt;obtain⟨c,hc⟩:=Option.isSome_iff_exists.1 aAt.2;unfold callFunc;simp[aSP,aAt.1,hc]
  ·cases aAt
 have post:∀ {s3:AS} {w3:World} {v:Value},gh C s3 ((({a with defers:=wx w.heap.size::a.defers}:Act).put (aj q) (.func (.yield w1.heap.size) #[] #[])).put aF v) w3->∀ {c:xO} {fr:aA} {p:Nat},s3.bT (.new q 0)=aj (.obj 0 aS (.Ay c fr p))->s3.slot q= .yl (.new q 0) 0->p≠1->
   ∃jump w4,(Instr.endLoop w1.heap.size).run P w3= .ok jump w4/\aPc p (if p=0 then .ready else .done) jump/\gh C ((s3.ba (.new q 0) .dead).put (aj q) .undef) {a with defers:=wx w.heap.size::a.defers} w4:=by
  intro s3 w3 v aQq c fr p abA aGz aOK;obtain⟨g3,β3,i5⟩:=aQq;obtain⟨pl,r3,hp,hb,hg,_,_,vR⟩:=i5.bu (.new q 0) 0 aS _ abA;have hp:β3 (.new q 0)=aj pl:=hp;have hb:w3.heap[pl.b]? =aj (.loop r3):=hb
  have hg:g3 pl.b= .own (.id (.new q 0)) 0:=hg;have aOO:=i5.bZ q;rw[aGz]at aOO;obtain⟨cs,hV,hO⟩:=aOO;simp only[V]at hV;obtain⟨l,rfl,_,iA⟩:=hV;obtain⟨pl',hp',rfl⟩:=iA ⟨aS,_,abA⟩;have hp':β3 (.new q 0)=aj pl':=hp';rw[hp]at hp';obtain rfl:pl=pl':=by simpa using hp'
  have hO: [Value.func (.yield pl.b) #[] #[]]=[((({a with defers:=wx w.heap.size::a.defers}:Act).put (aj q) (.func (.yield w1.heap.size) #[] #[])).put aF v).tmps.getD q undef]:=hO;have Vp:q < ({a with defers:=wx w.heap.size::a.defers}:Act).tmps.size:=by show q < a.tmps.size;rw[h.size];exact hq
  have hO2:((({a with defers:=wx w.heap.size::a.defers}:Act).put (aj q) (.func (.yield w1.heap.size) #[] #[])).put aF v).tmps.getD q undef= .func (.yield w1.heap.size) #[] #[]:=by show((({a with defers:=wx w.heap.size::a.defers}:Act).put (aj q) (.func (.yield w1.heap.size) #[] #[]))).tmps.getD q undef=_;rw[asi,if_pos ⟨rfl,Vp⟩]
  rw[hO2]at hO;have hl:pl.b=w1.heap.size:=by simpa using hO
  have aSD:r3.state≠ .busy:=by
   match p,vR,aOK with
   | 0,vR,_=>rw[vR.1];simp
   | 1,_,h=>exact absurd rfl h
   | 2,vR,_=>rw[vR.1];simp
   |_+3,vR,_=>rw[vR.1];simp
  have iB:pl.b < w3.heap.size:=(cE.1 hb).1;refine⟨r3.pending,_,by rw[<-hl];exact run_endLoop hb aSD,?_,?_⟩
  ·match p,vR,aOK with
   | 0,vR,_=>exact⟨rfl,vR.2⟩
   | 1,_,h=>exact absurd rfl h
   | 2,vR,_=>exact⟨rfl,vR.2⟩
   |_+3,vR,_=>exact⟨rfl,vR.2⟩
  ·have i6:=(i5.kill abA hg (w':=w3.putObj pl.b (.loop {r3 with state:= .exhausted})) rfl rfl ⟨rfl,aB _⟩ (by simp) (λb' hb'=>World.putObj_heap_other hb') (lb:= .free) (.inl rfl)).1;have i7:=i6.put (aj q) (v:= .undef) (x:=({a with defers:=wx w.heap.size::a.defers}:Act).tmps.getD q undef) VS.undef;have e:=aNt {a with defers:=wx w.heap.size::a.defers} q (.func (.yield w1.heap.size) #[] #[]);refine⟨mQ g3 pl.b .free,β3,?_⟩;simp only[Act.put]at e i7;rw[e]at i7;exact i7
 generalize hK:(λs3:AS=>(match s3.bT (.new q 0),s3.slot q with
   |some (.obj 0 aS (.Ay _ _ p)),.yl (.new q' 0) 0=>match jD q' q,p with
    |true,0=>k .normal ((s3.ba (.new q 0) .dead).put (aj q) .undef)
    |true,2=>k .ret ((s3.ba (.new q 0) .dead).put (aj q) .undef)
    |true,i+3=>k (.exit i) ((s3.ba (.new q 0) .dead).put (aj q) .undef)
    |_,_=>aF
   |_,_=>aF))=K at he
 have hc:Calls P h0 (.func (.yield w1.heap.size) #[] #[]::vs2).toArray w2 λe w'=>∃v,e= .returned v/\∃s3,gh C s3 ((({a with defers:=wx w.heap.size::a.defers}:Act).put (aj q) (.func (.yield w1.heap.size) #[] #[])).put aF v) w'/\K s3=aj r:=by
  unfold AS.aOr at he;split at he
  ·exact(WW (o:= {(default:Oper) with dst:=aF}) i3 hdR I6 he).2
  ·obtain⟨s3,axT,he⟩:=ea.1 he;unfold AS.call at axT;obtain⟨r2,h1,h2⟩:=ay.1 axT;obtain⟨g',i4,e4,_,f1⟩:=fa r2.2 i3;obtain⟨x,hx,k1,k2,key⟩:=Vg (o:= {(default:Oper) with dst:=aF}) i4 (Es _ _) (Gl rfl i3.bu e4 _ _ _ r2 I6 h1 f1) h2;rcases hd _ _ _ _ _ _ _ k1 k2 hx with⟨_,hc⟩ | ⟨v,w',aGC,_⟩
   ·exact hc.mono λe w' ⟨v,aii,ha⟩=>⟨v,aii,s3,key v w' ha,he⟩
   ·rw[aWt]at aGC;cases aGC
 refine⟨w1.heap.size,[wx w.heap.size],w2,⟨.fn (.func h0) vs2.toArray,#[.func (.yield w1.heap.size) #[] #[]]⟩,w2,h0,(.func (.yield w1.heap.size) #[] #[]::vs2).toArray,w2,?_,?_,λ_ _=>trivial,?_,λh=>(by cases h),?_⟩
 ·rw[xr];exact di
 ·have e:resolve a.eval (rangeCall f w1.heap.size) 0=Deferred.ofValue (a.eval f) #[.func (.yield w1.heap.size) #[] #[]]:=by simp[resolve,rangeCall,Act.eval]
  rw[e,hy];simp[Deferred.ofValue]
 ·have e:(#[.func (.yield w1.heap.size) #[] #[]]++vs2.toArray:Array Value)=(.func (.yield w1.heap.size) #[] #[]::vs2).toArray:=by simp
  rw[<-aWt,<-e];rfl
 ·have h1:CallsIn (Fr aF) (n - 1) P h0 (.func (.yield w1.heap.size) #[] #[]::vs2).toArray w2 _:=callsIn_wide.2 hc;refine h1.mono λe w3 ⟨v,aii,s3,aQq,he⟩=> ?_
  subst aii;subst hK;show ∃jump w4,_/\_;simp only at he;split at he;rotate_left
  ·cases he
  rename_i c3 fr3 p3 q' abA aGz;split at he
  ·rename_i hq';obtain rfl:q'=q:=gM hq';obtain⟨jump,w4,aGn,vR,aTa⟩:=post aQq abA aGz eG;obtain⟨_,rfl⟩:=vR;exact⟨aF,w4,aGn,hk _ _ _ _ aTa he⟩
  ·rename_i hq';obtain rfl:q'=q:=gM hq';obtain⟨jump,w4,aGn,vR,aTa⟩:=post aQq abA aGz eG;obtain⟨_,rfl⟩:=vR;exact⟨_,w4,aGn,wpIn_ret (hk _ _ _ _ aTa he)⟩
  ·rename_i i hq';obtain rfl:q'=q:=gM hq';obtain⟨jump,w4,aGn,vR,aTa⟩:=post aQq abA aGz (by simp);obtain⟨_,rfl⟩:=vR;exact⟨_,w4,aGn,wpIn_exit (hk _ _ _ _ aTa he)⟩
  ·cases he
theorem tn{rd:Option Nat}{n:Nat}(hm:P.follows .mixedOrders=aL)(hΓ:Sound P Γ)(hC:C.ok){N:Nat}(aMc:rd=aF\/an.nN.isSome=aL):∀(c:Code),kA P Γ an N (lV c)->∀ {R:Type} {r:R} (s:AS) (a:Act) (w:World) (k:Exit->AS->Option R) (Q:Exit->Act->World->Prop),
  gh C s a w->ev P Γ an N c s k=aj r->(∀e s' a' w',gh C s' a' w'->k e s'=aj r->Q e a' w')->c.wpIn (Fr rd) n P Q a w
 | .skip,hL,_,_,s,a,w,k,Q,hs,h,hk=>wpIn_skip (hk _ _ _ _ hs h)
 | .region id ops draw,hL,_,_,s,a,w,k,Q,hs,h,hk=>by grind [ev,XP,SE,arl,wpIn_region_list,Xk]
 | .seq x y,hL,_,_,s,a,w,k,Q,hs,h,hk=>by
  refine wpIn_seq (SE hC (λk Q h hk=>tn hm hΓ hC aMc x hL.append.1 s a w k Q hs h hk) h λe s' a' w' hs' hk'=> ?_);cases e with
  |normal=>exact tn hm hΓ hC aMc y hL.append.2 s' a' w' k Q hs' hk' hk
  |_=>exact hk _ s' a' w' hs' hk'
 | .cond c x y,hL,_,_,s,a,w,k,Q,hs,h,hk=>by
  simp[ev]at h;split at h
  ·rename_i b hb;have hc:a.eval c= .bool b:=by obtain⟨g,β,hi⟩:=hs;have:=hi.ev c;grind [Rz]
   refine wpIn_cond hc ?_
   cases b with
   |true=>exact tn hm hΓ hC aMc x hL.append.1 s a w k Q hs h hk
   |false=>exact tn hm hΓ hC aMc y hL.append.2 s a w k Q hs h hk
  grind
 | .block id b,hL,_,_,s,a,w,k,Q,hs,h,hk=>by refine wpIn_block (tn hm hΓ hC aMc b hL s a w _ _ hs h λe s' a' w' hs' hk'=> ?_);grind [Exit.inBlock]
 | .loop b,hL,R,r,s,a,w,k,Q,hs,h,hk=>by
  obtain⟨s1,h1,h⟩:=ea.1 h;have Vq:=oK hC hs h1;obtain⟨hL1,hL2⟩:=(hL:aw8 P Γ an N b/\kA P Γ an N (lV b));split at h
  ·rename_i le hle;unfold aKF at h;cases akM:le.set with
   |some S=>
    rw[akM]at h;obtain⟨h2,h3⟩:=Gq h;obtain⟨n,hn⟩:=(hL1 le hle).2 S akM s1 h2;refine wpIn_loop_rounds n (HO (λs s1 a w hs hn=>oK hC hs hn) (λe s s1 a w hs hn=>oK hC hs hn) (λs a w k Q hs hb hk=>tn hm hΓ hC aMc b hL2 s a w k Q hs hb hk) (λe s' a' w' hs' he=> ?_) n s1 a w Vq hn);grind [tA,ea]
   |none=>
   rw[akM]at h;cases hr:le.run s1 with
   |none=>grind [al]
   |some x=>
    rw[hr]at h;obtain⟨y,hy,h⟩:=ea.1 h;obtain⟨n,hn⟩:=(hL1 le hle).1 akM s1 x hr;rw[hy]at hn;refine wpIn_loop_rounds n (HO (λs s1 a w hs hn=>oK hC hs hn) (λe s s1 a w hs hn=>oK hC hs hn) (λs a w k Q hs hb hk=>tn hm hΓ hC aMc b hL2 s a w k Q hs hb hk) (λe s' a' w' hs' he=> ?_) n s1 a w Vq hn);grind
  ·exact wpIn_loop_rounds N (HO (λs s1 a w hs hn=>oK hC hs hn) (λe s s1 a w hs hn=>oK hC hs hn) (λs a w k Q hs hb hk=>tn hm hΓ hC aMc b hL2 s a w k Q hs hb hk) hk N s1 a w Vq h)
 | .exit id,hL,_,_,s,a,w,k,Q,hs,h,hk=>wpIn_exit (hk _ _ _ _ hs h)
 | .ret,hL,_,_,s,a,w,k,Q,hs,h,hk=>wpIn_ret (hk _ _ _ _ hs h)
 | .rangeFunc f ps as b,_,_,_,s,a,w,k,Q,hs,h,hk=>by obtain⟨s1,h1,h⟩:=ea.1 h;have hs:=pI hC _ hs h1;grind [ZI,Iw]
 | .scope b,hL,_,_,s,a,w,k,Q,hs,h,hk=>by
  refine NM (tn hm hΓ hC aMc b hL s a w _ _ hs h λe s' a' w' hs' hk'=> ?_);cases e with
  |goto l=>grind
  |_=>exact hk _ s' a' w' hs' hk'
 | .label _,hL,_,_,s,a,w,k,Q,hs,h,hk=>wpIn_label (hk _ _ _ _ hs h)
 | .goto _,_,_,_,_,_,_,_,_,_,h,_=>by grind [ev]
 | .refuse _,_,_,_,_,_,_,_,_,_,h,_=>by grind [ev]
variable {g:Nat->iU} {β:Id->Option Pl} {s:AS} {a:Act} {w:World}
def ael(tmps:Array Value)(r:ResultVar):Sem Value:=
 match r with
 | .tmp t=>pure (tmps.getD t undef)
 | .cell a t=>do loadVar t (<-asAddr (tmps.getD a undef))
theorem T1(h:Inv C g β s a w){r:ResultVar}{v:aA}(he:(avS P s r).eval=aj v):∃x,(ael a.tmps r).run P w= .ok x w/\VS (s.env w g β) v x:=by
 cases r with
 |tmp t=>
  obtain rfl:=aw.1 he;exact⟨_,by simp[ael],h.bZ t⟩
 |cell t T=>
  obtain⟨ad,z,hy,hr,hv⟩:=abZ h (h.bZ t) he;grind [ael,asAddr]
theorem TZ(h:Inv C g β s a w){r:ResultVar}{o:Option Ty}{y:AS×aA}(he:(amy P s r o).eval=aj y):
  ∃x g',(ael a.tmps r).run P w= .ok x w/\Inv C g' β y.1 a w/\cM (s.env w g β) (y.1.env w g' β)/\VS (y.1.env w g' β) y.2 x:=by
 cases o with
 |none=>
  grind [amy,ay,aw,T1,cM.refl]
 |some t=>
  obtain⟨v,h1,h2⟩:=ay.1 he;obtain⟨d,h3,h4⟩:=ay.1 h2;obtain rfl:=aw.1 h4;obtain⟨x,hx,hv⟩:=T1 h h1;obtain⟨g',i1,e1,_,cs,hR,hO⟩:=DS h hv h3;exact⟨x,g',hx,i1,e1,VS.of (a:= .d t d) (cs:=cs) (by grind [V]) hO⟩
theorem O6:∀(l:List ResultVar) (ts:List (Option Ty)) {s:AS} {g:Nat->iU} (_:Inv C g β s a w) {y:AS×aA},(amz P s l ts).eval=aj y->
  ∃(xs:List Value) (g':Nat->iU),(l.mapM (ael a.tmps)).run P w= .ok xs w/\Inv C g' β y.1 a w/\cM (s.env w g β) (y.1.env w g' β)/\VC (y.1.env w g' β) y.2 xs/\xs.length=l.length
 |[],ts,s,g,h,y,he=>by obtain rfl:=aw.1 he;exact⟨[],g,by simp,h,cM.refl _,by simp[VC],rfl⟩
 |r::l,ts,s,g,h,y,he=>by obtain⟨u,h1,h2⟩:=ay.1 he;obtain⟨hc,h2⟩:=aD.1 h2;obtain⟨us,h3,h4⟩:=ay.1 h2;obtain rfl:=aw.1 h4;obtain⟨x,g1,hx,i1,e1,hv⟩:=TZ h h1;obtain⟨xs,g2,aGE,i2,e2,ao3,hl⟩:=O6 l ts.tail i1 h3;obtain⟨cs,hV,hO⟩:=(hv.mono e2).eg hc;refine⟨x::xs,g2,?_,i2,e1.trans e2,by grind [VC],by simp[hl]⟩;simp_all
theorem aEy{E:Env}{v:aA}{xs:List Value}(h:VC E v xs):VS E v (.tuple xs.toArray):=by
 cases v <;> first
  | (done)
  |grind [VS]
  |grind [VC,VS]
theorem agV(h:Inv C g β s a w){fn:Func}{ts:List (Option Ty)}{y:AS×aA}(he:(amA P fn ts s).eval=aj y):
  ∃x g',(results fn a.tmps).run P w= .ok x w/\Inv C g' β y.1 a w/\VS (y.1.env w g' β) y.2 x:=by
 have key:∀xs,(fn.results.toList.mapM (ael a.tmps)).run P w= .ok xs w->(results fn a.tmps).run P w= .ok (if h:xs.length=1 then xs[0] else .tuple xs.toArray) w:=λxs aGE=>by
  have e:results fn a.tmps=(do
   let vs <-fn.results.mapM (ael a.tmps)
   pure (if h:vs.size=1 then vs[0] else .tuple vs)):=rfl
  grind [Array.mapM_eq_mapM_toList,map_eq_pure_bind,dM,cU,Sem.run_pure]
 unfold amA at he;split at he
 ·obtain⟨x,g',hx,hi,_,hv⟩:=TZ h he;refine⟨x,g',?_,hi,hv⟩;simp_all
 grind [O6,aEy,List.length_eq_one_iff]
end
end Go.Ab
namespace Go.Ab
def nq(ids:List Id):iU->iU
 | .own (.id (.new i j)) k=> .own (.id (match idxOf (.new i j) ids with | some m=> .new 0 m | none=> .new 1 0)) k
 |l=>l
def aIq(β:Id->Option Pl)(ids:List Id):Id->Option Pl
 | .bW k=>β (.bW k)
 | .new 0 m=>(ids[m]?).bind β
 | .new (_+1) _=>aF
theorem aAI{ids:List Id}{g:Nat->iU}{b off:Nat}(h:ku g b off):ku (λb=>nq ids (g b)) b off:=by
 unfold ku at*;simp only;cases hg:g b with
 |free=>simp[nq]
 |own o k=>
  rw[hg]at h;cases o with
  |dX=>exact h
  |id i=>cases i <;> exact h
 |fresh=>rw[hg]at h;exact h.elim
 |gD=>rw[hg]at h;exact h.elim
theorem akC(s:AS)(v:aA):(s.Vh v).Nodup:=(vH s _ _ _ (by simp)).filter _
theorem atx{s:AS}{v:aA}{id:Id}(h:id∈s.Vh v):∃i j,id= .new i j:=by
 unfold AS.Vh at h;cases id with
 |bW k=>grind [Id.aOV]
 |new i j=>grind
section
variable {P:Program} {Γ:pb} {C:Ctx} {g:Nat->iU} {β:Id->Option Pl} {s:AS} {a:Act} {w:World}
theorem aAd(h:Inv C g β s a w)(hC:C.ok){v:aA}{x:Value}(hv:VS (s.env w g β) v x):CF C.E (s.fin v) x w:=by
 unfold AS.fin;have hn:=akC s v;have J9:∀id∈s.Vh v,∃i j,id= .new i j:=λid dy=>atx dy
 generalize s.Vh v=ids at hn J9;generalize hG:s.aOw ids v=G;have xV:G.val=v.iT (PW ids):=by rw[<-hG];rfl
 have hold:∀k,G.st.bT (.bW k)=(s.bT (.bW k)).map (dT.fin ids):=λk=>by
  rw[<-hG];show(s.cH.map (dT.fin ids))[k]? =_
  rw[gI];rfl
 have aWO:∀m,G.st.bT (.new 0 m)=(ids[m]?).map λid=>((s.bT id).getD .dead).fin ids:=λm=>by
  rw[<-hG];show(ids.map λid=>((s.bT id).getD .dead).fin ids)[m]? =_
  rw[gI]
 have aXY:∀i m,G.st.bT (.new (i+1) m)=aF:=λi m=>by simp[ja.st,AS.bT]
 let g':Nat->iU:=λb=>nq ids (g b)
 let β':=aIq β ids
 have aAu:∀e ver fr c,dT.fin ids e= .obj ver fr c->∃c0,e= .obj ver fr c0/\c=c0.iT (PW ids):=λe ver fr c he=>by
  cases e with
  |dead=>cases he
  |obj v0 fr0 c0=>
   simp only[dT.fin,dT.obj.injEq]at he;obtain⟨rfl,rfl,rfl⟩:=he;exact⟨c0,rfl,rfl⟩
 have hle:I0 (PW ids) (s.env w g β) (G.st.env w g' β'):=by
  refine⟨⟨⟨λb off v ⟨h1,h2⟩=>⟨h1,aAI h2⟩,λb ob h1 h2=>⟨by show nq ids (g b)= .free;have h1:g b= .free:=h1;rw[h1];rfl,h2⟩,
   λb cur e h1 h2=>⟨by show nq ids (g b)= .gD;have h1:g b= .gD:=h1;rw[h1];rfl,cur,h2,rfl⟩⟩,λb ob h1 h2=>⟨by show nq ids (g b)= .fresh;have h1:g b= .fresh:=h1;rw[h1];rfl,h2⟩⟩,λid ver r hr hb=> ?_⟩
  obtain⟨Sn,ZY⟩:=hb;have Sn:s.bT id≠aF:=Sn;have ZY:∀v fr c,s.bT id=aj (.obj v fr c)->ver<=v:=ZY;cases id with
  |bW k=>
   simp only[PW,bf]at hr;subst hr;refine⟨⟨?_,λv fr c hh=> ?_⟩,λ⟨fr,c,hh⟩=>⟨?_,rfl⟩⟩
   ·show G.st.bT (.bW k)≠aF;rw[hold];simpa using Sn
   ·have hh:G.st.bT (.bW k)=aj (.obj v fr c):=hh;rw[hold,dL]at hh;obtain⟨e,he,hh⟩:=hh;obtain⟨c0,rfl,_⟩:=aAu _ _ _ _ hh;exact ZY v fr c0 he
   ·have hh:G.st.bT (.bW k)=aj (.obj ver fr c):=hh;rw[hold,dL]at hh;obtain⟨e,he,hh⟩:=hh;obtain⟨c0,rfl,_⟩:=aAu _ _ _ _ hh;exact⟨fr,c0,he⟩
  |new i j=>
   simp only[PW]at hr;split at hr
   ·rename_i m hm;simp only[bf]at hr;subst hr;have dy:=qL hm;obtain⟨e,he⟩:=Option.ne_none_iff_exists'.1 Sn;have hg:G.st.bT (.new 0 m)=aj (e.fin ids):=by rw[aWO,dy];simp[he]
    refine⟨⟨?_,λv fr c hh=> ?_⟩,λ⟨fr,c,hh⟩=>⟨?_,?_⟩⟩
    ·show G.st.bT (.new 0 m)≠aF;rw[hg];simp
    ·have hh:G.st.bT (.new 0 m)=aj (.obj v fr c):=hh;rw[hg,bf]at hh;obtain⟨c0,rfl,_⟩:=aAu _ _ _ _ hh;exact ZY v fr c0 he
    ·have hh:G.st.bT (.new 0 m)=aj (.obj ver fr c):=hh;rw[hg,bf]at hh;obtain⟨c0,rfl,_⟩:=aAu _ _ _ _ hh;exact⟨fr,c0,he⟩
    ·show(ids[m]?).bind β=β (.new i j);rw[dy];rfl
   ·cases hr
 have atT:kG aS C.E.w w C.E.g g':=by
  have h0:=h.trans;refine⟨h0.os,h0.tape,h0.output,h0.size,λb hb=> ?_⟩;have h1:=h0.afP b hb;show match C.E.g b with | .free=>nq ids (g b)= .free/\_ | .own .dX k=>nq ids (g b)= .own .dX k/\_ | .own (.id _) k=>(nq ids (g b)= .free\/(k=0/\(nq ids (g b)= .fresh\/nq ids (g b)= .gD))\/∃i k',nq ids (g b)= .own (.id i) k'/\k<=k')/\_ | .fresh=>(nq ids (g b)= .fresh/\_)\/(_/\nq ids (g b)= .gD) | .gD=>nq ids (g b)= .gD/\_
  cases NA:C.E.g b with
  |free=>simp only[NA]at h1 ⊢;rw[h1.1];exact⟨rfl,h1.2⟩
  |own o k=>cases o with
   |dX=>simp only[NA]at h1 ⊢;rw[h1.1];exact⟨rfl,h1.2⟩
   |id i=>
    simp only[NA]at h1 ⊢;refine⟨?_,h1.2⟩;rcases h1.1 with h2 | ⟨h0,h2⟩ | ⟨i',k',h2,h3⟩
    ·rw[h2];exact .inl rfl
    ·exact .inr (.inl ⟨h0,h2.imp (λe=>by rw[e];rfl) λe=>by rw[e];rfl⟩)
    ·rw[h2];right;right;cases i' with
     |bW m=>exact⟨_,k',rfl,h3⟩
     |new i j=>exact⟨_,k',rfl,h3⟩
  |fresh=>
   simp only[NA]at h1 ⊢;rcases h1 with⟨h2,h3⟩ | ⟨h2,h3⟩
   ·exact .inl ⟨by rw[h2];rfl,h3⟩
   ·exact .inr ⟨h2,by rw[h3];rfl⟩
  |gD=>simp only[NA]at h1 ⊢;rw[h1.1];exact⟨rfl,h1.2⟩
 have aL9:iL (G.st.env w g' β'):=by
  intro id ver fr c dy;have dy:G.st.bT id=aj (.obj ver fr c):=dy;cases id with
  |bW k=>
   rw[hold,dL]at dy;obtain⟨e,he,dy⟩:=dy;obtain⟨c0,rfl,rfl⟩:=aAu _ _ _ _ dy;refine CJ hle (h.bu (.bW k) ver fr c0 he) rfl λpl _=>⟨rfl,λn hg=> ?_,λhg=> ?_⟩
   ·have hg:g pl.b= .own (.id (.bW k)) n:=hg;show nq ids (g pl.b)=_;rw[hg];rfl
   ·have hg:g pl.b= .free:=hg;show nq ids (g pl.b)=_;rw[hg];rfl
  |new i m=>
   cases i with
   |succ i=>rw[aXY]at dy;cases dy
   |zero=>
    rw[aWO,dL]at dy;obtain⟨id0,aQh,dy⟩:=dy;obtain⟨c0,he,rfl⟩:=aAu _ _ _ _ dy;have di:s.bT id0=aj (.obj ver fr c0):=by
     cases hs:s.bT id0 with
     |none=>rw[hs]at he;cases he
     |some e=>rw[hs]at he;simp only[eB]at he;rw[he]
    obtain⟨i0,j0,rfl⟩:=J9 id0 (dD aQh);refine CJ hle (h.bu (.new i0 j0) ver fr c0 di) (by show(ids[m]?).bind β=_;rw[aQh];rfl) λpl _=>⟨rfl,λn hg=> ?_,λhg=> ?_⟩
    ·have hg:g pl.b= .own (.id (.new i0 j0)) n:=hg;show nq ids (g pl.b)=_;rw[hg];simp only[nq,zF hn aQh]
    ·have hg:g pl.b= .free:=hg;show nq ids (g pl.b)=_;rw[hg];rfl
 have ho:∀id ver,C.E.Ct id ver->∃k,id= .bW k:=λid ver hb=>by
  cases id with
  |bW k=>exact⟨k,rfl⟩
  |new i j=>exact absurd (hC.1 i j) hb.1
 refine⟨g',β',by rw[xV];exact UU hle hv,aL9,atT,kG.aMF (E:=C.E) (E':=G.st.env w g' β') atT,λid ver hb=> ?_,λid ver hb hc=> ?_⟩
 ·obtain⟨k,rfl⟩:=ho id ver hb;exact(hle.ref (.bW k) ver (.bW k,ver) rfl (h.le.Ct _ _ hb)).1
 ·obtain⟨k,rfl⟩:=ho id ver hb;obtain⟨h1,h2⟩:=(hle.ref (.bW k) ver (.bW k,ver) rfl (h.le.Ct _ _ hb)).2 hc;obtain⟨h3,h4⟩:=h.le.cur _ _ hb h1;exact⟨h3,h2.trans h4⟩
theorem D7.len{E:Env}:∀ {as:List aA} {vs:List Value},D7 E as vs->as.length=vs.length
 |[],[],_=>rfl
 |_::_,_::_,⟨_,h⟩=>by simp[D7.len h]
 |[],_::_,h=>h.elim
 |_::_,[],h=>h.elim
theorem D7.get{E:Env}:∀ {as:List aA} {vs:List Value},D7 E as vs->∀i,VS E (as.getD i .undef) (vs.getD i undef)
 |[],[],_,i=>by simp[VS]
 |_::_,_::_,⟨h,_⟩,0=>by grind
 |_::_,_::_,⟨_,h⟩,i+1=>by simpa using D7.get h i
 |[],_::_,h,_=>h.elim
 |_::_,[],h,_=>h.elim
theorem aDq{w:World}{g:Nat->iU}{β:Id->Option Pl}{fn:Func}{args:List aA}{cH:List dT}{jT:List Value}(hv:D7 ((jM cH).env w g β) args jT)(ho:iL ((jM cH).env w g β)):
  Inv ⟨(jM cH).env w g β⟩ g β (start fn args cH) {tmps:=jT.toArray++Array.replicate (fn.ntmps - jT.toArray.size) undef,defers:=[]} w:=by
 have hl:=hv.len;have di:(start fn args cH).bT=(jM cH).bT:=by
  funext id;cases id with
  |bW k=>rfl
  |new i j=>
   simp only[start,jM,AS.bT,bS,List.getElem?_replicate];split <;> simp
 have aQf:(start fn args cH).env w g β=(jM cH).env w g β:=by simp only[AS.env,di]
 refine⟨⟨kF,λ_ h=>by cases h⟩,by simp[start,hl],λi=> ?_,by rw[aQf];exact ho,kG.refl _ _,by rw[aQf];exact CI.refl _⟩;rw[aQf];have h1:(start fn args cH).slot i=args.getD i .undef:=by
  simp only[start,AS.slot,bS,List.getElem?_append,List.getElem?_replicate];split
  ·rfl
  ·rw[kZ (l:=args) au];split <;> rfl
 have h2:(jT.toArray++Array.replicate (fn.ntmps - jT.toArray.size) undef).getD i undef=jT.getD i undef:=by
  simp only[ek,bS,Array.getElem?_append,Array.getElem?_replicate];simp only[iq,List.getElem?_toArray];split
  ·rfl
  ·rw[kZ (l:=jT) au];split <;> rfl
 rw[h1,h2];exact hv.get i
theorem Inv.aRr{C:Ctx}{g:Nat->iU}{β:Id->Option Pl}{s:AS}{a:Act}{w:World}(h:Inv C g β s a w){D:Nat}{ds:List Deferred}(hd:a.defers=wx D::ds):
  (Instr.takeDeferred D).run P w= .ok [] (w.putObj D (.deferred aF))/\Inv C g β s {a with defers:=ds} (w.putObj D (.deferred aF)):=by
 obtain⟨hn,rV⟩:=h.defers;rw[hd]at hn rV;obtain⟨D',e,hD,hh,hg⟩:=rV _ (aC ..);have e:Deferred.mk (.collected D) #[]=Deferred.mk (.collected D') #[]:=e;injection e with e _
 injection e with e
 subst e;have iB:=(cE.1 hh).1;refine⟨run_takeDeferred hh,?_⟩;have other:∀b,b≠D->(w.putObj D (.deferred aF)).heap[b]? =w.heap[b]? :=λb hb=>World.putObj_heap_other hb
 have tp:∀b off v,w.cell? ⟨b,off,aF⟩=aj v->b≠D:=λb off v hv e=>by subst e;simp[eL,hh]at hv
 have xU:zB (s.env w g β) (s.env (w.putObj D (.deferred aF)) g β):=by
  refine⟨⟨λb off v ⟨h1,h2⟩=>⟨?_,h2⟩,λb ob h1 h2=>⟨h1,?_⟩,λb cur e h1 h2=>⟨h1,cur,?_,rfl⟩⟩,λb ob h1 h2=>⟨h1,?_⟩⟩
  ·have h1:w.cell? ⟨b,off,aF⟩=aj v:=h1;show(w.putObj D (.deferred aF)).cell? ⟨b,off,aF⟩=aj v;rw[World.cell?_of_block (other b (tp b off v h1))];exact h1
  ·have h1:g b= .free:=h1;have h2:w.heap[b]? =aj ob:=h2
   show(w.putObj D (.deferred aF)).heap[b]? =aj ob
   rw[other b λe=>by rw[e,hg]at h1;cases h1];exact h2
  ·have h1:g b= .gD:=h1;have h2:w.heap[b]? =aj (.cells cur e (0,0)):=h2
   show(w.putObj D (.deferred aF)).heap[b]? =aj (.cells cur e (0,0))
   rw[other b λe=>by rw[e,hg]at h1;cases h1];exact h2
  ·have h1:g b= .fresh:=h1;have h2:w.heap[b]? =aj ob:=h2
   show(w.putObj D (.deferred aF)).heap[b]? =aj ob
   rw[other b λe=>by rw[e,hg]at h1;cases h1];exact h2
 have hle:cM (s.env w g β) (s.env (w.putObj D (.deferred aF)) g β):=⟨xU,λ_ _ h=>h,λ_ _ _ h=>⟨h,rfl⟩⟩;have kJ:∀ {id:Id} {v:Nat} {fr:Bool} {c:aA} {pl:Pl},s.bT id=aj (.obj v fr c)->β id=aj pl->pl.b≠D:=λhs hp e=>by
  have:=((h.bu _ _ _ _ hs).label hp).2;have this:(∃k,g _= .own (.id _) k)\/(_/\g _= .free):=this;rw[e,hg]at this;rcases this with⟨k,hk⟩ | ⟨_,hk⟩
  ·cases hk
  ·cases hk
 refine⟨⟨(ee.1 hn).2,λd hd'=> ?_⟩,h.size,λi=>(h.bZ i).mono hle,λid ver fr c hs=> ?_,?_,h.le.trans hle.l0⟩
 ·obtain⟨D2,e1,e2,e3,e4⟩:=rV d (az _ hd');refine⟨D2,e1,e2,?_,e4⟩;rw[other D2 λe=>(ee.1 hn).1 (by rw[<-e,<-e1];exact hd')];exact e3
 ·exact xo.mono hle (h.bu id ver fr c hs) rfl (λpl hp=>⟨other _ (kJ hs hp),rfl⟩) λq vq k v l hq _=>⟨⟨k,v,l,hq⟩,λpl hp=>⟨other _ (kJ hq hp),rfl⟩⟩
 ·have ht:=h.trans;refine⟨ht.os,ht.tape,ht.output,?_,λb hb=> ?_⟩
  ·have:=ht.size;simpa[World.putObj]using this
  ·have h1:=ht.afP b hb;have hbD:b≠D:=au;have hc:∀off v,w.cell? ⟨b,off,aF⟩=aj v->(w.putObj D (.deferred aF)).cell? ⟨b,off,aF⟩=aj v:=λoff v hv=>by rw[World.cell?_of_block (other b hbD)];exact hv
   rw[other b hbD];split at h1
   ·exact h1
   ·exact h1
   ·exact⟨h1.1,λoff v ho hv=>hc off v (h1.2 off v ho hv)⟩
   ·exact h1
   ·exact h1
theorem XC{C:Ctx}{g:Nat->iU}{β:Id->Option Pl}{s:AS}{fn:Func}{R:Ending->World->Prop}:∀(ds:List Deferred) {a:Act} {w:World},Inv C g β s a w->a.defers=ds->
  (∀a2 w2,Inv C g β s a2 w2->a2.tmps=a.tmps->∃v,(results fn a.tmps).run P w2= .ok v w2/\R (.returned v) w2)->LeavesInM Fence.wide 0 P fn a.tmps R ds .returning w
 |[],a,w,h,hd,hk=>hk a w h rfl
 |d::ds,a,w,h,hd,hk=>by obtain⟨D,e,_⟩:=h.defers.2 d (by grind);subst e;obtain⟨h1,h2⟩:=h.aRr (P:=P) hd;exact⟨by simp,.inl ⟨D,_,rfl,h1,XC (fn:=fn) (R:=R) ds (a:= {a with defers:=ds}) h2 rfl hk⟩⟩
theorem aF5{cH:List dT}{w:World}{g:Nat->iU}{β:Id->Option Pl}(h:cH.all dT.first=aL){k v:Nat}{fr:Bool}{c:aA}(hk:((jM cH).env w g β).s (.bW k)=aj (.obj v fr c)):v=0:=by have:=bQ.1 h _ (dD hk);exact gM this
theorem RB(hm:P.follows .mixedOrders=aL)(hΓ:Sound P Γ){f:FuncId}{fn:Func}(hf:P.funcs[f]? =aj fn)(hb:fn.body.isSome=aL)(I8:(fn.name== "runtime.NumGoroutine")=aS){an:Ae}{N:Nat}(hL:∀c,fn.body=aj c->kA P Γ an N (lV c))
  {args:List aA} {cH:List dT} {R:Type} {k:ja->Option R} {r:R} (hN:azn P Γ an N fn args cH k=aj r) (aAx:an.nN=aF)
  {jT:List Value} (hv:D7 ((jM cH).env w g β) args jT) (ho:iL ((jM cH).env w g β)):(callFunc f jT.toArray).run P w= .ok (.enter f jT.toArray) w/\
   Calls P f jT.toArray w λe w'=>∃v G,e= .returned v/\k G=aj r/\CF ((jM cH).env w g β) G v w':=by
 obtain⟨c,hc⟩:=Option.isSome_iff_exists.1 hb;refine⟨?_,?_⟩
 ·unfold callFunc;have hname':¬fn.name= "runtime.NumGoroutine" :=by simpa using I8
  simp[hf,hname',hc]
 ·unfold azn at hN;rw[aAx,hc]at hN;simp only at hN;split at hN
  ·cases hN
  rename_i hF;have hC:(Ctx.mk ((jM cH).env w g β)).ok:=⟨λi j=>by simp[AS.env,jM,AS.bT],λk v fr c hk=>aF5 hF hk⟩;refine callsIn_wide.1 (callsIn_of_wp_marks (F:=Fence.wide) (n:=0) hf hc trivial (tn (rd:=aF) (C:=⟨(jM cH).env w g β⟩) hm hΓ hC (.inl rfl) c (hL c hc) _ _ w _ _ ⟨g,β,aDq hv ho⟩ hN λe s' a' w' hs' hk'=> ?_));have fin:(finish P an fn s').run k=aj r->LeavesInM Fence.wide 0 P fn a'.tmps (λe w'=>∃v G,e= .returned v/\k G=aj r/\CF ((jM cH).env w g β) G v w') a'.defers .returning w':=λhr=>by
   obtain⟨G,h1,h2⟩:=ea.1 hr;unfold finish at h1;obtain⟨sn,aUz,h1⟩:=ay.1 h1;obtain⟨sd,aUy,h1⟩:=ay.1 h1;obtain⟨s2,h3,h4⟩:=ay.1 h1;obtain⟨s3,aXx,h4⟩:=ay.1 h4;obtain⟨s4,aXy,h4⟩:=ay.1 h4;obtain⟨y,h5,h6⟩:=ay.1 h4;obtain⟨g1,β1,aTZ⟩:=hs';refine XC a'.defers aTZ rfl λa2 w2 aXO aOM=> ?_
   obtain⟨g0,β0,aOF⟩:=HB _ (HZ _ ⟨g1,β1,aXO⟩ aUz) aUy;obtain⟨g',β',hi⟩:=afj _ (pI hC _ ⟨g0,β0,aOF.drop _⟩ h3) aXx;have hi:=Pw hC _ hi aXy;obtain⟨z,g2,h7,h8,h9⟩:=agV hi h5;refine⟨z,by rw[<-aOM];exact h7,z,G,rfl,h2,?_⟩;rw[<-aw.1 h6];exact aAd h8 hC h9
  cases e with
  |normal=>exact fin hk'
  |ret=>exact fin hk'
  |_=>cases hk'
theorem tg.wz(hm:P.follows .mixedOrders=aL)(hΓ:Sound P Γ){f:FuncId}{fn:Func}(hf:P.funcs[f]? =aj fn)(hb:fn.body.isSome=aL)(I8:(fn.name== "runtime.NumGoroutine")=aS){en:Entry}{an:Ae}{N:Nat}(hL:∀c,fn.body=aj c->kA P Γ an N (lV c))
  (h:∀args cH x,en.run args cH=aj x->azn P Γ an N fn args cH aj=aj (en.out args cH x)) (aAx:an.nN=aF):tg P f en:=by
 grind [RB,tg]
theorem Rm.wz(hm:P.follows .mixedOrders=aL)(hΓ:Sound P Γ){f:FuncId}{fn:Func}(hf:P.funcs[f]? =aj fn)(hb:fn.body.isSome=aL)(I8:(fn.name== "runtime.NumGoroutine")=aS){en:Entry}{an:Ae}{N:Nat}(hL:∀c,fn.body=aj c->kA P Γ an N (lV c))
  (h:∀args cH,(∃x,en.set args cH x)->azn P Γ an N fn args cH (λG=>ayk (∃x,en.set args cH x/\G=en.out args cH x))=aj ()) (aAx:an.nN=aF):Rm P f en:=by
 intro w g β args cH jT hv ho hx;obtain⟨h1,h2⟩:=RB hm hΓ hf hb I8 hL (h args cH hx) aAx hv ho;refine⟨h1,h2.mono λe w' ⟨v,G,e1,e2,e3⟩=> ?_⟩;grind [ayk]
end
end Go.Ab
namespace Go.Ab
def dO(k:kY)(n:Int):Int:=k.wrap n
def bA(k:kY)(x y:Int):Int:=k.wrap (x+y)
def dG(k:kY)(x y:Int):Int:=k.wrap (x - y)
def gB(k:kY)(x y:Int):Int:=k.wrap (x*y)
def vS(k:kY)(x y:Int):Int:=k.wrap (x.tdiv y)
def nM(x y:Int):Int:=x.tmod y
def nk(k:kY)(x y:Int):Int:=k.wrap (x*2^(min y.toNat k.bits))
def cq(k:kY)(x y:Int):Int:=x.fdiv (2^(min y.toNat k.bits))
def aMq(k:kY)(x:Int):Int:=db .xor k (if k.signed then -1 else k.max) x
def AP(x y:Int):Bool:=x==y
def Cw(x y:Int):Bool:=x !=y
def fL(x y:Int):Bool:=decide (x < y)
def akP(x y:Int):Bool:=decide (x<=y)
def Af(x y:Int):Bool:=decide (x > y)
def D4(x y:Int):Bool:=decide (x>=y)
def seq(x y:ByteArray):Bool:=x.toList==y.toList
def arU(a:ByteArray)(i:Int):Int:=((a.data.toList.getD i.toNat 0).toNat:Int)
def imax(x y:Int):Int:=if x < y then y else x
def eE(i n:Int):Bool:=decide (0<=i/\i < n)
def inc(i n:Int):Bool:=decide (0<=i/\i<=n)
def nv(y:Int):Bool:=decide (0<=y)
def tP(y:Int):Bool:= !(decide (y=0))
open Classical in
def du.of{D X:Type}(st:D->AS)(fT:D->Prop)(F:D->X)(out:X->Out (Exit×AS)):du:= {X,run:=λs=>if h:∃d,st d=s/\fT d then aj (F h.choose) else aF,out}
open Classical in
theorem du.wz{D X:Type}{st:D->AS}{fT:D->Prop}{F:D->X}{out:X->Out (Exit×AS)}(Vn:∀d d',st d=st d'->d=d'){d:D}(h:fT d):(du.of st fT F out).run (st d)=aj (F d):=by have hex:∃d',st d'=st d/\fT d':=⟨d,rfl,h⟩;show(if h:∃d',st d'=st d/\fT d' then aj (F h.choose) else aF)=_;rw[yC hex,Vn _ _ hex.choose_spec.1]
open Classical in
def JL.of{X:Type}(an:p9)(st:X->AS):JL:=
 {an,X,aK0:=λe s=>if h:e= .normal/\∃x,st x=s then aj h.2.choose else aF,out:=λx=> .ok (.normal,st x),
  ok:=λe s x h=>by
   by_cases h1:e= .normal/\∃x,st x=s
   ·rw[yC h1]at h;have h2:=h1.2.choose_spec;rw[bh h]at h2;rw[h1.1,<-h2];rfl
   ·rw[dif_neg h1]at h;cases h}
theorem abR{X R:Type}{T:(X->Option R)->Option R}{k:X->Option R}{r:R}(φ:X->Prop)(hT:∀K:X->Option R,(∀x,φ x->K x=aj r)->T K=aj r)(hk:∀x,φ x->k x=aj r):Xs T k=aj r:=hT k hk
open Classical in
theorem JL.auF{X:Type}{an:p9}{st:X->AS}(Vn:∀d d',st d=st d'->d=d')(x:X):(JL.of an st).aK0 .normal (st x)=aj x:=by have hex:Exit.normal= .normal/\∃y,st y=st x:=⟨rfl,x,rfl⟩;show(if h:Exit.normal= .normal/\∃y,st y=st x then aj h.2.choose else aF)=_;rw[yC hex,Vn _ _ hex.2.choose_spec]
open Classical in
theorem aw8.of{P:Program}{Γ:pb}{an:Ae}{N:Nat}{fn:Func}{i:Nat}{D X:Type}{st:D->AS}{fT:D->Prop}{F:D->X}{out:X->Out (Exit×AS)}
  (hle:an.fE (dS (qJ fn i))=aj (du.of st fT F out)) (h:∀d,fT d->∃n,SM P Γ an N fn i n (st d) (λe s=>aj (e,s))=(out (F d)).eval):aw8 P Γ an N (qJ fn i):=by
 intro le hle';rw[hle]at hle';simp only[bf]at hle';subst hle';refine⟨λ_ s x hx=> ?_,λS hS=>by cases hS⟩;change (if h:∃d',st d'=s/\fT d' then aj (F h.choose) else aF)=aj x at hx;split at hx
 ·rename_i hex;obtain rfl:=bh hx;obtain⟨h1,h2⟩:=hex.choose_spec;obtain⟨n,hn⟩:=h _ h2;refine⟨n,?_⟩;show SM P Γ an N fn i n s _=_;rw[h1]at hn;exact hn
 ·cases hx
theorem Cx(P:Program)(Γ:pb)(an:Ae)(N:Nat)(fn:Func)(i:Nat){R:Type}(n:Nat)(s:AS)(k:Exit->AS->Option R):SM P Γ an N fn i (n+1) s k=Kq P Γ an N fn i s (λs1=>SM P Γ an N fn i n s1 k) k:=rfl
theorem ax7{P:Program}{Γ:pb}{an:Ae}{N:Nat}{fn:Func}{i:Nat}{D X:Type}{st:D->AS}{fT:D->Prop}{F:D->X}{out:X->Out (Exit×AS)}(μ:D->Nat)
  (h:∀d,fT d->(∃d',fT d'/\μ d' < μ d/\F d'=F d/\∀ {R:Type} (kn:AS->Option R) (kx:Exit->AS->Option R),Kq P Γ an N fn i (st d) kn kx=kn (st d'))\/
   (∃r,(out (F d)).eval=aj r/\∀ {R:Type} (kn:AS->Option R) (kx:Exit->AS->Option R),Kq P Γ an N fn i (st d) kn kx=kx r.1 r.2)):
  ∀d,fT d->∃n,SM P Γ an N fn i n (st d) (λe s=>aj (e,s))=(out (F d)).eval:=by
 have key:∀m d,μ d=m->fT d->∃n,SM P Γ an N fn i n (st d) (λe s=>aj (e,s))=(out (F d)).eval:=by
  intro m
  induction m using Nat.strongRecOn with
  |_ m ih=>
   intro d hm hp;rcases h d hp with⟨d',hp',iB,hF,hr⟩ | ⟨r,hr,hx⟩
   ·obtain⟨n,hn⟩:=ih (μ d') au d' rfl hp';exact⟨n+1,by grind [Cx]⟩
   ·exact⟨1,by grind [Cx]⟩
 grind
open Classical in
def du.acj{D X Y:Type}(st:D->AS)(fT:D->Prop)(add:D->Y->X)(Post:D->Y->Prop)(out:X->Out (Exit×AS)):du:= {X,run:=λ_=>aF,out,set:=aj λs x=>∃d,st d=s/\fT d/\∃y,Post d y/\x=add d y}
def aRa{D X Y:Type}(st:D->AS)(fT:D->Prop)(add:D->Y->X)(Post:D->Y->Prop):D->X->Prop:=λd0 x=>∃d,st d=st d0/\fT d/\∃y,Post d y/\x=add d y
abbrev aEw{D X Y:Type}(set:D->X->Prop)(fT:D->Prop)(add:D->Y->X)(Post:D->Y->Prop):Prop:=∀ {d:D} {R:Type} {k:X->Option R} {r:Option R},fT d->(∃y,Post d y)->(∀y,Post d y->k (add d y)=r)->xS (set d) k=r
theorem aVK{D X Y:Type}{st:D->AS}{fT:D->Prop}{add:D->Y->X}{Post:D->Y->Prop}(Vn:∀d d',st d=st d'->d=d'):aEw (aRa st fT add Post) fT add Post:=λh h1 h2=>by
 obtain⟨y,hy⟩:=h1;refine akm ⟨_,_,rfl,h,y,hy,rfl⟩ λx hx=> ?_
 grind [aRa]
abbrev aEs(P:Program)(G:pb)(an:Ae)(N:Nat)(fn:Func)(i:Nat){D X Y:Type}(st:D->AS)(fT:D->Prop)(add:D->Y->X)(Post:D->Y->Prop)(out:X->Out (Exit×AS)):Prop:=∀d,fT d->∃n,∀k:Exit->AS->Option Unit,(∀y e s,Post d y->(out (add d y)).eval=aj (e,s)->k e s=aj ())->SM P G an N fn i n (st d) k=aj ()
theorem aw8.acj{P:Program}{Γ:pb}{an:Ae}{N:Nat}{fn:Func}{i:Nat}{D X Y:Type}{st:D->AS}{fT:D->Prop}{add:D->Y->X}{Post:D->Y->Prop}{out:X->Out (Exit×AS)}
  (h:aEs P Γ an N fn i st fT add Post out) (hle:an.fE (dS (qJ fn i))=aj (du.acj st fT add Post out)):aw8 P Γ an N (qJ fn i):=by
 intro le hle';rw[hle]at hle';simp at hle';subst hle';refine⟨λhS=>(by cases hS),λS hS s hs=> ?_⟩;obtain rfl:=bh hS;obtain⟨x,d,rfl,hp,y,hy,rfl⟩:=hs;obtain⟨n,hn⟩:=h d hp;exact⟨n,hn _ λy e s h1 h2=>H2 ⟨add d y,⟨d,rfl,hp,y,h1,rfl⟩,h2⟩⟩
theorem azw{n:Nat}{Q:Nat->Nat->Prop}(h:∀j,j < n->∃N,∀M,N<=M->Q j M):∃N,∀M,N<=M->∀j,j < n->Q j M:=by
 induction n with
 |zero=>simp
 |succ n ih=>
  obtain⟨N1,h1⟩:=ih λj hj=>h j au
  obtain⟨N2,h2⟩:=h n au;refine⟨max N1 N2,λM hM j hj=> ?_⟩;grind
theorem aHj{P:Program}{Γ:pb}{an:Ae}{N:Nat}{fn:Func}{i:Nat}{D X:Type}{st:D->AS}{fT:D->Prop}{F:D->X}{out:X->Out (Exit×AS)}(μ:D->Nat)
  (h:∀d,fT d->(∃(m:Nat) (d':Nat->D),0 < m/\(∀j,j < m->fT (d' j)/\μ (d' j) < μ d/\F (d' j)=F d)/\∀ {R:Type} (kn:AS->Option R) (kx:Exit->AS->Option R),Kq P Γ an N fn i (st d) kn kx=aow m λj=>kn (st (d' j)))\/
   (∃r,(out (F d)).eval=aj r/\∀ {R:Type} (kn:AS->Option R) (kx:Exit->AS->Option R),Kq P Γ an N fn i (st d) kn kx=kx r.1 r.2)):
  ∀d,fT d->∃n,SM P Γ an N fn i n (st d) (λe s=>aj (e,s))=(out (F d)).eval:=by
 have key:∀m d,μ d=m->fT d->∃n,∀M,n<=M->SM P Γ an N fn i M (st d) (λe s=>aj (e,s))=(out (F d)).eval:=by
  intro m
  induction m using Nat.strongRecOn with
  |_ m ih=>
   intro d hm hp;rcases h d hp with⟨c,d',hc,hd,hr⟩ | ⟨r,hr,hx⟩
   ·obtain⟨n,hn⟩:=azw (n:=c) (Q:=λj M=>SM P Γ an N fn i M (st (d' j)) (λe s=>aj (e,s))=(out (F d)).eval) λj hj=>by obtain⟨h1,h2,h3⟩:=hd j hj;obtain⟨n,hn⟩:=ih (μ (d' j)) au (d' j) rfl h1;exact⟨n,λM hM=>by grind⟩
    refine⟨n+1,λM hM=> ?_⟩;obtain⟨M,rfl⟩:∃M',M=M'+1:=⟨M - 1,au⟩;rw[Cx,hr];exact atn hc λj hj=>hn M au j hj
   ·refine⟨1,λM hM=> ?_⟩;obtain⟨M,rfl⟩:∃M',M=M'+1:=⟨M - 1,au⟩;grind [Cx]
 exact λd hp=>let⟨n,hn⟩:=key _ d rfl hp;⟨n,hn n (aB _)⟩
theorem apt{P:Program}{Γ:pb}{an:Ae}{N:Nat}{fn:Func}{i:Nat}{D X:Type}{st:D->AS}{fT:D->Prop}{F:D->X}{ex:X->Exit×AS}(μ:D->Nat)(h:∀d,fT d->(∃d',fT d'/\μ d' < μ d/\F d'=F d/\∀ {R:Type} (kn:AS->Option R) (kx:Exit->AS->Option R),Kq P Γ an N fn i (st d) kn kx=kn (st d'))\/(∀ {R:Type} (kn:AS->Option R) (kx:Exit->AS->Option R),Kq P Γ an N fn i (st d) kn kx=kx (ex (F d)).1 (ex (F d)).2)):∀d,fT d->∃n,SM P Γ an N fn i n (st d) (λe s=>aj (e,s))=(Out.ok (ex (F d))).eval:=ax7 (out:=λx=> .ok (ex x)) μ λd hp=>(h d hp).imp id λh=>⟨_,rfl,h⟩
open Classical in
def Entry.of{D X:Type}(params:List (Option Ty))(st:D->List aA×List dT)(fT:D->Prop)(F:D->X)(out:X->ja):Entry:= {params,X,run:=λargs cH=>if h:∃d,st d=(args,cH)/\fT d then aj (F h.choose) else aF,out:=λ_ _=>out}
open Classical in
theorem Entry.wz{D X:Type}{params:List (Option Ty)}{st:D->List aA×List dT}{fT:D->Prop}{F:D->X}{out:X->ja}(Vn:∀d d',st d=st d'->d=d'){d:D}(h:fT d):
  (Entry.of params st fT F out).run (st d).1 (st d).2=aj (F d):=by
 have hex:∃d',st d'=((st d).1,(st d).2)/\fT d':=⟨d,rfl,h⟩;show(if h:∃d',st d'=((st d).1,(st d).2)/\fT d' then aj (F h.choose) else aF)=_;rw[yC hex,Vn _ _ hex.choose_spec.1]
open Classical in
theorem aMS{D X:Type}{params:List (Option Ty)}{st:D->List aA×List dT}{fT:D->Prop}{F:D->X}{out:X->ja}{args:List aA}{cH:List dT}{x:X}(hx:(Entry.of params st fT F out).run args cH=aj x):∃d,st d=(args,cH)/\fT d/\x=F d:=by
 change (if h:∃d',st d'=(args,cH)/\fT d' then aj (F h.choose) else aF)=aj x at hx;split at hx
 ·rename_i hex;obtain rfl:=bh hx;exact⟨_,hex.choose_spec.1,hex.choose_spec.2,rfl⟩
 ·cases hx
theorem tg.of{P:Program}{Γ:pb}(hm:P.follows .mixedOrders=aL)(hΓ:Sound P Γ){f:FuncId}{fn:Func}(hf:P.funcs[f]? =aj fn)(hb:fn.body.isSome=aL)(I8:(fn.name== "runtime.NumGoroutine")=aS){an:Ae}{N:Nat}
  (hL:∀c,fn.body=aj c->kA P Γ an N (lV c)) {D X:Type} {params:List (Option Ty)} {st:D->List aA×List dT} {fT:D->Prop} {F:D->X} {out:X->ja}
  (h:∀d,fT d->azn P Γ an N fn (st d).1 (st d).2 aj=aj (out (F d))) (aAx:an.nN=aF:=by exact rfl):tg P f (Entry.of params st fT F out):=by
 refine tg.wz hm hΓ hf hb I8 hL (λargs cH x hx=> ?_) aAx;grind [aMS,Entry.of]
def aLf(P:Program)(Γ:pb)(an:Ae)(N:Nat)(fn:Func):Nat->Nat->Prop
 | 0,_=>True
 |n+1,i=>aw8 P Γ an N (qJ fn i)/\aLf P Γ an N fn n (i+1)
theorem aLf.get{P:Program}{Γ:pb}{an:Ae}{N:Nat}{fn:Func}:∀ {n i:Nat},aLf P Γ an N fn n i->∀j,j < n->aw8 P Γ an N (qJ fn (i+j))
 | 0,_,_,j,hj=>au
 |n+1,i,h,0,_=>h.1
 |n+1,i,h,j+1,hj=>by have:=aLf.get h.2 j au;grind
theorem kA.aHL{P:Program}{Γ:pb}{an:Ae}{N:Nat}:∀(l:List Code),(∀j,j < l.length->aw8 P Γ an N (l.getD j .skip))->kA P Γ an N l
 |[],_=>trivial
 |b::l,h=>⟨h 0 (by simp),kA.aHL l λj hj=>by have:=h (j+1) (by grind);grind⟩
theorem kA.fn{P:Program}{Γ:pb}{an:Ae}{N:Nat}{fn:Func}(n:Nat)(hn:(match fn.body with | some c=>(lV c).length | none=>0)=n)(h:aLf P Γ an N fn n 0):∀c,fn.body=aj c->kA P Γ an N (lV c):=by
 intro c hc;refine kA.aHL _ λj hj=> ?_
 rw[hc]at hn;simp at hn;have:=h.get j au;grind [qJ]
theorem aw8.none{P:Program}{Γ:pb}{an:Ae}{N:Nat}{fn:Func}{i:Nat}(h:an.fE (dS (qJ fn i))=aF):aw8 P Γ an N (qJ fn i):=λle hle=>by
 grind
def aGj:pb:=λ_ _=>aF
theorem Sound.nil(P:Program):Sound P aGj:=λ_ _ _ h=>by cases h
def ah9(f:FuncId)(p:List aA->Bool)(en:Entry)(Γ:pb):pb:=λg vs=>match jD g f with | true=>(match p vs with | true=>aj en | false=>Γ g vs) | false=>Γ g vs
theorem Sound.cons{P:Program}{f:FuncId}{p:List aA->Bool}{en:Entry}{Γ:pb}(h:D6 P f en)(hΓ:Sound P Γ):Sound P (ah9 f p en Γ):=λg vs e hg=>by
 grind [ah9,gM,Sound]
theorem aOv{t:Ty}{x y:t.den}(h:aA.d t x=aA.d t y):x=y:=by grind
def qb:List aA->Bool:=λ_=>aL
def aBd:List aA->Bool | .cT::_=>aL | _=>aS
def ajt:List aA->Bool | .cg .. ::_=>aL | _=>aS
@[simp] theorem ak{α:Type}(x y:Option α):aG aL x y=x:=rfl
@[simp] theorem ao{α:Type}(x y:Option α):aG aS x y=y:=rfl
@[simp] theorem ah{α β:Type}(x:α)(f:α->Option β):al (aj x) f=f x:=rfl
@[simp] theorem aR0{α:Type}(c:xO)(x:Option α):same c c x=x:=by simp[same]
@[simp] theorem HX{α:Type}(x:Option α):nd x x=x:=by simp[nd]
structure SG(P:Program) where
 f:FuncId
 p:List aA->Bool
 e:Entry
 h:D6 P f e
def jB{P:Program}:List (SG P)->pb
 |[]=>aGj
 |a::l=>ah9 a.f a.p a.e (jB l)
theorem Sound.jB{P:Program}:∀l:List (SG P),Sound P (jB l)
 |[]=>Sound.nil P
 |a::l=>Sound.cons a.h (Sound.jB l)
abbrev SA:=List aA×List dT
def Rl(P:Program)(G:pb)(an:Ae)(N:Nat)(fn:Func){D:Type}(st:D->SA){R:Type}(d:D)(k:ja->Option R):Option R:=azn P G an N fn (st d).1 (st d).2 k
def dV(P:Program)(G:pb)(an:Ae)(N:Nat)(fn:Func)(i:Nat){D:Type}(st:D->AS){R:Type}(d:D)(kn:AS->Option R)(kx:Exit->AS->Option R):Option R:=Kq P G an N fn i (st d) kn kx
abbrev aze{D X Y:Type}(A: {R:Type}->D->(ja->Option R)->Option R)(fT:D->Prop)(add:D->Y->X)(F:D->Y)(out:X->ja):Prop:=∀d,fT d->A d aj=aj (out (add d (F d)))
abbrev jh(P:Program)(G:pb)(an:Ae)(N:Nat)(fn:Func)(i:Nat){D X Y:Type}(st:D->AS)(fT:D->Prop)(add:D->Y->X)(F:D->Y)(out:X->Out (Exit×AS)):Prop:=∀d,fT d->∃n,SM P G an N fn i n (st d) (λe s=>aj (e,s))=(out (add d (F d))).eval
abbrev azd{D X Y:Type}(R: {R:Type}->D->(AS->Option R)->(Exit->AS->Option R)->Option R)(st:D->AS)(fT:D->Prop)(add:D->Y->X)(F:D->Y)(ex:X->Exit×AS)(C:Prop):Prop:=∀μ:D->Nat,(∀d,fT d->(∃d',fT d'/\μ d' < μ d/\add d' (F d')=add d (F d)/\∀ {T:Type} (kn:AS->Option T) (kx:Exit->AS->Option T),R d kn kx=kn (st d'))\/(∀ {T:Type} (kn:AS->Option T) (kx:Exit->AS->Option T),R d kn kx=kx (ex (add d (F d))).1 (ex (add d (F d))).2))->C
abbrev mY{D X Y:Type}(R: {R:Type}->D->(AS->Option R)->(Exit->AS->Option R)->Option R)(st:D->AS)(fT:D->Prop)(add:D->Y->X)(F:D->Y)(out:X->Out (Exit×AS))(C:Prop):Prop:=∀μ:D->Nat,(∀d,fT d->(∃d',fT d'/\μ d' < μ d/\add d' (F d')=add d (F d)/\∀ {T:Type} (kn:AS->Option T) (kx:Exit->AS->Option T),R d kn kx=kn (st d'))\/(∃r,(out (add d (F d))).eval=aj r/\∀ {T:Type} (kn:AS->Option T) (kx:Exit->AS->Option T),R d kn kx=kx r.1 r.2))->C
abbrev aLa{D X Y:Type}(R: {R:Type}->D->(AS->Option R)->(Exit->AS->Option R)->Option R)(st:D->AS)(fT:D->Prop)(add:D->Y->X)(F:D->Y)(ex:X->Exit×AS)(C:Prop):Prop:=∀μ:D->Nat,(∀d,fT d->(∃(m:Nat) (d':Nat->D),0 < m/\(∀j,j < m->fT (d' j)/\μ (d' j) < μ d/\add (d' j) (F (d' j))=add d (F d))/\∀ {T:Type} (kn:AS->Option T) (kx:Exit->AS->Option T),R d kn kx=aow m λj=>kn (st (d' j)))\/(∀ {T:Type} (kn:AS->Option T) (kx:Exit->AS->Option T),R d kn kx=kx (ex (add d (F d))).1 (ex (add d (F d))).2))->C
theorem aPH{P:Program}{G:pb}{an:Ae}{N:Nat}{fn:Func}{i:Nat}{D X Y:Type}{st:D->AS}{fT:D->Prop}{add:D->Y->X}{F:D->Y}{ex:X->Exit×AS}:aLa (dV P G an N fn i st) st fT add F ex (jh P G an N fn i st fT add F λx=> .ok (ex x)):=λ μ h=>aHj (F:=λd=>add d (F d)) (out:=λx=> .ok (ex x)) μ λd hp=>(h d hp).imp id λh=>⟨_,rfl,h⟩
theorem aLv{P:Program}{G:pb}{an:Ae}{N:Nat}{fn:Func}{i:Nat}{D X Y:Type}{st:D->AS}{fT:D->Prop}{add:D->Y->X}{F:D->Y}{ex:X->Exit×AS}:azd (dV P G an N fn i st) st fT add F ex (jh P G an N fn i st fT add F λx=> .ok (ex x)):=λ μ h=>apt (F:=λd=>add d (F d)) μ h
theorem nJ{P:Program}{G:pb}{an:Ae}{N:Nat}{fn:Func}{i:Nat}{D X Y:Type}{st:D->AS}{fT:D->Prop}{add:D->Y->X}{F:D->Y}{out:X->Out (Exit×AS)}:mY (dV P G an N fn i st) st fT add F out (jh P G an N fn i st fT add F out):=λ μ h=>ax7 (F:=λd=>add d (F d)) (out:=out) μ h
def oI:List (Nat×p9)->Nat->p9
 |[],_=> {}
 |a::l,r=>bif jD r a.1 then a.2 else oI l r
def oH:List (Nat×p9×p9)->Nat->Bool->p9
 |[],_,_=> {}
 |a::l,r,b=>bif jD r a.1 then(bif b then a.2.2 else a.2.1) else oH l r b
def pW.{v} {α:Type v}:List (Nat×α)->Nat->Option α
 |[],_=>aF
 |a::l,r=>bif jD r a.1 then aj a.2 else pW l r
inductive Lf where
 |d (t:Ty)
 |n
@[reducible] def Lf.den:Lf->Type
 | .d t=>t.den
 | .n=>Nat
@[reducible] def Lf.aDZ:List Lf->Type
 |[]=>Unit
 |[a]=>a.den
 |a::b::l=>a.den×Lf.aDZ (b::l)
abbrev aR9:=List (Sigma Lf.den)
def Lf.mk:(ts:List Lf)->Lf.aDZ ts->aR9
 |[],_=> []
 |[a],x=> [⟨a,x⟩]
 |a::b::l,x=>⟨a,x.1⟩::Lf.mk (b::l) x.2
theorem Lf.mk_inj:∀(ts:List Lf) (x y:Lf.aDZ ts),Lf.mk ts x=Lf.mk ts y->x=y
 |[],_,_,_=>rfl
 |[a],x,y,h=>by grind [Lf.mk]
 |a::b::l,(x,u),(y,v),h=>by
  injection h with h h2
  injection h with _ h
  have h:x=y:=h;rw[h,Lf.mk_inj (b::l) u v h2]
def aA.leaves:aA->aR9
 | .d .unit _=> []
 | .d (.arr _ t) l=> [⟨.d (.slice t),l⟩]
 | .d t x=> [⟨.d t,x⟩]
 | .dx t x=> [⟨.d t,x⟩]
 | .vec _ t l=> [⟨.d (.slice t),l⟩]
 | .mp k v l=> [⟨.d (.slice (.pair k v)),l⟩]
 | .rW _ _ k v l _=> [⟨.d (.slice (.pair k v)),l⟩]
 | .Ay _ f _=>f.leaves
 | .cg _ _ _ _ _ n=> [⟨.n,n⟩]
 | .pr a b=>a.leaves++b.leaves
 | .cons a b=>a.leaves++b.leaves
 | .fn _ c=>c.leaves
 | .bx _ _ c=>c.leaves
 |_=> []
def dT.leaves:dT->aR9
 | .obj _ _ c=>c.leaves
 | .dead=> []
def SA.leaves(s:SA):aR9:=s.1.flatMap aA.leaves++s.2.flatMap dT.leaves
def AS.leaves(s:AS):aR9:=s.bZ.flatMap aA.leaves++(s.cH.flatMap dT.leaves++s.news.flatMap (·.flatMap dT.leaves))
theorem abI(ts:List Lf){st:Lf.aDZ ts->SA}(h:∀d,SA.leaves (st d)=Lf.mk ts d)(d d':Lf.aDZ ts)(e:st d=st d'):d=d':=Lf.mk_inj ts d d' (by grind)
theorem jC(ts:List Lf){st:Lf.aDZ ts->AS}(h:∀d,AS.leaves (st d)=Lf.mk ts d)(d d':Lf.aDZ ts)(e:st d=st d'):d=d':=Lf.mk_inj ts d d' (by grind)
def Entry.eW{D X Y:Type}(params:List (Option Ty))(st:D->SA)(fT:D->Prop)(add:D->Y->X)(F:D->Y)(out:X->ja):Entry:=Entry.of params st fT (λd=>add d (F d)) out
def aXi{X Y:Type}(x:X⊕Y):Out (X⊕Y):= .br x.isLeft (.get x.getLeft? λa=> .ok (.inl a)) (.get x.getRight? λb=> .ok (.inr b))
theorem aRj{X Y:Type}(x y:X⊕Y)(h:(aXi x).eval=aj y):y=x:=by cases x <;> exact(bh h).symm
def Entry.auo{D X X' Y:Type}(params:List (Option Ty))(st:D->SA)(fT:D->Prop)(add:D->Y->X⊕X')(F:D->Y)(out:X⊕X'->ja):Entry:= {Entry.eW params st fT add F out with sp:=aXi,aeN:=aRj}
theorem tg.aTF{P:Program}{f:FuncId}{D X X' Y:Type}{params:List (Option Ty)}{st:D->SA}{fT:D->Prop}{add:D->Y->X⊕X'}{F:D->Y}{out:X⊕X'->ja}(h:tg P f (Entry.eW params st fT add F out)):tg P f (Entry.auo params st fT add F out):=h
def Entry.acj{D X Y:Type}(params:List (Option Ty))(st:D->SA)(fT:D->Prop)(add:D->Y->X)(Post:D->Y->Prop)(out:X->ja):Entry:= {params,X,run:=λ_ _=>aF,out:=λ_ _ x=>out x,rel:=aL,set:=λargs cH x=>∃d,st d=(args,cH)/\fT d/\∃y,Post d y/\x=add d y}
def aQ9{D:Type}(E:Entry)(st:D->SA):D->E.X->Prop:=λd=>E.set (st d).1 (st d).2
theorem aPd{D X Y:Type}{params:List (Option Ty)}{st:D->SA}{fT:D->Prop}{add:D->Y->X}{Post:D->Y->Prop}{out:X->ja}(Vn:∀d d',st d=st d'->d=d'):aEw (aQ9 (Entry.acj params st fT add Post out) st) fT add Post:=λh h1 h2=>by
 obtain⟨y,hy⟩:=h1;refine akm ⟨_,_,rfl,h,y,hy,rfl⟩ λx hx=> ?_
 obtain⟨d',h3,_,y',h4,rfl⟩:=hx;grind
abbrev aEo{D X Y:Type}(A: {R:Type}->D->(ja->Option R)->Option R)(fT:D->Prop)(add:D->Y->X)(Post:D->Y->Prop)(out:X->ja):Prop:=∀d,fT d->∀k:ja->Option Unit,(∀y,Post d y->k (out (add d y))=aj ())->A d k=aj ()
def du.eW{D X Y:Type}(st:D->AS)(fT:D->Prop)(add:D->Y->X)(F:D->Y)(out:X->Out (Exit×AS)):du:=du.of st fT (λd=>add d (F d)) out
def NS{D:Type}(E:Entry)(st:D->SA):D->Option E.X:=λd=>E.run (st d).1 (st d).2
def fP{D:Type}(E:du)(st:D->AS):D->Option E.X:=λd=>E.run (st d)
abbrev iy{D X Y:Type}(call:D->Option X)(fT:D->Prop)(add:D->Y->X)(F:D->Y):Prop:=∀ {d:D},fT d->call d=aj (add d (F d))
theorem aTv{D X Y:Type}{params:List (Option Ty)}{st:D->SA}{fT:D->Prop}{add:D->Y->X}{F:D->Y}{out:X->ja}(Vn:∀d d',st d=st d'->d=d'):iy (NS (Entry.eW params st fT add F out) st) fT add F:=λh=>Entry.wz Vn h
theorem arI{D X X' Y:Type}{params:List (Option Ty)}{st:D->SA}{fT:D->Prop}{add:D->Y->X⊕X'}{F:D->Y}{out:X⊕X'->ja}(Vn:∀d d',st d=st d'->d=d'){d:D}(h:fT d):(Entry.auo params st fT add F out).run (st d).1 (st d).2=aj (add d (F d)):=aTv (params:=params) (out:=out) Vn h
theorem kz{D X Y:Type}{st:D->AS}{fT:D->Prop}{add:D->Y->X}{F:D->Y}{out:X->Out (Exit×AS)}(Vn:∀d d',st d=st d'->d=d'):iy (fP (du.eW st fT add F out) st) fT add F:=λh=>du.wz Vn h
def az9(P:Program)(fn:Func):Bool:=P.follows .mixedOrders && fn.body.isSome && !(fn.name== "runtime.NumGoroutine")
def aLW(fn:Func):Nat:=match fn.body with | some c=>(lV c).length | none=>0
theorem tg.fn{P:Program}{l:List (SG P)}{f:FuncId}{fn:Func}{an:Ae}{N:Nat}{D X Y:Type}{params:List (Option Ty)}{st:D->SA}{fT:D->Prop}{add:D->Y->X}{F:D->Y}{out:X->ja}(n:Nat)
  (hc:(P.funcs[f]?,az9 P fn,aLW fn)=(aj fn,aL,n))
  (h:aze (@Rl P (jB l) an N fn D st) fT add F out)
  (hL:aLf P (jB l) an N fn n 0) (aAx:an.nN=aF:=by exact rfl):tg P f (Entry.eW params st fT add F out):=by
 injection hc with h1 h2
 injection h2 with h2 h3
 unfold az9 at h2;simp only[ax,dv]at h2;exact tg.of h2.1.1 (Sound.jB l) h1 h2.1.2 h2.2 (kA.fn n h3 hL) h aAx
theorem Rm.fn{P:Program}{l:List (SG P)}{f:FuncId}{fn:Func}{an:Ae}{N:Nat}{D X Y:Type}{params:List (Option Ty)}{st:D->SA}{fT:D->Prop}{add:D->Y->X}{Post:D->Y->Prop}{out:X->ja}(n:Nat)
  (hc:(P.funcs[f]?,az9 P fn,aLW fn)=(aj fn,aL,n))
  (h:aEo (@Rl P (jB l) an N fn D st) fT add Post out)
  (hL:aLf P (jB l) an N fn n 0) (aAx:an.nN=aF:=by exact rfl):Rm P f (Entry.acj params st fT add Post out):=by
 injection hc with h1 h2
 injection h2 with h2 h3
 unfold az9 at h2;simp only[ax,dv]at h2;refine Rm.wz h2.1.1 (Sound.jB l) h1 h2.1.2 h2.2 (kA.fn n h3 hL) (λargs cH hx=> ?_) aAx;obtain⟨x,d,e,hp,y,hy,rfl⟩:=hx;have:=h d hp (λG=>ayk (∃x,(Entry.acj params st fT add Post out).set args cH x/\G=(Entry.acj params st fT add Post out).out args cH x)) λy hy=>H2 ⟨_,⟨d,e,hp,y,hy,rfl⟩,rfl⟩
 grind [Rl]
theorem aw8.eW{P:Program}{Γ:pb}{an:Ae}{N:Nat}{fn:Func}{i:Nat}{D X Y:Type}{st:D->AS}{fT:D->Prop}{add:D->Y->X}{F:D->Y}{out:X->Out (Exit×AS)}
  (h:jh P Γ an N fn i st fT add F out) (hle:an.fE (dS (qJ fn i))=aj (du.eW st fT add F out):=by kernel_rfl):aw8 P Γ an N (qJ fn i):=aw8.of hle h
abbrev K1(R:Type):=ja->Option R
abbrev K2(R:Type):=AS->Option R
abbrev K3(R:Type):=Exit->AS->Option R
@[reducible] def bz{D Y:Type}(_:D)(y:Y):Y:=y
structure Ls{D Y X:Type}(fT:D->Prop)(add:D->Y->X)(F:D->Y) where
 st:D->AS
 ex:X->Exit×AS
noncomputable def te{D Y X:Type}{fT:D->Prop}{add:D->Y->X}{F:D->Y}(st:D->AS)(ex:X->Exit×AS):Ls fT add F:=⟨st,ex⟩
section
variable {D Y X:Type} {fT:D->Prop} {add:D->Y->X} {F:D->Y} (L:Ls fT add F)
def Ls.out:X->Out (Exit×AS):=λx=> .ok (L.ex x)
def Ls.E:du:=du.eW L.st fT add F L.out
def Ls.call:D->Option X:=fP L.E L.st
abbrev Ls.go{R:Type}(kx:K3 R)(x:X):Option R:=kx (L.ex x).1 (L.ex x).2
abbrev Ls.RS:Prop:=iy L.call fT add F
end
theorem rL(ts:List Lf){Y X:Type}{fT:Lf.aDZ ts->Prop}{add:Lf.aDZ ts->Y->X}{F:Lf.aDZ ts->Y}(L:Ls fT add F)(h:∀d,AS.leaves (L.st d)=Lf.mk ts d:=by exact λ_=>cf):iy L.call fT add F:=kz (jC ts h)
structure Fs(P:Program){D Y X:Type}(fT:D->Prop)(add:D->Y->X)(F:D->Y) where
 i:FuncId
 fn:Func
 st:D->SA
 out:X->ja
 ps:List (Option Ty)
 G:List (SG P)
 an:Ae
 N:Nat
noncomputable def fu{P:Program}{D Y X:Type}{fT:D->Prop}{add:D->Y->X}{F:D->Y}(i:FuncId)(fn:Func)(st:D->SA)(out:X->ja)(ps:List (Option Ty))(G:List (SG P):=[])(an:Ae:= {})(N:Nat:=0):Fs P fT add F:=⟨i,fn,st,out,ps,G,an,N⟩
section
variable {P:Program} {D Y X:Type} {fT:D->Prop} {add:D->Y->X} {F:D->Y} (f:Fs P fT add F) {D' Y' X':Type} {Pre':D'->Prop} {add':D'->Y'->X'} {F':D'->Y'}
def Fs.A{R:Type}(d:D)(k:K1 R):Option R:=Rl P (jB f.G) f.an f.N f.fn f.st d k
def Fs.R(i:Nat)(L:Ls Pre' add' F'){R:Type}(d:D')(kn:K2 R)(kx:K3 R):Option R:=dV P (jB f.G) f.an f.N f.fn i L.st d kn kx
abbrev Fs.Ok:Prop:=∀d,fT d->f.A d aj=aj (f.out (add d (F d)))
abbrev Fs.kA(i:Nat)(L:Ls Pre' add' F'):Prop:=jh P (jB f.G) f.an f.N f.fn i L.st Pre' add' F' L.out
def Fs.E:Entry:=Entry.eW f.ps f.st fT add F f.out
def Fs.call:D->Option X:=NS f.E f.st
theorem Fs.nN(i:Nat)(L:Ls Pre' add' F'):azd (@Fs.R P D Y X fT add F f D' Y' X' Pre' add' F' i L) L.st Pre' add' F' L.ex (f.kA i L):=λ μ h=>apt (F:=λd=>add' d (F' d)) μ h
theorem Fs.aVJ(i:Nat)(L:Ls Pre' add' F'):aLa (@Fs.R P D Y X fT add F f D' Y' X' Pre' add' F' i L) L.st Pre' add' F' L.ex (f.kA i L):=aPH
abbrev Fs.RS:Prop:=iy f.call fT add F
def Fs.aRc(p:List aA->Bool)(ok:f.Ok)(n:Nat:=0)(hL:aLf P (jB f.G) f.an f.N f.fn n 0:=by exact trivial)(hc:(P.funcs[f.i]?,az9 P f.fn,aLW f.fn)=(aj f.fn,aL,n):=by kernel_rfl)(hy:lM f.i yB=aL:=by exact rfl)(hn:f.an.nN=aF:=by exact rfl):SG P:=⟨f.i,p,f.E,.of (tg.fn n hc ok hL hn) hy⟩
def Fs.fI(ok:f.Ok)(n:Nat:=0)(hL:aLf P (jB f.G) f.an f.N f.fn n 0:=by exact trivial)(hc:(P.funcs[f.i]?,az9 P f.fn,aLW f.fn)=(aj f.fn,aL,n):=by kernel_rfl)(hy:lM f.i yB=aL:=by exact rfl)(hn:f.an.nN=aF:=by exact rfl):SG P:=f.aRc qb ok n hL hc hy hn
end
theorem rE(ts:List Lf){P:Program}{Y X:Type}{fT:Lf.aDZ ts->Prop}{add:Lf.aDZ ts->Y->X}{F:Lf.aDZ ts->Y}(f:Fs P fT add F)(h:∀d,SA.leaves (f.st d)=Lf.mk ts d:=by exact λ_=>cf):iy f.call fT add F:=aTv (abI ts h)
abbrev tu:Ty:=(.int .u64)
abbrev ti:Ty:=(.int .i64)
abbrev tb:Ty:=(.int .u8)
abbrev tB:Ty:=(.slice tb)
abbrev Bs:=(List Int)
abbrev tH:Ty:=(.arr 32 tb)
abbrev tU:Ty:=(.slice tu)
abbrev bX:Ty:=(.pair tH (.pair ti .unit))
abbrev cr:=(Bs×(Int×Unit))
abbrev xn:Ty:=(.pair tu (.pair tu .unit))
abbrev Sg:=(Int×(Int×Unit))
abbrev aeW:Ty:=(.pair ti (.pair (.slice xn) (.pair tu .unit)))
abbrev Pq:=(Int×((List Sg)×(Int×Unit)))
abbrev fo:Ty:=(.pair bX (.pair aeW .unit))
abbrev gK:=(cr×(Pq×Unit))
abbrev iS:Ty:=(.pair tU (.pair ti (.pair ti (.pair tu .unit))))
abbrev pZ:=(Bs×(Int×(Int×(Int×Unit))))
abbrev Ag:Ty:=(.pair (.slice iS) .unit)
abbrev Lk:=((List pZ)×Unit)
abbrev fJ:Ty:=(.pair ti (.pair Ag .unit))
abbrev gX:=(Int×(Lk×Unit))
abbrev dz:Ty:=(.pair (.slice fo) (.pair (.slice fJ) (.pair ti .unit)))
abbrev cR:=((List gK)×((List gX)×(Int×Unit)))
abbrev qk:Ty:=(.pair tB (.pair .bool .unit))
abbrev gq:=(Bs×(Bool×Unit))
abbrev aYy:Ty:=(.pair ti (.pair (.fx xn) (.pair tu .unit)))
abbrev aUq:=(Int×((Option (List Sg))×(Int×Unit)))
abbrev gU:Ty:=(.pair bX (.pair aYy .unit))
abbrev pg:=(cr×(aUq×Unit))
end Go.Ab
namespace Go.Ab
theorem wk{n:Int}(h1: -9223372036854775808<=n)(h2:n<=9223372036854775807):IntKind.i64.wrap n=n:=by grind [IntKind.wrap,IntKind.bits,IntKind.signed]
theorem jn{x y:Int}(h1: -9223372036854775808<=x+y)(h2:x+y<=9223372036854775807):bA .i64 x y=x+y:=wk h1 h2
theorem gC{x y:Int}(h1: -9223372036854775808<=x - y)(h2:x - y<=9223372036854775807):dG .i64 x y=x - y:=wk h1 h2
theorem Kb{x y:Int}(h1: -9223372036854775808<=x*y)(h2:x*y<=9223372036854775807):gB .i64 x y=x*y:=wk h1 h2
theorem aMl{x:Int}(h1: -9223372036854775808<=x)(h2:x<=9223372036854775807):dO .i64 x=x:=wk h1 h2
def vw{n:Nat}(w:BitVec n):Int:=(w.toNat:Int)
theorem ix(n:Nat)(x:Int):vw (bn n x)=x%((2^n:Nat):Int):=by unfold vw;rw[uE];omega
theorem WK{n:Nat}(w:BitVec n):0<=vw w:=kD _
theorem aKG{n:Nat}(w:BitVec n):vw w < ((2^n:Nat):Int):=by have:=w.isLt;grind [vw]
theorem SV{n:Nat}(w:BitVec n):bn n (vw w)=w:=by simp[vw]
theorem wrap_u32(x:Int):IntKind.u32.wrap x=vw (bn 32 x):=by grind [ix,IntKind.wrap,IntKind.bits,IntKind.signed]
theorem wrap_u64(x:Int):IntKind.u64.wrap x=vw (bn 64 x):=by grind [ix,IntKind.wrap,IntKind.bits,IntKind.signed]
theorem wrap_u8(x:Int):IntKind.u8.wrap x=vw (bn 8 x):=by grind [ix,IntKind.wrap,IntKind.bits,IntKind.signed]
theorem Gx(x y:BitVec 32):bA .u32 (vw x) (vw y)=vw (x+y):=by simp[bA,wrap_u32,BitVec.ofInt_add,vw]
theorem axX(x:Int):dO .u32 x=vw (bn 32 x):=wrap_u32 x
theorem Sx(x:Int):dO .u64 x=vw (bn 64 x):=wrap_u64 x
theorem Vv(x:Int):dO .u8 x=vw (bn 8 x):=wrap_u8 x
theorem rP(op:BinOp)(x y:BitVec 32):db op .u32 (vw x) (vw y)=vw (match op with | .and=>x &&& y | .or=>x ||| y | .xor=>x^^^y | _=>x &&& ~~~y):=by grind [db,IntKind.bits,wrap_u32,vw]
theorem azu(op:BinOp)(x y:BitVec 64):db op .u64 (vw x) (vw y)=vw (match op with | .and=>x &&& y | .or=>x ||| y | .xor=>x^^^y | _=>x &&& ~~~y):=by grind [db,IntKind.bits,wrap_u64,vw]
theorem aFX(x y:Nat):Int.fdiv (x:Int) (y:Int)=((x / y:Nat):Int):=by grind
theorem UP(k:Nat):(2:Int)^k=((2^k:Nat):Int):=by simp
theorem aRf{n:Nat}(w:BitVec n)(k:Nat):Int.fdiv (vw w) (2^(min k n))=vw (w >>> k):=by
 rw[UP];unfold vw;rw[aFX,BitVec.toNat_ushiftRight,Nat.shiftRight_eq_div_pow];rcases Nat.le_total k n with hk | hk
 ·grind
 ·rw[Nat.min_eq_right hk,Nat.div_eq_of_lt w.isLt,Nat.div_eq_of_lt];exact Nat.lt_of_lt_of_le w.isLt (Nat.pow_le_pow_right au hk)
theorem Ke(w:BitVec 32)(k:Int):cq .u32 (vw w) k=vw (w >>> k.toNat):=aRf w k.toNat
theorem aRe{n:Nat}(w:BitVec n)(k:Nat):bn n (vw w*2^(min k n))=w <<< k:=by
 apply BitVec.eq_of_toNat_eq;rw[uE,BitVec.toNat_shiftLeft,Nat.shiftLeft_eq];unfold vw;rw[UP];have e:((w.toNat:Int)*((2^min k n:Nat):Int))=((w.toNat*2^min k n:Nat):Int):=by simp
 rw[e];have:(((w.toNat*2^min k n:Nat):Int)%((2^n:Nat):Int)).toNat=(w.toNat*2^min k n)%2^n:=au;rw[this];rcases Nat.le_total k n with hk | hk
 ·rw[Nat.min_eq_left hk]
 ·rw[Nat.min_eq_right hk,Nat.mul_mod_left];obtain⟨m,rfl⟩:=Nat.exists_eq_add_of_le hk;rw[qp,<-Nat.mul_assoc,Nat.mul_right_comm,Nat.mul_mod_left]
theorem SD(w:BitVec 32)(k:Int):nk .u32 (vw w) k=vw (w <<< k.toNat):=by rw[nk,wrap_u32];congr 1;exact aRe w k.toNat
theorem aZ{i n:Int}(h1:0<=i)(h2:i < n):eE i n=aL:=by simp[eE,h1,h2]
theorem C4{i n:Int}(h1:0<=i)(h2:i<=n):inc i n=aL:=by grind [inc]
theorem aT{x y:Int}(h:x < y):fL x y=aL:=by simp[fL,h]
theorem aP{x y:Int}(h:¬x < y):fL x y=aS:=by simp[fL];omega
theorem pt{x y:Int}(h:x<=y):akP x y=aL:=by simp[akP,h]
theorem kr{x y:Int}(h:¬x<=y):akP x y=aS:=by grind [akP]
theorem dj{x y:Int}(h:x > y):Af x y=aL:=by simp[Af];omega
theorem cw{x y:Int}(h:¬x > y):Af x y=aS:=by simp[Af];omega
theorem gA{x y:Int}(h:x>=y):D4 x y=aL:=by grind [D4]
theorem eD{x y:Int}(h:¬x>=y):D4 x y=aS:=by grind [D4]
theorem eU{x y:Int}(h:x=y):AP x y=aL:=by simp[AP,h]
theorem fU{x y:Int}(h:¬x=y):AP x y=aS:=by simp[AP,h]
theorem eA{x y:Int}(h:¬x=y):Cw x y=aL:=by simp[Cw,h]
theorem cz{x y:Int}(h:x=y):Cw x y=aS:=by simp[Cw,h]
theorem vz{x:Int}(h:0<=x):nv x=aL:=by simp[nv,h]
theorem aI{p:Prop} [Decidable p] (h:p):decide p=aL:=by simp[h]
theorem aN{p:Prop} [Decidable p] (h:¬p):decide p=aS:=by simp[h]
theorem dk{n b:Nat}(h:n*b<=140737488355328)(h2:n<=9223372036854775807):dd n b=aL:=by simp[dd,h,h2]
def from_{α:Type}(f:Nat->α->α)(t:Nat)(l:List α):List α:=l.mapIdx λi x=>if i < t then x else f i x
theorem MV{α:Type}(f:Nat->α->α)(l:List α)(t:Nat)(h:t < l.length):from_ f (t+1) (l.set t (f t l[t]))=from_ f t l:=by unfold from_;apply rI (by simp);grind
theorem Sf{α:Type}(f:Nat->α->α)(l:List α)(t:Nat)(h:l.length<=t):from_ f t l=l:=by unfold from_;apply rI (by simp);grind
theorem abp{α:Type}(f:Nat->α->α)(n:Nat)(x:α):from_ f 0 (ae n x)=(List.range n).map λi=>f i x:=by unfold from_;apply rI (by simp);grind
theorem cj{t:Ty}{l:List t.den}{i:Nat}(h:i < l.length):nth t l i=l[i]:=by simp[nth,h]
end Go.Ab
namespace Go.Ab.N
section
variable {α:Type} {x y:Option α} {a b n:Nat} {i j:Int}
theorem lt:aG (fL i j) x y=if i < j then x else y:=by grind [fL,aG]
theorem le:aG (akP i j) x y=if i<=j then x else y:=by grind [akP,aG]
theorem gt:aG (Af i j) x y=if j < i then x else y:=by unfold Af;split <;> rename_i h <;> simp[h]
theorem ge:aG (D4 i j) x y=if j<=i then x else y:=by grind [D4,aG]
theorem eq:aG (AP i j) x y=if i=j then x else y:=by grind [aG,AP]
theorem ne:aG (Cw i j) x y=if i=j then y else x:=by grind [aG,Cw]
theorem ib:aG (eE i j) x y=if 0<=i/\i < j then x else y:=by unfold eE;split <;> rename_i h <;> simp[h]
theorem ic:aG (inc i j) x y=if 0<=i/\i<=j then x else y:=by grind [inc,aG]
theorem nn:aG (nv i) x y=if 0<=i then x else y:=by grind [nv,aG]
theorem nz:aG (tP i) x y=if i=0 then y else x:=by unfold tP;split <;> rename_i h <;> simp[h]
theorem dc{p:Prop} [Decidable p]:aG (decide p) x y=if p then x else y:=by grind [aG]
theorem rm:aG (dd n b) x y=if n*b<=140737488355328/\n<=9223372036854775807 then x else y:=by grind [dd,aG]
theorem an{c d:Bool}:aG (c && d) x y=aG c (aG d x y) y:=by cases c <;> rfl
theorem or{c d:Bool}:aG (c || d) x y=aG c x (aG d x y):=by cases c <;> rfl
theorem no{c:Bool}:aG (!c) x y=aG c y x:=by cases c <;> rfl
theorem aTO(h:a+b<=9223372036854775807):bA .i64 (a:Int) (b:Int)=((a+b:Nat):Int):=by rw[jn au au];omega
theorem lh(h:a+dE n<=9223372036854775807):bA .i64 (a:Int) (no_index (dE n))=((a+dE n:Nat):Int):=aTO h
theorem aWf(h:dE n+a<=9223372036854775807):bA .i64 (no_index (dE n)) (a:Int)=((dE n+a:Nat):Int):=aTO h
theorem aUf(h:b<=a)(h2:a<=9223372036854775807):dG .i64 (a:Int) (b:Int)=((a - b:Nat):Int):=by grind [gC]
theorem aXb(h:dE n<=a)(h2:a<=9223372036854775807):dG .i64 (a:Int) (no_index (dE n))=((a - dE n:Nat):Int):=aUf h h2
theorem aXa(h:a<=dE n)(h2:(dE n:Nat)<=9223372036854775807):dG .i64 (no_index (dE n)) (a:Int)=((dE n - a:Nat):Int):=aUf h h2
theorem aUa(h:a*b<=9223372036854775807):gB .i64 (a:Int) (b:Int)=((a*b:Nat):Int):=by grind [Kb]
theorem aW4(h:a*dE n<=9223372036854775807):gB .i64 (a:Int) (no_index (dE n))=((a*dE n:Nat):Int):=aUa h
theorem aTm(h:dE n*a<=9223372036854775807):gB .i64 (no_index (dE n)) (a:Int)=((dE n*a:Nat):Int):=aUa h
theorem aVC(h:a<=9223372036854775807):vS .i64 (a:Int) (b:Int)=((a / b:Nat):Int):=by have hl:=Nat.div_le_self a b;grind [vS,wk]
theorem aVB(h:a<=9223372036854775807):vS .i64 (a:Int) (no_index (dE n))=((a / dE n:Nat):Int):=aVC h
theorem aVD:nM (a:Int) (b:Int)=((a%b:Nat):Int):=by unfold nM;rw[im au];simp
theorem aUd:nM (a:Int) (no_index (dE n))=((a%dE n:Nat):Int):=aVD
theorem cN(h:a<=9223372036854775807):dO .i64 (a:Int)=(a:Int):=aMl au au
theorem cL(h:(dE n:Nat)<=9223372036854775807):dO .i64 (no_index (dE n))=dE n:=cN h
theorem tL:ab (no_index (dE n))=dE n:=rfl
end
end Go.Ab.N
namespace Go.Ab
section
variable {P:Program}
theorem aFS{E E':Env}(h1:E'.w=E.w)(h2:E'.g=E.g)(h3:E'.β=E.β)(h4:E'.s=E.s):E'=E:=by obtain⟨a,b,c,d⟩:=E;obtain⟨a',b',c',d'⟩:=E';grind
theorem CF.same{w:World}{g:Nat->iU}{β:Id->Option Pl}{cH:List dT}{a:aA}{v:Value}(hv:VS ((jM cH).env w g β) a v)(ho:iL ((jM cH).env w g β)):
  CF ((jM cH).env w g β) ⟨a,cH,[]⟩ v w:=by
 have hE:(ja.st ⟨a,cH,[]⟩).env w g β=(jM cH).env w g β:=by
  refine aFS rfl rfl rfl ?_
  funext id;cases id with
  |bW k=>rfl
  |new i j=>
   show([([]:List dT)].getD i [])[j]? =(([]:List (List dT)).getD i [])[j]?
   cases i <;> rfl
 refine⟨g,β,?_⟩;rw[hE];exact⟨hv,ho,kG.refl w g,CI.refl _⟩
theorem tg.extern{f:FuncId}{fn:Func}{e:Array Value->Sem Value}(hf:P.funcs[f]? =aj fn)(I8:(fn.name== "runtime.NumGoroutine")=aS)(hb:fn.body.isNone=aL)(hn:Extern.findNext fn=aF)(he:Extern.find fn=aj e){en:Entry}
  (h:∀w g β args cH jT x,D7 ((jM cH).env w g β) args jT->iL ((jM cH).env w g β)->en.run args cH=aj x->∃v,(e jT.toArray).run P w= .ok v w/\CF ((jM cH).env w g β) (en.out args cH x) v w):tg P f en:=by
 intro w g β args cH jT x h1 h2 h3;obtain⟨v,h4,h5⟩:=h w g β args cH jT x h1 h2 h3;refine .inr ⟨v,w,?_,h5⟩;rw[run_callFunc_extern hf I8 hb hn he,h4];rfl
theorem ajj{w:World}:∀(xs:List Int) (a:Addr) (acc:ByteArray),(∀j x,xs[j]? =aj x->w.cell? (a.add j)=aj (.int .u8 x))->
  (Extern.Bytes.loadBytes a xs.length acc).run P w= .ok ⟨acc.data++(xs.map λn=>UInt8.ofNat n.toNat).toArray⟩ w
 |[],a,acc,_=>by simp[Extern.Bytes.loadBytes]
 |x::l,a,acc,h=>by
  have h0:w.cell? a=aj (.int .u8 x):=by have:=h 0 x rfl;grind [Addr.add]
  have ih:=ajj l (a.add 1) (acc.push x.toNat.toUInt8) (λj y hy=>by
   have:=h (j+1) y (by grind);have e:(a.add 1).add j=a.add (j+1):=by grind [Addr.add]
   rw[e];omega)
  simp_all [Extern.Bytes.loadBytes]
theorem aey{E:Env}{l:List Int}{y:Value}(h:VS E (.d (.slice (.int .u8)) l) y):(Extern.Bytes.bytesOf y).run P E.w= .ok (iY l) E.w:=by
 obtain⟨a,cap,vs,rfl,_,hs,nL,zE⟩:=xd h;have ao3:=zC (k:= .u8) (vs:=vs) (l:=l) zE;cases a with
 |none=>
  have hl:l=[]:=by simp_all
  subst hl;rfl
 |some ad=>
  have aOH:=ajj (P:=P) (w:=E.w) l ad .empty λj x hx=>by obtain⟨b,off,e,hh⟩:=nL j (.int .u8 x) (by grind);have h1:=hh.1;grind [Addr.add]
  simp_all [iY,Extern.Bytes.bytesOf]
def atb(a b:List Int):Int:=Extern.BytealgCompare.cmp (iY a) (iY b)
def axi:Entry:=Entry.of (D:=List Int×List Int) (X:=Int) [aj (.slice (.int .u8)),aj (.slice (.int .u8))] (λd=>([.d (.slice (.int .u8)) d.1,.d (.slice (.int .u8)) d.2],[])) (λ_=>True) (λd=>atb d.1 d.2) (λx=>⟨.d (.int .i64) x,[],[]⟩)
theorem aLj:∀d d':List Int×List Int,(([aA.d (.slice (.int .u8)) d.1,aA.d (.slice (.int .u8)) d.2],([]:List dT)):List aA×List dT)=([.d (.slice (.int .u8)) d'.1,.d (.slice (.int .u8)) d'.2],[])->d=d':=by rintro⟨a,b⟩ ⟨a',b'⟩ h;have e1:a=a':=aOv (t:= .slice (.int .u8)) (congrArg (λs:List aA×List dT=>s.1.getD 0 .undef) h);have e2:b=b':=aOv (t:= .slice (.int .u8)) (congrArg (λs:List aA×List dT=>s.1.getD 1 .undef) h);rw[e1,e2]
def anS:List Int×List Int->Option Int:=λd=>axi.run [.d (.slice (.int .u8)) d.1,.d (.slice (.int .u8)) d.2] []
theorem axj(d:List Int×List Int):anS d=aj (atb d.1 d.2):=Entry.wz (d:=d) aLj trivial
theorem aPy{f:FuncId}{fn:Func}(hf:P.funcs[f]? =aj fn)(I8:(fn.name== "runtime.NumGoroutine")=aS)(hb:fn.body.isNone=aL)(hn:Extern.findNext fn=aF)(he:Extern.find fn=aj Extern.BytealgCompare.compare):tg P f axi:=by
 refine tg.extern hf I8 hb hn he λw g β args cH jT x h1 h2 h3=> ?_
 have hx:∃d:List Int×List Int,(([aA.d (.slice (.int .u8)) d.1,aA.d (.slice (.int .u8)) d.2],([]:List dT)):List aA×List dT)=(args,cH):=by
  by_cases hh:∃d:List Int×List Int,(([aA.d (.slice (.int .u8)) d.1,aA.d (.slice (.int .u8)) d.2],([]:List dT)):List aA×List dT)=(args,cH)
  ·exact hh
  ·exfalso;have hn:axi.run args cH=aF:=dif_neg λ⟨d,h,_⟩=>hh ⟨d,h⟩
   rw[hn]at h3;cases h3
 obtain⟨d,hd⟩:=hx;simp only[jU]at hd;obtain⟨rfl,rfl⟩:=hd;have hr:=axj d;have hx:x=atb d.1 d.2:=bh (h3.symm.trans hr);subst hx
 match jT,h1 with
 |[u,v],⟨h4,h5,_⟩=>
  refine⟨.int .i64 (atb d.1 d.2),?_,CF.same (kH _ _) h2⟩;have e1:=aey (P:=P) h4;have e2:=aey (P:=P) h5;have e1:(Extern.Bytes.bytesOf u).run P w= .ok (iY d.1) w:=e1;have e2:(Extern.Bytes.bytesOf v).run P w= .ok (iY d.2) w:=e2;have aQe:Extern.BytealgCompare.compare [u,v].toArray=(do let a <-Extern.Bytes.bytesOf u;let b <-Extern.Bytes.bytesOf v;pure (goInt (Extern.BytealgCompare.cmp a b))):=rfl;rw[aQe];simp[e1,e2,goInt,atb]
def aUr{X Y:Type} [Inhabited Y] (x:Option X):Option (X×Y):=al x λy=>aj (y,default)
def aUs{X Y:Type} [Inhabited X] (x:Option Y):Option (X×Y):=al x λy=>aj (default,y)
@[simp] theorem aRF{X Y:Type} [Inhabited Y] (x:X):aUr (Y:=Y) (aj x)=aj (x,default):=rfl
@[simp] theorem aRG{X Y:Type} [Inhabited X] (x:Y):aUs (X:=X) (aj x)=aj (default,x):=rfl
end
theorem S1:(type_of% @N.lt)/\(type_of% @N.le)/\(type_of% @N.gt)/\(type_of% @N.ge)/\(type_of% @N.eq)/\(type_of% @N.ne)/\(type_of% @N.ib)/\(type_of% @N.ic)/\(type_of% @N.nn)/\(type_of% @N.nz)/\(type_of% @N.dc)/\(type_of% @N.rm)/\(type_of% @N.an)/\(type_of% @N.or)/\(type_of% @N.no)/\(type_of% @ak)/\(type_of% @ao)/\(type_of% @ah):=⟨@N.lt,@N.le,@N.gt,@N.ge,@N.eq,@N.ne,@N.ib,@N.ic,@N.nn,@N.nz,@N.dc,@N.rm,@N.an,@N.or,@N.no,@ak,@ao,@ah⟩
theorem S2:(type_of% @ah)/\(type_of% @N.aTO)/\(type_of% @N.lh)/\(type_of% @N.aWf)/\(type_of% @N.aUf)/\(type_of% @N.aXb)/\(type_of% @N.aXa)/\(type_of% @N.aUa)/\(type_of% @N.aW4)/\(type_of% @N.aTm)/\(type_of% @N.aVC)/\(type_of% @N.aVB)/\(type_of% @N.aVD)/\(type_of% @N.aUd)/\(type_of% @N.cN)/\(type_of% @N.cL)/\(type_of% @N.tL)/\(type_of% @aa)/\(type_of% @ji)/\(type_of% @iw)/\(type_of% @gR):=⟨@ah,@N.aTO,@N.lh,@N.aWf,@N.aUf,@N.aXb,@N.aXa,@N.aUa,@N.aW4,@N.aTm,@N.aVC,@N.aVB,@N.aVD,@N.aUd,@N.cN,@N.cL,@N.tL,@aa,@ji,@iw,@gR⟩
end Go.Ab
namespace Go.Ab
open Go.ChangeShapes Go.WideShapes Go.ChangeAt Go.RowKit Go.Deep
def ahD:(t:Ty)->t.den->Prop
 | .int k,x=>(Lit.int k x).wf=aL
 | .bool,_=>True
 | .str,s=>(s:ByteArray).size<=maxLen
 | .slice t,l=>(l:List t.den).length<=maxLen/\∀x∈(l:List t.den),ahD t x
 | .unit,_=>True
 | .pair a b,x=>ahD a x.1/\ahD b x.2
 | .arr n t,l=>(l:List t.den).length=n/\∀x∈(l:List t.den),ahD t x
 | .fx _,_ | .nK _,_ | .gF _,_ | .eP _,_ | .js _,_ | .jp _,_=>False
def C0(P:Program)(rd:TypeId->Ty->Bool):Nat->List Field->Ty->Bool
 |_,[],.unit=>aL
 |off,f::fs,.pair a b=>jD f.offset off && (rd f.type a && (jD (P.cellsOf f.type) a.size && C0 P rd (off+a.size) fs b))
 |_,_,_=>aS
def FZ(P:Program):Nat->TypeId->Ty->Bool
 | 0,_,_=>aS
 |n+1,T,ty=>
  match P.underlying T,ty with
  |some (.int k),.int k'=>decide (k=k')
  |some .bool,.bool=>aL
  |some .string,.str=>aL
  |some (.slice e),.slice t=>FZ P n e t && jD (P.cellsOf e) t.size
  |some (.array k e),.arr k' t=>jD k k' && (FZ P n e t && (jD (P.cellsOf e) t.size && jD (P.cellsOf T) (k*t.size)))
  |some (.struct fs),ty=>C0 P (FZ P n) 0 fs.toList ty && jD (P.cellsOf T) ty.size
  |_,_=>aS
theorem aPB{a b:Nat}:(jD a b=aL)=(a=b):=propext ⟨gM,λh=>by simp_all⟩
theorem apv{α β:Type}{f:α->Option β}:∀ {l:List α} {r:List β},l.mapM f=aj r->r.length=l.length/\∀(i:Nat) (x:α),l[i]? =aj x->f x=r[i]?
 |[],r,h=>by grind
 |y::l,r,h=>by simp[Option.bind_eq_some_iff]at h;obtain⟨b,hb,r',hr,rfl⟩:=h;obtain⟨h1,h2⟩:=apv hr;grind
theorem azH{w:World}{base:Nat}{a:Addr}{n:Nat}{cs:List Value}(h:w.cells? base a n=aj cs):cs.length=n/\∀i,i < n->w.cell? (a.add i)=cs[i]? :=by
 unfold World.cells? at h;split at h
 ·obtain⟨h1,h2⟩:=apv h;exact⟨by simpa using h1,λi hi=>h2 i i (by simp[hi])⟩
 ·cases h
theorem add_add(a:Addr)(x y:Nat):(a.add x).add y=a.add (x+y):=by grind [Addr.add]
theorem aDn{w:World}{a:Addr}{v:Value}(h:w.cell? a=aj v):a.spot=aF:=by
 unfold eL at h;split at h
 all_goals simp_all
theorem aQ5{E:Env}(hg:∀b,E.g b= .free){a:Addr}{vs:List Value}(h:∀i,i < vs.length->E.w.cell? (a.add i)=vs[i]?):xw E (aj a) vs:=by
 intro i v hv;have hi:=(gw.1 hv).1;have h0:=h 0 au;rw[cm au]at h0;have hs:=aDn (a:=a) (by simpa[Addr.add]using h0);obtain⟨b,off,sp⟩:=a;subst hs;refine⟨b,off,rfl,?_,?_⟩
 all_goals grind [Addr.add,ku]
section
variable {H:Type} {enc:TypeId×Value->H} {P:Program} {base:Nat} {spare:Nat->Bool} {held:Bool} {E:Env}
theorem ayY{t:Ty}{R:List Value->t.den->Prop}{G:t.den->Prop}{w:World}{a:Addr}{z:Nat}(hR:∀c x,R c x->c.length=z):∀(len:Nat),(∀i,i < len->∃c x,R c x/\G x/\∀j,j < z->w.cell? (a.add (i*z+j))=c[j]?)->
  ∃(vs:List Value) (l:List t.den),vs.length=len*z/\l.length=len/\(∀i,i < vs.length->w.cell? (a.add i)=vs[i]?)/\bo R vs l/\∀x∈l,G x
 | 0,_=>⟨[],[],by simp,rfl,λi h=>by simp at h,rfl,λ_ h=>by cases h⟩
 |len+1,h=>by
  obtain⟨vs,l,h1,h2,h3,h4,h5⟩:=ayY hR len λi hi=>h i au
  obtain⟨c,x,g1,g2,g3⟩:=h len au;have hc:=hR c x g1;refine⟨vs++c,l++ [x],by rw[ai,h1,hc,hP,vf],by rw[ai,h2];rfl,λi hi=> ?_,bo.append h4 ⟨c,[],by simp,g1,rfl⟩,λy hy=> ?_⟩
  ·rw[ai,h1,hc]at hi;by_cases hl:i < vs.length
   ·rw[h3 i hl,List.getElem?_append_left hl]
   ·rw[List.getElem?_append_right au,h1,<-g3 (i - len*z) au,show len*z+(i - len*z)=i by omega]
  ·rcases bg.1 hy with hy | hy
   ·exact h5 y hy
   ·rw[aY.1 hy];exact g2
theorem ahR{t:Ty}{R:List Value->t.den->Prop}{G:t.den->Prop}{z:Nat}:∀(n:Nat) (cs:List Value),cs.length=n*z->(∀i,i < n->∃x,R ((cs.drop (i*z)).take z) x/\G x)->
  ∃l:List t.den,l.length=n/\bo R cs l/\∀x∈l,G x
 | 0,cs,h,_=>⟨[],rfl,bD (by grind),λ_ h=>by cases h⟩
 |n+1,cs,h,hi=>by
  obtain⟨x,g1,g2⟩:=hi 0 au;obtain⟨l,h1,h2,h3⟩:=ahR (R:=R) (G:=G) (z:=z) n (cs.drop z) (by grind) λi abB=>by grind [gO]
  refine⟨x::l,by simp[h1],⟨cs.take z,cs.drop z,(eJ z cs).symm,by grind,h2⟩,λy hy=> ?_⟩;grind
theorem YD{rd:TypeId->Ty->Bool}{cs:List Value}:∀(fs:List Field) (off:Nat) (ty:Ty),C0 P rd off fs ty=aL->off+ty.size<=cs.length->
  (∀f∈fs,∀t,rd f.type t=aL->P.cellsOf f.type=t.size->∃v,cn E t ((cs.drop f.offset).take (P.cellsOf f.type)) v/\ahD t v)->∃v,cn E ty ((cs.drop off).take ty.size) v/\ahD ty v
 |[],off,ty,h,hl,_=>by
  cases ty <;> simp[C0]at h <;> first | cases h | skip
  simp[cn,Ty.size,ahD]
 |f::fs,off,ty,h,hl,hf=>by
  cases ty <;> simp only[C0]at h <;> first | cases h | skip
  rename_i a b;simp at h;obtain⟨h1,h2,h3,h4⟩:=h;have hl:off+(a.size+b.size)<=cs.length:=hl;obtain⟨v,k1,k2⟩:=hf f (aC ..) a h2 h3;obtain⟨u,k3,k4⟩:=YD fs (off+a.size) b h4 au λf' hf'=>hf f' (az _ hf')
  refine⟨(v,u),⟨(cs.drop off).take a.size,(cs.drop (off+a.size)).take b.size,?_,?_,k3⟩,k2,k4⟩
  all_goals simp_all [Ty.size,List.take_add]
theorem TV(hg:∀b,E.g b= .free):∀(n:Nat) (T:TypeId) (ty:Ty),FZ P n T ty=aL->∀ {fuel:Nat} {cs:List Value} {x:DataW H×List MemPlace},DataW.trod enc P E.w base spare held fuel T cs=aj x->∃v,cn E ty cs v/\ahD ty v
 | 0,_,_,h,_,_,_,_=>by simp[FZ]at h
 |n+1,T,ty,h,fuel,cs,x,hx=>by
  unfold FZ at h;split at h
  ·rename_i k k' hu;obtain rfl:=of_decide_eq_true h;obtain⟨m,rfl,_,hw⟩:=DataW.trod_int hu hx;exact⟨m,rfl,hw⟩
  ·rename_i hu;obtain⟨b,rfl,_⟩:=DataW.trod_bool hu hx;exact⟨b,rfl,trivial⟩
  ·rename_i hu;obtain⟨s,rfl,_,hs⟩:=DataW.trod_string hu hx;exact⟨s,rfl,hs⟩
  ·rename_i e t hu;simp only[ax,aPB]at h;obtain⟨h1,h2⟩:=h;rcases open_slice hu hx with⟨rfl,_⟩ | ⟨a,len,cap,m,f,D,Pl,rfl,_,hl,hm,aSZ,_,he⟩
   ·exact⟨([]:List t.den),⟨aF,0,[],rfl,aB _,λh=>by simp at h,λi v hv=>by simp at hv,rfl⟩,aK _,λ_ h=>by cases h⟩
   ·have aT1:len<=m:=by rw[aSZ];split <;> omega
    obtain⟨vs,l,k1,k2,k3,k4,k5⟩:=ayY (t:=t) (R:=cn E t) (G:=ahD t) (w:=E.w) (a:=a) (z:=t.size) (λc x h=>cn.size h) len λi hi=>by obtain⟨cs',g1,g2⟩:=he i au;obtain⟨v,g3,g4⟩:=TV hg n e t h1 g2;obtain⟨g5,g6⟩:=azH g1;refine⟨cs',v,g3,g4,λj hj=> ?_⟩;rw[<-g6 j au,add_add,h2]
    refine⟨l,⟨aj a,cap,vs,by rw[k2],by rw[k2];exact hl,λ_=>rfl,aQ5 hg k3,k4⟩,by rw[k2];omega,k5⟩
  ·rename_i k e k' t hu;simp only[ax,aPB]at h;obtain⟨rfl,h1,h2,h3⟩:=h;obtain⟨xs,m,rfl,_,hl,aVj,he⟩:=DataW.trod_array hu hx;obtain⟨l,k1,k2,k3⟩:=ahR (t:=t) (R:=cn E t) (G:=ahD t) (z:=t.size) k cs (by rw[hl,h3]) λi hi=>by have:=he i hi;rw[cm au,h2]at this;exact TV hg n e t h1 this
   exact⟨l,⟨k1,k2⟩,k1,k3⟩
  ·rename_i ty fs hu;simp only[ax,aPB]at h;obtain⟨h1,h2⟩:=h;obtain⟨xs,m,rfl,_,hl,aVj,he⟩:=DataW.trod_struct hu hx;obtain⟨v,k1,k2⟩:=YD (E:=E) (cs:=cs) fs.toList 0 _ h1 (by rw[hl,h2];omega) λf hf t ht hc=>by
    obtain⟨i,hi,aXL⟩:=List.mem_iff_getElem.1 hf;have hi':i < fs.size:=by simpa using hi
    have:=he i f (by rw[<-aXL];simp[hi']);rw[cm au]at this;exact TV hg n f.type t ht this
   refine⟨v,?_,k2⟩;rwa[aO,bG au]at k1
  ·cases h
end
end Go.Ab
namespace Go.Ab
open Go.ChangeShapes Go.WideShapes Go.ChangeAt Go.RowKit Go.Deep
section
variable {H:Type} {enc:TypeId×Value->H} {P:Program} {base b0:Nat} {spare:Nat->Bool} {held:Bool} {E:Env} {W:World}
theorem atw{rd:TypeId->Ty->Bool}{fs:List Field}{off:Nat}{ty:Ty}(h:C0 P rd off fs ty=aL):ty.agg=aL:=by cases fs <;> cases ty <;> first | rfl | (simp[C0]at h)
theorem aJg(hw:E.w=W)(hg:∀b,E.g b= .free){n:Nat}{t:TypeId}{ty:Ty}(h:FZ P n t ty=aL){v:Value}{d:DataW H}{ps:List MemPlace}(xV:Value.okWide P W .any base t v)(hd:DataW.Trod enc P W b0 spare held t v d ps):
  ∃x:ty.den,VS E (.d ty x) v/\ahD ty x:=by
 subst hw;obtain⟨fuel,hf⟩:=hd;obtain⟨x,h1,h2⟩:=TV hg n t ty h hf;refine⟨x,⟨v.cells.toList,h1,?_⟩,h2⟩;cases n with
 |zero=>simp[FZ]at h
 |succ n=>
  unfold FZ at h;split at h
  ·rename_i k k' hu;obtain⟨m,rfl⟩:=okWide_int hu xV;rfl
  ·rename_i hu;obtain⟨m,rfl⟩:=okWide_bool hu xV;rfl
  ·rename_i hu;obtain⟨m,rfl⟩:=okWide_string hu xV;rfl
  ·rename_i hu;obtain⟨a,len,cap,rfl⟩:=okWide_slice hu xV;rfl
  ·rename_i hu;simp[Value.okWide,hu]at xV;obtain⟨cs,rfl,_⟩:=xV;show _=_;simp[Value.cells]
  ·rename_i fs hu;simp[Value.okWide,hu]at xV;obtain⟨cs,rfl,_⟩:=xV;simp at h;have:=atw h.1;simp_all [aA.agg,fW,Value.cells]
  grind
def DV:List Ty->Type
 |[]=>Unit
 |t::ts=>t.den×DV ts
def DV.jT:(ts:List Ty)->DV ts->List aA
 |[],_=> []
 |t::ts,x=> .d t x.1::DV.jT ts x.2
def DV.aUe:(ts:List Ty)->DV ts->Prop
 |[],_=>True
 |t::ts,x=>ahD t x.1/\DV.aUe ts x.2
def zf(P:Program)(n:Nat):List TypeId->List Ty->Bool
 |[],[]=>aL
 |T::Ts,t::ts=>FZ P n T t && zf P n Ts ts
 |_,_=>aS
theorem ai5(hw:E.w=W)(hg:∀b,E.g b= .free){n:Nat}:∀ {Ts:List TypeId} {ts:List Ty} {vs:List Value} {ds:List (DataW H)} {ps:List MemPlace},zf P n Ts ts=aL->
  (∀(j:Nat) t v,Ts[j]? =aj t->vs[j]? =aj v->Value.okWide P W .any base t v)->DataW.TrodAll enc P W b0 spare held Ts vs ds ps->∃x:DV ts,D7 E (DV.jT ts x) vs/\DV.aUe ts x
 |[],[],vs,ds,ps,_,_,h=>by obtain⟨rfl,rfl,rfl⟩:=trodAll_nil h;simp[DV,D7,DV.jT,DV.aUe]
 |T::Ts,[],_,_,_,h,_,_=>by grind [zf]
 |[],t::ts,_,_,_,h,_,_=>by grind [zf]
 |T::Ts,t::ts,vs,ds,ps,h,xV,hd=>by simp[zf]at h;obtain⟨v,vs',d,ds',p,q,rfl,rfl,rfl,h1,h2⟩:=trodAll_cons hd;obtain⟨x,k1,k2⟩:=aJg hw hg h.1 (xV 0 T v rfl rfl) h1;obtain⟨y,k3,k4⟩:=ai5 hw hg h.2 (λj t v hj hv=>xV (j+1) t v (by grind) (by grind)) h2;exact⟨(x,y),⟨k1,k3⟩,⟨k2,k4⟩⟩
def zW(P:Program)(Ts:List TypeId):Bool:=Ts.all λt=>P.readableRec t && decide (t < P.types.size)
theorem Ph(hl:laidOutB P=aL){W':World}(hb:Below W.heap.size W W')(sp:Nat->Bool):∀ {Ts:List TypeId} {vs:List Value} {ds:List (DataW H)} {ps:List MemPlace},zW P Ts=aL->(∀p∈ps,p.block < W.heap.size)->(∀p∈ps,sp p.block=aL)->
  DataW.TrodAll enc P W 0 (λ_=>aL) aL Ts vs ds ps->DataW.TrodAll enc P W' 0 sp aL Ts vs ds ps
 |[],vs,ds,ps,_,_,_,h=>by obtain⟨rfl,rfl,rfl⟩:=trodAll_nil h;exact trodAll_mk0
 |T::Ts,vs,ds,ps,hr,iB,hs,h=>by obtain⟨v,vs',d,ds',p,q,rfl,rfl,rfl,h1,h2⟩:=trodAll_cons h;simp only[zW,eR,ax,bO]at hr;have h3:=WideElems.Trod_stays hl hr.1.1 hr.1.2 h1 (λx hx=>hb.same (iB x (bg.2 (.inl hx)))) (λx hx=>hs x (bg.2 (.inl hx)));exact⟨p,q,h3,Ph hl hb sp (by simpa[zW]using hr.2) (λx hx=>iB x (bg.2 (.inr hx))) (λx hx=>hs x (bg.2 (.inr hx))) h2,rfl⟩
end
theorem MB{H:Type}{enc:TypeId×Value->H}{P:Program}{W:World}{b0:Nat}{spare:Nat->Bool}{held:Bool}:∀ {Ts:List TypeId} {vs:List Value} {ds:List (DataW H)} {ps:List MemPlace},DataW.TrodAll enc P W b0 spare held Ts vs ds ps->ds.length=Ts.length
 |[],_,_,_,h=>by grind [DataW.TrodAll]
 |_::_,_,_,_,h=>by obtain⟨v,vs',d,ds',p,q,rfl,rfl,rfl,h1,h2⟩:=trodAll_cons h;simp[MB h2]
theorem aqD{H:Type}{enc:TypeId×Value->H}{P:Program}{f:Func}{s:ChangeSpec}{W W':World}{args:Array Value}{v:Value}{ds gs:List (DataW H)}{before:List MemPlace}{tb:TypeId}
  (hl:laidOutB P=aL) (atK:zW P f.params.toList=aL) (axV:s.vars=[]) (aVd:f.resultTypes= #[tb]) (aVf:P.underlying tb=aj .bool)
  (hW:DataW.Whole enc P f.params.toList s.vars aS W args.toList ds gs before) (aSP:s.fn H (ds++gs)= {results:=[.lit (.bool aL)],args:=ds}) (hb:Below W.heap.size W W') (hv:v= .bool aL):
  s.post enc P f aS aL aS aS W args v W':=by
 subst hv;have hW':=hW;have hold:∀p∈before,(λb=>decide (b < W.heap.size)) p.block=aL:=λp hp=>by simpa using hW.lt p hp
 obtain⟨p,q,hA,hV,rfl,hz,_⟩:=hW;rw[axV]at hV;obtain⟨rfl,rfl⟩:=trodVars_none hV;have I6:∀sp,(∀x∈p,sp x.block=aL)->DataW.TrodAll enc P W' 0 sp aL f.params.toList args.toList (s.fn H (ds++ [])).args p:=λsp hs=>by grind [Ph]
 have aU9:∀(b:Nat) (sp:Nat->Bool) (hd:Bool),DataW.TrodAll enc P W' b sp hd f.resultTypes.toList ((Value.bool aL).resultList f.resultTypes.size) (s.fn H (ds++ [])).results []:=λb sp hd=>by rw[aSP,aVd];exact trodAll_mk1 (shut_bool aVf _)
 have ao3:∀sp,DataW.TrodVars enc P W' sp s.vars (s.fn H (ds++ [])).vars []:=λsp=>by grind [DataW.TrodVars]
 refine⟨ds,[],p++ [],[],p,[],hW',aU9 _ _ _,I6 _ (λx hx=>hold x (bg.2 (.inl hx))),ao3 _,hb.frame _,λh=>by cases h⟩
theorem LB{P:Program}{n:Nat}:∀ {Ts:List TypeId} {ts:List Ty},zf P n Ts ts=aL->Ts.length=ts.length
 |[],[],_=>rfl
 |[],_::_,h=>by simp[zf]at h
 |_::_,[],h=>by simp[zf]at h
 |_::_,_::_,h=>by simp only[zf,ax]at h;simp[LB h.2]
end Go.Ab
namespace Go.Ab
abbrev W:=BitVec 32
def yo(w:W)(k:Nat):W:=w <<< (32 - k) ||| w >>> k
def aSe(a b c d:Int):W:=bn 32 a <<< 24 ||| bn 32 b <<< 16 ||| bn 32 c <<< 8 ||| bn 32 d
def be(l:List Int)(i:Nat):W:=aSe (l.getD (4*i) 0) (l.getD (4*i+1) 0) (l.getD (4*i+2) 0) (l.getD (4*i+3) 0)
structure St where
 a:W
 b:W
 c:W
 d:W
 e:W
 f:W
 g:W
 h:W
def St.l(s:St):List Int:=[vw s.a,vw s.b,vw s.c,vw s.d,vw s.e,vw s.f,vw s.g,vw s.h]
def aVM(x:W):W:=yo x 7^^^yo x 18^^^x >>> 3
def aVN(y:W):W:=yo y 17^^^yo y 19^^^y >>> 10
def aO7(l:List W)(i:Nat):W:=l.getD (i - 16) 0+aVM (l.getD (i - 15) 0)+l.getD (i - 7) 0+aVN (l.getD (i - 2) 0)
def ext(l:List W):List W:=l++ [aO7 l l.length]
def aK5(m:List W):Nat->List W
 | 0=>m
 |n+1=>ext (aK5 m n)
def words(b:List Int):List W:=(List.range 16).map (be b)
def sched(b:List Int):List W:=aK5 (words b) 48
def kl:List Nat:=[0x428a2f98,0x71374491,0xb5c0fbcf,0xe9b5dba5,0x3956c25b,0x59f111f1,0x923f82a4,0xab1c5ed5,0xd807aa98,0x12835b01,0x243185be,0x550c7dc3,0x72be5d74,0x80deb1fe,0x9bdc06a7,0xc19bf174,0xe49b69c1,0xefbe4786,0x0fc19dc6,0x240ca1cc,0x2de92c6f,0x4a7484aa,0x5cb0a9dc,0x76f988da,0x983e5152,0xa831c66d,0xb00327c8,0xbf597fc7,0xc6e00bf3,0xd5a79147,0x06ca6351,0x14292967,0x27b70a85,0x2e1b2138,0x4d2c6dfc,0x53380d13,0x650a7354,0x766a0abb,0x81c2c92e,0x92722c85,0xa2bfe8a1,0xa81a664b,0xc24b8b70,0xc76c51a3,0xd192e819,0xd6990624,0xf40e3585,0x106aa070,0x19a4c116,0x1e376c08,0x2748774c,0x34b0bcb5,0x391c0cb3,0x4ed8aa4a,0x5b9cca4f,0x682e6ff3,0x748f82ee,0x78a5636f,0x84c87814,0x8cc70208,0x90befffa,0xa4506ceb,0xbef9a3f7,0xc67178f2]
def kw(i:Nat):W:=BitVec.ofNat 32 (kl.getD i 0)
def VD:List Int:=kl.map λ(n:Nat)=>(n:Int)
def nN(s:St)(k w:W):St:=
 let t:=s.h+(yo s.e 6^^^yo s.e 11^^^yo s.e 25)+(s.g^^^s.e &&& (s.f^^^s.g))+k+w
 let r:=yo s.a 2^^^yo s.a 13^^^yo s.a 22
 let most:=s.a &&& s.b ||| s.c &&& (s.a ||| s.b)
 ⟨t+r+most,s.a,s.b,s.c,s.d+t,s.e,s.f,s.g⟩
def rounds(ws:List W)(s:St):Nat->St
 | 0=>s
 |n+1=>nN (rounds ws s n) (kw n) (ws.getD n 0)
def VK(s:St)(b:List Int):St:=
 let v:=rounds (sched b) s 64
 ⟨v.a+s.a,v.b+s.b,v.c+s.c,v.d+s.d,v.e+s.e,v.f+s.f,v.g+s.g,v.h+s.h⟩
def uP:St:=⟨0x6a09e667,0xbb67ae85,0x3c6ef372,0xa54ff53a,0x510e527f,0x9b05688c,0x1f83d9ab,0x5be0cd19⟩
def Eb:Nat->St->List Int->St
 | 0,s,_=>s
 |n+1,s,l=>Eb n (VK s (l.take 64)) (l.drop 64)
def blocks(s:St)(l:List Int):St:=Eb (l.length / 64) s l
def aTQ(w:W)(k:Nat):Int:=vw ((w >>> (24 - 8*k)).setWidth 8)
def aLu(w:W):List Int:=[aTQ w 0,aTQ w 1,aTQ w 2,aTQ w 3]
def aMZ(s:St):List Int:=aLu s.a++aLu s.b++aLu s.c++aLu s.d++aLu s.e++aLu s.f++aLu s.g++aLu s.h
def jA(n:Int):List Int:=[n / 2^56%256,n / 2^48%256,n / 2^40%256,n / 2^32%256,n / 2^24%256,n / 2^16%256,n / 2^8%256,n%256]
def Dn(n:Nat):Nat:=(119 - n%64)%64
def pad(b:List Int):List Int:=b++128::(ae (Dn b.length) 0++jA (8*b.length))
def aRd(b:List Int):List Int:=aMZ (blocks uP (pad b))
def qj(parts:List (List Int)):List Int:=parts.flatMap λp=>jA p.length++p
def WE(name:List Int)(parts:List (List Int)):List Int:=jA name.length++name++qj parts
def tag(name:List Int)(parts:List (List Int)):List Int:=aRd (WE name parts)
theorem awj(b:List Int):(aRd b).length=32:=rfl
theorem cl(n:Int):(jA n).length=8:=rfl
theorem xT(l:List W):(ext l).length=l.length+1:=by simp[ext]
theorem DY(m:List W):∀n,(aK5 m n).length=m.length+n
 | 0=>rfl
 |n+1=>by rw[aK5,xT,DY m n];omega
theorem e7(b:List Int):(words b).length=16:=by simp[words]
theorem JS:∀(n:Nat) (s:St) (a b:List Int),a.length=64*n->∀m,Eb (n+m) s (a++b)=Eb m (Eb n s a) b
 | 0,s,a,b,h,m=>by have:a=[]:=bD au;subst this;simp[Eb]
 |n+1,s,a,b,h,m=>by rw[show n+1+m=(n+m)+1 by omega,Eb,Eb];rw[List.take_append_of_le_length au,List.drop_append_of_le_length au];exact JS n _ _ _ (by simp;omega) m
theorem NO(s:St)(a b:List Int)(h:a.length%64=0):blocks s (a++b)=blocks (blocks s a) b:=by
 unfold blocks;have e:(a++b).length / 64=a.length / 64+b.length / 64:=by simp;omega
 rw[e];exact JS _ _ _ _ au _
theorem JT(s:St)(l:List Int)(h:64<=l.length):blocks s l=blocks (VK s (l.take 64)) (l.drop 64):=by unfold blocks;rw[show l.length / 64=(l.drop 64).length / 64+1 by simp;omega];rfl
theorem Hn(s:St)(l:List Int)(h:l.length < 64):blocks s l=s:=by unfold blocks;rw[show l.length / 64=0 by omega];rfl
def asJ(x:Int):Prop:=0<=x/\x < 256
def Bytes(l:List Int):Prop:=∀x∈l,asJ x
theorem aLw(w:BitVec 8):asJ (vw w):=⟨WK w,aKG w⟩
theorem as7(s:St):Bytes (aMZ s):=by intro x hx;simp only[aMZ,aLu,bg,bI,List.not_mem_nil,or_false]at hx;rcases hx with((((((hx | hx) | hx) | hx) | hx) | hx) | hx) | hx <;> rcases hx with rfl | rfl | rfl | rfl <;> exact aLw _
theorem azD(b:List Int):Bytes (aRd b):=as7 _
theorem Gk(n:Int):Bytes (jA n):=by intro x hx;simp only[jA,bI,List.not_mem_nil,or_false]at hx;rcases hx with rfl | rfl | rfl | rfl | rfl | rfl | rfl | rfl <;> exact⟨au,au⟩
end Go.Ab
end
